/- Words for memory: a slice of integers that reads as a list; kept by whatever leaves old blocks alone. No program in sight. -/
import Derived.WalkKit
import Derived.ProofKit
import Derived.OpenShut
import Derived.Deep.Draws
namespace Go.Proofs.Ytbkfnmmfjpaifaa
open Go.RowKit
set_option linter.unusedVariables false

/-- The slice value '.slice A n c' reads as the integers zs, and lies below block B. -/
def RowI (k : IntKind) (w : World) (B : Nat) (A : Option Addr) (n : Nat) (zs : List Int) : Prop :=
  zs.length = n ∧ (∀ z ∈ zs, (Lit.int k z).wf = true) ∧
    (0 < n → ∃ b off, A = some ⟨b, off, none⟩ ∧ b < B ∧ ∀ j, j < n → w.cell? ⟨b, off + j, none⟩ = some (.int k (zs.getD j 0)))

section
variable {k : IntKind} {w w' : World} {B B' n : Nat} {A : Option Addr} {zs : List Int}
theorem RowI.len (h : RowI k w B A n zs) : zs.length = n := h.1
theorem RowI.wf (h : RowI k w B A n zs) {i : Nat} (hi : i < n) : (Lit.int k (zs.getD i 0)).wf = true := by
  have hl : i < zs.length := by rw [h.1]; exact hi
  rw [List.getD_eq_getElem?_getD, List.getElem?_eq_getElem hl]
  exact h.2.1 _ (List.getElem_mem hl)
theorem RowI.at_ (h : RowI k w B A n zs) {i : Nat} (hi : i < n) : ∃ b off, A = some ⟨b, off, none⟩ ∧ b < B ∧ w.cell? ⟨b, off + i, none⟩ = some (.int k (zs.getD i 0)) := by
  obtain ⟨b, off, e, hb, hc⟩ := h.2.2 (by omega)
  exact ⟨b, off, e, hb, hc i hi⟩
theorem RowI.keep (h : RowI k w B A n zs) (hk : ∀ p : Addr, p.block < B → w'.cell? p = w.cell? p) : RowI k w' B A n zs :=
  ⟨h.1, h.2.1, fun hn => by
    obtain ⟨b, off, e, hb, hc⟩ := h.2.2 hn
    exact ⟨b, off, e, hb, fun j hj => (hk _ hb).trans (hc j hj)⟩⟩
theorem RowI.more (h : RowI k w B A n zs) (hB : B ≤ B') : RowI k w B' A n zs :=
  ⟨h.1, h.2.1, fun hn => by
    obtain ⟨b, off, e, hb, hc⟩ := h.2.2 hn
    exact ⟨b, off, e, by omega, hc⟩⟩
theorem RowI.below (h : RowI k w B A n zs) (hb : Below B w w') : RowI k w' B A n zs := h.keep fun _ hp => hb.cell hp
theorem RowI.nil : RowI k w B none 0 [] := ⟨rfl, by simp, fun h => absurd h (by omega)⟩
end

/-- What the row's own step knows of a slice of integers that came in. -/
def IsRow (k : IntKind) (w : World) (a : Option Addr) (len cap : Nat) (zs : List Int) : Prop :=
  (a = none ∧ len = 0 ∧ cap = 0 ∧ zs = []) ∨
  ∃ x, a = some x ∧ len ≤ cap ∧ cap ≤ maxLen ∧ zs.length = cap ∧ (∀ i, i < zs.length → w.cell? (x.add i) = some (.int k (zs.getD i 0))) ∧ ∀ n ∈ zs, (Lit.int k n).wf = true

theorem lt_of_cell {w : World} {a : Addr} {v : Value} (h : w.cell? a = some v) : a.block < w.heap.size := by
  rcases Nat.lt_or_ge a.block w.heap.size with hlt | hge
  · exact hlt
  · unfold World.cell? at h; rw [Array.getElem?_eq_none hge] at h; simp at h

theorem IsRow.row {k : IntKind} {w : World} {a : Option Addr} {len cap : Nat} {zs : List Int} (h : IsRow k w a len cap zs) :
    RowI k w w.heap.size a len (zs.take len) ∧ len ≤ maxLen ∧ len ≤ cap ∧ cap ≤ maxLen := by
  rcases h with ⟨rfl, rfl, rfl, rfl⟩ | ⟨x, rfl, hl, hm, hz, hc, hw⟩
  · exact ⟨RowI.nil, Nat.zero_le _, Nat.le_refl _, Nat.zero_le _⟩
  · refine ⟨⟨by rw [List.length_take]; omega, fun z hz' => hw z (List.mem_of_mem_take hz'), fun hn => ?_⟩, Nat.le_trans hl hm, hl, hm⟩
    obtain ⟨b, off, spot⟩ := x
    have h0 := hc 0 (by omega)
    have hs : spot = none := by simpa [Addr.add] using World.cell?_spot h0
    subst hs
    refine ⟨b, off, rfl, ?_, fun j hj => ?_⟩
    · have := lt_of_cell h0; simpa [Addr.add] using this
    · have hj' := hc j (by omega)
      have e1 : (zs.take len).getD j 0 = zs.getD j 0 := by
        simp only [List.getD_eq_getElem?_getD, List.getElem?_take_of_lt hj]
      rw [e1]
      rcases Nat.eq_zero_or_pos j with rfl | hj0
      · simpa [Addr.add] using hj'
      · have : (⟨b, off, none⟩ : Addr).add j = ⟨b, off + j, none⟩ := by simp [Addr.add]; omega
        rw [this] at hj'
        exact hj'

theorem wf_u64_bounds {n : Int} (h : (Lit.int .u64 n).wf = true) : 0 ≤ n ∧ n < 18446744073709551616 := by
  simp only [Lit.wf, IntKind.min, IntKind.max, IntKind.signed, IntKind.bits, Bool.and_eq_true] at h
  simp at h
  omega
theorem wf_u32_bounds {n : Int} (h : (Lit.int .u32 n).wf = true) : 0 ≤ n ∧ n < 4294967296 := by
  simp only [Lit.wf, IntKind.min, IntKind.max, IntKind.signed, IntKind.bits, Bool.and_eq_true] at h
  simp at h
  omega
theorem wf_i64_bounds {n : Int} (h : (Lit.int .i64 n).wf = true) : -9223372036854775808 ≤ n ∧ n ≤ 9223372036854775807 := by
  simp only [Lit.wf, IntKind.min, IntKind.max, IntKind.signed, IntKind.bits, Bool.and_eq_true, decide_eq_true_eq] at h
  simp at h
  omega

end Go.Proofs.Ytbkfnmmfjpaifaa
