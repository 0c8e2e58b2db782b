/- What came in, opened: rows of strings, of numbers, of structs, wherever they lie; and how large they are. -/
import Derived.Test.YtbpaiocbgbpiaaaMem
import Derived.Test.YtbpaiocbgbpiaaaRows
import Derived.Deep.Strs
import Derived.ChangeSame
import Derived.ProofKit
import Derived.Below
namespace Go.Proofs.Ytbpaiocbgbpiaaa
open Go.ChangeShapes Go.WideShapes Go.Deep Go.RowKit
set_option linter.unusedVariables false

theorem rd_add (b off j : Nat) : (⟨b, off, none⟩ : Addr).add j = ⟨b, off + j, none⟩ := by unfold Addr.add; by_cases h : j = 0 <;> simp [h]
/-- A row that reads so, wherever it lies. -/
def RowA (w : World) (size : Nat) (v : Value) (n : Nat) (xs : List Value) : Prop :=
  xs.length = n * size ∧ ∃ A c, v = .slice A n c ∧ (A = none → n = 0 ∧ c = 0) ∧ n ≤ c ∧ ∀ a, A = some a → ∀ j u, xs[j]? = some u → w.cell? (a.add j) = some u
theorem RowA.below {w w' : World} {s : Nat} {v : Value} {n : Nat} {xs : List Value} (h : RowA w s v n xs) (hb : Below w.heap.size w w') : RowA w' s v n xs := by
  obtain ⟨h1, A, c, h2, h3, h4, h5⟩ := h
  exact ⟨h1, A, c, h2, h3, h4, fun a ha j u hj => (hb.cell (lt_of_cell (h5 a ha j u hj))).trans (h5 a ha j u hj)⟩
theorem RowA.at {w : World} {s n c : Nat} {A : Option Addr} {xs : List Value} (h : RowA w s (.slice A n c) n xs) (hn : 0 < xs.length) : ∃ b off, A = some ⟨b, off, none⟩ ∧ b < w.heap.size ∧ ∀ j u, xs[j]? = some u → w.cell? ⟨b, off + j, none⟩ = some u := by
  obtain ⟨h1, A', c', h2, h3, h4, h5⟩ := h
  cases h2
  cases A with
  | none =>
    have := (h3 rfl).1
    subst this
    omega
  | some a =>
    obtain ⟨b, off, spot⟩ := a
    have h0 := h5 _ rfl 0 _ (List.getElem?_eq_getElem hn)
    have hs : spot = none := by simpa [Addr.add] using World.cell?_spot h0
    subst hs
    refine ⟨b, off, rfl, lt_of_cell h0, fun j u hj => ?_⟩
    rw [← rd_add]
    exact h5 _ rfl j u hj
theorem RowA.shape {w : World} {s n : Nat} {v : Value} {xs : List Value} (h : RowA w s v n xs) : ∃ A c, v = .slice A n c := by
  obtain ⟨_, A, c, h2, _⟩ := h
  exact ⟨A, c, h2⟩

/-! ### bulk -/
theorem bulk_one {H : Type} (d : DataW H) : 1 ≤ Rows.uptoBulk d := by
  cases d with
  | lit l => cases l <;> simp [Rows.uptoBulk]
  | _ => simp [Rows.uptoBulk]
theorem bulk_len {H : Type} (l : List (DataW H)) : l.length ≤ Rows.uptoBulkAll l := by
  induction l with
  | nil => simp
  | cons d l ih => have := bulk_one d; simp only [List.length_cons, Rows.uptoBulkAll]; omega
theorem bulk_mem {H : Type} {d : DataW H} {l : List (DataW H)} (h : d ∈ l) : Rows.uptoBulk d ≤ Rows.uptoBulkAll l := by
  induction l with
  | nil => cases h
  | cons e l ih =>
    simp only [Rows.uptoBulkAll]
    rcases List.mem_cons.1 h with rfl | h
    · omega
    · have := ih h; omega

section
variable {H : Type} {enc : TypeId × Value → H} {P : Program} {W : World} {base : Nat} {spare : Nat → Bool} {held : Bool}

/-- A row of strings that came in. -/
theorem open_sl {t e : TypeId} {fuel : Nat} {v : Value} {x : DataW H × List MemPlace} (ht : P.underlying t = some (.slice e)) (he : P.underlying e = some .string) (hc : P.cellsOf e = 1)
    (h : DataW.trod enc P W base spare held fuel t [v] = some x) :
    ∃ l : List ByteArray, RowA W 1 v l.length (l.map Value.string) ∧ (∀ s ∈ l, s.size ≤ maxLen) ∧ l.length ≤ Rows.uptoBulk x.1 ∧ ∀ s ∈ l, s.size ≤ Rows.uptoBulk x.1 := by
  rcases open_strs ht he hc h with ⟨h1, rfl⟩ | ⟨a, len, cap, m, Sx, h1, hb, hl, hm, hmm, rfl, hx⟩
  · simp at h1
    subst h1
    exact ⟨[], ⟨rfl, none, 0, rfl, fun _ => ⟨rfl, rfl⟩, Nat.le_refl _, fun a ha => (by cases ha)⟩, (fun s hs => by cases hs), Nat.zero_le _, (fun s hs => by cases hs)⟩
  · simp at h1
    subst h1
    have hlm : len ≤ m := by rw [hmm]; split <;> omega
    have hB : ∀ s ∈ (List.range len).map Sx, s.size ≤ Rows.uptoBulkAll ((List.range len).map fun i => (DataW.lit (.string (Sx i).data.toList) : DataW H)) := fun s hs => by
      obtain ⟨i, hi, rfl⟩ := List.mem_map.1 hs
      have := bulk_mem (d := (DataW.lit (.string (Sx i).data.toList) : DataW H)) (l := (List.range len).map fun i => (DataW.lit (.string (Sx i).data.toList) : DataW H)) (List.mem_map.2 ⟨i, hi, rfl⟩)
      simp only [Rows.uptoBulk] at this
      have h2 : (Sx i).data.toList.length = (Sx i).size := rfl
      omega
    refine ⟨(List.range len).map Sx, ⟨by simp, some a, cap, by simp, fun e => (by cases e), by simpa using hl, fun a' e j u hj => ?_⟩, fun s hs => ?_, ?_, fun s hs => ?_⟩
    · cases e
      have hj2 : j < len := by
        have := (List.getElem?_eq_some_iff.1 hj).1
        simpa using this
      have : u = .string (Sx j) := by simpa [List.getElem?_map, List.getElem?_range hj2] using hj.symm
      rw [this]
      exact (hx j (by omega)).1
    · obtain ⟨i, hi, rfl⟩ := List.mem_map.1 hs
      exact (hx i (by have := List.mem_range.1 hi; omega)).2
    · have := bulk_len ((List.range len).map fun i => (DataW.lit (.string (Sx i).data.toList) : DataW H))
      simp only [Rows.uptoBulk]
      simp at this ⊢
      omega
    · have := hB s hs
      simp only [Rows.uptoBulk]
      omega
/-- A row of whatever elements, each made of so many cells, that came in. -/
theorem flat_at {α : Type} {C : α → List Value} {k : Nat} (hC : ∀ x, (C x).length = k) (l : List α) {j : Nat} {u : Value} (h : (l.flatMap C)[j]? = some u) : ∃ i r x, l[i]? = some x ∧ (C x)[r]? = some u ∧ j = i * k + r := by
  induction l generalizing j with
  | nil => cases h
  | cons y l ih =>
    rw [List.flatMap_cons] at h
    rcases Nat.lt_or_ge j (C y).length with hj | hj
    · rw [List.getElem?_append_left hj] at h
      exact ⟨0, j, y, rfl, h, by omega⟩
    · rw [List.getElem?_append_right hj] at h
      obtain ⟨i, r, x, h1, h2, h3⟩ := ih h
      refine ⟨i + 1, r, x, h1, h2, ?_⟩
      rw [hC] at h3 hj
      rw [Nat.add_mul]
      omega
theorem flat_len {α : Type} {C : α → List Value} {k : Nat} (hC : ∀ x, (C x).length = k) (l : List α) : (l.flatMap C).length = l.length * k := by
  induction l with
  | nil => simp
  | cons y l ih => rw [List.flatMap_cons, List.length_append, ih, hC, List.length_cons, Nat.add_mul]; omega
theorem open_flat {α : Type} [Inhabited α] {t e : TypeId} {fuel : Nat} {v : Value} {x : DataW H × List MemPlace} (ht : P.underlying t = some (.slice e)) (C : α → List Value) (k : Nat) (hC : ∀ x, (C x).length = k) (hk : P.cellsOf e = k)
    (Q : α → Nat → Prop) (hQ : ∀ y a b, a ≤ b → Q y a → Q y b)
    (each : ∀ n cs y, cs.length = k → DataW.trod enc P W base spare held n e cs = some y → ∃ z, cs = C z ∧ Q z (Rows.uptoBulk y.1))
    (h : DataW.trod enc P W base spare held fuel t [v] = some x) :
    ∃ l : List α, RowA W k v l.length (l.flatMap C) ∧ l.length ≤ Rows.uptoBulk x.1 ∧ ∀ z ∈ l, Q z (Rows.uptoBulk x.1) := by
  rcases open_slice ht h with ⟨h1, rfl⟩ | ⟨a, len, cap, m, n, D, Pl, h1, hb, hl, hm, hmm, rfl, hx⟩
  · simp at h1
    subst h1
    exact ⟨[], ⟨by simp, none, 0, rfl, fun _ => ⟨rfl, rfl⟩, Nat.le_refl _, fun a ha => (by cases ha)⟩, Nat.zero_le _, (fun s hs => by cases hs)⟩
  · simp at h1
    subst h1
    have hlm : len ≤ m := by rw [hmm]; split <;> omega
    obtain ⟨F, hF⟩ := choose_lt (α := α) (n := len) (p := fun i z => (∀ r u, (C z)[r]? = some u → W.cell? (a.add (i * k + r)) = some u) ∧ Q z (Rows.uptoBulk (D i))) (fun i hi => by
      obtain ⟨cs, c1, c2⟩ := hx i (by omega)
      rw [hk] at c1
      obtain ⟨_, c3, c4⟩ := World.cells?_some c1
      obtain ⟨z, rfl, hz⟩ := each n cs _ c3 c2
      refine ⟨z, fun r u hr => ?_, hz⟩
      have hr2 : r < k := by
        have := (List.getElem?_eq_some_iff.1 hr).1
        rw [hC] at this
        exact this
      rw [← add_add, c4 r hr2]
      exact hr)
    refine ⟨(List.range len).map F, ⟨by rw [flat_len hC], some a, cap, by simp, fun e => (by cases e), by simpa using hl, fun a' e j u hj => ?_⟩, ?_, fun z hz => ?_⟩
    · cases e
      obtain ⟨i, r, z, z1, z2, rfl⟩ := flat_at hC _ hj
      have hi : i < len := by
        have := (List.getElem?_eq_some_iff.1 z1).1
        simpa using this
      have : z = F i := by simpa [List.getElem?_map, List.getElem?_range hi] using z1.symm
      subst this
      exact (hF i hi).1 r u z2
    · have := bulk_len ((List.range len).map D)
      simp only [Rows.uptoBulk]
      simp at this ⊢
      omega
    · obtain ⟨i, hi, rfl⟩ := List.mem_map.1 hz
      refine hQ _ _ _ ?_ (hF i (List.mem_range.1 hi)).2
      have := bulk_mem (d := D i) (l := (List.range len).map D) (List.mem_map.2 ⟨i, hi, rfl⟩)
      simp only [Rows.uptoBulk]
      omega
end
theorem arr3 {cs : Array Value} (h : cs.size = 3) : ∃ a b c, cs = #[a, b, c] := by
  obtain ⟨l⟩ := cs
  match l, h with
  | [a, b, c], _ => exact ⟨a, b, c, rfl⟩
theorem arr4 {cs : Array Value} (h : cs.size = 4) : ∃ a b c d, cs = #[a, b, c, d] := by
  obtain ⟨l⟩ := cs
  match l, h with
  | [a, b, c, d], _ => exact ⟨a, b, c, d, rfl⟩
theorem arr5 {cs : Array Value} (h : cs.size = 5) : ∃ a b c d e, cs = #[a, b, c, d, e] := by
  obtain ⟨l⟩ := cs
  match l, h with
  | [a, b, c, d, e], _ => exact ⟨a, b, c, d, e, rfl⟩
theorem lis2 {cs : List Value} (h : cs.length = 2) : ∃ a b, cs = [a, b] := by
  match cs, h with
  | [a, b], _ => exact ⟨a, b, rfl⟩
theorem lis3 {cs : List Value} (h : cs.length = 3) : ∃ a b c, cs = [a, b, c] := by
  match cs, h with
  | [a, b, c], _ => exact ⟨a, b, c, rfl⟩
theorem lis4 {cs : List Value} (h : cs.length = 4) : ∃ a b c d, cs = [a, b, c, d] := by
  match cs, h with
  | [a, b, c, d], _ => exact ⟨a, b, c, d, rfl⟩

end Go.Proofs.Ytbpaiocbgbpiaaa
