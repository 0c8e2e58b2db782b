/- The document's calls: Pop and arg, walked. -/
import Derived.Test.YtbpaiocbgbpiaaaDfH
namespace Go.Proofs.Ytbpaiocbgbpiaaa
open Go.RowKit
set_option linter.unusedVariables false
set_option linter.unusedSimpArgs false

theorem own_takeN {w : World} {base : Nat} {e : TypeId} {g n cap s : Nat} {xs : List Value} (h : w.ownsRow base e s (.slice (some ⟨g, 0, none⟩) n cap) n xs) {m : Nat} (hm : m ≤ n) : w.ownsRow base e s (.slice (some ⟨g, 0, none⟩) m cap) m (xs.take (m * s)) := by
  rcases h.2 with ⟨e', _⟩ | ⟨g', cap', cur, e', hb, hg, hn, hmx, hs, ht⟩
  · cases e'
  · cases e'
    have h1 := h.1
    have h2 : m * s ≤ n * s := Nat.mul_le_mul_right s hm
    refine ⟨by rw [List.length_take]; omega, .inr ⟨g, cap, cur, rfl, hb, hg, by omega, hmx, hs, ?_⟩⟩
    rw [← ht, List.take_take]
    congr 1; omega
theorem flat_take {α : Type} {C : α → List Value} {k : Nat} (hC : ∀ x, (C x).length = k) : ∀ (l : List α) (m : Nat), (l.flatMap C).take (m * k) = (l.take m).flatMap C := by
  intro l
  induction l with
  | nil => intro m; simp
  | cons x l ih =>
    intro m
    cases m with
    | zero => simp
    | succ m =>
      rw [List.flatMap_cons, List.take_succ_cons, List.flatMap_cons, ← ih m, List.take_append, hC]
      congr 1
      · exact List.take_of_length_le (by rw [hC, Nat.succ_mul]; omega)
      · congr 1; rw [Nat.succ_mul]; omega
theorem DF.popped {m : Nat} {vS vGN vGS vC : Value} {ps : List Nat} {gp : List (ByteArray × Nat)} {cp : List CallT} {st : FS} {w : World} (h : DF m vS vGN vGS vC ps gp cp st w) {g c k : Nat} (hk : st.ca.length = k + 1) (hv : vC = .slice (some ⟨g, 0, none⟩) (k + 1) c) :
    DF m vS vGN vGS (.slice (some ⟨g, 0, none⟩) k c) ps gp (cp.take k) ⟨st.sl, st.gl, st.ca.dropLast, st.n⟩ (w.setCell ⟨m, 3, none⟩ (.slice (some ⟨g, 0, none⟩) k c)) ∧ Turn w (w.setCell ⟨m, 3, none⟩ (.slice (some ⟨g, 0, none⟩) k c)) (fun j => j = m) := by
  subst hv
  have hmd := h.hd
  have ht : Turn w (w.setCell ⟨m, 3, none⟩ (.slice (some ⟨g, 0, none⟩) k c)) (fun j => j = m) := (Turn.refl w _).setCell _ _ (fun _ => rfl)
  have hX : ∀ j, j = m → ¬ ((∃ cs, w.heap[j]? = some (.cells cs 9 (0, 0))) ∨ ∃ cs, w.heap[j]? = some (.cells cs 3 (0, 0))) := fun j e hc => by
    subst e
    rw [hmd] at hc
    rcases hc with ⟨cs, hc⟩ | ⟨cs, hc⟩ <;> simp at hc
  have hcr := h.cr
  rw [hk] at hcr
  have hrw : w.ownsRow 0 56 2 (.slice (some ⟨g, 0, none⟩) (k + 1) c) (k + 1) (cp.flatMap fun c => [c.1.1, c.1.2]) := by
    rcases hcr with h1 | ⟨h1, _⟩
    · exact h1
    · omega
  have h2 := own_takeN hrw (Nat.le_succ k)
  rw [flat_take (C := fun c : CallT => [c.1.1, c.1.2]) (k := 2) (fun _ => rfl)] at h2
  have hgm : g ≠ m := fun e => by
    subst e
    obtain ⟨cs, hc⟩ := own_obj hrw (j := g) rfl
    rw [hmd] at hc
    simp at hc
  have h3 := own_same (w' := w.setCell ⟨m, 3, none⟩ (.slice (some ⟨g, 0, none⟩) k c)) h2 (fun j hj => by cases hj; exact heap_setCell_other _ _ _ _ hgm)
  have hlen : st.ca.dropLast.length = k := by rw [List.length_dropLast, hk]; rfl
  have hcl := h.cl
  refine ⟨⟨by rw [heap_setCell_same _ _ _ _ _ _ hmd]; rfl, h.pl, h.pok, h.sl.same fun j hj => ht.block j (h.sl.lt hj).2 fun e => ?_, h.gn.turn ht hX, h.g, by dsimp only; rw [hlen]; exact .inl h3, by dsimp only; rw [hlen, List.length_take]; omega, fun i c hi => ?_, h.gb, fun i c hi => ?_, h.lv⟩, ht⟩
  · subst e
    obtain ⟨cs, hc⟩ := h.sl.obj hj
    rw [hmd] at hc
    simp at hc
  · rw [List.getElem?_take] at hi
    split at hi
    · rename_i hik
      refine ⟨(h.ce i c hi).1.turn ht hX, ?_⟩
      dsimp only
      rw [List.dropLast_eq_take, List.getElem?_take, if_pos (by omega)]
      exact (h.ce i c hi).2
    · cases hi
  · rw [List.getElem?_take] at hi
    split at hi
    · exact h.cb i c hi
    · cases hi

set_option maxRecDepth 20000 in
set_option maxHeartbeats 8000000 in
theorem pop24_any (m : Nat) (st : FS) (w : World) (hD0 : D m st w) :
    Calls Try.prog 25 #[.pointer (some ⟨m, 0, none⟩)] w (DAt m (.int .i64 ((popS st).2 : Int)) (popS st).1 w) := by
  obtain ⟨vS, vGN, vGS, vC, ps, gp, cp, h⟩ := hD0
  obtain ⟨A3, c3, rfl⟩ := h.cr.shape
  obtain ⟨_, _, _, q3, _, fz⟩ := h.cells
  have HD := Lib.hid h
  by_cases hca : st.ca.length = 0
  · have hp : popS st = (st, 1) := by unfold popS; rw [if_pos hca]
    have HP := Lib.hid hp
    rw [hca] at q3
    clear h hca hp fz
    go_enter Try.func25, Try.ntmps25
    go_wp2_with fail
    go_ret
    unfold DAt
    rw [HP.out]
    exact ⟨rfl, ⟨_, _, _, _, _, _, _, HD.out⟩, Turn.refl _ _⟩
  · obtain ⟨k, hk⟩ : ∃ k, st.ca.length = k + 1 := ⟨st.ca.length - 1, by omega⟩
    have hrw : ∃ g, A3 = some ⟨g, 0, none⟩ ∧ k + 1 ≤ c3 ∧ c3 ≤ maxLen := by
      rcases h.cr with h1 | ⟨h1, _⟩
      · obtain ⟨g, cap, e, _, _⟩ := h1.form (by omega)
        cases e
        rcases h1.2 with ⟨e', _⟩ | ⟨g', c', cur, e', _, _, m1, m2, _⟩
        · cases e'
        · cases e'
          exact ⟨g, rfl, by omega, m2⟩
      · omega
    obtain ⟨g, rfl, hkc, hcm⟩ := hrw
    have hp : popS st = (⟨st.sl, st.gl, st.ca.dropLast, st.n⟩, 0) := by unfold popS; rw [if_neg hca]
    have HP := Lib.hid hp
    have hbd : Below w.heap.size w w.drew := (Below.refl _ _).drew
    have HG := Lib.hid (fun W (hb : Below w.heap.size w W) => (h.below hb).popped hk (by rw [hk]))
    have f3 := fz 3
    rw [hk] at q3
    unfold maxLen at hcm
    have q0 : (0 : Int) ≤ (k : Int) := by omega
    have q1 : (k : Int) ≤ (c3 : Int) := by omega
    have q2 : (k : Int) < 9223372036854775807 := by omega
    have hw : IntKind.i64.wrap (((k + 1 : Nat) : Int) - 1) = (k : Int) := by rw [IntWalk.i64_in _ (by omega)]; omega
    clear h hca hp fz hk hkc hcm
    generalize hnk : k + 1 = n at q3 hw
    have HN := Lib.hid hnk
    have q4 : (0 : Int) ≤ (n : Int) := by omega
    have b0 : ((n : Int) == 0) = false := by rw [beq_eq_false_iff_ne]; have := HN.out; omega
    clear hnk
    have HWW := Lib.hid hw
    have HQ := Lib.hid (And.intro q1 (And.intro q2 (And.intro q4 q0)))
    clear hw q1 q2 q4 q0
    have HFD := Lib.hid (show w.drew.cell? ⟨m, 3, none⟩ = some (.slice (some ⟨g, 0, none⟩) n c3) ∧ w.drew.frozen? ⟨m, 3, none⟩ = false from ⟨q3, f3⟩)
    go_enter Try.func25, Try.ntmps25
    go_wp2_with fail
    obtain ⟨q1, q2, q4, q0⟩ := HQ.out
    have hw := HWW.out
    go_still_tail 14, (by kernel_rfl)
    change wpList _ _ _ _ _ w.drew
    clear hw q1 q2 q4 q0
    have HBD := Lib.hid hbd
    clear hbd
    generalize w.drew = w3 at *
    obtain ⟨q3', f3'⟩ := HFD.out
    go_wp2_with fail
    go_ret
    unfold DAt
    rw [HP.out]
    obtain ⟨r1, r2⟩ := HG.out _ HBD.out
    exact ⟨rfl, ⟨_, _, _, _, _, _, _, r1⟩, DT.trans (Turn.of_below HBD.out _) ((HD.out.below HBD.out).dtm r2)⟩
end Go.Proofs.Ytbpaiocbgbpiaaa
