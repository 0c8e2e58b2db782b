/- Each answer of the program is memory of its own. -/
import Derived.Test.YtpklbdgajbfaiaaNoA
namespace Go.Proofs.Ytpklbdgajbfaiaa
open Go.RowKit
set_option linter.unusedVariables false

/-- One answer, and the error: in memory of its own. -/
def Mine (P : List Nat → Prop) (w : World) (e : Ending) (w' : World) : Prop :=
  ∃ A c v l, e = .returned (.tuple #[.slice A l.length c, .int .i64 v]) ∧ l.length ≤ 256 ∧ Fr w.heap.size w' A c l ∧ P l ∧ Below w.heap.size w w'
def Fits8 (x : Nat) : Prop := x < 2 ^ 8192
instance (x : Nat) : Decidable (Fits8 x) := by unfold Fits8; infer_instance
def ansL (fine : Bool) (x : Nat) : List Nat := if fine = true ∧ Fits8 x then dg 4294967296 x else []
theorem mine_bad {P : List Nat → Prop} {w : World} {v : Int} (hP : P []) : Mine P w (.returned (.tuple #[.slice none 0 0, .int .i64 v])) w :=
  ⟨none, 0, v, [], rfl, by simp, fr_nil0 _ _, hP, Below.refl _ _⟩
theorem mine_is {x : Nat} {w w' : World} {e : Ending} (h : NatIs x w e w') : Mine (fun l => l = ansL true x) w e w' := by
  obtain ⟨⟨hx, A, c, rfl, hf⟩ | ⟨hx, rfl⟩, hb⟩ := h
  · exact ⟨A, c, 0, _, rfl, fit_len.2 hx, hf, by unfold ansL; rw [if_pos ⟨rfl, hx⟩], hb⟩
  · exact ⟨none, 0, 3, [], rfl, by simp, fr_nil0 _ _, by unfold ansL; rw [if_neg (fun q => hx q.2)], hb⟩
theorem mine_ok {P : List Nat → Prop} {x : Nat} {w w' : World} {e : Ending} (h : NatOk x w e w') (hx : (dg 4294967296 x).length ≤ 256) (hP : P (dg 4294967296 x)) : Mine P w e w' := by
  obtain ⟨⟨A, c, rfl, hf⟩, hb⟩ := h
  exact ⟨A, c, 0, _, rfl, hx, hf, hP, hb⟩
section
variable (A : Option Addr) (c : Nat) (l1 : List Nat) (A2 : Option Addr) (c2 : Nat) (l2 : List Nat) (w : World) (hr : Rw .u32 w w.heap.size A l1) (hr2 : Rw .u32 w w.heap.size A2 l2) (hlo1 : Lo 4294967296 l1) (hlo2 : Lo 4294967296 l2) (hl1 : l1.length ≤ 400) (hl2 : l2.length ≤ 400)
include hr hr2 hlo1 hlo2 hl1 hl2
theorem nadd_mine : Calls Try.prog 10 #[.slice A l1.length c, .slice A2 l2.length c2] w (Mine (fun l => l = ansL (okL l1 && okL l2) (vb 4294967296 l1 + vb 4294967296 l2)) w) := by
  rcases ok_cases hlo1 hlo2 with ⟨e, h⟩ | ⟨e, k1, k2, e1, e2, b1, b2, f1, f2⟩
  · rw [e]
    refine (nadd_bad A c w.heap.size l1 A2 c2 l2 w hr hr2 (by omega) (by omega) h).mono ?_
    rintro e w' ⟨rfl, rfl⟩
    exact mine_bad (by unfold ansL; simp)
  · rw [e]
    have h := nadd_any A c w.heap.size (vb 4294967296 l1) A2 c2 (vb 4294967296 l2) w (by rw [e1]; exact hr) (by rw [e2]; exact hr2) (Nat.le_refl _) f1 f2
    rw [e1, e2] at h
    exact h.mono fun e w' h => mine_is h
theorem nmul_mine : Calls Try.prog 12 #[.slice A l1.length c, .slice A2 l2.length c2] w (Mine (fun _ => True) w) := by
  rcases ok_cases hlo1 hlo2 with ⟨e, h⟩ | ⟨e, k1, k2, e1, e2, b1, b2, f1, f2⟩
  · refine (nmul_bad A c w.heap.size l1 A2 c2 l2 w hr hr2 (by omega) (by omega) h).mono ?_
    rintro e w' ⟨rfl, rfl⟩
    exact mine_bad trivial
  · have h := nmul_any A c w.heap.size (vb 4294967296 l1) A2 c2 (vb 4294967296 l2) w (by rw [e1]; exact hr) (by rw [e2]; exact hr2) (Nat.le_refl _) f1 f2
    rw [e1, e2] at h
    refine h.mono fun e w' h => ?_
    obtain ⟨A', c', v', l', q1, q2, q3, _, q5⟩ := mine_is h
    exact ⟨A', c', v', l', q1, q2, q3, trivial, q5⟩
theorem nsub_mine (hA : A = none → l1.length = 0 ∧ c = 0) : Calls Try.prog 11 #[.slice A l1.length c, .slice A2 l2.length c2] w (Mine (fun _ => True) w) := by
  rcases ok_cases hlo1 hlo2 with ⟨e, h⟩ | ⟨e, k1, k2, e1, e2, b1, b2, f1, f2⟩
  · refine (nsub_bad A c w.heap.size l1 A2 c2 l2 w hr hr2 (by omega) (by omega) h).mono ?_
    rintro e w' ⟨rfl, rfl⟩
    exact mine_bad trivial
  · by_cases hxy : vb 4294967296 l1 < vb 4294967296 l2
    · have h := nsub_lt A c (vb 4294967296 l1) A2 c2 (vb 4294967296 l2) w (by rw [e1]; exact hr) (by rw [e2]; exact hr2) (by rw [e1]; exact b1) (by rw [e2]; exact b2) hxy
      rw [e1, e2] at h
      refine h.mono ?_
      rintro e w' ⟨rfl, hb⟩
      exact ⟨none, 0, 1, [], rfl, by simp, fr_nil0 _ _, trivial, hb⟩
    · have h := nsub_ok A c w.heap.size (vb 4294967296 l1) A2 c2 (vb 4294967296 l2) w (by rw [e1]; exact hr) (by rw [e2]; exact hr2) (Nat.le_refl _) f1 (by omega) (by rw [e1]; exact hA)
      rw [e1, e2] at h
      exact h.mono fun e w' h => mine_ok h (fit_len.2 (Nat.lt_of_le_of_lt (Nat.sub_le _ _) f1)) trivial
/-- Two answers, and the error. -/
def Both (w : World) (e : Ending) (w' : World) : Prop :=
  ∃ (A3 : Option Addr) (c3 : Nat) (A4 : Option Addr) (c4 : Nat) (v : Int) (l3 l4 : List Nat) (m : Nat), e = .returned (.tuple #[.slice A3 l3.length c3, .slice A4 l4.length c4, .int .i64 v]) ∧ l3.length ≤ 256 ∧ l4.length ≤ 256 ∧ Fr w.heap.size w' A3 c3 l3 ∧ Fr m w' A4 c4 l4 ∧ w.heap.size ≤ m ∧ m ≤ w'.heap.size ∧ (∀ p, A3 = some p → 0 < c3 → p.block < m) ∧ Below w.heap.size w w'
theorem ndiv_mine (hA : A = none → l1.length = 0 ∧ c = 0) : Calls Try.prog 13 #[.slice A l1.length c, .slice A2 l2.length c2] w (Both w) := by
  have none2 : ∀ (v : Int) (w' : World), w = w' → Both w (.returned (.tuple #[.slice none 0 0, .slice none 0 0, .int .i64 v])) w' := fun v w' e => by
    subst e
    exact ⟨none, 0, none, 0, v, [], [], w.heap.size, rfl, by simp, by simp, fr_nil0 _ _, fr_nil0 _ _, Nat.le_refl _, Nat.le_refl _, fun p e _ => (by cases e), Below.refl _ _⟩
  rcases ok_cases hlo1 hlo2 with ⟨e, h⟩ | ⟨e, k1, k2, e1, e2, b1, b2, f1, f2⟩
  · refine (ndiv_bad A c w.heap.size l1 A2 c2 l2 w hr hr2 (by omega) (by omega) h).mono ?_
    rintro e w' ⟨rfl, hw⟩
    exact none2 30 w' hw
  · by_cases h0 : l2.length = 0
    · have h := ndiv_none A c w.heap.size (vb 4294967296 l1) A2 c2 w (by rw [e1]; exact hr) (by rw [e1]; exact b1)
      rw [e1] at h
      rw [h0]
      refine h.mono ?_
      rintro e w' ⟨rfl, hw⟩
      exact none2 1 w' hw
    · have h := ndiv_any A c w.heap.size (vb 4294967296 l1) A2 c2 (vb 4294967296 l2) w (by rw [e1]; exact hr) (by rw [e2]; exact hr2) (Nat.le_refl _) (by rw [e1]; exact b1) (by rw [e2]; exact b2) (by rw [e2]; exact h0) (by rw [e1]; exact hA)
      rw [e1, e2] at h
      refine h.mono ?_
      rintro e w' ⟨m, A3, c3, A4, c4, rfl, g1, g2, g3, g4, g5⟩
      have hq : vb 4294967296 l1 / vb 4294967296 l2 < 2 ^ 8192 := Nat.lt_of_le_of_lt (Nat.div_le_self _ _) f1
      have hm : vb 4294967296 l1 % vb 4294967296 l2 < 2 ^ 8192 := Nat.lt_of_le_of_lt (Nat.mod_le _ _) f1
      rcases Nat.lt_or_ge w'.heap.size m with hlt | hge
      · have hc4 : c4 = 0 := by
          rcases Nat.eq_zero_or_pos c4 with e | e
          · exact e
          · obtain ⟨g, cur, rfl, hb, hg, _⟩ := g2.2.2 e
            have := (Array.getElem?_eq_some_iff.1 hg).1
            omega
        have hl4 : (dg 4294967296 (vb 4294967296 l1 % vb 4294967296 l2)).length = 0 := by have := g2.1; omega
        refine ⟨A3, c3, A4, c4, 0, _, _, w'.heap.size, rfl, fit_len.2 hq, fit_len.2 hm, g1, ⟨g2.1, g2.2.1, fun q => by omega⟩, g5.size, Nat.le_refl _, fun p hp e => (g1.lt hp e).2.1, g5⟩
      · exact ⟨A3, c3, A4, c4, 0, _, _, m, rfl, fit_len.2 hq, fit_len.2 hm, g1, g2, g3, hge, fun p hp _ => g4 p hp, g5⟩
omit hr2 hlo2 hl2 in
theorem nshl_mine (k : Nat) (hk : k ≤ 99) : Calls Try.prog 14 #[.slice A l1.length c, .int .i64 (k : Int)] w (Mine (fun _ => True) w) := by
  rcases ok_cases hlo1 hlo1 with ⟨e, h⟩ | ⟨e, k1, _, e1, _, b1, _, f1, _⟩
  · refine (nshl_bad A c w.heap.size l1 (k : Int) w hr (by omega) (h.elim id id)).mono ?_
    rintro e w' ⟨rfl, rfl⟩
    exact mine_bad trivial
  · by_cases h0 : l1.length = 0
    · rw [h0]
      refine (nshl_none A c (k : Int) w (by omega)).mono ?_
      rintro e w' ⟨rfl, rfl⟩
      exact mine_bad trivial
    · have h := nshl_any A c w.heap.size (vb 4294967296 l1) k w (by rw [e1]; exact hr) (Nat.le_refl _) f1 (by rw [e1]; exact h0) (by omega)
      rw [e1] at h
      refine h.mono fun e w' h => ?_
      obtain ⟨A', c', v', l', q1, q2, q3, _, q5⟩ := mine_is h
      exact ⟨A', c', v', l', q1, q2, q3, trivial, q5⟩
end
end Go.Proofs.Ytpklbdgajbfaiaa
