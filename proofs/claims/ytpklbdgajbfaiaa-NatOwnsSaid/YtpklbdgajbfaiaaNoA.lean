/- Answers in memory of their own; 'append' to one of them. -/
import Derived.Test.YtpklbdgajbfaiaaNtW27
import Derived.Test.YtpklbdgajbfaiaaTurn
namespace Go.Proofs.Ytpklbdgajbfaiaa
open Go.RowKit
set_option linter.unusedVariables false

theorem Fr.lt {lo c : Nat} {w : World} {A : Option Addr} {l : List Nat} (h : Fr lo w A c l) {p : Addr} (hp : A = some p) (hc : 0 < c) : lo ≤ p.block ∧ p.block < w.heap.size ∧ p.off = 0 ∧ p.spot = none := by
  obtain ⟨g, cur, e, hb, hg, _⟩ := h.2.2 hc
  rw [hp] at e
  cases e
  exact ⟨hb, (Array.getElem?_eq_some_iff.1 hg).1, rfl, rfl⟩
theorem Fr.same {lo c : Nat} {w w' : World} {A : Option Addr} {l : List Nat} (h : Fr lo w A c l) (hk : ∀ g, A = some ⟨g, 0, none⟩ → 0 < c → w'.heap[g]? = w.heap[g]?) : Fr lo w' A c l :=
  ⟨h.1, h.2.1, fun hc => by
    obtain ⟨g, cur, e, hb, hg, r⟩ := h.2.2 hc
    exact ⟨g, cur, e, hb, (hk g e hc).trans hg, r⟩⟩
theorem Fr.go {lo c : Nat} {w w' : World} {A : Option Addr} {l : List Nat} (h : Fr lo w A c l) (hb : Below w.heap.size w w') : Fr lo w' A c l :=
  h.same fun g e hc => hb.block g (h.lt e hc).2.1
theorem Fr.low {lo lo' c : Nat} {w : World} {A : Option Addr} {l : List Nat} (h : Fr lo w A c l) (hl : lo' ≤ lo) : Fr lo' w A c l :=
  ⟨h.1, h.2.1, fun hc => by
    obtain ⟨g, cur, e, hb, r⟩ := h.2.2 hc
    exact ⟨g, cur, e, Nat.le_trans hl hb, r⟩⟩
theorem fr_nil0 (lo : Nat) (w : World) : Fr lo w none 0 [] := ⟨Nat.le_refl _, by unfold maxLen; omega, fun h => absurd h (by omega)⟩
/-- One number of it is written. -/
theorem Fr.set {lo c j x : Nat} {w : World} {A : Option Addr} {l : List Nat} (h : Fr lo w A c l) (hj : j < l.length) : ∃ g, A = some ⟨g, 0, none⟩ ∧ lo ≤ g ∧ g < w.heap.size ∧ (∃ v, w.cell? ⟨g, j, none⟩ = some v) ∧ w.frozen? ⟨g, j, none⟩ = false ∧ Fr lo (w.setCell ⟨g, j, none⟩ (.int .u32 (x : Int))) A c (l.set j x) := by
  have h1 := h.1
  obtain ⟨g, cur, rfl, hb, hg, hcc, ht⟩ := h.2.2 (by omega)
  have hjc : j < cur.size := by omega
  refine ⟨g, rfl, hb, (Array.getElem?_eq_some_iff.1 hg).1, ⟨_, (cell_of_row w g j cur _ (0, 0) hg).trans (Array.getElem?_eq_getElem hjc)⟩, frozen_of_row w g j _ _ hg, by rw [List.length_set]; exact h.1, h.2.1, fun _ => ⟨g, cur.set! j (.int .u32 (x : Int)), rfl, hb, heap_setCell_same _ _ _ _ _ _ hg, by simpa using hcc, ?_⟩⟩
  rw [List.length_set]
  simp only [Array.set!_eq_setIfInBounds, Array.toList_setIfInBounds]
  rw [List.take_set, ht]
  unfold cellsN
  rw [List.map_set]
theorem Fr.elsewhere {lo c : Nat} {w : World} {A : Option Addr} {l : List Nat} (h : Fr lo w A c l) {p : Addr} {v : Value} (hp : ∀ g, A = some ⟨g, 0, none⟩ → 0 < c → g ≠ p.block) : Fr lo (w.setCell p v) A c l :=
  h.same fun g e hc => heap_setCell_other _ _ _ _ (hp g e hc)
/-- 'append' of one number. -/
theorem run_append_fr {lo c x : Nat} {w : World} {A : Option Addr} {l : List Nat} (ty : TypeId) (h : Fr lo w A c l) (hlo : lo ≤ w.heap.size) (hl : l.length ≤ 1000) :
    ∃ A' c' w', (Builtin.append_ #[22, 22] ty #[.slice A l.length c, .slice (some ⟨w.heap.size, 0, none⟩) 1 1]).run Try.prog (w.alloc (.cells #[.int .u32 (x : Int)] 24)) = .ok (.slice A' (l.length + 1) c') w' ∧
      Fr lo w' A' c' (l ++ [x]) ∧ Turn w w' (fun j => A = some ⟨j, 0, none⟩ ∧ 0 < c) ∧ ∀ g, A' = some ⟨g, 0, none⟩ → (A = some ⟨g, 0, none⟩ ∧ 0 < c) ∨ w.heap.size ≤ g := by
  obtain ⟨i0, hi, hz0, hz1, hz2⟩ := info_parts uint_info
  have hal : Below w.heap.size w (w.alloc (.cells #[.int .u32 (x : Int)] 24)) := (Below.refl _ w).alloc (Nat.le_refl _) _
  by_cases hr : l.length + 1 ≤ c
  · obtain ⟨g, cur, rfl, hb, hg, hcc, ht⟩ := h.2.2 (by omega)
    have hg1 := (hal.block g (Array.getElem?_eq_some_iff.1 hg).1).trans hg
    have hrun := run_append_room_cells (P := Try.prog) (w.alloc (.cells #[.int .u32 (x : Int)] 24)) 22 ty 24 i0 Try.underlying22 hi g 0 l.length c ⟨w.heap.size, 0, none⟩ 1 1 [.int .u32 (x : Int)] (by rw [hz1]; rfl) (cell_news w #[.int .u32 (x : Int)] 24) (by intro u hu; simp at hu; subst hu; rfl) hr
      (fun j hj => by
        simp at hj; subst hj
        rw [hz1, cell_of_row _ g _ cur _ (0, 0) hg1]
        simp
        omega) (fun j hj => by simp at hj; subst hj; exact frozen_of_row _ g _ _ _ hg1)
    have e1 : (w.alloc (.cells #[.int .u32 (x : Int)] 24)).setCells g (0 + l.length * i0.size) [.int .u32 (x : Int)] = (w.alloc (.cells #[.int .u32 (x : Int)] 24)).setCell ⟨g, l.length, none⟩ (.int .u32 (x : Int)) := by
      rw [hz1]; simp [World.setCells]
    rw [e1] at hrun
    refine ⟨_, _, _, hrun, ⟨by simpa using hr, h.2.1, fun _ => ⟨g, cur.set! l.length (.int .u32 (x : Int)), rfl, hb, heap_setCell_same _ _ _ _ _ _ hg1, by simpa using hcc, ?_⟩⟩, (Turn.of_below hal _).setCell _ _ (fun _ => ⟨rfl, by omega⟩), fun g' e => .inl ⟨e, by omega⟩⟩
    rw [List.length_append, List.length_singleton, cellsN_snoc]
    simp only [Array.set!_eq_setIfInBounds, Array.toList_setIfInBounds]
    have hl2 : l.length < (cur.toList.set l.length (.int .u32 (x : Int))).length := by simp; omega
    rw [List.take_succ_eq_append_getElem hl2, List.getElem_set_self, List.take_set_of_le (Nat.le_refl _), ht]
  · have hc : c = l.length := by have := h.1; omega
    cases A with
    | none =>
      have h0 : l = [] := by
        rcases Nat.eq_zero_or_pos c with e | e
        · exact List.eq_nil_of_length_eq_zero (by omega)
        · obtain ⟨g, cur, e2, _⟩ := h.2.2 e; cases e2
      subst h0
      subst hc
      obtain ⟨v', w', hrun, r1, r2, _⟩ := run_append_own (P := Try.prog) (w.alloc (.cells #[.int .u32 (x : Int)] 24)) w.heap.size 22 ty 24 i0 (.int .u32 0) 1 4 Try.underlying22 hi hz0 hz1 hz2 rfl (by omega) (.slice none 0 0) 0 [] (World.ownsRow_nil _ _ _ _) ⟨w.heap.size, 0, none⟩ 1 1 [.int .u32 (x : Int)] rfl (cell_news w #[.int .u32 (x : Int)] 24) (by intro u hu; simp at hu; subst hu; rfl) (by unfold maxLen; omega) (by omega) (by simp)
      obtain ⟨A', c', rfl⟩ := own_shape r1
      refine ⟨A', c', w', hrun, Fr.low (Fr.of_own (n := 0 + 1) r1) hlo, ((Turn.of_below hal _).trans (Turn.of_grown r2) (fun _ q => q) (fun j _ q => by cases q)), fun g e => .inr ?_⟩
      rw [e] at r1
      exact (r1.lt g rfl).1
    | some p =>
      have hcells : ∀ j u, (cellsN .u32 l)[j]? = some u → (w.alloc (.cells #[.int .u32 (x : Int)] 24)).cell? (p.add j) = some u := fun j u hj => by
        have hjl : j < l.length := by have := (List.getElem?_eq_some_iff.1 hj).1; rw [cellsN_len] at this; exact this
        obtain ⟨g, cur, e, hb, hg, hcc, ht⟩ := h.2.2 (by omega)
        cases e
        rw [addr_add, Nat.zero_add, cell_of_row _ g j cur _ (0, 0) ((hal.block g (Array.getElem?_eq_some_iff.1 hg).1).trans hg)]
        rw [← ht, List.getElem?_take_of_lt hjl] at hj
        simpa using hj
      obtain ⟨v', w', hrun, r1, r2⟩ := run_append_arg_grows (P := Try.prog) (w.alloc (.cells #[.int .u32 (x : Int)] 24)) 22 ty 24 i0 (.int .u32 0) 1 4 Try.underlying22 hi hz0 hz1 hz2 rfl (by omega) p l.length c (cellsN .u32 l) (by rw [cellsN_len]; omega) hcells ⟨w.heap.size, 0, none⟩ 1 1 [.int .u32 (x : Int)] rfl (cell_news w #[.int .u32 (x : Int)] 24) (by omega) (by unfold maxLen; omega) (by omega)
      obtain ⟨A', c', rfl⟩ := own_shape r1
      rw [← cellsN_snoc] at r1
      have hA' : ∀ g, A' = some ⟨g, 0, none⟩ → w.heap.size ≤ g := fun g e => by
        rw [e] at r1
        have := (r1.lt g rfl).1
        simp at this
        omega
      exact ⟨A', c', w', hrun, Fr.low (Fr.of_own r1) (by simp; omega), ((Turn.of_below hal _).trans (Turn.of_grown r2) (fun _ q => q) (fun j _ q => by cases q)), fun g e => .inr (hA' g e)⟩
end Go.Proofs.Ytpklbdgajbfaiaa
