/- Are two rows of acts the same?, walked. -/
import Derived.Test.YticinbkgmfoeoaaWdW10
namespace Go.Proofs.Yticinbkgmfoeoaa
open Go.RowKit
set_option linter.unusedVariables false

theorem actC_at {l : List AT} {i : Nat} (h : i < l.length) : (l.flatMap actC)[i * 3]? = some (.int .i64 l[i].1) ∧ (l.flatMap actC)[i * 3 + 1]? = some (.string l[i].2.1) ∧ (l.flatMap actC)[i * 3 + 2]? = some (.string l[i].2.2) := by
  induction l generalizing i with
  | nil => simp at h
  | cons x l ih =>
    cases i with
    | zero => simp [actC]
    | succ i =>
      have h2 : i < l.length := by simpa using h
      rw [List.flatMap_cons, List.getElem?_append_right (by simp [actC]; omega), List.getElem?_append_right (by simp [actC]; omega), List.getElem?_append_right (by simp [actC]; omega)]
      have e1 : (i + 1) * 3 - (actC x).length = i * 3 := by simp [actC]; omega
      have e2 : (i + 1) * 3 + 1 - (actC x).length = i * 3 + 1 := by simp [actC]; omega
      have e3 : (i + 1) * 3 + 2 - (actC x).length = i * 3 + 2 := by simp [actC]; omega
      rw [e1, e2, e3]
      simpa using ih h2
/-- An act of a row, as it lies. -/
theorem act_lies {w : World} {A : Option Addr} {c : Nat} {l : List AT} (h : RowC w w.heap.size 3 (.slice A l.length c) l.length (l.flatMap actC)) {i : Nat} (hi : i < l.length) :
    ∃ b off, A = some ⟨b, off, none⟩ ∧ w.cell? ⟨b, off + i * 3, none⟩ = some (.int .i64 l[i].1) ∧ w.cell? ⟨b, off + i * 3 + 1, none⟩ = some (.string l[i].2.1) ∧ w.cell? ⟨b, off + i * 3 + 2, none⟩ = some (.string l[i].2.2) := by
  obtain ⟨_, A', c', e, hA, _, h4⟩ := h
  cases e
  cases A with
  | none => have := (hA rfl).1; omega
  | some a =>
    obtain ⟨b, off, rfl, _, hc⟩ := h4 _ rfl
    obtain ⟨q0, q1, q2⟩ := actC_at hi
    exact ⟨b, off, rfl, hc (i * 3) _ q0, hc (i * 3 + 1) _ q1, hc (i * 3 + 2) _ q2⟩
set_option maxHeartbeats 4000000 in
theorem same_any (A1 A2 : Option Addr) (c1 c2 : Nat) (l1 l2 : List AT) (w : World) (h1 : RowC w w.heap.size 3 (.slice A1 l1.length c1) l1.length (l1.flatMap actC)) (h2 : RowC w w.heap.size 3 (.slice A2 l2.length c2) l2.length (l2.flatMap actC)) (hn1 : l1.length ≤ 1048576) (hn2 : l2.length ≤ 1048576) :
    Calls Try.prog 18 #[.slice A1 l1.length c1, .slice A2 l2.length c2] w fun e w' => e = .returned (.bool (decide (l1 = l2))) ∧ Below w.heap.size w w' := by
  by_cases hlen : l1.length = l2.length
  · have hb0 : ((l1.length : Int) == (l2.length : Int)) = true := by rw [hlen]; exact beq_self_eq_true _
    have H0 := Lib.hid (And.intro h1 h2)
    have HL := Lib.hid hlen
    clear h1 h2
    rw [← hlen]
    clear hlen hb0
    go_enter Try.func18, Try.ntmps18
    go_wp2_with fail
    go_loopw [5] (fun v5 wr => ∃ i : Nat, v5 = .int .i64 (i : Int) ∧ i ≤ l1.length ∧ (∀ j, j < i → l1[j]? = l2[j]?) ∧ Below w.heap.size w wr) (fun v5 _ => l1.length - (intOf v5).toNat)
    case atStart => exact ⟨0, rfl, Nat.zero_le _, fun j h => by omega, Below.refl _ _⟩
    case round =>
      obtain ⟨i, rfl, hi, hyes, hb⟩ := hrel
      by_cases hlt : i < l1.length
      · have i1 : (i : Int) < (l1.length : Int) := by omega
        have i0 : (0 : Int) ≤ (i : Int) := by omega
        have hlt2 : i < l2.length := by rw [← HL.out]; exact hlt
        obtain ⟨b, off, rfl, d0, d1, d2⟩ := act_lies (H0.out.1) hlt
        obtain ⟨b', off', rfl, e0, e1, e2⟩ := act_lies (H0.out.2) hlt2
        replace d0 := (hb.cell (lt_of_cell d0)).trans d0
        replace d1 := (hb.cell (lt_of_cell d1)).trans d1
        replace d2 := (hb.cell (lt_of_cell d2)).trans d2
        replace e0 := (hb.cell (lt_of_cell e0)).trans e0
        replace e1 := (hb.cell (lt_of_cell e1)).trans e1
        replace e2 := (hb.cell (lt_of_cell e2)).trans e2
        have hx : l1[i]? = some l1[i] := List.getElem?_eq_getElem hlt
        have hy : l2[i]? = some l2[i] := List.getElem?_eq_getElem hlt2
        generalize l1[i] = x at *
        generalize l2[i] = y at *
        obtain ⟨x1, x2, x3⟩ := x
        obtain ⟨y1, y2, y3⟩ := y
        dsimp only at d0 d1 d2 e0 e1 e2
        have H := Lib.hid (And.intro hx (And.intro hy hyes))
        clear hx hy hyes hlt2
        by_cases q1 : x1 = y1
        · subst q1
          by_cases q2 : x2 = y2
          · subst q2
            by_cases q3 : x3 = y3
            · subst q3
              go_wp2_with fail
              go_region_with (fail)
              all_goals
                go_wp2_with fail
                go_roundw
                case rel =>
                  obtain ⟨hx, hy, hyes⟩ := H.out
                  refine ⟨i + 1, by go_num, by omega, fun j hj => ?_, hb.drew⟩
                  rcases Nat.lt_or_ge j i with h | h
                  · exact hyes j h
                  · obtain rfl : j = i := by omega
                    rw [hx, hy]
                case measure => simp [intOf]; omega
            · have b3 := str_ne q3
              skip
              go_wp2_with fail
              go_region_with (fail)
              all_goals
                go_wp2_with fail
                go_ret
                obtain ⟨hx, hy, hyes⟩ := H.out
                have hne : ¬ l1 = l2 := by
                  rintro rfl
                  rw [hx] at hy
                  cases hy
                  exact q3 rfl
                rw [decide_eq_false hne]
                exact ⟨rfl, hb.drew⟩
          · have b2 := str_ne q2
            skip
            go_wp2_with fail
            go_region_with (fail)
            all_goals
              go_wp2_with fail
              go_ret
              obtain ⟨hx, hy, hyes⟩ := H.out
              have hne : ¬ l1 = l2 := by
                rintro rfl
                rw [hx] at hy
                cases hy
                exact q2 rfl
              rw [decide_eq_false hne]
              exact ⟨rfl, hb.drew⟩
        · have b1 : (x1 == y1) = false := by rw [beq_eq_false_iff_ne]; exact q1
          skip
          go_wp2_with fail
          go_region_with (fail)
          all_goals
            go_wp2_with fail
            go_ret
            obtain ⟨hx, hy, hyes⟩ := H.out
            have hne : ¬ l1 = l2 := by
              rintro rfl
              rw [hx] at hy
              cases hy
              exact q1 rfl
            rw [decide_eq_false hne]
            exact ⟨rfl, hb.drew⟩
      · obtain rfl : i = l1.length := by omega
        have HY := Lib.hid hyes
        clear hyes
        go_wp2_with fail
        go_ret
        have heq : l1 = l2 := by
          refine List.ext_getElem? (fun j => ?_)
          rcases Nat.lt_or_ge j l1.length with h | h
          · exact HY.out j h
          · rw [List.getElem?_eq_none h, List.getElem?_eq_none (by rw [← HL.out]; exact h)]
        rw [decide_eq_true heq]
        exact ⟨rfl, hb⟩
  · have hb0 : ((l1.length : Int) == (l2.length : Int)) = false := by rw [beq_eq_false_iff_ne]; omega
    have HL := Lib.hid hlen
    clear hlen h1 h2
    go_enter Try.func18, Try.ntmps18
    go_wp2_with fail
    go_ret
    have hne : ¬ l1 = l2 := by
      rintro rfl
      exact HL.out rfl
    rw [decide_eq_false hne]
    exact ⟨rfl, Below.refl _ _⟩

end Go.Proofs.Yticinbkgmfoeoaa
