/- Are two rows of strings, of pairs the same?; the environment: walked. -/
import Derived.Test.YticinbkgmfoeoaaRfW4
namespace Go.Proofs.Yticinbkgmfoeoaa
open Go.RowKit
set_option linter.unusedVariables false

theorem ext_upto {α : Type} {l1 l2 : List α} (hlen : l1.length = l2.length) (h : ∀ j, j < l1.length → l1[j]? = l2[j]?) : l1 = l2 := by
  refine List.ext_getElem? (fun j => ?_)
  rcases Nat.lt_or_ge j l1.length with h2 | h2
  · exact h j h2
  · rw [List.getElem?_eq_none h2, List.getElem?_eq_none (by rw [← hlen]; exact h2)]
set_option maxHeartbeats 4000000 in
theorem same_strs (A1 A2 : Option Addr) (c1 c2 : Nat) (l1 l2 : List ByteArray) (w : World) (h1 : RowA w 1 (.slice A1 l1.length c1) l1.length (l1.map Value.string)) (h2 : RowA w 1 (.slice A2 l2.length c2) l2.length (l2.map Value.string)) (hn1 : l1.length ≤ 8796093022208) :
    Calls Try.prog 23 #[.slice A1 l1.length c1, .slice A2 l2.length c2] w fun e w' => e = .returned (.bool (decide (l1 = l2))) ∧ Below w.heap.size w w' := by
  by_cases hlen : l1.length = l2.length
  · have H0 := Lib.hid (And.intro h1 h2)
    have HL := Lib.hid hlen
    clear h1 h2
    rw [← hlen]
    clear hlen
    go_enter Try.func23, Try.ntmps23
    go_wp2_with fail
    go_loopw [5] (fun v5 wr => ∃ i : Nat, v5 = .int .i64 (i : Int) ∧ i ≤ l1.length ∧ (∀ j, j < i → l1[j]? = l2[j]?) ∧ Below w.heap.size w wr) (fun v5 _ => l1.length - (intOf v5).toNat)
    case atStart => exact ⟨0, rfl, Nat.zero_le _, fun j h => by omega, Below.refl _ _⟩
    case round =>
      obtain ⟨i, rfl, hi, hyes, hb⟩ := hrel
      by_cases hlt : i < l1.length
      · have i1 : (i : Int) < (l1.length : Int) := by omega
        have i0 : (0 : Int) ≤ (i : Int) := by omega
        have hlt2 : i < l2.length := by rw [← HL.out]; exact hlt
        obtain ⟨b, off, rfl, d0⟩ := str_lies (H0.out.1) hlt
        obtain ⟨b', off', rfl, e0⟩ := str_lies (H0.out.2) hlt2
        replace d0 := (hb.cell (lt_of_cell d0)).trans d0
        replace e0 := (hb.cell (lt_of_cell e0)).trans e0
        have hx : l1[i]? = some l1[i] := List.getElem?_eq_getElem hlt
        have hy : l2[i]? = some l2[i] := List.getElem?_eq_getElem hlt2
        generalize l1[i] = x at *
        generalize l2[i] = y at *
        have H := Lib.hid (And.intro hx (And.intro hy (And.intro hyes hb)))
        clear hx hy hyes hlt2 hb
        by_cases q1 : x = y
        · subst q1
          go_wp2_with fail
          go_quiet (fail)
          go_wp2_with fail
          go_roundw
          case rel =>
            obtain ⟨hx, hy, hyes, hb⟩ := H.out
            refine ⟨i + 1, by go_num, by omega, fun j hj => ?_, drewN_below hb _⟩
            rcases Nat.lt_or_ge j i with h | h
            · exact hyes j h
            · obtain rfl : j = i := by omega
              rw [hx, hy]
          case measure => simp [intOf]; omega
        · have b3 := str_ne q1
          go_wp2_with fail
          go_quiet (fail)
          go_wp2_with fail
          go_ret
          obtain ⟨hx, hy, hyes, hb⟩ := H.out
          have hne : ¬ l1 = l2 := by
            rintro rfl
            rw [hx] at hy
            cases hy
            exact q1 rfl
          rw [decide_eq_false hne]
          exact ⟨rfl, drewN_below hb _⟩
      · obtain rfl : i = l1.length := by omega
        have HY := Lib.hid hyes
        clear hyes
        go_wp2_with fail
        go_ret
        rw [decide_eq_true (ext_upto HL.out HY.out)]
        exact ⟨rfl, hb⟩
  · have hb0 : ((l1.length : Int) == (l2.length : Int)) = false := by rw [beq_eq_false_iff_ne]; omega
    have HL := Lib.hid hlen
    clear hlen h1 h2
    go_enter Try.func23, Try.ntmps23
    go_wp2_with fail
    go_ret
    have hne : ¬ l1 = l2 := by
      rintro rfl
      exact HL.out rfl
    rw [decide_eq_false hne]
    exact ⟨rfl, Below.refl _ _⟩
theorem pairC_at {l : List (ByteArray × ByteArray)} {i : Nat} (h : i < l.length) : (l.flatMap pairC)[i * 2]? = some (.string l[i].1) ∧ (l.flatMap pairC)[i * 2 + 1]? = some (.string l[i].2) := by
  induction l generalizing i with
  | nil => simp at h
  | cons x l ih =>
    cases i with
    | zero => simp [pairC]
    | succ i =>
      have h2 : i < l.length := by simpa using h
      rw [List.flatMap_cons, List.getElem?_append_right (by simp [pairC]; omega), List.getElem?_append_right (by simp [pairC]; omega)]
      have e1 : (i + 1) * 2 - (pairC x).length = i * 2 := by simp [pairC]; omega
      have e2 : (i + 1) * 2 + 1 - (pairC x).length = i * 2 + 1 := by simp [pairC]; omega
      rw [e1, e2]
      simpa using ih h2
theorem pair_cells {w : World} {A : Option Addr} {c : Nat} {l : List (ByteArray × ByteArray)} (h : RowA w 2 (.slice A l.length c) l.length (l.flatMap pairC)) {i : Nat} (hi : i < l.length) : ∃ b off, A = some ⟨b, off, none⟩ ∧ w.cell? ⟨b, off + i * 2, none⟩ = some (.string l[i].1) ∧ w.cell? ⟨b, off + i * 2 + 1, none⟩ = some (.string l[i].2) := by
  obtain ⟨b, off, rfl, _, h2⟩ := h.at (by rw [flat_len (C := pairC) (k := 2) (fun _ => rfl)]; omega)
  exact ⟨b, off, rfl, h2 _ _ (pairC_at hi).1, h2 _ _ (pairC_at hi).2⟩
set_option maxHeartbeats 4000000 in
theorem same_pairs (A1 A2 : Option Addr) (c1 c2 : Nat) (l1 l2 : List (ByteArray × ByteArray)) (w : World) (h1 : RowA w 2 (.slice A1 l1.length c1) l1.length (l1.flatMap pairC)) (h2 : RowA w 2 (.slice A2 l2.length c2) l2.length (l2.flatMap pairC)) (hn1 : l1.length ≤ 4398046511104) :
    Calls Try.prog 19 #[.slice A1 l1.length c1, .slice A2 l2.length c2] w fun e w' => e = .returned (.bool (decide (l1 = l2))) ∧ Below w.heap.size w w' := by
  by_cases hlen : l1.length = l2.length
  · have H0 := Lib.hid (And.intro h1 h2)
    have HL := Lib.hid hlen
    clear h1 h2
    rw [← hlen]
    clear hlen
    go_enter Try.func19, Try.ntmps19
    go_wp2_with fail
    go_loopw [5] (fun v5 wr => ∃ i : Nat, v5 = .int .i64 (i : Int) ∧ i ≤ l1.length ∧ (∀ j, j < i → l1[j]? = l2[j]?) ∧ Below w.heap.size w wr) (fun v5 _ => l1.length - (intOf v5).toNat)
    case atStart => exact ⟨0, rfl, Nat.zero_le _, fun j h => by omega, Below.refl _ _⟩
    case round =>
      obtain ⟨i, rfl, hi, hyes, hb⟩ := hrel
      by_cases hlt : i < l1.length
      · have i1 : (i : Int) < (l1.length : Int) := by omega
        have i0 : (0 : Int) ≤ (i : Int) := by omega
        have hlt2 : i < l2.length := by rw [← HL.out]; exact hlt
        obtain ⟨b, off, rfl, d0, d1⟩ := pair_cells (H0.out.1) hlt
        obtain ⟨b', off', rfl, e0, e1⟩ := pair_cells (H0.out.2) hlt2
        replace d0 := (hb.cell (lt_of_cell d0)).trans d0
        replace d1 := (hb.cell (lt_of_cell d1)).trans d1
        replace e0 := (hb.cell (lt_of_cell e0)).trans e0
        replace e1 := (hb.cell (lt_of_cell e1)).trans e1
        have hx : l1[i]? = some l1[i] := List.getElem?_eq_getElem hlt
        have hy : l2[i]? = some l2[i] := List.getElem?_eq_getElem hlt2
        generalize l1[i] = x at *
        generalize l2[i] = y at *
        obtain ⟨x1, x2⟩ := x
        obtain ⟨y1, y2⟩ := y
        dsimp only at d0 d1 e0 e1
        have H := Lib.hid (And.intro hx (And.intro hy (And.intro hyes hb)))
        clear hx hy hyes hlt2 hb
        by_cases q1 : x1 = y1
        · subst q1
          by_cases q2 : x2 = y2
          · subst q2
            go_wp2_with fail
            go_quiet (fail)
            go_wp2_with fail
            go_roundw
            case rel =>
              obtain ⟨hx, hy, hyes, hb⟩ := H.out
              refine ⟨i + 1, by go_num, by omega, fun j hj => ?_, drewN_below hb _⟩
              rcases Nat.lt_or_ge j i with h | h
              · exact hyes j h
              · obtain rfl : j = i := by omega
                rw [hx, hy]
            case measure => simp [intOf]; omega
          · have b3 := str_ne q2
            go_wp2_with fail
            go_quiet (fail)
            go_wp2_with fail
            go_ret
            obtain ⟨hx, hy, hyes, hb⟩ := H.out
            have hne : ¬ l1 = l2 := by
              rintro rfl
              rw [hx] at hy
              cases hy
              exact q2 rfl
            rw [decide_eq_false hne]
            exact ⟨rfl, drewN_below hb _⟩
        · have b3 := str_ne q1
          go_wp2_with fail
          go_quiet (fail)
          go_wp2_with fail
          go_ret
          obtain ⟨hx, hy, hyes, hb⟩ := H.out
          have hne : ¬ l1 = l2 := by
            rintro rfl
            rw [hx] at hy
            cases hy
            exact q1 rfl
          rw [decide_eq_false hne]
          exact ⟨rfl, drewN_below hb _⟩
      · obtain rfl : i = l1.length := by omega
        have HY := Lib.hid hyes
        clear hyes
        go_wp2_with fail
        go_ret
        rw [decide_eq_true (ext_upto HL.out HY.out)]
        exact ⟨rfl, hb⟩
  · have hb0 : ((l1.length : Int) == (l2.length : Int)) = false := by rw [beq_eq_false_iff_ne]; omega
    have HL := Lib.hid hlen
    clear hlen h1 h2
    go_enter Try.func19, Try.ntmps19
    go_wp2_with fail
    go_ret
    have hne : ¬ l1 = l2 := by
      rintro rfl
      exact HL.out rfl
    rw [decide_eq_false hne]
    exact ⟨rfl, Below.refl _ _⟩
set_option maxHeartbeats 4000000 in
theorem mw_env {lo : Nat} {w : World} {g n2 : Nat} {op : List ST} {ac : List AT} {size : Int} {E : List (ByteArray × ByteArray)} {L : ByteArray → Option (List ByteArray)} {F : ByteArray → List CM} {K : List Int} (h : MW lo g n2 E L F K op ac size w) (hn : E.length ≤ 4398046511104) :
    Calls Try.prog 20 #[.pointer (some ⟨g, 0, none⟩)] w fun e w' => ∃ v, e = .returned v ∧ w'.ownsRow w.heap.size 61 2 v E.length (E.flatMap pairC) ∧ Below w.heap.size w w' := by
  obtain ⟨b1, b2, n1, env, clock, vo, va, files, cmds, hp, hr⟩ := h
  obtain ⟨⟨_, _, c2, _⟩, _⟩ := hp.cells
  have HC := Lib.hid (clone_pair env E.length _ w hr.evr.1 hn (pairC_one E))
  obtain ⟨A, c, rfl⟩ := hr.evr.1.a.shape
  clear hp hr
  go_enter Try.func20, Try.ntmps20
  go_wp2_with fail
  refine HC.out.mono ?_
  rintro e w' ⟨v, rfl, hown, hb⟩
  obtain ⟨A', c', rfl⟩ := own_shape hown
  go_wp2_with fail
  go_ret
  exact ⟨_, rfl, hown, hb⟩

end Go.Proofs.Yticinbkgmfoeoaa
