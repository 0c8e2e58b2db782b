/- Is a stream open?, walked. -/
import Derived.Test.YticinbkgmfoeoaaWdW1
namespace Go.Proofs.Yticinbkgmfoeoaa
open Go.RowKit
set_option linter.unusedVariables false

theorem strC_len (l : List ST) : (l.flatMap strC).length = l.length * 2 := by
  induction l with
  | nil => rfl
  | cons x l ih => rw [List.flatMap_cons, List.length_append, ih, List.length_cons]; simp [strC]; omega
theorem strC_at {l : List ST} {i : Nat} (h : i < l.length) : (l.flatMap strC)[i * 2]? = some (.bool l[i].1) ∧ (l.flatMap strC)[i * 2 + 1]? = some (.string l[i].2) := by
  induction l generalizing i with
  | nil => simp at h
  | cons x l ih =>
    cases i with
    | zero => simp [strC]
    | succ i =>
      have h2 : i < l.length := by simpa using h
      rw [List.flatMap_cons, List.getElem?_append_right (by simp [strC]; omega), List.getElem?_append_right (by simp [strC]; omega)]
      have e1 : (i + 1) * 2 - (strC x).length = i * 2 := by simp [strC]; omega
      have e2 : (i + 1) * 2 + 1 - (strC x).length = i * 2 + 1 := by simp [strC]; omega
      rw [e1, e2]
      simpa using ih h2
theorem str_eq (a b : ByteArray) : (a.toList == b.toList) = decide (a = b) := by
  rw [ByteArray.toList_eq, ByteArray.toList_eq]
  by_cases h : a = b
  · subst h; simp
  · rw [decide_eq_false h, beq_eq_false_iff_ne]
    intro e
    exact h (kst_inj (by unfold kst; rw [e]))
theorem str_ne {a b : ByteArray} (h : a ≠ b) : (a.toList == b.toList) = false := by rw [str_eq]; exact decide_eq_false h
set_option maxHeartbeats 4000000 in
theorem index_any (v : Value) (op : List ST) (p : Bool) (nm : ByteArray) (w : World) (hown : RowC w w.heap.size 2 v op.length (op.flatMap strC)) (hn : op.length ≤ 1048576) :
    Calls Try.prog 42 #[v, .agg #[.bool p, .string nm]] w fun e w' => ∃ i : Int, e = .returned (.int .i64 i) ∧ (0 ≤ i ↔ (p, nm) ∈ op) ∧ Below w.heap.size w w' := by
  have hrw := hown
  obtain ⟨_, A, c, rfl, hA, _, _⟩ := hown
  go_enter Try.func42, Try.ntmps42
  go_wp2_with fail
  go_loopw [8] (fun v8 wr => ∃ i : Nat, v8 = .int .i64 (i : Int) ∧ i ≤ op.length ∧ (∀ j (h : j < op.length), j < i → op[j] ≠ (p, nm)) ∧ Below w.heap.size w wr ∧ wr.cell? ⟨w.heap.size, 0, none⟩ = some (.bool p) ∧ wr.cell? ⟨w.heap.size, 1, none⟩ = some (.string nm)) (fun v8 _ => op.length - (intOf v8).toNat)
  case atStart => exact ⟨0, rfl, Nat.zero_le _, fun j _ h => by omega, (Below.refl _ _).alloc (Nat.le_refl _) _, by simp, by simp⟩
  case round =>
    obtain ⟨i, rfl, hi, hno, hb, d0, d1⟩ := hrel
    by_cases hlt : i < op.length
    · have i1 : (i : Int) < (op.length : Int) := by omega
      have i0 : (0 : Int) ≤ (i : Int) := by omega
      obtain ⟨g, off, rfl⟩ : ∃ g off, A = some ⟨g, off, none⟩ := by
        cases A with
        | none => have := (hA rfl).1; omega
        | some a =>
          obtain ⟨_, A', c', e, _, _, h4⟩ := hrw
          cases e
          obtain ⟨b, off, rfl, _⟩ := h4 _ rfl
          exact ⟨b, off, rfl⟩
      obtain ⟨_, A', c', e', _, _, h4⟩ := hrw.below hb
      cases e'
      obtain ⟨b', off', e', _, hcc⟩ := h4 _ rfl
      cases e'
      have e0 := hcc (i * 2) _ (strC_at hlt).1
      have e1 : wr.cell? ⟨g, off + i * 2 + 1, none⟩ = _ := hcc (i * 2 + 1) _ (strC_at hlt).2
      have hx : op[i] = (op[i].1, op[i].2) := rfl
      have hmem : op[i] ∈ op := List.getElem_mem hlt
      generalize op[i].1 = q at *
      generalize op[i].2 = nn at *
      clear hrw hcc h4 hA
      by_cases hq : q = p
      · subst hq
        by_cases hnn : nn = nm
        · subst hnn
          have H := Lib.hid (And.intro hx (And.intro hmem hno))
          clear hx hmem hno
          go_wp2_with fail
          go_region_with (fail)
          all_goals
            go_wp2_with fail
            go_ret
            obtain ⟨hx, hmem, _⟩ := H.out
            exact ⟨_, rfl, ⟨fun _ => by rw [← hx]; exact hmem, fun _ => by omega⟩, ⟨hb.os, hb.tape, hb.output, hb.size, hb.block⟩⟩
        · have hb1 := str_ne (fun e => hnn e.symm : nm ≠ nn)
          have H := Lib.hid (And.intro hx (And.intro hmem (And.intro hno hnn)))
          clear hx hmem hno hnn
          go_wp2_with fail
          go_region_with (fail)
          all_goals
            go_wp2_with fail
            go_roundw
            case rel =>
              obtain ⟨hx, _, hno, hne⟩ := H.out
              refine ⟨i + 1, by go_num, by omega, fun j hj hji => ?_, ⟨hb.os, hb.tape, hb.output, hb.size, hb.block⟩, d0, d1⟩
              rcases Nat.lt_or_ge j i with h | h
              · exact hno j hj h
              · obtain rfl : j = i := by omega
                rw [hx]
                intro e
                exact hne (congrArg Prod.snd e)
            case measure => simp [intOf]; omega
      · have hb1 : (p == q) = false := by rw [beq_eq_false_iff_ne]; exact fun e => hq e.symm
        have hb2 : ¬ p = q := fun e => hq e.symm
        have H := Lib.hid (And.intro hx (And.intro hmem (And.intro hno hq)))
        clear hx hmem hno hq
        go_wp2_with fail
        go_region_with (fail)
        all_goals
          go_wp2_with fail
          go_roundw
          case rel =>
            obtain ⟨hx, _, hno, hne⟩ := H.out
            refine ⟨i + 1, by go_num, by omega, fun j hj hji => ?_, ⟨hb.os, hb.tape, hb.output, hb.size, hb.block⟩, d0, d1⟩
            rcases Nat.lt_or_ge j i with h | h
            · exact hno j hj h
            · obtain rfl : j = i := by omega
              rw [hx]
              intro e
              exact hne (congrArg Prod.fst e)
          case measure => simp [intOf]; omega
    · have i1 : ¬ (i : Int) < (op.length : Int) := by omega
      have H := Lib.hid hno
      clear hno hrw hA
      go_wp2_with fail
      go_ret
      refine ⟨_, rfl, ⟨fun h => absurd h (by omega), fun h => ?_⟩, hb⟩
      obtain ⟨j, hj, e⟩ := List.getElem_of_mem h
      exact absurd e (H.out j hj (by omega))
theorem contains_any (v : Value) (op : List ST) (p : Bool) (nm : ByteArray) (w : World) (hown : RowC w w.heap.size 2 v op.length (op.flatMap strC)) (hn : op.length ≤ 1048576) :
    Calls Try.prog 31 #[v, .agg #[.bool p, .string nm]] w fun e w' => ∃ b : Bool, e = .returned (.bool b) ∧ (b = true ↔ (p, nm) ∈ op) ∧ Below w.heap.size w w' := by
  have hb0 : Below w.heap.size w (w.alloc (.cells #[.bool p, .string nm] 81)) := (Below.refl _ w).alloc (Nat.le_refl _) _
  have HI := index_any v op p nm _ ((hown.below hb0).more hb0.size) hn
  obtain ⟨_, A, c, rfl, _⟩ := id hown
  replace HI := Lib.hid HI
  clear hown
  go_enter Try.func31, Try.ntmps31
  go_wp2_with fail
  refine HI.out.mono ?_
  rintro e w1 ⟨i, rfl, hi, hb1⟩
  have hB := hb0.trans (hb1.mono hb0.size)
  replace hi := Lib.hid hi
  go_wp2_with fail
  go_ret
  exact ⟨_, rfl, by rw [← hi.out]; simp, hB⟩
/-- What is opened, and what is written, at a place. -/
def kO (t : Int) : Int := if t = 2 then 2 else if t = 3 then 3 else if t = 4 then 4 else 0
def kP (t : Int) : Int := if t = 2 then 5 else if t = 3 then 5 else if t = 4 then 6 else 1
theorem kinds_any (t : Int) (w : World) (h : t = 1 ∨ t = 2 ∨ t = 3 ∨ t = 4) :
    Calls Try.prog 30 #[.int .i64 t] w fun e w' => e = .returned (.tuple #[.int .i64 (kO t), .int .i64 (kP t)]) ∧ w = w' := by
  rcases h with rfl | rfl | rfl | rfl
  all_goals
    go_enter Try.func30, Try.ntmps30
    go_wp2_with fail
    go_ret2
    exact ⟨rfl, rfl⟩

end Go.Proofs.Yticinbkgmfoeoaa
