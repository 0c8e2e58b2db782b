/- Is a name among them?; all but one: walked. -/
import Derived.Test.YticinbkgmfoeoaaFullP
namespace Go.Proofs.Yticinbkgmfoeoaa
open Go.RowKit
set_option linter.unusedVariables false

theorem str_lies {w : World} {A : Option Addr} {c : Nat} {l : List ByteArray} (h : RowA w 1 (.slice A l.length c) l.length (l.map Value.string)) {i : Nat} (hi : i < l.length) : ∃ b off, A = some ⟨b, off, none⟩ ∧ w.cell? ⟨b, off + i, none⟩ = some (.string l[i]) := by
  obtain ⟨b, off, rfl, _, h2⟩ := h.at (by simp; omega)
  exact ⟨b, off, rfl, h2 i _ (by simp [hi])⟩
def hasB (l : List ByteArray) (s : ByteArray) : Bool := l.any fun x => decide (x = s)
theorem hasB_iff {l : List ByteArray} {s : ByteArray} : hasB l s = true ↔ s ∈ l := by simp [hasB]
theorem RowA.of_own {w : World} {base : Nat} {e : TypeId} {s : Nat} {v : Value} {n : Nat} {xs : List Value} (h : w.ownsRow base e s v n xs) : RowA w s v n xs := (RowC.of_own h).a

set_option maxHeartbeats 4000000 in
theorem has_any (A : Option Addr) (c : Nat) (l : List ByteArray) (nm : ByteArray) (w : World) (hr : RowA w 1 (.slice A l.length c) l.length (l.map Value.string)) (hl : l.length ≤ 1048576) :
    Calls Try.prog 14 #[.slice A l.length c, .string nm] w fun e w' => e = .returned (.bool (hasB l nm)) ∧ w' = w := by
  have HR := Lib.hid hr
  clear hr
  generalize hres : hasB l nm = res
  have HD := Lib.hid hres
  clear hres
  go_enter Try.func14, Try.ntmps14
  go_wp2_with fail
  go_loopw [9] (fun v9 wr => ∃ i : Nat, v9 = .int .i64 (i : Int) ∧ i ≤ l.length ∧ nm ∉ l.take i ∧ wr = w) (fun v9 _ => l.length - (intOf v9).toNat)
  case atStart => exact ⟨0, rfl, Nat.zero_le _, by simp, rfl⟩
  case round =>
    obtain ⟨i, rfl, hi, hno, rfl⟩ := hrel
    by_cases hlt : i < l.length
    · have i1 : (i : Int) < (l.length : Int) := by omega
      have i0 : (0 : Int) ≤ (i : Int) := by omega
      obtain ⟨b, off, rfl, d0⟩ := str_lies HR.out hlt
      have htk : l.take (i + 1) = l.take i ++ [l[i]] := List.take_succ_eq_append_getElem hlt
      have hmem : l[i] ∈ l := List.getElem_mem hlt
      generalize l[i] = x at *
      by_cases hx : x = nm
      · subst hx
        have hD := HD.out
        rw [hasB_iff.2 hmem] at hD
        subst hD
        clear htk hmem hno
        go_wp2_with fail
        go_ret
        exact ⟨rfl, rfl⟩
      · have hne := str_ne hx
        have HX := Lib.hid (And.intro htk (And.intro hno hx))
        clear htk hmem hno hx
        go_wp2_with fail
        go_roundw
        case rel =>
          obtain ⟨htk, hno, hx⟩ := HX.out
          refine ⟨i + 1, by go_num, by omega, ?_, trivial⟩
          rw [htk]
          simp only [List.mem_append, List.mem_singleton]
          rintro (h | h)
          · exact hno h
          · exact hx h.symm
        case measure => simp [intOf]; omega
    · obtain rfl : i = l.length := by omega
      rw [List.take_length] at hno
      have hD := HD.out
      rw [Bool.eq_false_iff.2 (fun h => hno (hasB_iff.1 h))] at hD
      subst hD
      clear hno
      go_wp2_with fail
      go_ret
      exact ⟨rfl, rfl⟩

theorem lessF_snoc (l : List ByteArray) (x s : ByteArray) : lessF (l ++ [x]) s = if x = s then lessF l s else lessF l s ++ [x] := by
  unfold lessF
  by_cases h : x = s <;> simp [h]
theorem lessF_len (l : List ByteArray) (s : ByteArray) : (lessF l s).length ≤ l.length := List.length_filter_le _ _

set_option maxHeartbeats 8000000 in
theorem without_any (A : Option Addr) (c : Nat) (l : List ByteArray) (nm : ByteArray) (w : World) (hr : RowA w 1 (.slice A l.length c) l.length (l.map Value.string)) (hl : l.length ≤ 1048576) :
    Calls Try.prog 15 #[.slice A l.length c, .string nm] w fun e w' => ∃ v, e = .returned v ∧ w'.ownsRow w.heap.size 9 1 v (lessF l nm).length ((lessF l nm).map Value.string) ∧ Below w.heap.size w w' := by
  have HR := Lib.hid hr
  clear hr
  go_enter Try.func15, Try.ntmps15
  go_wp2_with fail
  go_loopw [5, 10] (fun v5 v10 wr => ∃ i : Nat, v10 = .int .i64 (i : Int) ∧ i ≤ l.length ∧ wr.ownsRow w.heap.size 9 1 v5 (lessF (l.take i) nm).length ((lessF (l.take i) nm).map Value.string) ∧ Below w.heap.size w wr) (fun _ v10 _ => l.length - (intOf v10).toNat)
  case atStart => exact ⟨0, rfl, Nat.zero_le _, own_none _ _ _, Below.refl _ _⟩
  case round =>
    obtain ⟨i, rfl, hi, hown, hb⟩ := hrel
    by_cases hlt : i < l.length
    · have i1 : (i : Int) < (l.length : Int) := by omega
      have i0 : (0 : Int) ≤ (i : Int) := by omega
      obtain ⟨b, off, rfl, d0⟩ := str_lies HR.out hlt
      replace d0 := (hb.cell (lt_of_cell d0)).trans d0
      have htk : l.take (i + 1) = l.take i ++ [l[i]] := List.take_succ_eq_append_getElem hlt
      generalize l[i] = x at *
      have hk := lessF_len (l.take i) nm
      rw [List.length_take] at hk
      have hs := lessF_snoc (l.take i) x nm
      rw [← htk] at hs
      clear htk
      by_cases hx : x = nm
      · subst hx
        rw [if_pos rfl] at hs
        have HX := Lib.hid (And.intro hs (And.intro hown hb))
        clear hs hown hb hk
        go_wp2_with fail
        go_roundw
        case rel =>
          obtain ⟨hs, hown, hb⟩ := HX.out
          exact ⟨i + 1, by go_num, by omega, by rw [hs]; exact hown, hb⟩
        case measure => simp [intOf]; omega
      · have hne := str_ne hx
        rw [if_neg hx] at hs
        generalize lessF (l.take i) nm = k at *
        have hkl : k.length ≤ 1048576 := by omega
        have hsz := hb.size
        obtain ⟨A5, c5, rfl⟩ := own_shape hown
        have HX := Lib.hid (And.intro hs (And.intro hown hb))
        clear hs hb hk hx
        go_wp2_with (at_builtin; refine wpList_appendS 23 9 (.tmp 17) (.tmp 19) rfl rfl w.heap.size Try.underlying23 strn_info rfl (by decide) rfl hown rfl rfl rfl (by intro u hu; simp only [List.mem_cons, List.not_mem_nil, or_false] at hu; rcases hu with rfl; rfl) (by unfold maxLen; omega) (by omega) hsz ?_; intro v' w' hown' hgrow _; obtain ⟨A', c', rfl⟩ := own_shape hown')
        obtain ⟨hs, hown0, hb⟩ := HX.out
        refine ⟨⟨i + 1, by go_num, by omega, ?_, ?_⟩, by simp [intOf]; omega⟩
        · rw [hs, List.map_append, List.length_append]; exact hown'
        · exact (Turn.of_below hb _).trans (Turn.of_grown hgrow) (fun j x => x) (fun j _ x => x) |>.below (Nat.le_refl _) (fun j hj => (hown0.lt j hj).1)
    · obtain rfl : i = l.length := by omega
      rw [List.take_length] at hown
      go_wp2_with fail
      go_ret
      exact ⟨_, rfl, hown, hb⟩

end Go.Proofs.Yticinbkgmfoeoaa
