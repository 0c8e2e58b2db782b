/- The document's calls: Kind, Get, Set, Array, Pop, walked. -/
import Derived.Test.YtbpaiocbgbpiaaaDfD
import Derived.Test.YtbpaiocbgbpiaaaDfF
import Derived.Test.YtbpaiocbgbpiaaaFrW7
namespace Go.Proofs.Ytbpaiocbgbpiaaa
open Go.RowKit
set_option linter.unusedVariables false
set_option linter.unusedSimpArgs false

theorem find_facts2 {st st1 : FS} {i : Nat} {nm : ByteArray} (hf : findS st nm = (st1, i)) : st1.sl.length ≤ st.sl.length + 1 := by
  have := findS_len st nm
  rw [hf] at this
  exact this.2
theorem D.below {m : Nat} {st : FS} {w w' : World} (h : D m st w) (hb : Below w.heap.size w w') : D m st w' := by
  obtain ⟨_, _, _, _, _, _, _, h⟩ := h
  exact ⟨_, _, _, _, _, _, _, h.below hb⟩
/-- The answer of a call on the document's frames. -/
def DAt (m : Nat) (v : Value) (st' : FS) (w : World) (e : Ending) (w' : World) : Prop := e = .returned v ∧ D m st' w' ∧ Turn w w' (DT m w)
/-- A block of another kind stands. -/
theorem DT.stands {m : Nat} {w w' : World} (h : Turn w w' (DT m w)) {j : Nat} {cs : Array Value} {T : TypeId} (hj : w.heap[j]? = some (.cells cs T (0, 0))) (h1 : T ≠ 60) (h2 : T ≠ 93) : w'.heap[j]? = some (.cells cs T (0, 0)) := by
  refine (h.block j (Array.getElem?_eq_some_iff.1 hj).1 fun x => ?_).trans hj
  rcases x.2 with ⟨c, x⟩ | ⟨c, x⟩
  · rw [hj] at x; simp at x; exact h1 x.2
  · rw [hj] at x; simp at x; exact h2 x.2

set_option maxRecDepth 20000 in
set_option maxHeartbeats 16000000 in
theorem kind24_any (m : Nat) (st : FS) (nm : ByteArray) (w : World) (hD0 : D m st w) (hok : OkF st) (hl : st.sl.length ≤ 399999999) (hc : st.ca.length ≤ 1000) :
    Calls Try.prog 26 #[.pointer (some ⟨m, 0, none⟩), .string nm] w (DAt m (.int .i64 ((kindS st nm).2 : Int)) (kindS st nm).1 w) := by
  have HF := Lib.hid (find24_any m st nm w hD0 hok (by omega) hc)
  unfold Found at HF
  cases hf : findS st nm with
  | mk st1 i =>
  rw [hf] at HF
  dsimp only at HF
  obtain ⟨hok1, hi1, _, _⟩ := find_facts hok hf
  have hl2 := find_facts2 hf
  have hk : kindS st nm = (st1, if resA st1.sl i ≠ 0 then 2 else if (slotS st1 i).given = true then 1 else 0) := by unfold kindS; rw [hf]
  have HK := Lib.hid hk
  have HO := Lib.hid (And.intro hok1 (And.intro hi1 (And.intro (slotS_get hi1) (show st1.sl.length ≤ 400000000 by omega))))
  have hi0 : (0 : Int) ≤ (i : Int) := by omega
  have hi2 : (i : Int) < (st1.sl.length : Int) := by omega
  have hl1 : (st1.sl.length : Int) ≤ 400000000 := by omega
  clear hD0 hok hf hok1 hi1 hk hl hl2 hc
  go_enter Try.func26, Try.ntmps26
  go_wp2_with fail
  refine HF.out.mono ?_
  rintro e w1 ⟨rfl, ⟨vS, vGN, vGS, vC, ps, gp, cp, h1⟩, ht1⟩
  have HS := Lib.hid (seen24_any m i vS vGN vGS vC ps gp cp st1 w1 h1 HO.out.1 HO.out.2.1 HO.out.2.2.2)
  clear h1 HF
  go_wp2_with fail
  refine HS.out.mono ?_
  rintro e w2 ⟨rfl, ⟨ps2, h2⟩, ht2⟩
  obtain ⟨d0, _, _, _, _, _⟩ := h2.cells
  obtain ⟨p2, hp2, _, _⟩ := h2.arrAt HO.out.2.2.1
  obtain ⟨g, cap, rfl, _, _, _, hcells, _⟩ := h2.slot HO.out.2.2.1 hp2
  obtain ⟨_, _, _, k3, _, _⟩ := sl24_at hcells
  have HR := Lib.hid (show D m st1 w2 ∧ Turn w w2 (DT m w) from ⟨⟨_, _, _, _, _, _, _, h2⟩, DT.trans ht1 ht2⟩)
  clear h2 ht1 ht2 hp2 hcells HS
  cases hr : resA st1.sl i with
  | succ k =>
    have HK2 := Lib.hid (show kindS st nm = (st1, 2) by rw [HK.out, hr]; simp)
    have hk0 : (0 : Int) < ((k + 1 : Nat) : Int) := by omega
    generalize k + 1 = q at hk0
    clear hr
    go_wp2_with fail
    go_ret
    unfold DAt
    rw [HK2.out]
    exact ⟨rfl, HR.out⟩
  | zero =>
    cases hg : (slotS st1 i).given with
    | true =>
      have HK2 := Lib.hid (show kindS st nm = (st1, 1) by rw [HK.out, hr, hg]; simp)
      rw [hg] at k3
      clear hr hg
      go_wp2_with fail
      go_ret
      unfold DAt
      rw [HK2.out]
      exact ⟨rfl, HR.out⟩
    | false =>
      have HK2 := Lib.hid (show kindS st nm = (st1, 0) by rw [HK.out, hr, hg]; simp)
      rw [hg] at k3
      clear hr hg
      go_wp2_with fail
      go_ret
      unfold DAt
      rw [HK2.out]
      exact ⟨rfl, HR.out⟩

set_option maxRecDepth 20000 in
set_option maxHeartbeats 16000000 in
theorem array24_any (m : Nat) (st : FS) (nm : ByteArray) (w : World) (hD0 : D m st w) (hok : OkF st) (hl : st.sl.length ≤ 399999999) (hc : st.ca.length ≤ 1000) (hn : st.n ≤ 400000000) :
    Calls Try.prog 23 #[.pointer (some ⟨m, 0, none⟩), .string nm] w (DAt m (.tuple #[.int .i64 ((arrS st nm).2.1 : Int), .int .i64 ((arrS st nm).2.2 : Int)]) (arrS st nm).1 w) := by
  have HF := Lib.hid (find24_any m st nm w hD0 hok (by omega) hc)
  unfold Found at HF
  cases hf : findS st nm with
  | mk st1 i =>
  rw [hf] at HF
  dsimp only at HF
  obtain ⟨hok1, hi1, hn1, _⟩ := find_facts hok hf
  have hl2 := find_facts2 hf
  have hk : arrS st nm = (if (slotS st1 i).given = true then (st1, 0, 80) else if resA st1.sl i ≠ 0 then (st1, resA st1.sl i, 0) else (becS st1 i, st1.n + 1, 0)) := by unfold arrS; rw [hf]
  have HK := Lib.hid hk
  have HO := Lib.hid (And.intro hok1 (And.intro hi1 (And.intro (slotS_get hi1) (And.intro (show st1.sl.length ≤ 400000000 by omega) (show st1.n ≤ 400000000 by omega)))))
  have hi0 : (0 : Int) ≤ (i : Int) := by omega
  have hi2 : (i : Int) < (st1.sl.length : Int) := by omega
  have hl1 : (st1.sl.length : Int) ≤ 400000000 := by omega
  clear hD0 hok hf hok1 hi1 hk hl hl2 hc hn hn1
  go_enter Try.func23, Try.ntmps23
  go_wp2_with fail
  refine HF.out.mono ?_
  rintro e w1 ⟨rfl, ⟨vS, vGN, vGS, vC, ps, gp, cp, h1⟩, ht1⟩
  obtain ⟨d0, _, _, _, _, _⟩ := h1.cells
  obtain ⟨p2, hp2, _, _⟩ := h1.arrAt HO.out.2.2.1
  obtain ⟨g, cap, rfl, _, _, _, hcells, _⟩ := h1.slot HO.out.2.2.1 hp2
  obtain ⟨_, _, _, k3, _, _⟩ := sl24_at hcells
  have HR := Lib.hid (show DF m _ vGN vGS vC ps gp cp st1 w1 ∧ Turn w w1 (DT m w) from ⟨h1, ht1⟩)
  clear h1 ht1 hp2 hcells HF
  cases hg : (slotS st1 i).given with
  | true =>
    have HK2 := Lib.hid (show arrS st nm = (st1, 0, 80) by rw [HK.out, hg]; simp)
    rw [hg] at k3
    clear hg
    go_wp2_with fail
    go_ret2
    unfold DAt
    rw [HK2.out]
    exact ⟨rfl, ⟨_, _, _, _, _, _, _, HR.out.1⟩, HR.out.2⟩
  | false =>
    have HB := Lib.hid (become24_any m i _ _ _ _ _ _ _ st1 w1 HR.out.1 HO.out.1 HO.out.2.1 HO.out.2.2.2.1 HO.out.2.2.2.2 hg)
    unfold BecAt at HB
    have HK2 := Lib.hid (show arrS st nm = (if resA st1.sl i ≠ 0 then (st1, resA st1.sl i, 0) else (becS st1 i, st1.n + 1, 0)) by rw [HK.out, hg]; simp)
    rw [hg] at k3
    clear hg
    go_wp2_with fail
    refine HB.out.mono ?_
    rintro e w2 ⟨rfl, ⟨ps2, h2⟩, ht2⟩
    have H2 := Lib.hid (show _ ∧ Turn w w2 (DT m w) from ⟨h2, DT.trans HR.out.2 ht2⟩)
    clear h2 ht2 HB
    by_cases hr : resA st1.sl i ≠ 0
    · have HR0 := Lib.hid hr
      rw [if_pos hr]
      clear hr
      go_wp2_with fail
      go_ret2
      unfold DAt
      rw [HK2.out, if_pos HR0.out]
      obtain ⟨h2, ht2⟩ := H2.out
      rw [if_pos HR0.out] at h2
      exact ⟨rfl, ⟨_, _, _, _, _, _, _, h2⟩, ht2⟩
    · have HR0 := Lib.hid hr
      rw [if_neg hr]
      clear hr
      go_wp2_with fail
      go_ret2
      unfold DAt
      rw [HK2.out, if_neg HR0.out]
      obtain ⟨h2, ht2⟩ := H2.out
      rw [if_neg HR0.out] at h2
      exact ⟨rfl, ⟨_, _, _, _, _, _, _, h2⟩, ht2⟩
end Go.Proofs.Ytbpaiocbgbpiaaa
