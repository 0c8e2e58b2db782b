/- Kind, Get, Set, Array, Depth, Pop: walked. -/
import Derived.Test.YtbpaiocbgbpiaaaFrW5
namespace Go.Proofs.Ytbpaiocbgbpiaaa
open Go.RowKit
set_option linter.unusedVariables false
set_option linter.unusedSimpArgs false

theorem find_ptr {G : GH} {st st1 : FS} {i : Nat} {w : World} {nm : ByteArray} (h : FR XN G st w) (hok : OkF st) (hs : nm.size ≤ maxLen) (hn : st.sl.length < 9007199254740992) (hf : findS st nm = (st1, i)) :
    Calls Try.prog 29 #[.pointer (some ⟨G.F, 0, none⟩), .string nm] w fun e w' => ∃ (G' : GH) (b : Nat), e = .returned (.pointer (some ⟨b, 0, none⟩)) ∧ slP G'.sb i = .pointer (some ⟨b, 0, none⟩) ∧ FrGo G st1 w G' w' := by
  refine (find_any G st w nm h hok hs hn).mono ?_
  rintro e w' ⟨G', he, hg⟩
  rw [hf] at he hg
  exact ⟨G', G'.sb.getD i 0, he, rfl, hg⟩
theorem find_facts {st st1 : FS} {i : Nat} {nm : ByteArray} (hok : OkF st) (hf : findS st nm = (st1, i)) : OkF st1 ∧ i < st1.sl.length ∧ st1.n = st.n ∧ st1.ca = st.ca := by
  have := findS_ok hok nm
  rw [hf] at this
  exact this
/-- Behind a find and a look: what lies there. -/
theorem behind {G G1 : GH} {st1 : FS} {i b : Nat} {w w1 w2 : World} (hok1 : OkF st1) (hi : i < st1.sl.length) (hbp : slP G1.sb i = .pointer (some ⟨b, 0, none⟩)) (h1 : FrGo G st1 w G1 w1) (h2 : Seen G1 st1 i w1 w2) :
    FrGo G st1 w G1 w2 ∧ G1.sb[i]? = some b ∧ ∃ v, w2.heap[b]? = some (.cells (slC G1.sb v (slotS st1 i)) 83 (0, 0)) ∧ ∃ p, v = arP G1.ab p ∧ (p = 0 ∨ p = resA st1.sl i) ∧ ((slotS st1 i).arr ≠ 0 → p = (slotS st1 i).arr) := by
  have h3 := h1.trans (FrGo.seen h2)
  obtain ⟨b', v, hb', hbd, hv, hx⟩ := h2.fr.slot (slotS_get hi)
  unfold slP at hbp
  rw [hbd] at hbp
  cases hbp
  exact ⟨h3, hb', v, hv, hx (fun x => x)⟩

def KindAt (G : GH) (st : FS) (nm : ByteArray) (w : World) (e : Ending) (w' : World) : Prop := ∃ G', e = .returned (.int .i64 ((kindS st nm).2 : Int)) ∧ FrGo G (kindS st nm).1 w G' w'
set_option maxHeartbeats 8000000 in
theorem kind_any (G : GH) (st : FS) (w : World) (nm : ByteArray) (h : FR XN G st w) (hok : OkF st) (hs : nm.size ≤ maxLen) (hn : st.sl.length < 9007199254740992) :
    Calls Try.prog 10 #[.pointer (some ⟨G.F, 0, none⟩), .string nm] w (KindAt G st nm w) := by
  cases hf : findS st nm with
  | mk st1 i =>
  obtain ⟨hok1, hi1, _, _⟩ := find_facts hok hf
  have HFi := Lib.hid (find_ptr h hok hs hn hf)
  have hk : kindS st nm = (st1, if resA st1.sl i ≠ 0 then 2 else if (slotS st1 i).given = true then 1 else 0) := by unfold kindS; rw [hf]
  have HK := Lib.hid hk
  have HO := Lib.hid (And.intro hok1 hi1)
  clear h hok hf hok1 hi1 hk hn
  go_enter Try.func10, Try.ntmps10
  go_wp2_with fail
  refine HFi.out.mono ?_
  rintro e w1 ⟨G1, b, rfl, hbp, hg1⟩
  have hse := seen_any i G1 st1 w1 hg1.fr HO.out.1 HO.out.2
  rw [hbp] at hse
  have HSe := Lib.hid hse
  have HG1 := Lib.hid (And.intro hbp hg1)
  clear hse hbp hg1 HFi
  go_wp2_with fail
  refine HSe.out.mono ?_
  rintro e w2 ⟨rfl, hS⟩
  obtain ⟨g2, hb, v, hv, hx⟩ := behind HO.out.1 HO.out.2 HG1.out.1 HG1.out.2 hS
  obtain ⟨_, _, _, _, c4, _, _⟩ := sl_cells hv
  have HR := Lib.hid g2
  clear g2 hb hv hx hS HSe HG1
  cases hr : resA st1.sl i with
  | succ k =>
    have hk2 : kindS st nm = (st1, 2) := by rw [HK.out, hr]; simp
    have HK2 := Lib.hid hk2
    clear hk2 hr c4
    simp only [arP]
    generalize G1.ab.getD k 0 = g
    go_wp2_with fail
    go_ret
    exact ⟨G1, by rw [HK2.out]; rfl, by rw [HK2.out]; exact HR.out⟩
  | zero =>
    simp only [arP]
    cases hgv : (slotS st1 i).given with
    | true =>
      rw [hgv] at c4
      have hk2 : kindS st nm = (st1, 1) := by rw [HK.out, hr, hgv]; simp
      have HK2 := Lib.hid hk2
      clear hk2 hr hgv
      go_wp2_with fail
      go_ret
      exact ⟨G1, by rw [HK2.out]; rfl, by rw [HK2.out]; exact HR.out⟩
    | false =>
      rw [hgv] at c4
      have hk2 : kindS st nm = (st1, 0) := by rw [HK.out, hr, hgv]; simp
      have HK2 := Lib.hid hk2
      clear hk2 hr hgv
      go_wp2_with fail
      go_ret
      exact ⟨G1, by rw [HK2.out]; rfl, by rw [HK2.out]; exact HR.out⟩

set_option maxHeartbeats 8000000 in
theorem bec_old {b g : Nat} {w : World} (h : w.cell? ⟨b, 0, none⟩ = some (.pointer (some ⟨g, 0, none⟩))) :
    Calls Try.prog 31 #[.pointer (some ⟨b, 0, none⟩)] w fun e w' => e = .returned (.pointer (some ⟨g, 0, none⟩)) ∧ w' = w := by
  go_enter Try.func31, Try.ntmps31
  go_wp2_with fail
  go_ret
  exact ⟨rfl, rfl⟩
def ArrAt (G : GH) (st : FS) (nm : ByteArray) (w : World) (e : Ending) (w' : World) : Prop := ∃ G', e = .returned (.tuple #[arP G'.ab (arrS st nm).2.1, .int .i64 ((arrS st nm).2.2 : Int)]) ∧ FrGo G (arrS st nm).1 w G' w'
set_option maxHeartbeats 8000000 in
theorem array_any (G : GH) (st : FS) (w : World) (nm : ByteArray) (h : FR XN G st w) (hok : OkF st) (hs : nm.size ≤ maxLen) (hn : st.sl.length < 9007199254740992) :
    Calls Try.prog 14 #[.pointer (some ⟨G.F, 0, none⟩), .string nm] w (ArrAt G st nm w) := by
  cases hf : findS st nm with
  | mk st1 i =>
  obtain ⟨hok1, hi1, _, _⟩ := find_facts hok hf
  have HFi := Lib.hid (find_ptr h hok hs hn hf)
  have hk : arrS st nm = (if (slotS st1 i).given = true then (st1, 0, 80) else if resA st1.sl i ≠ 0 then (st1, resA st1.sl i, 0) else (becS st1 i, st1.n + 1, 0)) := by unfold arrS; rw [hf]
  have HK := Lib.hid hk
  have HO := Lib.hid (And.intro hok1 hi1)
  clear h hok hf hok1 hi1 hk hn
  go_enter Try.func14, Try.ntmps14
  go_wp2_with fail
  refine HFi.out.mono ?_
  rintro e w1 ⟨G1, b, rfl, hbp, hg1⟩
  have hse := seen_any i G1 st1 w1 hg1.fr HO.out.1 HO.out.2
  rw [hbp] at hse
  have HSe := Lib.hid hse
  obtain ⟨b', v0, hb', hbd, hv0, _⟩ := hg1.fr.slot (slotS_get HO.out.2)
  obtain rfl : b' = b := by
    have := hbp
    unfold slP at this
    rw [hbd] at this
    cases this; rfl
  obtain ⟨_, _, _, _, c4, _, _⟩ := sl_cells hv0
  have HG1 := Lib.hid (And.intro hbp hg1)
  clear hse hbp hg1 HFi hv0 hb' hbd
  cases hgv : (slotS st1 i).given with
  | true =>
    rw [hgv] at c4
    have hk2 : arrS st nm = (st1, 0, 80) := by rw [HK.out, hgv]; simp
    have HK2 := Lib.hid hk2
    clear hk2 hgv
    go_wp2_with fail
    go_ret2
    exact ⟨G1, by rw [HK2.out]; rfl, by rw [HK2.out]; exact HG1.out.2⟩
  | false =>
    rw [hgv] at c4
    go_wp2_with fail
    refine HSe.out.mono ?_
    rintro e w2 ⟨rfl, hS⟩
    obtain ⟨g2, hb, v, hv, p, rfl, hp1, hp2⟩ := behind HO.out.1 HO.out.2 HG1.out.1 HG1.out.2 hS
    cases hr : resA st1.sl i with
    | succ k =>
      have k0 := hS.c0 _ hb
      rw [hr] at k0
      simp only [arP] at k0
      have hk2 : arrS st nm = (st1, k + 1, 0) := by rw [HK.out, hgv, hr]; simp
      have HB := Lib.hid (bec_old k0)
      have HK2 := Lib.hid hk2
      have HR := Lib.hid g2
      clear hk2 hS g2 hb hv hp1 hp2 hr hgv HSe c4 k0
      go_wp2_with fail
      refine HB.out.mono ?_
      rintro e w3 ⟨rfl, hw3⟩
      obtain rfl : w2 = w3 := hw3.symm
      go_wp2_with fail
      go_ret2
      exact ⟨G1, by rw [HK2.out]; rfl, by rw [HK2.out]; exact HR.out⟩
    | zero =>
      have hbe := become_any i XN G1 st1 w2 hS.fr HO.out.1 HO.out.2 (fun _ x => x.elim) hr hgv
      rw [HG1.out.1] at hbe
      have HB := Lib.hid hbe
      have hk2 : arrS st nm = (becS st1 i, st1.n + 1, 0) := by rw [HK.out, hgv, hr]; simp
      have HK2 := Lib.hid hk2
      have HR := Lib.hid (And.intro g2 hS.fr.al)
      clear hbe hk2 hS g2 hb hv hp1 hp2 hr hgv HSe c4
      go_wp2_with fail
      refine HB.out.mono ?_
      rintro e w3 ⟨ba, mb, rfl, hB⟩
      have HB3 := Lib.hid (HR.out.1.trans (FrGo.became hB))
      clear hB HB
      go_wp2_with fail
      go_ret2
      exact ⟨G1.arr ba mb, by rw [HK2.out]; dsimp only; rw [← HR.out.2]; simp only [GH.arr]; rw [arP_last]; rfl, by rw [HK2.out]; exact HB3.out⟩

end Go.Proofs.Ytbpaiocbgbpiaaa
