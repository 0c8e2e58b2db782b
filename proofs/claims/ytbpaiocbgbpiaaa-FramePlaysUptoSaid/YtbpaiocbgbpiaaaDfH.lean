/- The document's calls: Get, Set, Pop, walked. -/
import Derived.Test.YtbpaiocbgbpiaaaDfG
import Derived.StillTailTactics
import Derived.IntWalk
namespace Go.Proofs.Ytbpaiocbgbpiaaa
open Go.RowKit
set_option linter.unusedVariables false
set_option linter.unusedSimpArgs false

theorem D.turn {m : Nat} {st : FS} {w w' : World} {X : Nat → Prop} (h : D m st w) (ht : Turn w w' X)
    (hX : ∀ j cs T, X j → w.heap[j]? = some (.cells cs T (0, 0)) → T ≠ 60 ∧ T ≠ 93 ∧ T ≠ 56 ∧ T ≠ 9 ∧ T ≠ 3) : D m st w' := by
  obtain ⟨_, _, _, _, _, _, _, h⟩ := h
  exact ⟨_, _, _, _, _, _, _, h.turn ht hX⟩
theorem turn3b {w w1 : World} {B : Nat} {y0 y1 y2 : Value} {X : Nat → Prop} (h : Turn w w1 X) (hB : w.heap.size ≤ B) : Turn w (((w1.setCell ⟨B, 0, none⟩ y0).setCell ⟨B, 1, none⟩ y1).setCell ⟨B, 2, none⟩ y2) X :=
  ((h.setCell _ _ (fun e => absurd e (Nat.not_lt.2 hB))).setCell _ _ (fun e => absurd e (Nat.not_lt.2 hB))).setCell _ _ (fun e => absurd e (Nat.not_lt.2 hB))
/-- A call that made a box first, and wrote into it at the end. -/
theorem boxed24 {m : Nat} {st : FS} {w wA w2 : World} {B : Nat} {cs : Array Value} (hbA : Below w.heap.size w wA) (ht : Turn wA w2 (DT m wA)) (hD : D m st w2) (hB : w.heap.size ≤ B) (hBd : w2.heap[B]? = some (.cells cs 32 (0, 0))) (y0 y1 y2 : Value) :
    D m st (((w2.setCell ⟨B, 0, none⟩ y0).setCell ⟨B, 1, none⟩ y1).setCell ⟨B, 2, none⟩ y2) ∧ Turn w (((w2.setCell ⟨B, 0, none⟩ y0).setCell ⟨B, 1, none⟩ y1).setCell ⟨B, 2, none⟩ y2) (DT m w) := by
  refine ⟨hD.turn (turn3 (X := fun j => j = B) rfl) fun j c T e hj => ?_, turn3b (DT.trans (Turn.of_below hbA _) ht) hB⟩
  subst e
  rw [hBd] at hj
  simp at hj
  obtain ⟨_, rfl⟩ := hj
  decide

set_option maxRecDepth 20000 in
set_option maxHeartbeats 16000000 in
theorem get24_any (m : Nat) (st : FS) (nm : ByteArray) (w : World) (hD0 : D m st w) (hok : OkF st) (hl : st.sl.length ≤ 399999999) (hc : st.ca.length ≤ 1000) :
    Calls Try.prog 20 #[.pointer (some ⟨m, 0, none⟩), .string nm] w (DAt m (.tuple #[cellV (getS st nm).2.1, .int .i64 ((getS st nm).2.2 : Int)]) (getS st nm).1 w) := by
  have hb0 : Below w.heap.size w (w.alloc (.cells #[.int .i64 0, .float .f64 0, .string ⟨#[]⟩] 32)) := (Below.refl _ w).alloc (Nat.le_refl _) _
  have hbx : (w.alloc (.cells #[.int .i64 0, .float .f64 0, .string ⟨#[]⟩] 32)).heap[w.heap.size]? = some (.cells #[.int .i64 0, .float .f64 0, .string ⟨#[]⟩] 32 (0, 0)) := heap_alloc_new _ _
  have HF := Lib.hid (find24_any m st nm _ (hD0.below hb0) hok (by omega) hc)
  unfold Found at HF
  cases hf : findS st nm with
  | mk st1 i =>
  rw [hf] at HF
  dsimp only at HF
  obtain ⟨hok1, hi1, _, _⟩ := find_facts hok hf
  have hl2 := find_facts2 hf
  have hk : getS st nm = (if resA st1.sl i ≠ 0 then (st1, noCell, 80) else (st1, (slotS st1 i).val, 0)) := by unfold getS; rw [hf]
  have HK := Lib.hid hk
  have HO := Lib.hid (And.intro hok1 (And.intro hi1 (And.intro (slotS_get hi1) (show st1.sl.length ≤ 400000000 by omega))))
  have HB := Lib.hid (And.intro hb0 hbx)
  have hi0 : (0 : Int) ≤ (i : Int) := by omega
  have hi2 : (i : Int) < (st1.sl.length : Int) := by omega
  have hl1 : (st1.sl.length : Int) ≤ 400000000 := by omega
  clear hD0 hok hf hok1 hi1 hk hl hl2 hc hb0 hbx
  go_enter Try.func20, Try.ntmps20
  go_wp2_with fail
  refine HF.out.mono ?_
  rintro e w1 ⟨rfl, ⟨vS, vGN, vGS, vC, ps, gp, cp, h1⟩, ht1⟩
  have HS := Lib.hid (seen24_any m i vS vGN vGS vC ps gp cp st1 w1 h1 HO.out.1 HO.out.2.1 HO.out.2.2.2)
  have H1 := Lib.hid ht1
  clear h1 HF ht1
  go_wp2_with fail
  refine HS.out.mono ?_
  rintro e w2 ⟨rfl, ⟨ps2, h2⟩, ht2⟩
  obtain ⟨d0, _, _, _, _, _⟩ := h2.cells
  obtain ⟨p2, hp2, _, _⟩ := h2.arrAt HO.out.2.2.1
  obtain ⟨g, cap, rfl, hrow, _, _, hcells, _⟩ := h2.slot HO.out.2.2.1 hp2
  obtain ⟨k0, k1, k2, k3, _, _⟩ := sl24_at hcells
  have hst := DT.stands ht2 (DT.stands H1.out HB.out.2 (by decide) (by decide)) (by decide) (by decide)
  have n0 : w2.cell? ⟨w.heap.size, 0, none⟩ = some (.int .i64 0) := cell_of_row w2 _ 0 _ _ _ hst
  have n1 : w2.cell? ⟨w.heap.size, 1, none⟩ = some (.float .f64 0) := cell_of_row w2 _ 1 _ _ _ hst
  have n2 : w2.cell? ⟨w.heap.size, 2, none⟩ = some (.string ⟨#[]⟩) := cell_of_row w2 _ 2 _ _ _ hst
  have f0 := frozen_of_row w2 w.heap.size 0 _ _ hst
  have f1 := frozen_of_row w2 w.heap.size 1 _ _ hst
  have f2 := frozen_of_row w2 w.heap.size 2 _ _ hst
  have hne : g ≠ w.heap.size := fun e => by
    obtain ⟨c, hc⟩ := own_obj hrow (j := g) rfl
    rw [e, hst] at hc
    simp at hc
  have HST := Lib.hid hst
  have HR := Lib.hid (fun y0 y1 y2 => boxed24 HB.out.1 (DT.trans H1.out ht2) ⟨_, _, _, _, _, _, _, h2⟩ (Nat.le_refl _) hst y0 y1 y2)
  clear h2 ht2 hp2 hcells HS hrow hst
  cases hr : resA st1.sl i with
  | succ k =>
    have HK2 := Lib.hid (show getS st nm = (st1, noCell, 80) by rw [HK.out, hr]; simp)
    have hk0 : (0 : Int) < ((k + 1 : Nat) : Int) := by omega
    generalize k + 1 = q at hk0
    clear hr k0 k1 k2
    go_wp2_with fail
    refine bodyPost_ret (results_cell_row2 rfl _ _ w.heap.size 32 #[.int .i64 0, .float .f64 0, .string ⟨#[]⟩] (0, 0) _ rfl (cells3 HST.out) Try.underlying32 rfl (by kernel_rfl) rfl) rfl ?_
    unfold DAt
    rw [HK2.out]
    exact ⟨rfl, HR.out _ _ _⟩
  | zero =>
    have HK2 := Lib.hid (show getS st nm = (st1, (slotS st1 i).val, 0) by rw [HK.out, hr]; simp)
    clear hr
    generalize (slotS st1 i).val = c at *
    obtain ⟨x, y, z⟩ := c
    dsimp only at k0 k1 k2
    go_wp2_with fail
    refine bodyPost_ret (results_cell_row2 rfl _ _ w.heap.size 32 #[.int .i64 x, .float .f64 y, .string z] (0, 0) _ rfl (cells3 HST.out) Try.underlying32 rfl (by kernel_rfl) rfl) rfl ?_
    unfold DAt
    rw [HK2.out]
    exact ⟨rfl, HR.out _ _ _⟩

/-! ### a value -/
theorem slots4 {sl : List SM} {ps : List Nat} {i p : Nat} {s : SM} (hs : sl[i]? = some s) (hp : ps[i]? = some p) (c : CellT) :
    ((((slsV sl ps).set (i * 6 + 0) (.int .i64 c.1)).set (i * 6 + 1) (.float .f64 c.2.1)).set (i * 6 + 2) (.string c.2.2)).set (i * 6 + 3) (.bool true) = slsV (sl.set i ⟨s.arr, c, true, s.frm⟩) ps := by
  have hi := (List.getElem?_eq_some_iff.1 hs).1
  have e0 := set_self hp
  have hg : ∀ x : SM, (sl.set i x)[i]? = some x := fun x => List.getElem?_set_self hi
  rw [slsV_set (s' := ⟨s.arr, (c.1, s.val.2.1, s.val.2.2), s.given, s.frm⟩) (p' := p) hs hp (by omega) rfl, e0,
    slsV_set (s' := ⟨s.arr, (c.1, c.2.1, s.val.2.2), s.given, s.frm⟩) (p' := p) (hg _) hp (by omega) rfl, e0, List.set_set,
    slsV_set (s' := ⟨s.arr, c, s.given, s.frm⟩) (p' := p) (hg _) hp (by omega) rfl, e0, List.set_set,
    slsV_set (s' := ⟨s.arr, c, true, s.frm⟩) (p' := p) (hg _) hp (by omega) rfl, e0, List.set_set]
theorem DF.valued {m : Nat} {vS vGN vGS vC : Value} {ps : List Nat} {gp : List (ByteArray × Nat)} {cp : List CallT} {st : FS} {w : World} {i : Nat} (h : DF m vS vGN vGS vC ps gp cp st w) (hok : OkF st) (hi : i < st.sl.length) (hr : resA st.sl i = 0) {g cap : Nat} (hv : vS = .slice (some ⟨g, 0, none⟩) st.sl.length cap) (hgm : g ≠ m) (c : CellT) :
    D m (valS st i c) ((((w.setCell ⟨g, i * 6, none⟩ (.int .i64 c.1)).setCell ⟨g, i * 6 + 1, none⟩ (.float .f64 c.2.1)).setCell ⟨g, i * 6 + 2, none⟩ (.string c.2.2)).setCell ⟨g, i * 6 + 3, none⟩ (.bool true)) ∧
    Turn w ((((w.setCell ⟨g, i * 6, none⟩ (.int .i64 c.1)).setCell ⟨g, i * 6 + 1, none⟩ (.float .f64 c.2.1)).setCell ⟨g, i * 6 + 2, none⟩ (.string c.2.2)).setCell ⟨g, i * 6 + 3, none⟩ (.bool true)) (DT m w) := by
  have hs := slotS_get hi
  have hval : valS st i c = ⟨st.sl.set i ⟨(slotS st i).arr, c, true, (slotS st i).frm⟩, st.gl, st.ca, st.n⟩ := rfl
  generalize slotS st i = s at hs hval
  obtain ⟨p, hp, _⟩ := h.arrAt hs
  subst hv
  have h1 : w.ownsRow 0 93 6 (.slice (some ⟨g, 0, none⟩) st.sl.length cap) st.sl.length (slsV st.sl ps) := by
    rcases h.sl with h1 | ⟨h1, _⟩
    · exact h1
    · omega
  have hF1 := (h1.stored (i * 6 + 0) (.int .i64 c.1)).1
  rw [Nat.add_zero] at hF1
  have hF2 := (hF1.stored (i * 6 + 1) (.float .f64 c.2.1)).1
  have hF3 := (hF2.stored (i * 6 + 2) (.string c.2.2)).1
  have hF := (hF3.stored (i * 6 + 3) (.bool true)).1
  have h4 := slots4 hs hp c
  rw [Nat.add_zero] at h4
  rw [h4] at hF
  have ht1 : Turn w (w.setCell ⟨g, i * 6, none⟩ (.int .i64 c.1)) (fun j => j = g) := (Turn.refl w _).setCell _ _ (fun _ => rfl)
  have ht2 := ht1.setCell ⟨g, i * 6 + 1, none⟩ (.float .f64 c.2.1) (fun _ => rfl)
  have ht3 := ht2.setCell ⟨g, i * 6 + 2, none⟩ (.string c.2.2) (fun _ => rfl)
  have ht := ht3.setCell ⟨g, i * 6 + 3, none⟩ (.bool true) (fun _ => rfl)
  generalize (((w.setCell ⟨g, i * 6, none⟩ (.int .i64 c.1)).setCell ⟨g, i * 6 + 1, none⟩ (.float .f64 c.2.1)).setCell ⟨g, i * 6 + 2, none⟩ (.string c.2.2)).setCell ⟨g, i * 6 + 3, none⟩ (.bool true) = wF at hF ht ⊢
  clear hF1 hF2 hF3 ht1 ht2 ht3 h4
  have hrs : ∀ k, resA (st.sl.set i ⟨s.arr, c, true, s.frm⟩) k = resA st.sl k := resA_val hok.ok hs hr c
  rw [hval]
  refine ⟨⟨_, _, _, _, ps, gp, cp, h.wrote (by simp) rfl rfl rfl rfl (fun k t q hk hq => ?_) rfl hgm ht hF⟩, ht.mono fun j e => ?_⟩
  · dsimp only at hk ⊢
    rw [hrs k]
    by_cases e : k = i
    · subst e
      rw [List.getElem?_set_self hi] at hk
      cases hk
      exact h.pok k s q hs hq
    · rw [List.getElem?_set_ne (fun x => e x.symm)] at hk
      exact h.pok k t q hk hq
  · subst e
    obtain ⟨c, hc⟩ := own_obj h1 (j := j) rfl
    exact ⟨h.lv j rfl, .inr ⟨c, hc⟩⟩

set_option maxRecDepth 20000 in
set_option maxHeartbeats 16000000 in
theorem set24_any (m : Nat) (st : FS) (nm : ByteArray) (x : Int) (y : Nat) (z : ByteArray) (w : World) (hD0 : D m st w) (hok : OkF st) (hl : st.sl.length ≤ 399999999) (hc : st.ca.length ≤ 1000) :
    Calls Try.prog 22 #[.pointer (some ⟨m, 0, none⟩), .string nm, .agg #[.int .i64 x, .float .f64 y, .string z]] w (DAt m (.int .i64 ((setS st nm (x, y, z)).2 : Int)) (setS st nm (x, y, z)).1 w) := by
  have hb0 : Below w.heap.size w (w.alloc (.cells #[.int .i64 x, .float .f64 y, .string z] 32)) := (Below.refl _ w).alloc (Nat.le_refl _) _
  have hbx : (w.alloc (.cells #[.int .i64 x, .float .f64 y, .string z] 32)).heap[w.heap.size]? = some (.cells #[.int .i64 x, .float .f64 y, .string z] 32 (0, 0)) := heap_alloc_new _ _
  have HF := Lib.hid (find24_any m st nm _ (hD0.below hb0) hok (by omega) hc)
  unfold Found at HF
  cases hf : findS st nm with
  | mk st1 i =>
  rw [hf] at HF
  dsimp only at HF
  obtain ⟨hok1, hi1, _, _⟩ := find_facts hok hf
  have hl2 := find_facts2 hf
  have hk : setS st nm (x, y, z) = (if resA st1.sl i ≠ 0 then (st1, 80) else (valS st1 i (x, y, z), 0)) := by unfold setS; rw [hf]
  have HK := Lib.hid hk
  have HO := Lib.hid (And.intro hok1 (And.intro hi1 (And.intro (slotS_get hi1) (show st1.sl.length ≤ 400000000 by omega))))
  have HB := Lib.hid (And.intro hb0 hbx)
  have hi0 : (0 : Int) ≤ (i : Int) := by omega
  have hi2 : (i : Int) < (st1.sl.length : Int) := by omega
  have hl1 : (st1.sl.length : Int) ≤ 400000000 := by omega
  clear hD0 hok hf hok1 hi1 hk hl hl2 hc hb0 hbx
  go_enter Try.func22, Try.ntmps22
  go_wp2_with fail
  refine HF.out.mono ?_
  rintro e w1 ⟨rfl, ⟨vS, vGN, vGS, vC, ps, gp, cp, h1⟩, ht1⟩
  have HS := Lib.hid (seen24_any m i vS vGN vGS vC ps gp cp st1 w1 h1 HO.out.1 HO.out.2.1 HO.out.2.2.2)
  have H1 := Lib.hid ht1
  clear h1 HF ht1
  go_wp2_with fail
  refine HS.out.mono ?_
  rintro e w2 ⟨rfl, ⟨ps2, h2⟩, ht2⟩
  have hst := DT.stands ht2 (DT.stands H1.out HB.out.2 (by decide) (by decide)) (by decide) (by decide)
  have hT2 : Turn w w2 (DT m w) := DT.trans (Turn.of_below HB.out.1 _) (DT.trans H1.out ht2)
  have hbd : Below w2.heap.size w2 w2.drew := (Below.refl _ _).drew
  have h2d := h2.below hbd
  have HR := Lib.hid (show D m st1 w2 ∧ Turn w w2 (DT m w) from ⟨⟨_, _, _, _, _, _, _, h2⟩, hT2⟩)
  cases hr : resA st1.sl i with
  | succ k =>
    have HK2 := Lib.hid (show setS st nm (x, y, z) = (st1, 80) by rw [HK.out, hr]; simp)
    have hk0 : (0 : Int) < ((k + 1 : Nat) : Int) := by omega
    generalize k + 1 = q at hk0
    clear hr h2 ht2 hst hT2 hbd h2d HS
    go_wp2_with fail
    go_ret
    unfold DAt
    rw [HK2.out]
    exact ⟨rfl, HR.out⟩
  | zero =>
    have HK2 := Lib.hid (show setS st nm (x, y, z) = (valS st1 i (x, y, z), 0) by rw [HK.out, hr]; simp)
    obtain ⟨d0, _, _, _, _, _⟩ := h2.cells
    obtain ⟨d0', _, _, _, _, _⟩ := h2d.cells
    obtain ⟨p2, hp2, _, _⟩ := h2d.arrAt HO.out.2.2.1
    obtain ⟨g, cap, rfl, hrow, hgm, _, hcells, hfz⟩ := h2d.slot HO.out.2.2.1 hp2
    obtain ⟨k0, k1, k2, k3, _, _⟩ := sl24_at hcells
    have n0 : w2.cell? ⟨w.heap.size, 0, none⟩ = some (.int .i64 x) := cell_of_row w2 _ 0 _ _ _ hst
    have n1 : w2.cell? ⟨w.heap.size, 1, none⟩ = some (.float .f64 y) := cell_of_row w2 _ 1 _ _ _ hst
    have n2 : w2.cell? ⟨w.heap.size, 2, none⟩ = some (.string z) := cell_of_row w2 _ 2 _ _ _ hst
    have f0 := hfz (i * 6)
    have f1 := hfz (i * 6 + 1)
    have f2 := hfz (i * 6 + 2)
    have f3 := hfz (i * 6 + 3)
    have hmg : m ≠ g := fun e => hgm e.symm
    have HV := Lib.hid (show D m (valS st1 i (x, y, z)) _ ∧ Turn w _ (DT m w) from ⟨(h2d.valued HO.out.1 HO.out.2.1 hr rfl hgm (x, y, z)).1, DT.trans (DT.trans hT2 (Turn.of_below hbd _)) (h2d.valued HO.out.1 HO.out.2.1 hr rfl hgm (x, y, z)).2⟩)
    have HFF := Lib.hid (And.intro d0' (And.intro f0 (And.intro f1 (And.intro f2 (And.intro f3 (And.intro k0 (And.intro k1 (And.intro k2 k3))))))))
    clear hr h2 ht2 hst hT2 hbd h2d HS hp2 hrow hcells hfz d0' f0 f1 f2 f3 k0 k1 k2 k3
    go_wp2_with fail
    go_still_tail 8, (by kernel_rfl)
    change wpList _ _ _ _ _ w2.drew
    clear n0 n1 n2 d0
    generalize w2.drew = w3 at *
    obtain ⟨d0', f0, f1, f2, f3, k0, k1, k2, k3⟩ := HFF.out
    go_wp2_with fail
    go_ret
    unfold DAt
    rw [HK2.out]
    exact ⟨rfl, HV.out⟩
end Go.Proofs.Ytbpaiocbgbpiaaa
