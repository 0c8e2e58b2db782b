/- The walk of UstrParts. -/
import Derived.Test.YtaheddpmidoekaaDoorUsSub
import Derived.Test.YtaheddpmidoekaaDoorUsFixed
import Derived.Deep.RegionHeld3
namespace Go.Proofs.YtaheddpmidoekaaDoor
open Go.RowKit
set_option linter.unusedVariables false

/-- What is held besides the cells. -/
structure Held (B : Nat) (w W : World) : Prop where
  tab : Tab W
  be : Below B w W
  lt : B < W.heap.size
theorem Held.drew {B : Nat} {w W : World} (h : Held B w W) : Held B w W.drew := ⟨h.tab, h.be.drew, h.lt⟩
theorem keepP {B : Nat} {a b : Int} {m : Bool} {w W W' : World} (c1 : W.cell? ⟨B, 0, none⟩ = some (.int .i64 a)) (c2 : W.cell? ⟨B, 1, none⟩ = some (.int .i64 b)) (c3 : W.cell? ⟨B, 2, none⟩ = some (.bool m)) (hB : Held B w W)
    (hb : Below W.heap.size W W') : W'.cell? ⟨B, 0, none⟩ = some (.int .i64 a) ∧ W'.cell? ⟨B, 1, none⟩ = some (.int .i64 b) ∧ W'.cell? ⟨B, 2, none⟩ = some (.bool m) ∧ Held B w W' :=
  ⟨(hb.cell (p := ⟨B, 0, none⟩) hB.lt).trans c1, (hb.cell (p := ⟨B, 1, none⟩) hB.lt).trans c2, (hb.cell (p := ⟨B, 2, none⟩) hB.lt).trans c3, ⟨hB.tab.below hb hB.tab.2, hB.be.trans (hb.mono (Nat.le_of_lt hB.lt)), Nat.lt_of_lt_of_le hB.lt hb.size⟩⟩

set_option maxHeartbeats 8000000 in
set_option maxRecDepth 100000 in
theorem ustrParts_walk (s : ByteArray) (hs : s.size ≤ 1048576) (t : ByteArray) (ht : t.size ≤ 1048576) (a : Int) (wa : (Lit.int .i64 a).wf = true) (b : Int) (wb : (Lit.int .i64 b).wf = true) (m : Bool) (w : World) (hT : Tab w) :
    Calls Tryd.prog 9 #[.string s, .string t, .agg #[.int .i64 a, .int .i64 b, .bool m]] w fun e w' => e = .returned (.bool true) ∧ Below w.heap.size w w' := by
  have ha := wf_i64_bounds wa
  have H0 := Lib.hid (fun w (h : Tab w) => fixed_any w h)
  have H1 := Lib.hid (fun w (h : Tab w) => place_any s a m w (by omega) h)
  have H2 := Lib.hid (fun w => rplace_any s a m w (by omega) ha)
  have H3 := Lib.hid (fun w (h : Tab w) => len_any s m w (by unfold maxLen; omega) h)
  have H4 := Lib.hid (fun w => rlen_any s m w (by omega))
  have H5 := Lib.hid (fun w (h : Tab w) => sub_any s a b m w (by omega) h)
  have H6 := Lib.hid (fun w => rsub_any s a b m w (by omega))
  have H7 := Lib.hid (fun w (h : Tab w) => index_any s t m w (by omega) h)
  have H8 := Lib.hid (fun w => rindex_any s t m w (by omega) (by omega))
  generalize placeV s m a = pv at *
  obtain ⟨p, ok⟩ := pv
  dsimp only at *
  generalize (places s m).length = k at *
  generalize subV s m a b = u at *
  generalize idxV s t m = i at *
  have hH := Lib.hid hT
  clear hT hs ht ha wa wb
  go_enter Tryd.func9, Tryd.ntmps9
  go_wp2_with fail
  have hba : Below w.heap.size w (w.alloc (.cells #[.int .i64 a, .int .i64 b, .bool m] 44)) := (Below.refl _ w).alloc (Nat.le_refl _) _
  have hT0 := hH.out.below hba hH.out.2
  have q0 := World.alloc_heap_new w (.cells #[.int .i64 a, .int .i64 b, .bool m] 44)
  have hz0 : w.heap.size < (w.alloc (.cells #[.int .i64 a, .int .i64 b, .bool m] 44)).heap.size := by simp
  generalize w.alloc (.cells #[.int .i64 a, .int .i64 b, .bool m] 44) = W0 at *
  refine (H0.out _ hT0).mono ?_
  rintro e w1 ⟨rfl, hb1⟩
  have K1 := keepP (B := w.heap.size) (a := a) (b := b) (m := m) (w := w) (by simp [World.cell?, q0]) (by simp [World.cell?, q0]) (by simp [World.cell?, q0]) ⟨hT0, hba, hz0⟩ hb1
  generalize hB : w.heap.size = B at *
  clear hba hT0 q0 hz0 hb1
  obtain ⟨c1, c2, c3, hB1⟩ := K1
  go_wp2_with fail
  refine (H1.out _ hB1.tab).mono ?_
  rintro e w2 ⟨rfl, hb2⟩
  have K2 := keepP c1 c2 c3 hB1 hb2
  clear c1 c2 c3 hB1 hb2
  obtain ⟨c1, c2, c3, hB1⟩ := K2
  go_wp2_with fail
  refine (H2.out _).mono ?_
  rintro e w3 ⟨rfl, hb3⟩
  have K3 := keepP c1 c2 c3 hB1 hb3
  clear c1 c2 c3 hB1 hb3
  obtain ⟨c1, c2, c3, hB1⟩ := K3
  go_wp2_with fail
  go_region_held3 (fun W' => W'.cell? ⟨B, 0, none⟩ = some (.int .i64 a) ∧ W'.cell? ⟨B, 1, none⟩ = some (.int .i64 b) ∧ W'.cell? ⟨B, 2, none⟩ = some (.bool m) ∧ Held B w W')
    (first | (exact ⟨c1, c2, c3, hB1.drew⟩) | (go_split_ands; exact keepP (by assumption) (by assumption) (by assumption) (by assumption) (by assumption)))
    (first
      | (go_at_call 23; go_split_ands; refine (H3.out _ (Held.tab (B := B) (w := w) (by assumption))).mono ?_; rintro e wx ⟨rfl, hbx⟩)
      | (go_at_call 28; refine (H4.out _).mono ?_; rintro e wx ⟨rfl, hbx⟩)
      | (go_at_call 25; go_split_ands; refine (H5.out _ (Held.tab (B := B) (w := w) (by assumption))).mono ?_; rintro e wx ⟨rfl, hbx⟩)
      | (go_at_call 29; refine (H6.out _).mono ?_; rintro e wx ⟨rfl, hbx⟩)
      | (go_at_call 24; go_split_ands; refine (H7.out _ (Held.tab (B := B) (w := w) (by assumption))).mono ?_; rintro e wx ⟨rfl, hbx⟩)
      | (go_at_call 30; refine (H8.out _).mono ?_; rintro e wx ⟨rfl, hbx⟩))
  go_wp2_with fail
  go_split_ands
  have hfin : Held B w wx := by assumption
  go_ret
  exact ⟨rfl, by rw [hB]; exact hfin.be⟩

end Go.Proofs.YtaheddpmidoekaaDoor
