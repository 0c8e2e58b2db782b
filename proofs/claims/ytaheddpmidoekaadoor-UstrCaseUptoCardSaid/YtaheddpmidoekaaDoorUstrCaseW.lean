/- The walk of UstrCase. -/
import Derived.Test.YtaheddpmidoekaaDoorUstrTwiceW
import Derived.Test.YtaheddpmidoekaaDoorUsRmap
namespace Go.Proofs.YtaheddpmidoekaaDoor
open Go.RowKit
set_option linter.unusedVariables false

set_option maxHeartbeats 2000000 in
set_option maxRecDepth 100000 in
theorem ustrCase_walk (s : ByteArray) (hs : s.size ≤ 1048576) (c : Int) (wc : (Lit.int .i64 c).wf = true) (m : Bool) (w : World) (hT : Tab w) :
    Calls Tryd.prog 6 #[.string s, .int .i64 c, .bool m] w fun e w' => e = .returned (.bool true) ∧ Below w.heap.size w w' := by
  have H0 := Lib.hid (fun w (h : Tab w) => fixed_any w h)
  have H1 := Lib.hid (fun w (h : Tab w) => lowS_any s m w (by omega) h)
  have H2 := Lib.hid (fun w (h : Tab w) => upS_any s m w (by omega) h)
  have H3 := Lib.hid (fun w => rmap_foldC_any s m w (by omega))
  have H4 := Lib.hid (fun w => rmap_capC_any s m w (by omega))
  have H5 := Lib.hid (fun w => fold_any c m w)
  have H6 := Lib.hid (fun w => rfold_any c m w)
  generalize mapS foldC s m = L at *
  generalize mapS capC s m = U at *
  generalize foldC c m = d at *
  clear hs
  have hH := Lib.hid hT
  clear hT
  go_enter Tryd.func6, Tryd.ntmps6
  go_wp2_with fail
  refine (H0.out _ hH.out).mono ?_
  rintro e w0 ⟨rfl, hb⟩
  have hT := hH.out.below hb hH.out.2
  go_wp2_with fail
  refine (H1.out _ hT).mono ?_
  rintro e w1 ⟨rfl, hb1⟩
  replace hT := hT.below hb1 hT.2
  replace hb := hb.trans (hb1.mono hb.size)
  clear hb1
  go_wp2_with fail
  refine (H3.out _).mono ?_
  rintro e w1 ⟨rfl, hb1⟩
  replace hT := hT.below hb1 hT.2
  replace hb := hb.trans (hb1.mono hb.size)
  clear hb1
  go_wp2_with fail
  refine (H2.out _ hT).mono ?_
  rintro e w1 ⟨rfl, hb1⟩
  replace hT := hT.below hb1 hT.2
  replace hb := hb.trans (hb1.mono hb.size)
  clear hb1
  go_wp2_with fail
  refine (H4.out _).mono ?_
  rintro e w1 ⟨rfl, hb1⟩
  replace hT := hT.below hb1 hT.2
  replace hb := hb.trans (hb1.mono hb.size)
  clear hb1
  go_wp2_with fail
  refine (H5.out _).mono ?_
  rintro e w1 ⟨rfl, rfl⟩
  go_wp2_with fail
  refine (H6.out _).mono ?_
  rintro e w1 ⟨rfl, rfl⟩
  go_wp2_with fail
  go_ret
  exact ⟨rfl, hb⟩

end Go.Proofs.YtaheddpmidoekaaDoor
