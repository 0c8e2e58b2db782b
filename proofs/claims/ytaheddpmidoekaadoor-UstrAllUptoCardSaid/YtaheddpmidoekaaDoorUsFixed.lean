/- The walk of 'fixed': the document's example holds. -/
import Derived.Test.YtaheddpmidoekaaDoorUsMap
import Derived.Test.YtaheddpmidoekaaDoorUsLen
namespace Go.Proofs.YtaheddpmidoekaaDoor
open Go.RowKit Go.Shelf
set_option linter.unusedVariables false

/-- The example. -/
def exS : ByteArray := ⟨#[97, 195, 169, 255]⟩
theorem ex_1 : chr exS 1 false = (233, 2) := by decide
theorem ex_3 : chr exS 3 false = (1114367, 1) := by decide
theorem ex_places : places exS false = [0, 1, 3] := by decide
theorem ex_len : (places exS false).length = 3 := by rw [ex_places]; rfl
theorem ex_up : (⟨(mapL capC exS false (places exS false)).toArray⟩ : ByteArray) = ⟨#[65, 195, 137, 255]⟩ := by
  rw [ex_places]; decide

set_option maxHeartbeats 1000000 in
theorem fixed_any (w : World) (hT : Tab w) :
    Calls Tryd.prog 11 #[] w fun e w' => e = .returned (.bool true) ∧ Below w.heap.size w w' := by
  have H1 := Lib.hid (fun w (h : Tab w) => next_in exS 1 false w (by decide) (by decide) h)
  have H2 := Lib.hid (fun w (h : Tab w) => next_in exS 3 false w (by decide) (by decide) h)
  have H3 := Lib.hid (fun w (h : Tab w) => len_any exS false w (by decide) h)
  have H4 := Lib.hid (fun w (h : Tab w) => upper_any exS false w (by decide) h)
  rw [ex_1] at H1
  rw [ex_3] at H2
  rw [ex_len] at H3
  rw [ex_up] at H4
  unfold exS at *
  go_enter Tryd.func11, Tryd.ntmps11
  go_wp2_with fail
  refine (H1.out _ hT).mono ?_
  rintro e w1 ⟨rfl, hb1⟩
  have hT1 := hT.below hb1 hT.2
  go_wp2_with fail
  refine (H2.out _ hT1).mono ?_
  rintro e w2 ⟨rfl, hb2⟩
  have hT2 := hT1.below hb2 hT1.2
  go_wp2_with fail
  refine (H3.out _ hT2).mono ?_
  rintro e w3 ⟨rfl, hb3⟩
  have hT3 := hT2.below hb3 hT2.2
  go_wp2_with fail
  refine (H4.out _ hT3).mono ?_
  rintro e w4 ⟨rfl, hb4⟩
  go_wp2_with fail
  go_ret
  exact ⟨rfl, hb1.trans ((hb2.trans ((hb3.trans (hb4.mono hb3.size)).mono hb2.size)).mono hb1.size)⟩

end Go.Proofs.YtaheddpmidoekaaDoor
