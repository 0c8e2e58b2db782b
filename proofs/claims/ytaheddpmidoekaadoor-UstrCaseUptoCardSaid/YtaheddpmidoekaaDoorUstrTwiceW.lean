/- The walk of UstrTwice. -/
import Derived.Test.YtaheddpmidoekaaDoorUsFixed
import Derived.Test.YtaheddpmidoekaaDoorUsLaw2
namespace Go.Proofs.YtaheddpmidoekaaDoor
open Go.RowKit
set_option linter.unusedVariables false

theorem twice_low (s : ByteArray) (m : Bool) : mapS foldC (mapS capC s m) m = mapS foldC s m := by
  rw [mapS_twice capC foldC capK, mapS_once]
  congr 2
  exact flat_eq fun j _ => by rw [(fold_cap _ m).1, (fold_cap _ m).2.2]
theorem twice_up (s : ByteArray) (m : Bool) : mapS capC (mapS foldC s m) m = mapS capC (mapS capC s m) m := by
  rw [mapS_twice capC capC capK, mapS_twice foldC capC foldK]
  congr 2
  exact flat_eq fun j _ => by rw [(fold_cap _ m).2.1]
theorem twice_same (s : ByteArray) (m : Bool) : mapS foldC (mapS foldC s m) m = mapS foldC s m := by
  rw [mapS_twice foldC foldC foldK, mapS_once]
  congr 2
  exact flat_eq fun j _ => by rw [(fold_cap _ m).2.2]

theorem lowS_any (s : ByteArray) (m : Bool) (w : World) (hs : s.size ≤ 4398046511104) (hT : Tab w) :
    Calls Tryd.prog 18 #[.string s, .bool m] w fun e w' => e = .returned (.string (mapS foldC s m)) ∧ Below w.heap.size w w' := lower_any s m w hs hT
theorem upS_any (s : ByteArray) (m : Bool) (w : World) (hs : s.size ≤ 4398046511104) (hT : Tab w) :
    Calls Tryd.prog 20 #[.string s, .bool m] w fun e w' => e = .returned (.string (mapS capC s m)) ∧ Below w.heap.size w w' := upper_any s m w hs hT

set_option maxHeartbeats 2000000 in
set_option maxRecDepth 100000 in
theorem ustrTwice_walk (s : ByteArray) (hs : s.size ≤ 1048576) (m : Bool) (w : World) (hT : Tab w) :
    Calls Tryd.prog 7 #[.string s, .bool m] w fun e w' => e = .returned (.bool true) ∧ Below w.heap.size w w' := by
  have z1 := mapS_size foldC foldK s m
  have z2 := mapS_size capC capK s m
  have H0 := Lib.hid (fun w (h : Tab w) => fixed_any w h)
  have H1 := Lib.hid (fun w (h : Tab w) => lowS_any s m w (by omega) h)
  have H2 := Lib.hid (fun w (h : Tab w) => upS_any s m w (by omega) h)
  have H3 := Lib.hid (fun w (h : Tab w) => lowS_any (mapS capC s m) m w (by omega) h)
  have H4 := Lib.hid (fun w (h : Tab w) => lowS_any (mapS foldC s m) m w (by omega) h)
  have H5 := Lib.hid (fun w (h : Tab w) => upS_any (mapS foldC s m) m w (by omega) h)
  have H6 := Lib.hid (fun w (h : Tab w) => upS_any (mapS capC s m) m w (by omega) h)
  have H7 := Lib.hid (fun w (h : Tab w) => len_any (mapS foldC s m) m w (by unfold maxLen; omega) h)
  have H8 := Lib.hid (fun w (h : Tab w) => len_any s m w (by unfold maxLen; omega) h)
  rw [twice_low] at H3
  rw [twice_same] at H4
  rw [twice_up] at H5
  rw [mapS_places foldC foldK] at H7
  generalize mapS capC (mapS capC s m) m = UU at *
  generalize mapS foldC s m = L at *
  generalize mapS capC s m = U at *
  generalize (places s m).length = k at *
  have t1 : ((L.size : Int) == (s.size : Int)) = true := by rw [z1]; exact beq_self_eq_true _
  have t2 : ((U.size : Int) == (s.size : Int)) = true := by rw [z2]; exact beq_self_eq_true _
  clear z1 z2 hs
  have hH := Lib.hid hT
  clear hT
  go_enter Tryd.func7, Tryd.ntmps7
  go_wp2_with fail
  refine (H0.out _ hH.out).mono ?_
  rintro e w0 ⟨rfl, hb⟩
  have hT := hH.out.below hb hH.out.2
  go_wp2_with fail
  refine (H1.out _ hT).mono ?_
  rintro e w1 ⟨rfl, hb1⟩
  replace hT := hT.below hb1 hT.2
  replace hb := hb.trans (hb1.mono hb.size)
  clear hb1
  go_wp2_with fail
  refine (H2.out _ hT).mono ?_
  rintro e w1 ⟨rfl, hb1⟩
  replace hT := hT.below hb1 hT.2
  replace hb := hb.trans (hb1.mono hb.size)
  clear hb1
  go_wp2_with fail
  refine (H3.out _ hT).mono ?_
  rintro e w1 ⟨rfl, hb1⟩
  replace hT := hT.below hb1 hT.2
  replace hb := hb.trans (hb1.mono hb.size)
  clear hb1
  go_wp2_with fail
  refine (H4.out _ hT).mono ?_
  rintro e w1 ⟨rfl, hb1⟩
  replace hT := hT.below hb1 hT.2
  replace hb := hb.trans (hb1.mono hb.size)
  clear hb1
  go_wp2_with fail
  refine (H5.out _ hT).mono ?_
  rintro e w1 ⟨rfl, hb1⟩
  replace hT := hT.below hb1 hT.2
  replace hb := hb.trans (hb1.mono hb.size)
  clear hb1
  go_wp2_with fail
  refine (H6.out _ hT).mono ?_
  rintro e w1 ⟨rfl, hb1⟩
  replace hT := hT.below hb1 hT.2
  replace hb := hb.trans (hb1.mono hb.size)
  clear hb1
  go_wp2_with fail
  refine (H4.out _ hT).mono ?_
  rintro e w1 ⟨rfl, hb1⟩
  replace hT := hT.below hb1 hT.2
  replace hb := hb.trans (hb1.mono hb.size)
  clear hb1
  go_wp2_with fail
  refine (H7.out _ hT).mono ?_
  rintro e w1 ⟨rfl, hb1⟩
  replace hT := hT.below hb1 hT.2
  replace hb := hb.trans (hb1.mono hb.size)
  clear hb1
  go_wp2_with fail
  refine (H8.out _ hT).mono ?_
  rintro e w1 ⟨rfl, hb1⟩
  replace hb := hb.trans (hb1.mono hb.size)
  clear hb1
  go_wp2_with fail
  go_ret
  exact ⟨rfl, hb⟩

end Go.Proofs.YtaheddpmidoekaaDoor
