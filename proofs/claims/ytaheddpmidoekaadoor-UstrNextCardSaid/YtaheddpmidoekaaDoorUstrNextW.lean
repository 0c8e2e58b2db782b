/- The walk of UstrNext. -/
import Derived.Test.YtaheddpmidoekaaDoorUsNextAny
import Derived.Deep.QuietTactic
import Derived.BigQuiet
namespace Go.Proofs.YtaheddpmidoekaaDoor
open Go.RowKit
set_option linter.unusedVariables false

set_option maxHeartbeats 2000000 in
set_option maxRecDepth 100000 in
theorem ustrNext_walk (s : ByteArray) (hs : s.size ≤ maxLen) (a : Int) (wa : (Lit.int .i64 a).wf = true) (c : Int) (wc : (Lit.int .i64 c).wf = true) (m : Bool) (w : World) (hT : Tab w) :
    Calls Tryd.prog 4 #[.agg #[.string s, .int .i64 a, .int .i64 c, .bool m]] w fun e w' => e = .returned (.bool true) ∧ Below w.heap.size w w' := by
  have H0 := Lib.hid (fun w (h : Tab w) => fixed_any w h)
  have H1 := Lib.hid (fun w (h : Tab w) => next_any s a m w hs h)
  have H2 := Lib.hid (fun w => rnext_any s a m w hs)
  have H3 := Lib.hid (fun w => text_any c w)
  have H4 := Lib.hid (fun w => rtext_any c w)
  have hH := Lib.hid hT
  unfold TextIs at H3 H4
  generalize textB c = tx at *
  generalize nextC s a m = p at *
  obtain ⟨x, y⟩ := p
  dsimp only at *
  clear hT
  go_enter Tryd.func4, Tryd.ntmps4
  go_wp2_with fail
  have hba : Below w.heap.size w (w.alloc (.cells #[.string s, .int .i64 a, .int .i64 c, .bool m] 24)) := (Below.refl _ w).alloc (Nat.le_refl _) _
  have hT0 := hH.out.below hba hH.out.2
  refine (H0.out _ hT0).mono ?_
  rintro e w1 ⟨rfl, hb1⟩
  have q0 : w1.heap[w.heap.size]? = some (.cells #[.string s, .int .i64 a, .int .i64 c, .bool m] 24 (0, 0)) := (hb1.block _ (by simp)).trans (World.alloc_heap_new w _)
  have c0 : w1.cell? ⟨w.heap.size, 0, none⟩ = some (.string s) := by simp [World.cell?, q0]
  have c1 : w1.cell? ⟨w.heap.size, 1, none⟩ = some (.int .i64 a) := by simp [World.cell?, q0]
  have c2 : w1.cell? ⟨w.heap.size, 2, none⟩ = some (.int .i64 c) := by simp [World.cell?, q0]
  have c3 : w1.cell? ⟨w.heap.size, 3, none⟩ = some (.bool m) := by simp [World.cell?, q0]
  have hT1 := hT0.below hb1 hT0.2
  have hb1' : Below w.heap.size w w1 := hba.trans (hb1.mono (by simp))
  clear hba hT0 hb1 q0
  go_wp2_with fail
  go_quiet (fail)
  go_wp2_with fail
  have hb2' : Below w.heap.size w (w1.drewN nq) := ⟨hb1'.os, hb1'.tape, hb1'.output, hb1'.size, hb1'.block⟩
  have hT2 : Tab (w1.drewN nq) := hH.out.below hb2' hH.out.2
  generalize w1.drewN nq = w2 at *
  clear hT1 hb1' c0 c1 c2 c3
  refine (H1.out _ hT2).mono ?_
  rintro e w3 ⟨rfl, hb3⟩
  have hb3' := hb2'.trans (hb3.mono hb2'.size)
  go_wp2_with fail
  refine (H2.out _).mono ?_
  rintro e w4 ⟨rfl, rfl⟩
  go_wp2_with fail
  refine (H3.out _).mono ?_
  rintro e w4 ⟨rfl, hb4⟩
  have hb4' := hb3'.trans (hb4.mono hb3'.size)
  go_wp2_with fail
  refine (H4.out _).mono ?_
  rintro e w5 ⟨rfl, hb5⟩
  have hb5' := hb4'.trans (hb5.mono hb4'.size)
  go_wp2_with fail
  go_ret
  exact ⟨rfl, hb5'⟩

end Go.Proofs.YtaheddpmidoekaaDoor
