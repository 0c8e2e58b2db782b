/- 'Len' is the number of the places. -/
import Derived.Test.YtaheddpmidoekaaDoorUsIter
import Derived.RangeFuncBox
namespace Go.Proofs.YtaheddpmidoekaaDoor
open Go.RowKit Go.Shelf
set_option linter.unusedVariables false
attribute [local go_sem] Oper.semAt_some

set_option maxRecDepth 100000 in
set_option maxHeartbeats 2000000 in
theorem len_any (s : ByteArray) (m : Bool) (w : World) (hs : s.size ≤ maxLen) (hT : Tab w) :
    Calls Tryd.prog 23 #[.string s, .bool m] w fun e w' => e = .returned (.int .i64 ((places s m).length : Int)) ∧ Below w.heap.size w w' := by
  have hs' := hs
  unfold maxLen at hs
  refine (callsIn_wide (n := 6)).1 ?_
  refine callsIn_of_wp_marks Tryd.func23 rfl trivial ?_ rfl
  simp only [Tryd.ntmps23, List.size_toArray, List.length_cons, List.length_nil, Nat.reduceAdd, Nat.reduceSub, Array.replicate_succ, Array.replicate_zero, List.push_toArray, List.append_toArray, List.nil_append, List.cons_append]
  gi_wp2_with fail
  refine ⟨trivial, ?_⟩
  refine (callsIn_wide.2 (all_call s m _)).mono ?_
  rintro e w1 ⟨rfl, rfl⟩
  gi_wp2_with fail
  have b0 := Boxed.new w 3 (.int .i64 0)
  have b1 := Boxed.new (w.alloc (.cells #[.int .i64 0] 3)) 9 (.string s)
  have b2 := Boxed.new ((w.alloc (.cells #[.int .i64 0] 3)).alloc (.cells #[.string s] 9)) 4 (.bool m)
  have hB0 : Below w.heap.size w (((w.alloc (.cells #[.int .i64 0] 3)).alloc (.cells #[.string s] 9)).alloc (.cells #[.bool m] 4)) := (((Below.refl _ w).alloc (Nat.le_refl _) _).alloc (by simp) _).alloc (by simp; omega) _
  rw [World.size_alloc] at b1
  rw [World.size_alloc, World.size_alloc] at b2
  have b1' := b1.alloc (.cells #[.bool m] 4)
  have b0' := (b0.alloc (.cells #[.string s] 9)).alloc (.cells #[.bool m] 4)
  have hT3 := hT.below hB0 hT.2
  have hn2 := hT.2
  generalize hW0 : ((w.alloc (.cells #[.int .i64 0] 3)).alloc (.cells #[.string s] 9)).alloc (.cells #[.bool m] 4) = W0 at *
  have hsz : W0.heap.size = w.heap.size + 3 := by rw [← hW0]; simp
  clear hW0 b1 b0
  refine wpIn_rangeFunc_ownG rfl (by omega) (gf := 33) (lb := #[.pointer (some ⟨w.heap.size + 1, 0, none⟩), .pointer (some ⟨w.heap.size + 1 + 1, 0, none⟩)]) rfl trivial (enters_of Tryd.func33 (by kernel_rfl) rfl)
    (all_stops 5 (by omega) s m hs' (w.heap.size + 1) (w.heap.size + 1 + 1) W0 (by omega) (by omega) b1'.cell b2.cell hT3) (fun h k => h.trans k) (KeepIt.putObj (by omega) (by omega) (by omega)) (Below.refl _ _) (fun _ => rfl)
    (fun pre W => (W.cell? ⟨w.heap.size, 0, none⟩ = some (.int .i64 (pre.length : Int)) ∧ W.frozen? ⟨w.heap.size, 0, none⟩ = false) ∧ Below w.heap.size w W)
    (fun _ _ _ => False)
    (OwnFrom.and (Own.from (fun s A B row hs hg hr => ⟨cell_kept hs.1 hg hr, (frozen_kept hs.1 hg hr).trans hs.2⟩) _) (ownFrom_below (Nat.le_refl _) (by omega)))
    (fun _ _ _ _ _ hs _ _ => hs)
    ⟨⟨b0'.cell, b0'.frozen⟩, hB0⟩
    (fun x => { tmps := #[.string s, .bool m, undef, undef, .int .i64 0, .pointer (some ⟨w.heap.size, 0, none⟩), .string s, .bool m, .func (.func 33) #[] #[.pointer (some ⟨w.heap.size + 1, 0, none⟩), .pointer (some ⟨w.heap.size + 1 + 1, 0, none⟩)], .int .i64 (x.1 : Int), .int .i64 ((chr s x.1 m).1 : Int), undef, undef, undef], defers := [] }) ?assign ?body ?done ?stop
  case assign =>
    intro l x W K hK
    gi_wp2
    simpa [encP] using hK
  case body =>
    rintro l pre x W ⟨⟨hc, hf⟩, hB⟩ hlen
    have hl : (pre.length : Int) < 9223372036854775807 := by omega
    gi_wp2
    exact ⟨(KeepsOthers.setCell _ _ _).from _, KeepIt.setCell (p := ⟨w.heap.size, 0, none⟩) _ (by simp; omega) (by simp) (by simp; omega) _, ⟨by rw [World.cell?_setCell_same' _ _ _ (by rw [hc]; rfl)]; simp, by rw [World.frozen?_setCell]; exact hf⟩, hB.setCell (p := ⟨w.heap.size, 0, none⟩) (Nat.le_refl _) _⟩
  case done =>
    rintro D ys W hD hys ⟨⟨hc, _⟩, hB⟩ hK
    have hlen : ys.length = (places s m).length := by rw [← hys]; simp [pls]
    rw [hlen] at hc
    gi_wp2
    refine ⟨by simp, .inl ⟨_, _, rfl, run_takeDeferred hK, ?_⟩⟩
    exact ⟨_, results_tmp rfl _ _ _, rfl, hB.trans (belowK_b (w := w) (Nat.le_refl _) W D _ _ (by omega) hK rfl rfl)⟩
  case stop =>
    rintro D c pre W _ _ h _
    exact h.elim

end Go.Proofs.YtaheddpmidoekaaDoor
