/- The walk of UstrBytes. -/
import Derived.Test.YtaheddpmidoekaaDoorUsByte
import Derived.Test.YtaheddpmidoekaaDoorUsFixed
import Derived.Test.YtaheddpmidoekaaDoorUstrTilesW
import Derived.Stop.RegionWithIn
namespace Go.Proofs.YtaheddpmidoekaaDoor
open Go.RowKit Go.Shelf
set_option linter.unusedVariables false
attribute [local go_sem] Oper.semAt_some

theorem below_from {W W' : World} (h : Below W.heap.size W W') (C : Nat) : KeepsFrom C W W' :=
  ⟨h.size, fun k o _ hk _ => (h.block k (Array.getElem?_eq_some_iff.1 hk).1).trans hk⟩
def sumJ (B : Nat) (s : ByteArray) (w : World) (pre : List (Pl s)) (W : World) : Prop :=
  Boxes B [(3, .int .i64 (sumP s (pls pre) : Nat)), (9, .string s), (4, .bool false)] w W
theorem sumJ.next {B C : Nat} {s : ByteArray} {w W wx W' : World} {pre : List (Pl s)} {x : Pl s} (h : sumJ B s w pre W) (hb : Below W.heap.size W wx) (h2 : 2 ≤ B) (he : W' = wx.setCell ⟨B, 0, none⟩ (.int .i64 (sumP s (pls (pre ++ [x])) : Nat)) ∨ W' = (wx.setCell ⟨B, 0, none⟩ (.int .i64 (sumP s (pls (pre ++ [x])) : Nat))).drew) :
    KeepsFrom C W W' ∧ KeepIt (B + 1) (B + 1 + 1) W W' ∧ sumJ B s w (pre ++ [x]) W' := by
  have hz := h.2.2
  simp only [List.length_cons, List.length_nil] at hz
  have h1 : Boxes B _ w wx := h.below hb
  have h3 := h1.set 0 rfl (.int .i64 (sumP s (pls (pre ++ [x])) : Nat))
  have k1 : KeepsFrom C W (wx.setCell ⟨B, 0, none⟩ (.int .i64 (sumP s (pls (pre ++ [x])) : Nat))) := (below_from hb C).trans ((KeepsOthers.setCell _ _ _).from _)
  have k2 : KeepIt (B + 1) (B + 1 + 1) W (wx.setCell ⟨B, 0, none⟩ (.int .i64 (sumP s (pls (pre ++ [x])) : Nat))) := (KeepIt.below hb (by omega) (by omega) (by omega)).trans (KeepIt.setCell _ h2 (by simp) (by simp; omega) _)
  rcases he with rfl | rfl
  · exact ⟨k1, k2, h3⟩
  · exact ⟨⟨k1.size, k1.same⟩, ⟨k2.size, k2.same⟩, ⟨h3.1, ⟨h3.2.1.os, h3.2.1.tape, h3.2.1.output, h3.2.1.size, h3.2.1.block⟩, h3.2.2⟩⟩

set_option maxRecDepth 100000 in
set_option maxHeartbeats 4000000 in
theorem ustrBytes_walk (s : ByteArray) (hs : s.size ≤ 1048576) (t : ByteArray) (ht : t.size ≤ 1048576) (w : World) (hT : Tab w) :
    Calls Tryd.prog 8 #[.string s, .string t] w fun e w' => e = .returned (.bool true) ∧ Below w.heap.size w w' := by
  have hs' : s.size ≤ maxLen := by unfold maxLen; omega
  have hz : (s ++ t).size = s.size + t.size := ByteArray.size_append
  have H0 := Lib.hid (fun w (h : Tab w) => fixed_any w h)
  have H1 := Lib.hid (fun w (h : Tab w) => index_any (s ++ t) t true w (by omega) h)
  have H2 := Lib.hid (fun w (h : Tab w) => len_any s true w hs' h)
  have H3 := Lib.hid (fun w (h : Tab w) => sub_any s 1 ((s.size : Int) + 1) true w (by omega) h)
  rw [byte_places] at H2
  rw [byte_whole] at H3
  have hix := byte_index s t
  generalize idxV (s ++ t) t true = ix at *
  refine (callsIn_wide (n := 6)).1 ?_
  refine callsIn_of_wp_marks Tryd.func8 rfl trivial ?_ rfl
  simp only [Tryd.ntmps8, List.size_toArray, List.length_cons, List.length_nil, Nat.reduceAdd, Nat.reduceSub, Array.replicate_succ, Array.replicate_zero, List.push_toArray, List.append_toArray, List.nil_append, List.cons_append]
  gi_wp2_with fail
  refine ⟨trivial, ?_⟩
  refine (callsIn_wide.2 (H0.out w hT)).mono ?_
  rintro e w0 ⟨rfl, hb0⟩
  have hT0 := hT.below hb0 hT.2
  gi_wp2_with fail
  refine ⟨trivial, ?_⟩
  refine (callsIn_wide.2 (all_call s false _)).mono ?_
  rintro e w1 ⟨rfl, rfl⟩
  gi_wp2_with fail
  obtain ⟨x1, y1⟩ := (Boxes.nil w0).alloc 3 (.int .i64 0) (by simp)
  obtain ⟨x2, y2⟩ := x1.alloc 9 (.string s) y1
  obtain ⟨x3, y3⟩ := x2.alloc 4 (.bool false) y2
  have X : Boxes w0.heap.size [(3, .int .i64 0), (9, .string s), (4, .bool false)] w0 _ := x3
  clear x1 y1 x2 y2 x3
  simp only [List.length_append, List.length_cons, List.length_nil] at y3
  generalize (((w0.alloc (.cells #[.int .i64 0] 3)).alloc (.cells #[.string s] 9)).alloc (.cells #[.bool false] 4)) = W0 at *
  have hn2 := hT0.2
  have hT1 := hT0.below X.be hT0.2
  generalize hB : w0.heap.size = B at *
  refine wpIn_rangeFunc_ownG rfl (by omega) (gf := 33) (lb := #[.pointer (some ⟨B + 1, 0, none⟩), .pointer (some ⟨B + 1 + 1, 0, none⟩)]) rfl trivial (enters_of Tryd.func33 (by kernel_rfl) rfl)
    (all_stops 5 (by omega) s false hs' (B + 1) (B + 1 + 1) W0 (by omega) (by omega) (X.cell 1 rfl) (X.cell 2 rfl) hT1) (fun h k => h.trans k) (KeepIt.putObj (by omega) (by omega) (by omega)) (Below.refl _ _) (fun _ => rfl)
    (fun pre W => sumJ B s w0 pre W)
    (fun _ _ _ => False)
    (Boxes.own (fun (pre : List (Pl s)) => [(3, .int .i64 (sumP s (pls pre) : Nat)), (9, .string s), (4, .bool false)]) (by omega) (by omega))
    (fun _ _ _ _ _ hs _ _ => hs)
    X
    (fun x => { tmps := (.string s :: .string t :: undef :: undef :: .bool false :: .pointer (some ⟨B, 0, none⟩) :: undef :: .int .i64 ((chr s x.1 false).1 : Int) :: undef :: .bool true :: .bool false :: .string s ::
        .func (.func 33) #[] #[.pointer (some ⟨B + 1, 0, none⟩), .pointer (some ⟨B + 1 + 1, 0, none⟩)] :: .int .i64 (x.1 : Int) :: .int .i64 ((chr s x.1 false).1 : Int) :: undef :: undef :: undef :: undef :: undef :: undef :: undef :: undef :: undef :: undef :: undef :: undef :: undef :: undef :: undef :: undef :: undef :: undef :: undef :: undef :: undef :: undef :: undef :: undef :: undef :: undef :: undef :: undef :: undef :: undef :: undef :: undef :: undef :: undef :: undef :: undef :: undef :: undef :: undef :: undef :: undef :: undef :: undef :: undef :: undef :: undef :: undef :: undef :: undef :: undef :: undef :: undef :: undef :: []).toArray, defers := [] }) ?assign ?body ?done ?stop
  case assign =>
    intro l x W K hK
    gi_wp2
    simpa [encP] using hK
  case body =>
    rintro l pre x W hI hlen
    have c0 : W.cell? ⟨B, 0, none⟩ = _ := hI.cell 0 rfl
    have f0 : W.frozen? ⟨B, 0, none⟩ = false := hI.free 0 rfl
    have hx := x.2
    have hc4 := chr_four s x.1 hx
    have hp4 := sumP_four s pre
    have htx := text_size s x.1 hx
    have HX := Lib.hid (fun w => show Calls Tryd.prog 14 #[.int .i64 ((chr s x.1 false).1 : Int)] w fun e w' => e = .returned (.string (textB ((chr s x.1 false).1 : Int))) ∧ Below w.heap.size w w' from text_any _ w)
    have hsum : ((sumP s (pls pre) : Nat) : Int) + ((textB ((chr s x.1 false).1 : Int)).size : Int) = ((sumP s (pls (pre ++ [x])) : Nat) : Int) := by
      rw [htx, pls_snoc, sumP_snoc]; omega
    have HI := Lib.hid hI
    generalize hS : sumP s (pls pre) = S at *
    have hwr : IntKind.i64.wrap ((S : Int) + ((chr s x.1 false).2 : Int)) = ((sumP s (pls (pre ++ [x])) : Nat) : Int) := by rw [IntKind.wrap_i64]; omega
    have hbl : B < W.drew.heap.size := by have := hI.2.2; simp only [List.length_cons, List.length_nil] at this; show B < W.heap.size; omega
    clear hI
    gi_wp2_with fail
    gi_region_with (refine ⟨trivial, ?_⟩; refine (callsIn_wide.2 (HX.out _)).mono ?_; rintro e wx ⟨rfl, hbx⟩; have cx : wx.cell? ⟨B, 0, none⟩ = some (.int .i64 (S : Int)) := (Below.cell (p := ⟨B, 0, none⟩) hbx hbl).trans c0; have fx : wx.frozen? ⟨B, 0, none⟩ = false := (Below.frozen (p := ⟨B, 0, none⟩) hbx hbl).trans f0)
    all_goals gi_wp2_with fail
    all_goals exact sumJ.next HI.out ⟨hbx.os, hbx.tape, hbx.output, hbx.size, hbx.block⟩ (by omega) (.inl rfl)
  case done =>
    rintro D ys W hD hys hI hK
    have hsz : sumP s (pls ys) = s.size := by rw [hys]; exact sumP_rest s s.size 0 (by omega) (by omega)
    unfold sumJ at hI
    rw [hsz] at hI
    have hTW : Tab W := hT0.below (hI.be.mono (Nat.le_of_eq hB)) hT0.2
    have HI := Lib.hid hI
    have hwB : w.heap.size ≤ B := by rw [← hB]; exact hb0.size
    have hzW : B + 3 ≤ W0.heap.size := by omega
    clear hI
    by_cases ht0 : t.size = 0
    · have hi := hix.1 ht0
      have hte : t = ⟨#[]⟩ := by
        cases t with
        | mk d => congr 1; exact Array.eq_empty_of_size_eq_zero ht0
      subst hi
      subst hte
      clear hix
      gi_wp2_with fail
      refine ⟨trivial, ?_⟩
      refine (callsIn_wide.2 (H1.out _ hTW)).mono ?_
      rintro e w2 ⟨rfl, hb2⟩
      have hT2 := hTW.below hb2 hTW.2
      have hI2 : Boxes B _ w0 w2 := HI.out.below hb2
      have hK2 := (hb2.block D (Array.getElem?_eq_some_iff.1 hK).1).trans hK
      have hz2 := hb2.size
      gi_wp2_with fail
      refine ⟨trivial, ?_⟩
      refine (callsIn_wide.2 (H2.out _ hT2)).mono ?_
      rintro e w3 ⟨rfl, hb3⟩
      have hT3 := hT2.below hb3 hT2.2
      have hI3 : Boxes B _ w0 w3 := hI2.below hb3
      have hK3 := (hb3.block D (Array.getElem?_eq_some_iff.1 hK2).1).trans hK2
      have c3 : w3.cell? ⟨B, 0, none⟩ = _ := hI3.cell 0 rfl
      gi_wp2_with fail
      refine ⟨trivial, ?_⟩
      refine (callsIn_wide.2 (H3.out _ hT3)).mono ?_
      rintro e w4 ⟨rfl, hb4⟩
      have hI4 : Boxes B _ w0 w4 := hI3.below hb4
      have hK4 := (hb4.block D (Array.getElem?_eq_some_iff.1 hK3).1).trans hK3
      gi_wp2_with fail
      all_goals try (exact absurd ‹some undef = some (Value.bool _)› (fun h => by cases h))
      refine ⟨by simp, .inl ⟨_, _, rfl, run_takeDeferred hK4, ?_⟩⟩
      exact ⟨_, results_tmp rfl _ _ _, rfl, (hb0.trans (hI4.be.mono hwB)).trans (belowK_b (w := w) (Nat.le_refl _) w4 D _ _ (by omega) hK4 rfl rfl)⟩
    · have tb := str_ne ht0
      have hi := hix.2 ht0
      have i0 : ((ix : Int) == 0) = false := by rw [beq_eq_false_iff_ne]; omega
      have i1 : (1 : Int) ≤ ix := by omega
      have i2 : (ix : Int) ≤ (s.size : Int) + 1 := by omega
      clear hix hi
      gi_wp2_with fail
      refine ⟨trivial, ?_⟩
      refine (callsIn_wide.2 (H1.out _ hTW)).mono ?_
      rintro e w2 ⟨rfl, hb2⟩
      have hT2 := hTW.below hb2 hTW.2
      have hI2 : Boxes B _ w0 w2 := HI.out.below hb2
      have hK2 := (hb2.block D (Array.getElem?_eq_some_iff.1 hK).1).trans hK
      have hz2 := hb2.size
      gi_wp2_with fail
      refine ⟨trivial, ?_⟩
      refine (callsIn_wide.2 (H2.out _ hT2)).mono ?_
      rintro e w3 ⟨rfl, hb3⟩
      have hT3 := hT2.below hb3 hT2.2
      have hI3 : Boxes B _ w0 w3 := hI2.below hb3
      have hK3 := (hb3.block D (Array.getElem?_eq_some_iff.1 hK2).1).trans hK2
      have c3 : w3.cell? ⟨B, 0, none⟩ = _ := hI3.cell 0 rfl
      gi_wp2_with fail
      refine ⟨trivial, ?_⟩
      refine (callsIn_wide.2 (H3.out _ hT3)).mono ?_
      rintro e w4 ⟨rfl, hb4⟩
      have hI4 : Boxes B _ w0 w4 := hI3.below hb4
      have hK4 := (hb4.block D (Array.getElem?_eq_some_iff.1 hK3).1).trans hK3
      gi_wp2_with fail
      all_goals try (exact absurd ‹some undef = some (Value.bool _)› (fun h => by cases h))
      refine ⟨by simp, .inl ⟨_, _, rfl, run_takeDeferred hK4, ?_⟩⟩
      exact ⟨_, results_tmp rfl _ _ _, rfl, (hb0.trans (hI4.be.mono hwB)).trans (belowK_b (w := w) (Nat.le_refl _) w4 D _ _ (by omega) hK4 rfl rfl)⟩
  case stop =>
    rintro D c pre W _ _ h _
    exact h.elim

end Go.Proofs.YtaheddpmidoekaaDoor
