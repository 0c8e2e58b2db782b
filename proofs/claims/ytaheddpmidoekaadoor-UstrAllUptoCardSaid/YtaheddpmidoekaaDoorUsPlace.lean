/- The walks of 'Place', of the program and of the document. Boxes that lie in a row. -/
import Derived.Test.YtaheddpmidoekaaDoorUsRmap
import Derived.Test.YtaheddpmidoekaaDoorUsLen
import Derived.RangeFuncBox
namespace Go.Proofs.YtaheddpmidoekaaDoor
open Go.RowKit Go.Shelf
set_option linter.unusedVariables false
attribute [local go_sem] Oper.semAt_some

/-- Variables' boxes, one behind the other, from block B on. -/
def Boxes (B : Nat) (l : List (TypeId × Value)) (w W : World) : Prop := (∀ i x, l[i]? = some x → Boxed W (B + i) x.1 x.2) ∧ Below B w W ∧ B + l.length ≤ W.heap.size
theorem Boxes.nil (w : World) : Boxes w.heap.size [] w w := ⟨by simp, Below.refl _ _, by simp⟩
theorem Boxes.box {B : Nat} {l : List (TypeId × Value)} {w W : World} (h : Boxes B l w W) (i : Nat) {x : TypeId × Value} (hi : l[i]? = some x) : Boxed W (B + i) x.1 x.2 := h.1 i x hi
theorem Boxes.alloc {B : Nat} {l : List (TypeId × Value)} {w W : World} (h : Boxes B l w W) (t : TypeId) (v : Value) (hs : W.heap.size = B + l.length) :
    Boxes B (l ++ [(t, v)]) w (W.alloc (.cells #[v] t)) ∧ (W.alloc (.cells #[v] t)).heap.size = B + (l ++ [(t, v)]).length := by
  refine ⟨⟨fun i x hi => ?_, h.2.1.alloc (by omega) _, by simp; omega⟩, by simp; omega⟩
  by_cases hl : i < l.length
  · rw [List.getElem?_append_left hl] at hi
    exact (h.1 i x hi).alloc _
  · obtain rfl : i = l.length := by
      have := (List.getElem?_eq_some_iff.1 hi).1
      simp at this; omega
    simp at hi
    subst hi
    have := Boxed.new W t v
    rw [hs] at this
    exact this
theorem Boxes.set {B : Nat} {l : List (TypeId × Value)} {w W : World} (h : Boxes B l w W) (i : Nat) {t : TypeId} {v : Value} (hi : l[i]? = some (t, v)) (v' : Value) : Boxes B (l.set i (t, v')) w (W.setCell ⟨B + i, 0, none⟩ v') := by
  refine ⟨fun j x hj => ?_, h.2.1.setCell (p := ⟨B + i, 0, none⟩) (Nat.le_add_right _ _) _, by rw [List.length_set]; simpa [World.setCell] using h.2.2⟩
  by_cases e : j = i
  · subst e
    have hlt := (List.getElem?_eq_some_iff.1 hi).1
    simp [hlt] at hj
    subst hj
    exact Boxed.set v' (h.1 j (t, v) hi)
  · rw [List.getElem?_set_ne (fun e' => e e'.symm)] at hj
    have := h.1 j x hj
    exact (Below.heap_setCell W ⟨B + i, 0, none⟩ v' (B + j) (by simp; omega)).trans this
theorem Boxes.below {B : Nat} {l : List (TypeId × Value)} {w W W' : World} (h : Boxes B l w W) (hb : Below W.heap.size W W') : Boxes B l w W' :=
  ⟨fun i x hi => (hb.block _ (Array.getElem?_eq_some_iff.1 (h.1 i x hi)).1).trans (h.1 i x hi), h.2.1.trans (hb.mono (by have := h.2.2; omega)), Nat.le_trans h.2.2 hb.size⟩
theorem Boxes.own {α : Type} {B C : Nat} {w : World} (L : α → List (TypeId × Value)) (hB : B ≤ w.heap.size) (hC : B ≤ C) : OwnFrom C (fun (pre : α) W => Boxes B (L pre) w W) := by
  intro pre W W' row h hg hr
  refine ⟨fun i x hi => ?_, ownFrom_below (β := Unit) hB hC () W W' row h.2.1 hg hr, Nat.le_trans h.2.2 hg.size⟩
  exact (grownBy_keeps_cells hg (fun r e => (hr r e).2) (h.1 i x hi) rfl).trans (h.1 i x hi)
theorem Boxes.cell {B : Nat} {l : List (TypeId × Value)} {w W : World} (h : Boxes B l w W) (i : Nat) {t : TypeId} {v : Value} (hi : l[i]? = some (t, v)) : W.cell? ⟨B + i, 0, none⟩ = some v := (h.1 i _ hi).cell
theorem Boxes.free {B : Nat} {l : List (TypeId × Value)} {w W : World} (h : Boxes B l w W) (i : Nat) {t : TypeId} {v : Value} (hi : l[i]? = some (t, v)) : W.frozen? ⟨B + i, 0, none⟩ = false := (h.1 i _ hi).frozen
theorem Boxes.be {B : Nat} {l : List (TypeId × Value)} {w W : World} (h : Boxes B l w W) : Below B w W := h.2.1

/-- 'Place''s answer. -/
def placeV (s : ByteArray) (m : Bool) (n : Int) : Int × Bool := if 1 ≤ n ∧ n ≤ (starts s m).length then (((starts s m).getD (n - 1).toNat 0 : Nat), true) else (0, false)

/-- The invariant of the loop: the boxes of n, of the two results, of k; the iterator's two. -/
def plI (B : Nat) (s : ByteArray) (m : Bool) (n : Int) (r : Int) (ok : Bool) (k : Int) (w W : World) : Prop :=
  Boxes B [(3, .int .i64 n), (3, .int .i64 r), (4, .bool ok), (3, .int .i64 k), (9, .string s), (4, .bool m)] w W

theorem placeEnd {B D : Nat} {s : ByteArray} {m : Bool} {n r k : Int} {ok : Bool} {w W : World} {a : Act} (hB : w.heap.size = B) (hD : B + 1 + 1 + 1 + 1 + 1 + 1 ≤ D) (hv : placeV s m n = (r, ok)) (hI : plI B s m n r ok k w W) (hK : W.heap[D]? = some (.deferred (some [])))
    (ht1 : a.tmps[6]? = some (.pointer (some ⟨B + 1, 0, none⟩))) (ht2 : a.tmps[7]? = some (.pointer (some ⟨B + 1 + 1, 0, none⟩))) (hd : a.defers = [{ target := .collected D, args := #[] }]) :
    bodyPostM Fence.wide 6 Tryd.prog Tryd.f26 (fun e w' => e = .returned (.tuple #[.int .i64 (placeV s m n).1, .bool (placeV s m n).2]) ∧ Below w.heap.size w w') .ret a W := by
  have h2 := Boxes.own (fun (_ : Unit) => [(3, .int .i64 n), (3, .int .i64 r), (4, .bool ok), (3, .int .i64 k), (9, .string s), (4, .bool m)]) (C := B) (Nat.le_of_eq hB.symm) (Nat.le_refl _) () W _ (some D) hI (grownBy_putObj' W D (.deferred none)) (fun r e => by cases e; exact ⟨by omega, _, hK, rfl⟩)
  have c1 : (W.putObj D (.deferred none)).cell? ⟨B + 1, 0, none⟩ = _ := h2.cell 1 rfl
  have c2 : (W.putObj D (.deferred none)).cell? ⟨B + 1 + 1, 0, none⟩ = _ := h2.cell 2 rfl
  obtain ⟨tmps, defers⟩ := a
  simp only at hd ht1 ht2
  subst hd
  refine ⟨by simp, .inl ⟨_, _, rfl, run_takeDeferred hK, ?_⟩⟩
  refine ⟨.tuple #[.int .i64 r, .bool ok], ?_, by rw [hv], by rw [hB]; exact h2.be⟩
  simp [results, Tryd.f26, go_sem, ht1, ht2, c1, c2]

set_option maxRecDepth 100000 in
set_option maxHeartbeats 4000000 in
theorem place_any (s : ByteArray) (n : Int) (m : Bool) (w : World) (hs : s.size ≤ 4398046511104) (hT : Tab w) :
    Calls Tryd.prog 26 #[.string s, .int .i64 n, .bool m] w fun e w' => e = .returned (.tuple #[.int .i64 (placeV s m n).1, .bool (placeV s m n).2]) ∧ Below w.heap.size w w' := by
  have hs' : s.size ≤ maxLen := by unfold maxLen; omega
  refine (callsIn_wide (n := 6)).1 ?_
  refine callsIn_of_wp_marks Tryd.func26 rfl trivial ?_ rfl
  simp only [Tryd.ntmps26, List.size_toArray, List.length_cons, List.length_nil, Nat.reduceAdd, Nat.reduceSub, Array.replicate_succ, Array.replicate_zero, List.push_toArray, List.append_toArray, List.nil_append, List.cons_append]
  gi_wp2_with fail
  refine ⟨trivial, ?_⟩
  refine (callsIn_wide.2 (all_call s m _)).mono ?_
  rintro e w1 ⟨rfl, rfl⟩
  gi_wp2_with fail
  obtain ⟨x1, y1⟩ := (Boxes.nil w).alloc 3 (.int .i64 n) (by simp)
  obtain ⟨x2, y2⟩ := x1.alloc 3 (.int .i64 0) y1
  obtain ⟨x3, y3⟩ := x2.alloc 4 (.bool false) y2
  obtain ⟨x4, y4⟩ := x3.alloc 3 (.int .i64 1) y3
  obtain ⟨x5, y5⟩ := x4.alloc 9 (.string s) y4
  obtain ⟨x6, y6⟩ := x5.alloc 4 (.bool m) y5
  have X : plI w.heap.size s m n 0 false 1 w _ := x6
  clear x1 y1 x2 y2 x3 y3 x4 y4 x5 y5 x6
  simp only [List.length_append, List.length_cons, List.length_nil] at y6
  generalize ((((((w.alloc (.cells #[.int .i64 n] 3)).alloc (.cells #[.int .i64 0] 3)).alloc (.cells #[.bool false] 4)).alloc (.cells #[.int .i64 1] 3)).alloc (.cells #[.string s] 9)).alloc (.cells #[.bool m] 4)) = W0 at *
  have hn2 := hT.2
  have hT0 := hT.below X.be hT.2
  generalize hB : w.heap.size = B at *
  refine wpIn_rangeFunc_ownG rfl (by omega) (gf := 33) (lb := #[.pointer (some ⟨B + 1 + 1 + 1 + 1, 0, none⟩), .pointer (some ⟨B + 1 + 1 + 1 + 1 + 1, 0, none⟩)]) rfl trivial (enters_of Tryd.func33 (by kernel_rfl) rfl)
    (all_stops 5 (by omega) s m hs' (B + 1 + 1 + 1 + 1) (B + 1 + 1 + 1 + 1 + 1) W0 (by omega) (by omega) (X.cell 4 rfl) (X.cell 5 rfl) hT0) (fun h k => h.trans k) (KeepIt.putObj (by omega) (by omega) (by omega)) (Below.refl _ _) (fun _ => rfl)
    (fun pre W => plI B s m n 0 false ((pre.length : Int) + 1) w W ∧ ¬ (1 ≤ n ∧ n ≤ pre.length))
    (fun c pre W => c = .ret ∧ n = pre.length ∧ ∃ x pre', pre = pre' ++ [x] ∧ plI B s m n (x.1 : Int) true (pre.length : Int) w W)
    (OwnFrom.and (Boxes.own (fun (pre : List (Pl s)) => [(3, .int .i64 n), (3, .int .i64 0), (4, .bool false), (3, .int .i64 ((pre.length : Int) + 1)), (9, .string s), (4, .bool m)]) (by omega) (by omega)) (fun _ _ _ _ hs _ _ => hs))
    (fun c pre W W' row hs hg hr => by
      obtain ⟨h1, h2, x, pre', h3, h4⟩ := hs
      exact ⟨h1, h2, x, pre', h3, Boxes.own (fun (_ : Unit) => [(3, .int .i64 n), (3, .int .i64 (x.1 : Int)), (4, .bool true), (3, .int .i64 (pre.length : Int)), (9, .string s), (4, .bool m)]) (by omega) (by omega) () W W' row h4 hg hr⟩)
    ⟨X, by simp; omega⟩
    (fun x => { tmps := (.string s :: .int .i64 n :: .bool m :: undef :: .pointer (some ⟨B, 0, none⟩) :: undef :: .pointer (some ⟨B + 1, 0, none⟩) :: .pointer (some ⟨B + 1 + 1, 0, none⟩) :: .pointer (some ⟨B + 1 + 1 + 1, 0, none⟩) :: .int .i64 (x.1 : Int) :: .string s :: .bool m ::
        .func (.func 33) #[] #[.pointer (some ⟨B + 1 + 1 + 1 + 1, 0, none⟩), .pointer (some ⟨B + 1 + 1 + 1 + 1 + 1, 0, none⟩)] :: .int .i64 (x.1 : Int) :: .int .i64 ((chr s x.1 m).1 : Int) :: undef :: undef :: undef :: undef :: undef :: undef :: undef :: undef :: undef :: undef :: undef :: []).toArray, defers := [] }) ?assign ?body ?done ?stop
  case assign =>
    intro l x W K hK
    gi_wp2
    simpa [encP] using hK
  case body =>
    rintro l pre x W ⟨hI, hno⟩ hlen
    have c0 : W.cell? ⟨B, 0, none⟩ = _ := hI.cell 0 rfl
    have c3 : W.cell? ⟨B + 1 + 1 + 1, 0, none⟩ = _ := hI.cell 3 rfl
    have f1 : W.frozen? ⟨B + 1, 0, none⟩ = false := hI.free 1 rfl
    have f2 : W.frozen? ⟨B + 1 + 1, 0, none⟩ = false := hI.free 2 rfl
    have f3 : W.frozen? ⟨B + 1 + 1 + 1, 0, none⟩ = false := hI.free 3 rfl
    have c1 : W.cell? ⟨B + 1, 0, none⟩ = _ := hI.cell 1 rfl
    have c2 : W.cell? ⟨B + 1 + 1, 0, none⟩ = _ := hI.cell 2 rfl
    have HI := Lib.hid hI
    have el : (((pre ++ [x]).length : Nat) : Int) = (pre.length : Int) + 1 := by simp
    clear hI
    by_cases he : (pre.length : Int) + 1 = n
    · have he' : ((pre.length : Int) + 1 == n) = true := by rw [he]; exact beq_self_eq_true _
      gi_wp2_with fail
      refine ⟨((KeepsOthers.setCell _ _ _).trans (KeepsOthers.setCell _ _ _)).from _, rfl, by rw [el]; omega, x, pre, rfl, ?_⟩
      rw [el]
      exact (HI.out.set 1 rfl _).set 2 rfl _
    · have he' : ((pre.length : Int) + 1 == n) = false := by rw [beq_eq_false_iff_ne]; exact he
      gi_wp2_with fail
      refine ⟨(KeepsOthers.setCell _ _ _).from _, KeepIt.setCell (p := ⟨B + 1 + 1 + 1, 0, none⟩) _ (by simp) (by simp) (by simp) _, ?_, by rw [el]; omega⟩
      rw [el]
      exact HI.out.set 3 rfl _
  case done =>
    rintro D ys W hD hys ⟨hI, hno⟩ hK
    have hyl : ys.length = (places s m).length := by rw [← hys]; simp [pls]
    have hst := starts_len s m
    rw [hyl] at hI hno
    have c0 : W.cell? ⟨B, 0, none⟩ = _ := hI.cell 0 rfl
    have c1 : W.cell? ⟨B + 1, 0, none⟩ = _ := hI.cell 1 rfl
    have c2 : W.cell? ⟨B + 1 + 1, 0, none⟩ = _ := hI.cell 2 rfl
    have c3 : W.cell? ⟨B + 1 + 1 + 1, 0, none⟩ = _ := hI.cell 3 rfl
    have f1 : W.frozen? ⟨B + 1, 0, none⟩ = false := hI.free 1 rfl
    have f2 : W.frozen? ⟨B + 1 + 1, 0, none⟩ = false := hI.free 2 rfl
    have HI := Lib.hid hI
    have hlast : (starts s m).getD (places s m).length 0 = s.size := by simp [starts]
    clear hI
    by_cases he : ((places s m).length : Int) + 1 = n
    · have he' : (((places s m).length : Int) + 1 == n) = true := by rw [he]; exact beq_self_eq_true _
      have hv : placeV s m n = ((s.size : Int), true) := by
        unfold placeV
        rw [if_pos (by omega), show (n - 1).toNat = (places s m).length by omega, hlast]
      gi_wp2_with fail
      have hI2 := (HI.out.set 1 rfl (.int .i64 (s.size : Int))).set 2 rfl (.bool true)
      have hK2 := ((KeepsOthers.setCell W ⟨B + 1, 0, none⟩ (.int .i64 (s.size : Int))).trans (KeepsOthers.setCell _ ⟨B + 1 + 1, 0, none⟩ (.bool true))).same D _ hK rfl
      exact placeEnd hB (by omega) hv hI2 hK2 rfl rfl rfl
    · have he' : (((places s m).length : Int) + 1 == n) = false := by rw [beq_eq_false_iff_ne]; exact he
      have hv : placeV s m n = (0, false) := by
        unfold placeV
        rw [if_neg (by omega)]
      gi_wp2_with fail
      have hI2 := (HI.out.set 1 rfl (.int .i64 0)).set 2 rfl (.bool false)
      have hK2 := ((KeepsOthers.setCell W ⟨B + 1, 0, none⟩ (.int .i64 0)).trans (KeepsOthers.setCell _ ⟨B + 1 + 1, 0, none⟩ (.bool false))).same D _ hK rfl
      exact placeEnd hB (by omega) hv hI2 hK2 rfl rfl rfl
  case stop =>
    rintro D c pre W hD hpre ⟨rfl, hn, x, pre', e, hI⟩ hK
    have hst := starts_len s m
    have hv : placeV s m n = ((x.1 : Int), true) := by
      have hp : (places s m)[pre'.length]? = some x.1 := by
        obtain ⟨r, hr⟩ := hpre
        rw [← hr, e, pls_snoc]
        simp [pls]
      have hlt : pre'.length < (places s m).length := by
        rcases Nat.lt_or_ge pre'.length (places s m).length with h | h
        · exact h
        · rw [List.getElem?_eq_none h] at hp; cases hp
      have hs2 := (starts_at s m hp).2.1
      unfold placeV
      subst e
      simp at hn
      rw [if_pos (by omega), show (n - 1).toNat = pre'.length by omega, List.getD_eq_getElem?_getD, hs2]
      rfl
    gi_wp2_with fail
    exact placeEnd hB (by omega) hv hI hK rfl rfl rfl

end Go.Proofs.YtaheddpmidoekaaDoor
