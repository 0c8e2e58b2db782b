/- The walk of 'Index' of the program. -/
import Derived.Test.YtaheddpmidoekaaDoorUsRindex
import Derived.Stop.RegionWithIn
namespace Go.Proofs.YtaheddpmidoekaaDoor
open Go.RowKit Go.Shelf
set_option linter.unusedVariables false
attribute [local go_sem] Oper.semAt_some

theorem pre_has (s : ByteArray) (p : Nat) (t : ByteArray) (h : p ≤ s.size) : Lib.hasPrefix (s.extract p s.size).data.toList t.data.toList = decide (pre s p t) := by
  rw [← Lib.hasPrefix_raw, str_eq, Lib.tail_size]
  have e : (s.extract p s.size).extract 0 t.size = s.extract p (min (p + t.size) s.size) := by rw [ByteArray.extract_extract]; congr 1
  by_cases hf : p + t.size ≤ s.size
  · have e2 : min (p + t.size) s.size = p + t.size := by omega
    rw [e, e2]
    by_cases hq : s.extract p (p + t.size) = t
    · rw [decide_eq_true hq, decide_eq_true (show t.size ≤ s.size - p by omega), decide_eq_true (show pre s p t from ⟨hf, hq⟩)]; rfl
    · rw [decide_eq_false hq, decide_eq_false (show ¬ pre s p t from fun h => hq h.2)]; simp
  · rw [decide_eq_false (show ¬ t.size ≤ s.size - p by omega), decide_eq_false (show ¬ pre s p t from fun h => hf h.1)]; rfl
theorem idxL_none (s t : ByteArray) : ∀ (l : List Nat) (k : Nat), (∀ y ∈ l, ¬ pre s y t) → idxL s t l k = 0
  | [], _, _ => rfl
  | y :: l, k, h => by
    show (if pre s y t then _ else _) = _
    rw [if_neg (h y (by simp)), idxL_none s t l (k + 1) fun z hz => h z (by simp [hz])]
theorem idxL_hit (s t : ByteArray) : ∀ (l : List Nat) (x : Nat) (r : List Nat) (k : Nat), (∀ y ∈ l, ¬ pre s y t) → pre s x t → idxL s t (l ++ x :: r) k = k + l.length + 1
  | [], x, r, k, _, hx => by
    show (if pre s x t then _ else _) = _
    rw [if_pos hx]; rfl
  | y :: l, x, r, k, h, hx => by
    show (if pre s y t then _ else _) = _
    rw [if_neg (h y (by simp))]
    have := idxL_hit s t l x r (k + 1) (fun z hz => h z (by simp [hz])) hx
    rw [List.length_cons]
    exact this.trans (by omega)

def ixI (B : Nat) (s t : ByteArray) (m : Bool) (r k : Int) (w W : World) : Prop :=
  Boxes B [(9, .string s), (9, .string t), (3, .int .i64 r), (3, .int .i64 k), (9, .string s), (4, .bool m)] w W

theorem indexEnd {B D : Nat} {s t : ByteArray} {m : Bool} {r k : Int} {w W : World} {a : Act} {v : Int} (hB : w.heap.size = B) (hD : B + 1 + 1 + 1 + 1 + 1 + 1 ≤ D) (hv : v = r) (hI : ixI B s t m r k w W) (hK : W.heap[D]? = some (.deferred (some [])))
    (ht1 : a.tmps[6]? = some (.pointer (some ⟨B + 1 + 1, 0, none⟩))) (hd : a.defers = [{ target := .collected D, args := #[] }]) :
    bodyPostM Fence.wide 6 Tryd.prog Tryd.f24 (fun e w' => e = .returned (.int .i64 v) ∧ Below w.heap.size w w') .ret a W := by
  have h2 := Boxes.own (fun (_ : Unit) => [(9, Value.string s), (9, .string t), (3, .int .i64 r), (3, .int .i64 k), (9, .string s), (4, .bool m)]) (C := B) (Nat.le_of_eq hB.symm) (Nat.le_refl _) () W _ (some D) hI (grownBy_putObj' W D (.deferred none)) (fun r e => by cases e; exact ⟨by omega, _, hK, rfl⟩)
  have c1 : (W.putObj D (.deferred none)).cell? ⟨B + 1 + 1, 0, none⟩ = _ := h2.cell 2 rfl
  obtain ⟨tmps, defers⟩ := a
  simp only at hd ht1
  subst hd hv
  refine ⟨by simp, .inl ⟨_, _, rfl, run_takeDeferred hK, ?_⟩⟩
  refine ⟨.int .i64 v, ?_, rfl, by rw [hB]; exact h2.be⟩
  simp [results, Tryd.f24, go_sem, ht1, c1]

set_option maxRecDepth 100000 in
set_option maxHeartbeats 4000000 in
theorem index_any (s t : ByteArray) (m : Bool) (w : World) (hs : s.size ≤ 4398046511104) (hT : Tab w) :
    Calls Tryd.prog 24 #[.string s, .string t, .bool m] w fun e w' => e = .returned (.int .i64 (idxV s t m : Int)) ∧ Below w.heap.size w w' := by
  have hs' : s.size ≤ maxLen := by unfold maxLen; omega
  by_cases ht0 : t.size = 0
  · have hv : idxV s t m = 0 := if_pos ht0
    rw [hv]
    have hte : t = ⟨#[]⟩ := by
      cases t with
      | mk d => congr 1; exact Array.eq_empty_of_size_eq_zero ht0
    subst hte
    clear hv
    refine (callsIn_wide (n := 6)).1 ?_
    refine callsIn_of_wp_marks Tryd.func24 rfl trivial ?_ rfl
    simp only [Tryd.ntmps24, List.size_toArray, List.length_cons, List.length_nil, Nat.reduceAdd, Nat.reduceSub, Array.replicate_succ, Array.replicate_zero, List.push_toArray, List.append_toArray, List.nil_append, List.cons_append]
    gi_wp2_with fail
    obtain ⟨x1, y1⟩ := (Boxes.nil w).alloc 9 (.string s) (by simp)
    obtain ⟨x2, y2⟩ := x1.alloc 9 (.string ⟨#[]⟩) y1
    obtain ⟨x3, y3⟩ := x2.alloc 3 (.int .i64 0) y2
    obtain ⟨x4, y4⟩ := x3.alloc 3 (.int .i64 0) y3
    have c2 := x4.cell 2 (t := 3) (v := .int .i64 0) rfl
    have hbe := x4.be
    clear x1 y1 x2 y2 x3 y3 x4 y4
    generalize ((((w.alloc (.cells #[.string s] 9)).alloc (.cells #[.string ⟨#[]⟩] 9)).alloc (.cells #[.int .i64 0] 3)).alloc (.cells #[.int .i64 0] 3)) = W0 at *
    have c2' : W0.cell? ⟨w.heap.size + 1 + 1, 0, none⟩ = some (.int .i64 0) := c2
    refine ⟨.int .i64 0, ?_, rfl, hbe⟩
    simp [results, Tryd.f24, go_sem, c2']
  have hv : idxV s t m = idxL s t (places s m) 0 := if_neg ht0
  rw [hv]
  have hne := str_ne ht0
  refine (callsIn_wide (n := 6)).1 ?_
  refine callsIn_of_wp_marks Tryd.func24 rfl trivial ?_ rfl
  simp only [Tryd.ntmps24, List.size_toArray, List.length_cons, List.length_nil, Nat.reduceAdd, Nat.reduceSub, Array.replicate_succ, Array.replicate_zero, List.push_toArray, List.append_toArray, List.nil_append, List.cons_append]
  gi_wp2_with fail
  refine ⟨trivial, ?_⟩
  refine (callsIn_wide.2 (all_call s m _)).mono ?_
  rintro e w1 ⟨rfl, rfl⟩
  gi_wp2_with fail
  obtain ⟨x1, y1⟩ := (Boxes.nil w).alloc 9 (.string s) (by simp)
  obtain ⟨x2, y2⟩ := x1.alloc 9 (.string t) y1
  obtain ⟨x3, y3⟩ := x2.alloc 3 (.int .i64 0) y2
  obtain ⟨x4, y4⟩ := x3.alloc 3 (.int .i64 0) y3
  obtain ⟨x5, y5⟩ := x4.alloc 9 (.string s) y4
  obtain ⟨x6, y6⟩ := x5.alloc 4 (.bool m) y5
  have X : ixI w.heap.size s t m 0 0 w _ := x6
  clear x1 y1 x2 y2 x3 y3 x4 y4 x5 y5 x6
  simp only [List.length_append, List.length_cons, List.length_nil] at y6
  generalize ((((((w.alloc (.cells #[.string s] 9)).alloc (.cells #[.string t] 9)).alloc (.cells #[.int .i64 0] 3)).alloc (.cells #[.int .i64 0] 3)).alloc (.cells #[.string s] 9)).alloc (.cells #[.bool m] 4)) = W0 at *
  have hn2 := hT.2
  have hT0 := hT.below X.be hT.2
  generalize hB : w.heap.size = B at *
  refine wpIn_rangeFunc_ownG rfl (by omega) (gf := 33) (lb := #[.pointer (some ⟨B + 1 + 1 + 1 + 1, 0, none⟩), .pointer (some ⟨B + 1 + 1 + 1 + 1 + 1, 0, none⟩)]) rfl trivial (enters_of Tryd.func33 (by kernel_rfl) rfl)
    (all_stops 5 (by omega) s m hs' (B + 1 + 1 + 1 + 1) (B + 1 + 1 + 1 + 1 + 1) W0 (by omega) (by omega) (X.cell 4 rfl) (X.cell 5 rfl) hT0) (fun h k => h.trans k) (KeepIt.putObj (by omega) (by omega) (by omega)) (Below.refl _ _) (fun _ => rfl)
    (fun l W => ixI B s t m 0 (l.length : Int) w W ∧ ∀ y ∈ pls l, ¬ pre s y t)
    (fun c l W => c = .ret ∧ ∃ x l', l = l' ++ [x] ∧ (∀ y ∈ pls l', ¬ pre s y t) ∧ pre s x.1 t ∧ ixI B s t m (l.length : Int) (l.length : Int) w W)
    (OwnFrom.and (Boxes.own (fun (l : List (Pl s)) => [(9, Value.string s), (9, .string t), (3, .int .i64 0), (3, .int .i64 (l.length : Int)), (9, .string s), (4, .bool m)]) (by omega) (by omega)) (fun _ _ _ _ hs _ _ => hs))
    (fun c l W W' row hs hg hr => by
      obtain ⟨h1, x, l', h3, h4, h5, h6⟩ := hs
      exact ⟨h1, x, l', h3, h4, h5, Boxes.own (fun (_ : Unit) => [(9, Value.string s), (9, .string t), (3, .int .i64 (l.length : Int)), (3, .int .i64 (l.length : Int)), (9, .string s), (4, .bool m)]) (by omega) (by omega) () W W' row h6 hg hr⟩)
    ⟨X, by simp [pls]⟩
    (fun x => { tmps := (.string s :: .string t :: .bool m :: .pointer (some ⟨B, 0, none⟩) :: .pointer (some ⟨B + 1, 0, none⟩) :: undef :: .pointer (some ⟨B + 1 + 1, 0, none⟩) :: .pointer (some ⟨B + 1 + 1 + 1, 0, none⟩) :: .int .i64 (x.1 : Int) :: .string t :: .bool false :: .string s :: .bool m ::
        .func (.func 33) #[] #[.pointer (some ⟨B + 1 + 1 + 1 + 1, 0, none⟩), .pointer (some ⟨B + 1 + 1 + 1 + 1 + 1, 0, none⟩)] :: .int .i64 (x.1 : Int) :: .int .i64 ((chr s x.1 m).1 : Int) :: undef :: undef :: undef :: undef :: undef :: undef :: undef :: undef :: []).toArray, defers := [] }) ?assign ?body ?done ?stop
  case assign =>
    intro l x W K hK
    gi_wp2
    simpa [encP] using hK
  case body =>
    rintro l pr x W ⟨hI, hno⟩ hlen
    have c0 : W.cell? ⟨B, 0, none⟩ = _ := hI.cell 0 rfl
    have c1 : W.cell? ⟨B + 1, 0, none⟩ = _ := hI.cell 1 rfl
    have c2 : W.cell? ⟨B + 1 + 1, 0, none⟩ = _ := hI.cell 2 rfl
    have c3 : W.cell? ⟨B + 1 + 1 + 1, 0, none⟩ = _ := hI.cell 3 rfl
    have f2 : W.frozen? ⟨B + 1 + 1, 0, none⟩ = false := hI.free 2 rfl
    have f3 : W.frozen? ⟨B + 1 + 1 + 1, 0, none⟩ = false := hI.free 3 rfl
    have HI := Lib.hid hI
    have el : (((pr ++ [x]).length : Nat) : Int) = (pr.length : Int) + 1 := by simp
    have hx := x.2
    have hx0 : (0 : Int) ≤ (x.1 : Int) := by omega
    have hx1 : (x.1 : Int) ≤ (s.size : Int) := by omega
    have HP := Lib.hid (fun w => Tryd.strings_HasPrefix (s.extract x.1 s.size) t w)
    rw [pre_has s x.1 t (by omega)] at HP
    clear hI
    gi_wp2_with fail
    gi_region_with (refine ⟨trivial, ?_⟩; refine (callsIn_wide.2 (HP.out _)).mono ?_; rintro e w' ⟨rfl, rfl⟩)
    all_goals
      by_cases hp : pre s x.1 t
      · have hd : decide (pre s x.1 t) = true := decide_eq_true hp
        gi_wp2_with fail
        have k1 := (KeepsOthers.setCell W ⟨B + 1 + 1 + 1, 0, none⟩ (.int .i64 ((pr.length : Int) + 1))).trans (KeepsOthers.setCell _ ⟨B + 1 + 1, 0, none⟩ (.int .i64 ((pr.length : Int) + 1)))
        have b1 := (HI.out.set 3 rfl (.int .i64 ((pr.length : Int) + 1))).set 2 rfl (.int .i64 ((pr.length : Int) + 1))
        refine ⟨⟨k1.size, fun k o _ hk ho => k1.same k o hk ho⟩, rfl, x, pr, rfl, hno, hp, ?_⟩
        rw [el]
        exact ⟨b1.1, ⟨b1.2.1.os, b1.2.1.tape, b1.2.1.output, b1.2.1.size, b1.2.1.block⟩, b1.2.2⟩
      · have hd : decide (pre s x.1 t) = false := decide_eq_false hp
        gi_wp2_with fail
        have k1 := KeepsOthers.setCell W ⟨B + 1 + 1 + 1, 0, none⟩ (.int .i64 ((pr.length : Int) + 1))
        have b1 := HI.out.set 3 rfl (.int .i64 ((pr.length : Int) + 1))
        have t1 := KeepIt.setCell (Bs := B + 1 + 1 + 1 + 1) (Bm := B + 1 + 1 + 1 + 1 + 1) W (p := ⟨B + 1 + 1 + 1, 0, none⟩) (by simp) (by simp) (by simp) (.int .i64 ((pr.length : Int) + 1))
        refine ⟨⟨k1.size, fun k o _ hk ho => k1.same k o hk ho⟩, ⟨t1.size, t1.same⟩, ?_, ?_⟩
        · rw [el]
          exact ⟨b1.1, ⟨b1.2.1.os, b1.2.1.tape, b1.2.1.output, b1.2.1.size, b1.2.1.block⟩, b1.2.2⟩
        · rw [pls_snoc]
          intro y hy
          rcases List.mem_append.1 hy with h | h
          · exact hno y h
          · simp at h; subst h; exact hp
  case done =>
    rintro D ys W hD hys ⟨hI, hno⟩ hK
    rw [hys] at hno
    have hz := idxL_none s t (places s m) 0 hno
    have c2 : W.cell? ⟨B + 1 + 1, 0, none⟩ = _ := hI.cell 2 rfl
    have f2 : W.frozen? ⟨B + 1 + 1, 0, none⟩ = false := hI.free 2 rfl
    have HI := Lib.hid hI
    clear hI
    gi_wp2_with fail
    have hI2 := HI.out.set 2 rfl (.int .i64 0)
    have hK2 := (KeepsOthers.setCell W ⟨B + 1 + 1, 0, none⟩ (.int .i64 0)).same D _ hK rfl
    exact indexEnd hB (by omega) (by rw [hz]; rfl) hI2 hK2 rfl rfl
  case stop =>
    rintro D c l W hD hpre ⟨rfl, x, l', e, h1, h2, hI⟩ hK
    have hz : idxL s t (places s m) 0 = l.length := by
      obtain ⟨r, hr⟩ := hpre
      rw [← hr, e, pls_snoc, List.append_assoc, List.singleton_append, idxL_hit s t (pls l') x.1 r 0 h1 h2]
      simp [pls]
    gi_wp2_with fail
    exact indexEnd hB (by omega) (by rw [hz]) hI hK rfl rfl

end Go.Proofs.YtaheddpmidoekaaDoor
