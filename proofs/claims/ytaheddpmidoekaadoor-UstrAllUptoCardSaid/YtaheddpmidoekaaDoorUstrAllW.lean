/- The walk of UstrAll. -/
import Derived.Test.YtaheddpmidoekaaDoorUsFixed
import Derived.Test.YtaheddpmidoekaaDoorUstrTilesW
import Derived.Test.YtaheddpmidoekaaDoorUsMap
import Derived.Stop.RegionWithIn
namespace Go.Proofs.YtaheddpmidoekaaDoor
open Go.RowKit Go.Shelf
set_option linter.unusedVariables false
attribute [local go_sem] Oper.semAt_some

/-- What stands while a round runs: what was there is as it was; the round's number; n; the lists of deferred calls. -/
structure AllJ (R N : Nat) (rd : Int) (ds : List Nat) (WZ : World) (n : Nat) (W : World) : Prop where
  be : Below WZ.heap.size WZ W
  bR : Boxed W R 3 (.int .i64 rd)
  bN : Boxed W N 3 (.int .i64 (n : Int))
  dl : ∀ d ∈ ds, W.heap[d]? = some (.deferred (some []))
theorem AllJ.own {α : Type} {R N C : Nat} {rd : Int} {ds : List Nat} {WZ : World} (f : α → Nat) (hC : WZ.heap.size ≤ C) (hd : ∀ d ∈ ds, d < C) : OwnFrom C (fun (a : α) W => AllJ R N rd ds WZ (f a) W) := fun a W W' row h hg hr =>
  ⟨ownFrom_below (β := Unit) (Nat.le_refl _) hC () W W' row h.be hg hr, boxed_own (α := Unit) C R _ _ () W W' row h.bR hg hr, boxed_own (α := Unit) C N _ _ () W W' row h.bN hg hr,
    fun d hd' => (hg.block d (Array.getElem?_eq_some_iff.1 (h.dl d hd')).1 (fun e => by have := (hr d e.symm).1; have := hd d hd'; omega)).trans (h.dl d hd')⟩
theorem AllJ.next {R N : Nat} {rd : Int} {ds : List Nat} {WZ W : World} {n : Nat} (h : AllJ R N rd ds WZ n W) (hR : R ≠ N) (hN : WZ.heap.size ≤ N) : AllJ R N rd ds WZ (n + 1) (W.setCell ⟨N, 0, none⟩ (.int .i64 ((n : Int) + 1))) :=
  ⟨h.be.setCell hN _, boxFar h.bR (by exact hR) _, by have := h.bN.set (.int .i64 ((n : Int) + 1)); exact this, fun d hd => (KeepsOthers.setCell W ⟨N, 0, none⟩ (.int .i64 ((n : Int) + 1))).same d _ (h.dl d hd) rfl⟩

def AllP (R N : Nat) (rd : Int) (ds : List Nat) (WZ : World) {s : ByteArray} (pre : List (Pl s)) (W : World) : Prop := AllJ R N rd ds WZ pre.length W
def AllX (R N : Nat) (rd : Int) (ds : List Nat) (WZ : World) (s : ByteArray) (m : Bool) (c : Code) (pre : List (Pl s)) (W : World) : Prop :=
  (c = .ret ∧ ∃ p x, pre = p ++ [x] ∧ (places s m)[p.length]? ≠ some x.1) ∨ (c = .exit 2 ∧ rd = 0 ∧ AllJ R N rd ds WZ pre.length W)

set_option maxRecDepth 100000 in
set_option maxHeartbeats 4000000 in
theorem ustrAll_walk (s : ByteArray) (hs : s.size ≤ 1048576) (early : Int) (we : (Lit.int .i64 early).wf = true) (m : Bool) (w : World) (hT : Tab w) :
    Calls Tryd.prog 5 #[.string s, .int .i64 early, .bool m] w fun e w' => e = .returned (.bool true) ∧ Below w.heap.size w w' := by
  have hs' : s.size ≤ maxLen := by unfold maxLen; omega
  have hpl := places_len s m
  have hsl := starts_len s m
  have H0 := Lib.hid (fun w (h : Tab w) => fixed_any w h)
  have H1 := Lib.hid (fun w => starts_any s m w (by omega))
  refine (callsIn_wide (n := 6)).1 ?_
  refine callsIn_of_wp_marks Tryd.func5 rfl trivial ?_ rfl
  simp only [Tryd.ntmps5, List.size_toArray, List.length_cons, List.length_nil, Nat.reduceAdd, Nat.reduceSub, Array.replicate_succ, Array.replicate_zero, List.push_toArray, List.append_toArray, List.nil_append, List.cons_append]
  gi_wp2_with fail
  refine ⟨trivial, ?_⟩
  obtain ⟨x1, y1⟩ := (Boxes.nil w).alloc 9 (.string s) (by simp)
  obtain ⟨x2, y2⟩ := x1.alloc 3 (.int .i64 early) y1
  obtain ⟨x3, y3⟩ := x2.alloc 4 (.bool m) y2
  obtain ⟨x4, y4⟩ := x3.alloc 4 (.bool false) y3
  have X : Boxes w.heap.size [(9, .string s), (3, .int .i64 early), (4, .bool m), (4, .bool false)] w _ := x4
  clear x1 y1 x2 y2 x3 y3 x4
  simp only [List.length_append, List.length_cons, List.length_nil] at y4
  generalize ((((w.alloc (.cells #[.string s] 9)).alloc (.cells #[.int .i64 early] 3)).alloc (.cells #[.bool m] 4)).alloc (.cells #[.bool false] 4)) = W0 at *
  have hT0 := hT.below X.be hT.2
  generalize hB : w.heap.size = B at *
  refine (callsIn_wide.2 (H0.out W0 hT0)).mono ?_
  rintro e w1 ⟨rfl, hb1⟩
  have hT1 := hT0.below hb1 hT0.2
  have X1 := X.below hb1
  have c0 : w1.cell? ⟨B, 0, none⟩ = _ := X1.cell 0 rfl
  have c2 : w1.cell? ⟨B + 1 + 1, 0, none⟩ = _ := X1.cell 2 rfl
  gi_wp2_with fail
  refine ⟨trivial, ?_⟩
  refine (callsIn_wide.2 (H1.out w1)).mono ?_
  rintro e w2 ⟨v, rfl, hL, hb2⟩
  rw [hsl] at hL
  obtain ⟨A, cp, rfl, hc1, hc2, _⟩ := own_form hL
  obtain ⟨g, rfl, hg1, hg2, _⟩ := own_at hL (ints_at (starts_zero s m))
  have hcells : ∀ i q : Nat, (starts s m)[i]? = some q → w2.cell? ⟨g, i, none⟩ = some (.int .i64 (q : Int)) := fun i q h => by
    obtain ⟨g', e, _, _, h4, _⟩ := own_at hL (ints_at h)
    cases e; exact h4
  have hT2 := hT1.below hb2 hT1.2
  have X2 := X1.below hb2
  clear c0 c2
  have hbV : Below w2.heap.size w2 (w2.alloc (.cells #[.slice (some ⟨g, 0, none⟩) ((places s m).length + 1) cp] 29)) := (Below.refl _ w2).alloc (Nat.le_refl _) _
  have X3 := X2.below hbV
  have c0 : (w2.alloc (.cells #[.slice (some ⟨g, 0, none⟩) ((places s m).length + 1) cp] 29)).cell? ⟨B, 0, none⟩ = _ := X3.cell 0 rfl
  have c2 : (w2.alloc (.cells #[.slice (some ⟨g, 0, none⟩) ((places s m).length + 1) cp] 29)).cell? ⟨B + 1 + 1, 0, none⟩ = _ := X3.cell 2 rfl
  gi_wp2_with fail
  refine ⟨trivial, ?_⟩
  have bV := Boxed.new w2 29 (.slice (some ⟨g, 0, none⟩) ((places s m).length + 1) cp)
  have zV : (w2.alloc (.cells #[.slice (some ⟨g, 0, none⟩) ((places s m).length + 1) cp] 29)).heap.size = w2.heap.size + 1 := by simp
  refine (callsIn_wide.2 (all_call s m _)).mono ?_
  rintro e w3 ⟨rfl, rfl⟩
  have h2V := hT2.2
  generalize hV : w2.heap.size = V at *
  generalize w2.alloc (.cells #[.slice (some ⟨g, 0, none⟩) ((places s m).length + 1) cp] 29) = w3 at *
  obtain ⟨x1, y1⟩ := (Boxes.nil w3).alloc 9 (.string s) (by simp)
  obtain ⟨x2, y2⟩ := x1.alloc 4 (.bool m) y1
  have Y : Boxes w3.heap.size [(9, .string s), (4, .bool m)] w3 _ := x2
  clear x1 y1 x2
  simp only [List.length_append, List.length_cons, List.length_nil] at y2
  generalize (w3.alloc (.cells #[.string s] 9)).alloc (.cells #[.bool m] 4) = WZ at *
  have hT3 := hT2.below hbV h2V
  have hbY := Y.be
  have hT4 := hT3.below hbY hT3.2
  have X4 := X3.below hbY
  gi_wp2_with fail
  refine wpIn_loop_rounds 3 ?_
  rw [roundsIn_succ]
  gi_wp2_with fail
  have hzV : V + 3 = WZ.heap.size := by omega
  have hBV : B + 4 ≤ V := by have := X2.2.2; simp only [List.length_cons, List.length_nil] at this; omega
  have d0 : WZ.cell? ⟨B, 0, none⟩ = _ := X4.cell 0 rfl
  have d1 : WZ.cell? ⟨B + 1, 0, none⟩ = _ := X4.cell 1 rfl
  have d2 : WZ.cell? ⟨B + 1 + 1, 0, none⟩ = _ := X4.cell 2 rfl
  have d3 : WZ.cell? ⟨B + 1 + 1 + 1, 0, none⟩ = _ := X4.cell 3 rfl
  have dF : WZ.frozen? ⟨B + 1 + 1 + 1, 0, none⟩ = false := X4.free 3 rfl
  have dV : WZ.cell? ⟨V, 0, none⟩ = _ := (Below.cell (p := ⟨V, 0, none⟩) hbY (by show V < _; omega)).trans bV.cell
  have hgV : g < V := hg2
  have hcZ : ∀ i q : Nat, (starts s m)[i]? = some q → WZ.cell? ⟨g, i, none⟩ = some (.int .i64 (q : Int)) := fun i q h =>
    (Below.cell (p := ⟨g, i, none⟩) hbY (by show g < _; omega)).trans ((Below.cell (p := ⟨g, i, none⟩) hbV (by show g < _; omega)).trans (hcells i q h))
  replace hcells := hcZ
  have kI1 : WZ.cell? ⟨V + 1, 0, none⟩ = some (.string s) := by rw [← zV]; exact Y.cell 0 rfl
  have kI2 : WZ.cell? ⟨V + 1 + 1, 0, none⟩ = some (.bool m) := by rw [← zV]; exact Y.cell 1 rfl
  have hZB : Below B w WZ := X4.be
  clear hcZ X X1 X2 X3 X4 Y hbY hbV bV hL H0 H1 hb1 hb2 hT0 hT1 hT2 hT3 c0 c2
  have e1 := Boxed.new WZ 3 (.int .i64 0)
  have e2 := e1.alloc (.cells #[.int .i64 0] 3)
  have e3 := Boxed.new (WZ.alloc (.cells #[.int .i64 0] 3)) 3 (.int .i64 0)
  have e4 : Below WZ.heap.size WZ ((WZ.alloc (.cells #[.int .i64 0] 3)).alloc (.cells #[.int .i64 0] 3)) := ((Below.refl _ WZ).alloc (Nat.le_refl _) _).alloc (by simp) _
  have z5 : ((WZ.alloc (.cells #[.int .i64 0] 3)).alloc (.cells #[.int .i64 0] 3)).heap.size = V + 5 := by simp; omega
  rw [World.size_alloc, ← hzV] at e3
  rw [← hzV] at e2
  generalize (WZ.alloc (.cells #[.int .i64 0] 3)).alloc (.cells #[.int .i64 0] 3) = W5 at *
  have kT := hT4.below e4 hT4.2
  have k1 : W5.cell? ⟨V + 1, 0, none⟩ = _ := (Below.cell (p := ⟨V + 1, 0, none⟩) e4 (by show V + 1 < _; omega)).trans kI1
  have k2 : W5.cell? ⟨V + 1 + 1, 0, none⟩ = _ := (Below.cell (p := ⟨V + 1 + 1, 0, none⟩) e4 (by show V + 1 + 1 < _; omega)).trans kI2
  have k0 := kT.2
  have HJ : AllJ (V + 1 + 2) (V + 1 + 2 + 1) 0 [] WZ (([] : List (Pl s)).length) W5 := ⟨e4, e2, e3, by simp⟩

  refine Code.wpIn_mono (Q := fun e a W => (e = .normal ∨ e = .exit 2) ∧ ∃ D n, W5.heap.size ≤ D ∧ a = { tmps := (.string s :: .int .i64 early :: .bool m :: .pointer (some ⟨B, 0, none⟩) :: .pointer (some ⟨B + 1, 0, none⟩) :: .pointer (some ⟨B + 1 + 1, 0, none⟩) :: .pointer (some ⟨B + 1 + 1 + 1, 0, none⟩) :: .pointer (some ⟨V, 0, none⟩) :: .func (.func 33) #[] #[.pointer (some ⟨V + 1, 0, none⟩), .pointer (some ⟨V + 1 + 1, 0, none⟩)] :: .pointer (some ⟨V + 1 + 2, 0, none⟩) :: .pointer (some ⟨V + 1 + 2 + 1, 0, none⟩) :: undef :: undef :: undef :: undef :: .bool true :: .bool false :: .string s :: .bool m :: .slice (some ⟨g, 0, none⟩) ((places s m).length + 1) cp :: .string s :: .bool m :: .func (.func 33) #[] #[.pointer (some ⟨V + 1, 0, none⟩), .pointer (some ⟨V + 1 + 1, 0, none⟩)] :: .int .i64 0 :: .bool true :: undef :: undef :: .func (.func 33) #[] #[.pointer (some ⟨V + 1, 0, none⟩), .pointer (some ⟨V + 1 + 1, 0, none⟩)] :: undef :: undef :: undef :: undef :: undef :: undef :: undef :: undef :: undef :: undef :: undef :: undef :: undef :: undef :: undef :: undef :: undef :: undef :: undef :: undef :: undef :: undef :: undef :: undef :: undef :: undef :: undef :: undef :: undef :: undef :: undef :: undef :: undef :: undef :: undef :: undef :: undef :: undef :: undef :: undef :: undef :: undef :: undef :: undef :: undef :: undef :: []).toArray, defers := { target := .collected D, args := #[] } :: [] } ∧ AllJ (V + 1 + 2) (V + 1 + 2 + 1) 0 [] WZ n W ∧ W.heap[D]? = some (.deferred (some [])) ∧ (0 = 1 → n = (places s m).length)) ?after0 ?range0
  case range0 =>
    refine wpIn_rangeFunc_ownG rfl (by omega) (gf := 33) (lb := #[.pointer (some ⟨V + 1, 0, none⟩), .pointer (some ⟨V + 1 + 1, 0, none⟩)]) rfl trivial (enters_of Tryd.func33 (by kernel_rfl) rfl)
      (all_stops 5 (by omega) s m hs' (V + 1) (V + 1 + 1) W5 (by omega) (by omega) k1 k2 kT) (fun h k => h.trans k) (KeepIt.putObj (by omega) (by omega) (by omega)) (Below.refl _ _) (fun _ => rfl)
      (fun pre W => AllP (V + 1 + 2) (V + 1 + 2 + 1) 0 [] WZ pre W)
      (fun c pre W => AllX (V + 1 + 2) (V + 1 + 2 + 1) 0 [] WZ s m c pre W)
      (AllJ.own (fun (pre : List (Pl s)) => pre.length) (by omega) (by simp; try omega))
      (fun c pre W W' row hs hg hr => by
        rcases hs with h | ⟨h1, h2, h3⟩
        · exact .inl h
        · exact .inr ⟨h1, h2, AllJ.own (fun (pre : List (Pl s)) => pre.length) (by omega) (by simp; try omega) pre W W' row h3 hg hr⟩)
      HJ
      (fun x => { tmps := (.string s :: .int .i64 early :: .bool m :: .pointer (some ⟨B, 0, none⟩) :: .pointer (some ⟨B + 1, 0, none⟩) :: .pointer (some ⟨B + 1 + 1, 0, none⟩) :: .pointer (some ⟨B + 1 + 1 + 1, 0, none⟩) :: .pointer (some ⟨V, 0, none⟩) :: .func (.func 33) #[] #[.pointer (some ⟨V + 1, 0, none⟩), .pointer (some ⟨V + 1 + 1, 0, none⟩)] :: .pointer (some ⟨V + 1 + 2, 0, none⟩) :: .pointer (some ⟨V + 1 + 2 + 1, 0, none⟩) :: .int .i64 (x.1 : Int) :: .int .i64 ((chr s x.1 m).1 : Int) :: undef :: undef :: .bool true :: .bool false :: .string s :: .bool m :: .slice (some ⟨g, 0, none⟩) ((places s m).length + 1) cp :: .string s :: .bool m :: .func (.func 33) #[] #[.pointer (some ⟨V + 1, 0, none⟩), .pointer (some ⟨V + 1 + 1, 0, none⟩)] :: .int .i64 0 :: .bool true :: undef :: undef :: .func (.func 33) #[] #[.pointer (some ⟨V + 1, 0, none⟩), .pointer (some ⟨V + 1 + 1, 0, none⟩)] :: .int .i64 (x.1 : Int) :: .int .i64 ((chr s x.1 m).1 : Int) :: undef :: undef :: undef :: undef :: undef :: undef :: undef :: undef :: undef :: undef :: undef :: undef :: undef :: undef :: undef :: undef :: undef :: undef :: undef :: undef :: undef :: undef :: undef :: undef :: undef :: undef :: undef :: undef :: undef :: undef :: undef :: undef :: undef :: undef :: undef :: undef :: undef :: undef :: undef :: undef :: undef :: undef :: undef :: undef :: []).toArray, defers := [] }) ?assign ?body ?done ?stop
    case assign =>
      intro l x W K hK
      gi_wp2
      simp [encP] at hK ⊢
      gi_wp2
      first | exact hK | simpa using hK
    case body =>
      rintro l pre x W hI hlen
      unfold AllP at hI
      have c0 : W.cell? ⟨B, 0, none⟩ = _ := (Below.cell (p := ⟨B, 0, none⟩) hI.be (by show B < _; omega)).trans d0
      have c1 : W.cell? ⟨B + 1, 0, none⟩ = _ := (Below.cell (p := ⟨B + 1, 0, none⟩) hI.be (by show B + 1 < _; omega)).trans d1
      have c2 : W.cell? ⟨B + 1 + 1, 0, none⟩ = _ := (Below.cell (p := ⟨B + 1 + 1, 0, none⟩) hI.be (by show B + 1 + 1 < _; omega)).trans d2
      have c3 : W.cell? ⟨B + 1 + 1 + 1, 0, none⟩ = _ := (Below.cell (p := ⟨B + 1 + 1 + 1, 0, none⟩) hI.be (by show B + 1 + 1 + 1 < _; omega)).trans d3
      have f3 : W.frozen? ⟨B + 1 + 1 + 1, 0, none⟩ = _ := (Below.frozen (p := ⟨B + 1 + 1 + 1, 0, none⟩) hI.be (by show B + 1 + 1 + 1 < _; omega)).trans dF
      have cV : W.cell? ⟨V, 0, none⟩ = _ := (Below.cell (p := ⟨V, 0, none⟩) hI.be (by show V < _; omega)).trans dV
      have cg : ∀ i q : Nat, (starts s m)[i]? = some q → W.cell? ⟨g, i, none⟩ = some (.int .i64 (q : Int)) := fun i q h => (Below.cell (p := ⟨g, i, none⟩) hI.be (by show g < _; omega)).trans (hcells i q h)
      have cR : W.cell? ⟨V + 1 + 2, 0, none⟩ = _ := hI.bR.cell
      have cN : W.cell? ⟨V + 1 + 2 + 1, 0, none⟩ = _ := hI.bN.cell
      have fN : W.frozen? ⟨V + 1 + 2 + 1, 0, none⟩ = _ := hI.bN.frozen
      have hnx := hI.next (by omega) (by omega)
      have hx := x.2
      have el : (pre ++ [x]).length = pre.length + 1 := by simp
      have HN := Lib.hid (rnext_in s x.1 m W hs' hx)
      have kk : KeepIt (V + 1) (V + 1 + 1) W (W.setCell ⟨V + 1 + 2 + 1, 0, none⟩ (.int .i64 ((pre.length : Int) + 1))) := KeepIt.setCell (p := ⟨V + 1 + 2 + 1, 0, none⟩) _ (show 2 ≤ V + 1 + 2 + 1 by omega) (show V + 1 + 2 + 1 ≠ V + 1 by omega) (show V + 1 + 2 + 1 ≠ V + 1 + 1 by omega) _
      clear hI hzV y2 zV y4 z5 hV hB
      generalize chr s x.1 m = pc at HN ⊢
      obtain ⟨c, d⟩ := pc
      dsimp only at HN ⊢
      by_cases hm : (places s m)[pre.length]? = some x.1
      · have hst := (starts_at s m hm).2.1
        have ci := cg _ _ hst
        have hlt : pre.length < (places s m).length := by
          rcases Nat.lt_or_ge pre.length (places s m).length with h | h
          · exact h
          · rw [List.getElem?_eq_none h] at hm; cases hm
        have t1 : ¬ ((places s m).length : Int) + 1 ≤ (pre.length : Int) + 1 := by omega
        have i0 : (0 : Int) ≤ (pre.length : Int) := by omega
        have i1 : (pre.length : Int) < ((places s m).length : Int) + 1 := by omega
        clear cg
        gi_wp2_with fail
        refine ⟨trivial, ?_⟩
        refine (callsIn_wide.2 HN.out).mono ?_
        rintro e wx ⟨he, hw⟩
        subst he
        subst hw
        dsimp only
        by_cases he : early ≤ (pre.length : Int) + 1
        · gi_wp2_with fail
          refine ⟨(KeepsOthers.setCell _ _ _).from _, .inr ⟨rfl, rfl, ?_⟩⟩
          rw [el]; exact hnx
        · gi_wp2_with fail
          refine ⟨(KeepsOthers.setCell _ _ _).from _, kk, ?_⟩
          show AllJ _ _ _ _ _ (pre ++ [x]).length _; rw [el]; exact hnx
      · have hbad : AllX (V + 1 + 2) (V + 1 + 2 + 1) 0 [] WZ s m .ret (pre ++ [x]) (W.setCell ⟨B + 1 + 1 + 1, 0, none⟩ (.bool false)) := .inl ⟨rfl, pre, x, rfl, hm⟩
        by_cases hge : (places s m).length ≤ pre.length
        · have t1 : ((places s m).length : Int) + 1 ≤ (pre.length : Int) + 1 := by omega
          clear cg hnx kk
          gi_wp2_with fail
          refine ⟨trivial, ?_⟩
          refine (callsIn_wide.2 HN.out).mono ?_
          rintro e wx ⟨he, hw⟩
          subst he
          subst hw
          dsimp only
          gi_wp2_with fail
          exact ⟨(KeepsOthers.setCell _ _ _).from _, hbad⟩
        · have hlt : pre.length < (places s m).length := by omega
          obtain ⟨y, hy⟩ : ∃ y, (places s m)[pre.length]? = some y := ⟨_, List.getElem?_eq_getElem hlt⟩
          have ci := cg _ _ (starts_at s m hy).2.1
          have hne : ¬ (x.1 : Int) = (y : Int) := by
            intro h; apply hm; rw [hy]; congr 1; omega
          have t1 : ¬ ((places s m).length : Int) + 1 ≤ (pre.length : Int) + 1 := by omega
          have i0 : (0 : Int) ≤ (pre.length : Int) := by omega
          have i1 : (pre.length : Int) < ((places s m).length : Int) + 1 := by omega
          clear cg hnx kk hy
          gi_wp2_with fail
          refine ⟨trivial, ?_⟩
          refine (callsIn_wide.2 HN.out).mono ?_
          rintro e wx ⟨he, hw⟩
          subst he
          subst hw
          dsimp only
          gi_wp2_with fail
          all_goals first | exact ⟨(KeepsOthers.setCell _ _ _).from _, hbad⟩ | exact absurd ‹(x.1 : Int) = (y : Int)› hne
    case done =>
      rintro D ys W hD hys hI hK
      unfold AllP at hI
      have hyl : ys.length = (places s m).length := by rw [← hys]; simp [pls]
      exact ⟨.inl rfl, D, ys.length, hD, rfl, hI, hK, fun _ => hyl⟩
    case stop =>
      rintro D c pre W hD hpre hX hK
      rcases hX with ⟨rfl, p, x, rfl, hne⟩ | ⟨rfl, h0, hI⟩
      · exfalso
        apply hne
        obtain ⟨r, hr⟩ := hpre
        rw [← hr, pls_snoc]
        simp [pls]
      · gi_wp2
        exact ⟨.inr rfl, D, pre.length, hD, rfl, hI, hK, fun h => by cases h⟩
  case after0 =>
    rintro e a W ⟨he, D1, n, hD1, rfl, hI, hK1, _⟩
    have hq : ∀ (Q : Exit → Act → World → Prop) (a : Act) (W : World), Exit.inBlock 2 Q .normal a W → Exit.inBlock 2 Q e a W := by
      rintro Q a W h
      rcases he with rfl | rfl
      · exact h
      · simpa [Exit.inBlock] using h
    refine hq _ _ _ ?_
    clear hq he HJ
    have cR : W.cell? ⟨V + 1 + 2, 0, none⟩ = _ := hI.bR.cell
    have HZ := Lib.hid (show V + 3 = WZ.heap.size ∧ V + 5 = W5.heap.size ∧ w.heap.size = B from ⟨hzV, z5.symm, hB⟩)
    clear hzV y2 zV y4 z5 hV hB e1 e2 e3 e4
    gi_wp2_with fail
    rw [roundsIn_succ]
    gi_wp2_with fail
    obtain ⟨hzV, z5, hB⟩ := HZ.out
    have hzW := hI.be.size
    have hzD := (Array.getElem?_eq_some_iff.1 hK1).1
    have e1 := Boxed.new W 3 (.int .i64 1)
    have e2 := e1.alloc (.cells #[.int .i64 0] 3)
    have e3 := Boxed.new (W.alloc (.cells #[.int .i64 1] 3)) 3 (.int .i64 0)
    have e4 : Below WZ.heap.size WZ ((W.alloc (.cells #[.int .i64 1] 3)).alloc (.cells #[.int .i64 0] 3)) := (hI.be.alloc hzW _).alloc (by simp; omega) _
    have e5 : ((W.alloc (.cells #[.int .i64 1] 3)).alloc (.cells #[.int .i64 0] 3)).heap[D1]? = some (.deferred (some [])) := (Below.heap_alloc _ _ _ (by simp; omega)).trans ((Below.heap_alloc _ _ _ hzD).trans hK1)
    have z9 : ((W.alloc (.cells #[.int .i64 1] 3)).alloc (.cells #[.int .i64 0] 3)).heap.size = W.heap.size + 2 := by simp
    rw [World.size_alloc] at e3
    generalize (W.alloc (.cells #[.int .i64 1] 3)).alloc (.cells #[.int .i64 0] 3) = W9 at *
    generalize hR2 : W.heap.size = R2 at *
    have kT := hT4.below e4 hT4.2
    have k1 : W9.cell? ⟨V + 1, 0, none⟩ = _ := (Below.cell (p := ⟨V + 1, 0, none⟩) e4 (by show V + 1 < _; omega)).trans kI1
    have k2 : W9.cell? ⟨V + 1 + 1, 0, none⟩ = _ := (Below.cell (p := ⟨V + 1 + 1, 0, none⟩) e4 (by show V + 1 + 1 < _; omega)).trans kI2
    have k0 := kT.2
    have HJ : AllJ R2 (R2 + 1) 1 [D1] WZ (([] : List (Pl s)).length) W9 := ⟨e4, e2, e3, by simpa using e5⟩

    refine Code.wpIn_mono (Q := fun e a W => (e = .normal ∨ e = .exit 2) ∧ ∃ D n, W9.heap.size ≤ D ∧ a = { tmps := (.string s :: .int .i64 early :: .bool m :: .pointer (some ⟨B, 0, none⟩) :: .pointer (some ⟨B + 1, 0, none⟩) :: .pointer (some ⟨B + 1 + 1, 0, none⟩) :: .pointer (some ⟨B + 1 + 1 + 1, 0, none⟩) :: .pointer (some ⟨V, 0, none⟩) :: .func (.func 33) #[] #[.pointer (some ⟨V + 1, 0, none⟩), .pointer (some ⟨V + 1 + 1, 0, none⟩)] :: .pointer (some ⟨R2, 0, none⟩) :: .pointer (some ⟨R2 + 1, 0, none⟩) :: undef :: undef :: undef :: undef :: .bool true :: .bool false :: .string s :: .bool m :: .slice (some ⟨g, 0, none⟩) ((places s m).length + 1) cp :: .string s :: .bool m :: .func (.func 33) #[] #[.pointer (some ⟨V + 1, 0, none⟩), .pointer (some ⟨V + 1 + 1, 0, none⟩)] :: .int .i64 1 :: .bool true :: .int .i64 0 :: .int .i64 1 :: .func (.func 33) #[] #[.pointer (some ⟨V + 1, 0, none⟩), .pointer (some ⟨V + 1 + 1, 0, none⟩)] :: undef :: undef :: undef :: undef :: undef :: undef :: undef :: undef :: undef :: undef :: undef :: undef :: undef :: undef :: undef :: undef :: undef :: undef :: undef :: undef :: undef :: undef :: undef :: undef :: undef :: undef :: undef :: undef :: undef :: undef :: undef :: undef :: undef :: undef :: undef :: undef :: .int .i64 0 :: .bool false :: .bool false :: undef :: undef :: undef :: undef :: undef :: .bool false :: .int .i64 0 :: []).toArray, defers := { target := .collected D, args := #[] } :: [{ target := .collected D1, args := #[] }] } ∧ AllJ R2 (R2 + 1) 1 [D1] WZ n W ∧ W.heap[D]? = some (.deferred (some [])) ∧ (1 = 1 → n = (places s m).length)) ?after1 ?range1
    case range1 =>
      refine wpIn_rangeFunc_ownG rfl (by omega) (gf := 33) (lb := #[.pointer (some ⟨V + 1, 0, none⟩), .pointer (some ⟨V + 1 + 1, 0, none⟩)]) rfl trivial (enters_of Tryd.func33 (by kernel_rfl) rfl)
        (all_stops 5 (by omega) s m hs' (V + 1) (V + 1 + 1) W9 (by omega) (by omega) k1 k2 kT) (fun h k => h.trans k) (KeepIt.putObj (by omega) (by omega) (by omega)) (Below.refl _ _) (fun _ => rfl)
        (fun pre W => AllP R2 (R2 + 1) 1 [D1] WZ pre W)
        (fun c pre W => AllX R2 (R2 + 1) 1 [D1] WZ s m c pre W)
        (AllJ.own (fun (pre : List (Pl s)) => pre.length) (by omega) (by simp; try omega))
        (fun c pre W W' row hs hg hr => by
          rcases hs with h | ⟨h1, h2, h3⟩
          · exact .inl h
          · exact .inr ⟨h1, h2, AllJ.own (fun (pre : List (Pl s)) => pre.length) (by omega) (by simp; try omega) pre W W' row h3 hg hr⟩)
        HJ
        (fun x => { tmps := (.string s :: .int .i64 early :: .bool m :: .pointer (some ⟨B, 0, none⟩) :: .pointer (some ⟨B + 1, 0, none⟩) :: .pointer (some ⟨B + 1 + 1, 0, none⟩) :: .pointer (some ⟨B + 1 + 1 + 1, 0, none⟩) :: .pointer (some ⟨V, 0, none⟩) :: .func (.func 33) #[] #[.pointer (some ⟨V + 1, 0, none⟩), .pointer (some ⟨V + 1 + 1, 0, none⟩)] :: .pointer (some ⟨R2, 0, none⟩) :: .pointer (some ⟨R2 + 1, 0, none⟩) :: .int .i64 (x.1 : Int) :: .int .i64 ((chr s x.1 m).1 : Int) :: undef :: undef :: .bool true :: .bool false :: .string s :: .bool m :: .slice (some ⟨g, 0, none⟩) ((places s m).length + 1) cp :: .string s :: .bool m :: .func (.func 33) #[] #[.pointer (some ⟨V + 1, 0, none⟩), .pointer (some ⟨V + 1 + 1, 0, none⟩)] :: .int .i64 1 :: .bool true :: .int .i64 0 :: .int .i64 1 :: .func (.func 33) #[] #[.pointer (some ⟨V + 1, 0, none⟩), .pointer (some ⟨V + 1 + 1, 0, none⟩)] :: .int .i64 (x.1 : Int) :: .int .i64 ((chr s x.1 m).1 : Int) :: undef :: undef :: undef :: undef :: undef :: undef :: undef :: undef :: undef :: undef :: undef :: undef :: undef :: undef :: undef :: undef :: undef :: undef :: undef :: undef :: undef :: undef :: undef :: undef :: undef :: undef :: undef :: undef :: undef :: undef :: undef :: undef :: undef :: undef :: .int .i64 0 :: .bool false :: .bool false :: undef :: undef :: undef :: undef :: undef :: .bool false :: .int .i64 0 :: []).toArray, defers := [] }) ?assign ?body ?done ?stop
      case assign =>
        intro l x W K hK
        gi_wp2
        simp [encP] at hK ⊢
        gi_wp2
        first | exact hK | simpa using hK
      case body =>
        rintro l pre x W hI hlen
        unfold AllP at hI
        have c0 : W.cell? ⟨B, 0, none⟩ = _ := (Below.cell (p := ⟨B, 0, none⟩) hI.be (by show B < _; omega)).trans d0
        have c1 : W.cell? ⟨B + 1, 0, none⟩ = _ := (Below.cell (p := ⟨B + 1, 0, none⟩) hI.be (by show B + 1 < _; omega)).trans d1
        have c2 : W.cell? ⟨B + 1 + 1, 0, none⟩ = _ := (Below.cell (p := ⟨B + 1 + 1, 0, none⟩) hI.be (by show B + 1 + 1 < _; omega)).trans d2
        have c3 : W.cell? ⟨B + 1 + 1 + 1, 0, none⟩ = _ := (Below.cell (p := ⟨B + 1 + 1 + 1, 0, none⟩) hI.be (by show B + 1 + 1 + 1 < _; omega)).trans d3
        have f3 : W.frozen? ⟨B + 1 + 1 + 1, 0, none⟩ = _ := (Below.frozen (p := ⟨B + 1 + 1 + 1, 0, none⟩) hI.be (by show B + 1 + 1 + 1 < _; omega)).trans dF
        have cV : W.cell? ⟨V, 0, none⟩ = _ := (Below.cell (p := ⟨V, 0, none⟩) hI.be (by show V < _; omega)).trans dV
        have cg : ∀ i q : Nat, (starts s m)[i]? = some q → W.cell? ⟨g, i, none⟩ = some (.int .i64 (q : Int)) := fun i q h => (Below.cell (p := ⟨g, i, none⟩) hI.be (by show g < _; omega)).trans (hcells i q h)
        have cR : W.cell? ⟨R2, 0, none⟩ = _ := hI.bR.cell
        have cN : W.cell? ⟨R2 + 1, 0, none⟩ = _ := hI.bN.cell
        have fN : W.frozen? ⟨R2 + 1, 0, none⟩ = _ := hI.bN.frozen
        have hnx := hI.next (by omega) (by omega)
        have hx := x.2
        have el : (pre ++ [x]).length = pre.length + 1 := by simp
        have HN := Lib.hid (rnext_in s x.1 m W hs' hx)
        have kk : KeepIt (V + 1) (V + 1 + 1) W (W.setCell ⟨R2 + 1, 0, none⟩ (.int .i64 ((pre.length : Int) + 1))) := KeepIt.setCell (p := ⟨R2 + 1, 0, none⟩) _ (show 2 ≤ R2 + 1 by omega) (show R2 + 1 ≠ V + 1 by omega) (show R2 + 1 ≠ V + 1 + 1 by omega) _
        clear hI hzV z5 hB z9 hzD hR2 hzW
        generalize chr s x.1 m = pc at HN ⊢
        obtain ⟨c, d⟩ := pc
        dsimp only at HN ⊢
        by_cases hm : (places s m)[pre.length]? = some x.1
        · have hst := (starts_at s m hm).2.1
          have ci := cg _ _ hst
          have hlt : pre.length < (places s m).length := by
            rcases Nat.lt_or_ge pre.length (places s m).length with h | h
            · exact h
            · rw [List.getElem?_eq_none h] at hm; cases hm
          have t1 : ¬ ((places s m).length : Int) + 1 ≤ (pre.length : Int) + 1 := by omega
          have i0 : (0 : Int) ≤ (pre.length : Int) := by omega
          have i1 : (pre.length : Int) < ((places s m).length : Int) + 1 := by omega
          clear cg
          gi_wp2_with fail
          refine ⟨trivial, ?_⟩
          refine (callsIn_wide.2 HN.out).mono ?_
          rintro e wx ⟨he, hw⟩
          subst he
          subst hw
          dsimp only
          gi_wp2_with fail
          refine ⟨(KeepsOthers.setCell _ _ _).from _, kk, ?_⟩
          show AllJ _ _ _ _ _ (pre ++ [x]).length _; rw [el]; exact hnx
        · have hbad : AllX R2 (R2 + 1) 1 [D1] WZ s m .ret (pre ++ [x]) (W.setCell ⟨B + 1 + 1 + 1, 0, none⟩ (.bool false)) := .inl ⟨rfl, pre, x, rfl, hm⟩
          by_cases hge : (places s m).length ≤ pre.length
          · have t1 : ((places s m).length : Int) + 1 ≤ (pre.length : Int) + 1 := by omega
            clear cg hnx kk
            gi_wp2_with fail
            refine ⟨trivial, ?_⟩
            refine (callsIn_wide.2 HN.out).mono ?_
            rintro e wx ⟨he, hw⟩
            subst he
            subst hw
            dsimp only
            gi_wp2_with fail
            exact ⟨(KeepsOthers.setCell _ _ _).from _, hbad⟩
          · have hlt : pre.length < (places s m).length := by omega
            obtain ⟨y, hy⟩ : ∃ y, (places s m)[pre.length]? = some y := ⟨_, List.getElem?_eq_getElem hlt⟩
            have ci := cg _ _ (starts_at s m hy).2.1
            have hne : ¬ (x.1 : Int) = (y : Int) := by
              intro h; apply hm; rw [hy]; congr 1; omega
            have t1 : ¬ ((places s m).length : Int) + 1 ≤ (pre.length : Int) + 1 := by omega
            have i0 : (0 : Int) ≤ (pre.length : Int) := by omega
            have i1 : (pre.length : Int) < ((places s m).length : Int) + 1 := by omega
            clear cg hnx kk hy
            gi_wp2_with fail
            refine ⟨trivial, ?_⟩
            refine (callsIn_wide.2 HN.out).mono ?_
            rintro e wx ⟨he, hw⟩
            subst he
            subst hw
            dsimp only
            gi_wp2_with fail
            all_goals first | exact ⟨(KeepsOthers.setCell _ _ _).from _, hbad⟩ | exact absurd ‹(x.1 : Int) = (y : Int)› hne
      case done =>
        rintro D ys W hD hys hI hK
        unfold AllP at hI
        have hyl : ys.length = (places s m).length := by rw [← hys]; simp [pls]
        exact ⟨.inl rfl, D, ys.length, hD, rfl, hI, hK, fun _ => hyl⟩
      case stop =>
        rintro D c pre W hD hpre hX hK
        rcases hX with ⟨rfl, p, x, rfl, hne⟩ | ⟨rfl, h0, hI⟩
        · exfalso
          apply hne
          obtain ⟨r, hr⟩ := hpre
          rw [← hr, pls_snoc]
          simp [pls]
        · gi_wp2
          exact absurd h0 (by decide)
    case after1 =>
      rintro e a W2 ⟨he, D2, n2, hD2, rfl, hI2, hK2, hn2⟩
      have hn2 := hn2 rfl
      subst hn2
      have hq : ∀ (Q : Exit → Act → World → Prop) (a : Act) (W : World), Exit.inBlock 2 Q .normal a W → Exit.inBlock 2 Q e a W := by
        rintro Q a W h
        rcases he with rfl | rfl
        · exact h
        · simpa [Exit.inBlock] using h
      refine hq _ _ _ ?_
      have cR : W2.cell? ⟨R2, 0, none⟩ = _ := hI2.bR.cell
      have cN : W2.cell? ⟨R2 + 1, 0, none⟩ = _ := hI2.bN.cell
      have cV : W2.cell? ⟨V, 0, none⟩ = _ := (Below.cell (p := ⟨V, 0, none⟩) hI2.be (by show V < _; omega)).trans dV
      have c3 : W2.cell? ⟨B + 1 + 1 + 1, 0, none⟩ = _ := (Below.cell (p := ⟨B + 1 + 1 + 1, 0, none⟩) hI2.be (by show B + 1 + 1 + 1 < _; omega)).trans d3
      have f3 : W2.frozen? ⟨B + 1 + 1 + 1, 0, none⟩ = _ := (Below.frozen (p := ⟨B + 1 + 1 + 1, 0, none⟩) hI2.be (by show B + 1 + 1 + 1 < _; omega)).trans dF
      have l3 : B + 1 + 1 + 1 < W2.heap.size := by have := hI2.be.size; omega
      have HZ := Lib.hid (show V + 3 = WZ.heap.size ∧ V + 5 = W5.heap.size ∧ w.heap.size = B ∧ R2 + 2 = W9.heap.size ∧ W.heap.size = R2 ∧ D1 < R2 from ⟨hzV, z5, hB, z9.symm, hR2, hzD⟩)
      clear hq he HJ hzV z5 hB z9 hR2 hzD hzW e1 e2 e3 e4 e5
      gi_wp2_with fail
      rw [roundsIn_succ]
      gi_wp2_with fail
      obtain ⟨hzV, z5, hB, z9, hR2, hzD⟩ := HZ.out
      have hz2 := hI2.be.size
      have q1 : W2.heap[D1]? = some (.deferred (some [])) := hI2.dl D1 (by simp)
      have k3 := KeepsOthers.setCell W2 ⟨B + 1 + 1 + 1, 0, none⟩ (.bool true)
      have p2 := k3.same D2 _ hK2 rfl
      have p1 := k3.same D1 _ q1 rfl
      have hzs : (W2.setCell ⟨B + 1 + 1 + 1, 0, none⟩ (.bool true)).heap.size = W2.heap.size := by simp [World.setCell]
      have cT : (W2.setCell ⟨B + 1 + 1 + 1, 0, none⟩ (.bool true)).cell? ⟨B + 1 + 1 + 1, 0, none⟩ = some (.bool true) := World.cell?_setCell_same' _ _ _ (by rw [c3]; rfl)
      have bT : Below w.heap.size w (W2.setCell ⟨B + 1 + 1 + 1, 0, none⟩ (.bool true)) := by
        rw [hB]
        exact (hZB.trans (hI2.be.mono (by omega))).setCell (by show B ≤ B + 1 + 1 + 1; omega) _
      generalize W2.setCell ⟨B + 1 + 1 + 1, 0, none⟩ (.bool true) = F0 at *
      have al : Below F0.heap.size F0 (F0.alloc (.cells #[.int .i64 2] 3)) := (Below.refl _ F0).alloc (Nat.le_refl _) _
      have p2' := (al.block D2 (Array.getElem?_eq_some_iff.1 p2).1).trans p2
      have p1' := (al.block D1 (Array.getElem?_eq_some_iff.1 p1).1).trans p1
      have cT' := (Below.cell (p := ⟨B + 1 + 1 + 1, 0, none⟩) al (by show B + 1 + 1 + 1 < _; omega)).trans cT
      have bT' := bT.trans (al.mono bT.size)
      generalize F0.alloc (.cells #[.int .i64 2] 3) = F1 at *
      have hne : D1 ≠ D2 := by omega
      have p1'' := (show (F1.putObj D2 (.deferred none)).heap[D1]? = F1.heap[D1]? from World.putObj_heap_other hne).trans p1'
      have b1 := bT'.trans (belowK_b (w := w) (Nat.le_refl _) F1 D2 _ (.deferred none) (by omega) p2' rfl rfl)
      have cT'' : (F1.putObj D2 (.deferred none)).cell? ⟨B + 1 + 1 + 1, 0, none⟩ = some (.bool true) := (World.cell?_of_block (World.putObj_heap_other (by show B + 1 + 1 + 1 ≠ D2; omega))).trans cT'
      have b2 := b1.trans (belowK_b (w := w) (Nat.le_refl _) (F1.putObj D2 (.deferred none)) D1 _ (.deferred none) (by omega) p1'' rfl rfl)
      have cT3 : ((F1.putObj D2 (.deferred none)).putObj D1 (.deferred none)).cell? ⟨B + 1 + 1 + 1, 0, none⟩ = some (.bool true) := (World.cell?_of_block (World.putObj_heap_other (by show B + 1 + 1 + 1 ≠ D1; omega))).trans cT''
      refine ⟨by simp, .inl ⟨_, _, rfl, run_takeDeferred p2', by simp, .inl ⟨_, _, rfl, run_takeDeferred p1'', ?_⟩⟩⟩
      refine ⟨.bool true, ?_, rfl, b2⟩
      simp [results, Tryd.f5, go_sem, cT3]

end Go.Proofs.YtaheddpmidoekaaDoor
