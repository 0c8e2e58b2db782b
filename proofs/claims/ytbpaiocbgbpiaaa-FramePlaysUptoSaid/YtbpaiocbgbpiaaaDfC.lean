/- A variable more: add, walked. -/
import Derived.Test.YtbpaiocbgbpiaaaDfB
import Derived.Deep.RegionHeld3
namespace Go.Proofs.Ytbpaiocbgbpiaaa
open Go.RowKit
set_option linter.unusedVariables false
set_option linter.unusedSimpArgs false

theorem OwnZ.below {w w' : World} {lo : Nat} {e : TypeId} {size : Nat} {v : Value} {n : Nat} {xs : List Value} (h : OwnZ w lo e size v n xs) (hb : Below w.heap.size w w') : OwnZ w' lo e size v n xs := h.same fun j hj => hb.block j (h.lt hj).2
theorem RowC.a {w : World} {B s : Nat} {v : Value} {n : Nat} {xs : List Value} (h : RowC w B s v n xs) : RowA w s v n xs := by
  obtain ⟨h1, A, c, e, hA, hnc, h4⟩ := h
  exact ⟨h1, A, c, e, hA, hnc, fun a ha j u hj => by
    obtain ⟨b, off, rfl, _, hc⟩ := h4 a ha
    rw [addr_add]
    exact hc j u hj⟩
theorem sl24_one (s : SM) (p : Nat) : ∀ u ∈ sl24 s p, u.oneCell' = true := by
  intro u hu
  simp only [sl24, List.mem_cons, List.not_mem_nil, or_false] at hu
  rcases hu with rfl | rfl | rfl | rfl | rfl | rfl <;> rfl
theorem slsV_one (sl : List SM) (ps : List Nat) : ∀ u ∈ slsV sl ps, u.oneCell' = true := by
  intro u hu
  obtain ⟨x, _, hx⟩ := List.mem_flatMap.1 hu
  exact sl24_one _ _ u hx
theorem slsV_snoc {sl : List SM} {ps : List Nat} (h : ps.length = sl.length) (s : SM) (p : Nat) : slsV (sl ++ [s]) (ps ++ [p]) = slsV sl ps ++ sl24 s p := by
  unfold slsV
  rw [List.zip_append h.symm]
  simp
theorem below_go {B : Nat} {a b c : World} (h : Below B a b) (k : Below b.heap.size b c) (hB : B ≤ b.heap.size) : Below B a c := h.trans (k.mono hB)
/-- The state, one variable more. -/
theorem DF.added {m : Nat} {vS vGN vGS vC : Value} {ps : List Nat} {gp : List (ByteArray × Nat)} {cp : List CallT} {st : FS} {w wF : World} {s : SM} (h : DF m vS vGN vGS vC ps gp cp st w) (hok : OkF st) (h1 : s.given = true → s.arr = 0) (h2 : ∀ j, s.frm = some j → j < st.sl.length) {vS' : Value} (hv' : ∀ j, vS'.ownBlock = some j → m ≤ j)
    (ht : Turn w wF (fun j => j = m)) (hd : wF.heap[m]? = some (.cells #[vS', vGN, vGS, vC, .int .i64 (st.n : Int)] 60 (0, 0))) (hs : OwnZ wF 0 93 6 vS' (st.sl.length + 1) (slsV st.sl ps ++ sl24 s s.arr)) : DF m vS' vGN vGS vC (ps ++ [s.arr]) gp cp (addS st s) wF := by
  have hmd := h.hd
  have hX : ∀ j, j = m → ¬ ((∃ cs, w.heap[j]? = some (.cells cs 9 (0, 0))) ∨ ∃ cs, w.heap[j]? = some (.cells cs 3 (0, 0))) := fun j e hc => by
    subst e
    rw [hmd] at hc
    rcases hc with ⟨cs, hc⟩ | ⟨cs, hc⟩ <;> simp at hc
  have hok' := hok.ok.app s h1 h2
  refine ⟨hd, by simp [addS, h.pl], fun i t p ht' hp => ?_, ?_, h.gn.turn ht hX, h.g, h.cr.same fun j hj => ht.block j (h.cr.lt hj).2 fun e => ?_, h.cl, fun k c hc => ⟨(h.ce k c hc).1.turn ht hX, (h.ce k c hc).2⟩, by have := h.gb; simp [addS]; omega, fun k c hc => (by have := h.cb k c hc; simp [addS]; omega), hv'⟩
  · show (p = 0 ∨ p = resA (st.sl ++ [s]) i) ∧ _
    replace ht' : (st.sl ++ [s])[i]? = some t := ht'
    rcases Nat.lt_or_ge i st.sl.length with hi | hi
    · rw [List.getElem?_append_left hi] at ht'
      rw [List.getElem?_append_left (by rw [h.pl]; exact hi)] at hp
      rw [resA_app hok.ok s h1 h2 i hi]
      exact h.pok i t p ht' hp
    · have e0 : i = st.sl.length := by
        have := (List.getElem?_eq_some_iff.1 ht').1
        simp at this
        omega
      subst e0
      rw [List.getElem?_append_right (Nat.le_refl _)] at ht'
      rw [List.getElem?_append_right (by rw [h.pl]; exact Nat.le_refl _), h.pl] at hp
      simp at ht' hp
      subst ht' hp
      refine ⟨?_, fun _ => rfl⟩
      by_cases ha : s.arr = 0
      · exact .inl ha
      · right
        exact (resA_arr hok' (s := s) (by rw [List.getElem?_append_right (Nat.le_refl _)]; simp) ha).symm
  · show OwnZ wF 0 _ 6 vS' (st.sl ++ [s]).length (slsV (st.sl ++ [s]) (ps ++ [s.arr]))
    rw [slsV_snoc h.pl, List.length_append, List.length_singleton]
    exact hs
  · subst e
    obtain ⟨cs, hc⟩ := h.cr.obj hj
    rw [hmd] at hc
    simp at hc
theorem drew_heap (w : World) : w.drew.heap = w.heap := rfl
theorem news_at {W : World} {T : TypeId} {g : Nat} {xs : Array Value} (h : W.heap[g]? = some (.cells xs T (0, 0))) : ∀ j u, xs.toList[j]? = some u → W.cell? ((⟨g, 0, none⟩ : Addr).add j) = some u := fun j u hj => by
  rw [addr_add, Nat.zero_add]
  simpa [World.cell?, h] using hj
theorem at_new {w : World} {o : Obj} {k : Nat} (h : w.heap.size = k) : (w.alloc o).heap[k]? = some o := by subst h; exact heap_alloc_new _ _
theorem at_old {w : World} {o o' : Obj} {k : Nat} (h : w.heap[k]? = some o') : (w.alloc o).heap[k]? = some o' := (heap_alloc_old w o (Array.getElem?_eq_some_iff.1 h).1).trans h
theorem box6_at {w wa W : World} {T : TypeId} {x0 x1 x2 x3 x4 x5 : Value} (ha : wa = w.alloc (.cells #[x0, x1, x2, x3, x4, x5] T)) (hb : Below wa.heap.size wa W) :
    W.cell? ⟨w.heap.size, 0, none⟩ = some x0 ∧ W.cell? ⟨w.heap.size, 1, none⟩ = some x1 ∧ W.cell? ⟨w.heap.size, 2, none⟩ = some x2 ∧ W.cell? ⟨w.heap.size, 3, none⟩ = some x3 ∧ W.cell? ⟨w.heap.size, 4, none⟩ = some x4 ∧ W.cell? ⟨w.heap.size, 5, none⟩ = some x5 := by
  have h0 : W.heap[w.heap.size]? = some (.cells #[x0, x1, x2, x3, x4, x5] T (0, 0)) := by
    subst ha
    exact (hb.block _ (by simp)).trans (heap_alloc_new _ _)
  refine ⟨?_, ?_, ?_, ?_, ?_, ?_⟩ <;> simp [World.cell?, h0]
theorem news6 {w1 W : World} {T : TypeId} {x0 x1 x2 x3 x4 x5 : Value} (hb : Below (w1.alloc (.cells #[x0, x1, x2, x3, x4, x5] T)).heap.size (w1.alloc (.cells #[x0, x1, x2, x3, x4, x5] T)) W) : ∀ j u, [x0, x1, x2, x3, x4, x5][j]? = some u → W.cell? ((⟨w1.heap.size, 0, none⟩ : Addr).add j) = some u := fun j u hj => by
  have h := cell_news w1 #[x0, x1, x2, x3, x4, x5] T j u (by simpa using hj)
  exact (hb.cell (lt_of_cell h)).trans h

set_option maxRecDepth 20000 in
set_option maxHeartbeats 16000000 in
theorem add_any (m : Nat) (vS vGN vGS vC : Value) (ps : List Nat) (gp : List (ByteArray × Nat)) (cp : List CallT) (st : FS) (w : World) (s : SM) (h : DF m vS vGN vGS vC ps gp cp st w) (hok : OkF st) (h1 : s.given = true → s.arr = 0) (h2 : ∀ j, s.frm = some j → j < st.sl.length) (hl : st.sl.length ≤ 400000000) :
    Calls Try.prog 39 #[.pointer (some ⟨m, 0, none⟩), .agg #[.int .i64 s.val.1, .float .f64 s.val.2.1, .string s.val.2.2, .bool s.given, .int .i64 (s.arr : Int), .int .i64 (frI s.frm)]] w fun e w' => e = .returned (.int .i64 (st.sl.length : Int)) ∧ (∃ vS', DF m vS' vGN vGS vC (ps ++ [s.arr]) gp cp (addS st s) w' ∧ ∀ j, vS'.ownBlock = some j → w.heap.size ≤ j) ∧ Turn w w' (fun j => j = m) := by
  have hbA : Below w.heap.size w (w.alloc (.cells #[.int .i64 s.val.1, .float .f64 s.val.2.1, .string s.val.2.2, .bool s.given, .int .i64 (s.arr : Int), .int .i64 (frI s.frm)] 93)) := (Below.refl _ w).alloc (Nat.le_refl _) _
  have hml : m < w.heap.size := (Array.getElem?_eq_some_iff.1 h.hd).1
  obtain ⟨A, c, rfl⟩ := h.sl.shape
  obtain ⟨c0, _, _, _, _, fz⟩ := (h.below hbA).cells
  have f0 := fz 0
  have hdA := (h.below hbA).hd
  have hbox := fun W hb => box6_at (w := w) (W := W) (T := 93) (x0 := .int .i64 s.val.1) (x1 := .float .f64 s.val.2.1) (x2 := .string s.val.2.2) (x3 := .bool s.given) (x4 := .int .i64 (s.arr : Int)) (x5 := .int .i64 (frI s.frm)) rfl hb
  obtain ⟨b0, b1, b2, b3, b4, b5⟩ := hbox _ (Below.refl _ _)
  have hra := (h.sl.below hbA).rowC.a
  have H := Lib.hid (And.intro h (And.intro hok (And.intro h1 (And.intro h2 hbA))))
  have hl1 : (st.sl.length : Int) ≤ 400000000 := by omega
  have HBX := Lib.hid hbox
  have HRA := Lib.hid hra
  have hdr := (Below.refl (w.alloc (.cells #[.int .i64 s.val.1, .float .f64 s.val.2.1, .string s.val.2.2, .bool s.given, .int .i64 (s.arr : Int), .int .i64 (frI s.frm)] 93)).heap.size (w.alloc (.cells #[.int .i64 s.val.1, .float .f64 s.val.2.1, .string s.val.2.2, .bool s.given, .int .i64 (s.arr : Int), .int .i64 (frI s.frm)] 93))).drew
  clear h hok h1 h2 fz hbox hra hbA
  go_enter Try.func39, Try.ntmps39
  go_wp2_with fail
  generalize hwa : w.alloc (.cells #[.int .i64 s.val.1, .float .f64 s.val.2.1, .string s.val.2.2, .bool s.given, .int .i64 (s.arr : Int), .int .i64 (frI s.frm)] 93) = wa at *
  have hmA : m < wa.heap.size := by rw [← hwa]; simp; omega
  have hBA : w.heap.size < wa.heap.size := by rw [← hwa]; simp
  have HWA := Lib.hid hwa
  clear hwa
  generalize hB : w.heap.size = B at *
  have HB := Lib.hid hB
  clear hB
  have hRA := HRA.out
  have hHB := HBX.out
  go_region_law
    (first
      | (refine step_app_lit 57 93 (.tmp 6) (.tmp 10) rfl rfl wa.heap.size Try.underlying57 sl24_info rfl (by decide) rfl (by simp <;> omega) ⟨#[], by first | exact at_new (by simp) | (refine at_old ?_; exact at_new (by simp))⟩ (by simp <;> omega) rfl (hRA.below (by first | assumption | (repeat (first | exact Below.refl _ _ | assumption | refine Below.drew ?_ | refine Below.alloc ?_ (by simp <;> omega) _)))) (slsV_one _ _) (by unfold maxLen; omega) (by omega) ?_; intro A1 c1 w1 hz1 hb1; have hbw1 : Below wa.heap.size wa w1 := below_go (by first | assumption | (repeat (first | exact Below.refl _ _ | assumption | refine Below.drew ?_ | refine Below.alloc ?_ (by simp <;> omega) _))) hb1 (by simp <;> omega); obtain ⟨b0', b1', b2', b3', b4', b5'⟩ := hHB w1 hbw1; have c0' := (hbw1.cell hmA).trans c0)
      | (refine step_app_el 57 93 (.tmp 11) (.tmp 13) rfl rfl wa.heap.size Try.underlying57 sl24_info rfl (by decide) rfl (by first | exact hz1 | exact hz1.below ((Below.refl _ _).alloc (Nat.le_refl _) _)) rfl (news := sl24 s s.arr) rfl (news_at (T := 93) (xs := #[.int .i64 s.val.1, .float .f64 s.val.2.1, .string s.val.2.2, .bool s.given, .int .i64 (s.arr : Int), .int .i64 (frI s.frm)]) (by first | exact at_new (by simp) | exact (hb1.block _ (by simp <;> omega)).trans (by (first | exact at_new (by simp) | (refine at_old ?_; exact at_new (by simp)) | (rw [drew_heap]; exact at_new (by simp)) | (rw [drew_heap]; refine at_old ?_; exact at_new (by simp)) | (rw [drew_heap]; refine at_old ?_; rw [drew_heap]; exact at_new (by simp)))))) (by omega) (sl24_one _ _) (by unfold maxLen; omega) (by omega) (by have := hbw1.size; simp <;> omega) ?_; intro g2 cap2 w2 hown2 hgr2 hloc2; have hbw2 : Below wa.heap.size wa w2 := Below.grown (by first | exact hbw1 | exact hbw1.alloc hbw1.size _) hgr2 (by have := hbw1.size; simp <;> omega) (fun k hk => (hz1.lt hk).1); have c0'' := (hbw2.cell hmA).trans c0; have f0'' := frozen_of_row w2 m 0 _ _ ((hbw2.block m hmA).trans hdA)))
  all_goals
    have HFIN := Lib.hid (And.intro hown2 (And.intro hbw2 (And.intro hdA hmA)))
    clear hown2 hbw2 hgr2 hloc2 hz1 hb1 hbw1 hdA
    have hl2 : ((st.sl.length + 1 : Nat) : Int) ≤ 400000001 := by omega
    go_wp2_with fail
    go_ret
    obtain ⟨hown2, hbw2, hdA, hmA⟩ := HFIN.out
    obtain ⟨h, hok, h1, h2, hbA⟩ := H.out
    have hd2 := (hbw2.block m hmA).trans hdA
    have hset := heap_setCell_same w2 m 0 _ _ (.slice (some ⟨g2, 0, none⟩) (st.sl.length + 1) cap2) hd2
    have hbw : Below w.heap.size w w2 := by rw [HB.out]; exact below_go hbA hbw2 (by omega)
    have htF : Turn w (w2.setCell ⟨m, 0, none⟩ (.slice (some ⟨g2, 0, none⟩) (st.sl.length + 1) cap2)) (fun j => j = m) := (Turn.of_below hbw _).setCell _ _ (fun _ => rfl)
    have hg2m : g2 ≠ m := by have := (hown2.lt g2 rfl).1; omega
    have hg2 := (hown2.lt g2 rfl).1
    have how : ∀ j, (Value.slice (some ⟨g2, 0, none⟩) (st.sl.length + 1) cap2).ownBlock = some j → w.heap.size ≤ j := by
      intro j hj
      simp [Value.ownBlock] at hj
      rw [HB.out]; omega
    have hmw : m < w.heap.size := (Array.getElem?_eq_some_iff.1 h.hd).1
    refine ⟨?_, ⟨_, h.added hok h1 h2 (fun j hj => Nat.le_trans (Nat.le_of_lt hmw) (how j hj)) htF hset (.inl (own_more (own_same hown2 (fun j hj => by cases hj; exact heap_setCell_other _ _ _ _ hg2m)) (Nat.zero_le _))), how⟩, htF⟩
    congr 2
    try omega
theorem DF.dtm {m : Nat} {vS vGN vGS vC : Value} {ps : List Nat} {gp : List (ByteArray × Nat)} {cp : List CallT} {st : FS} {w w' : World} (h : DF m vS vGN vGS vC ps gp cp st w) (ht : Turn w w' (fun j => j = m)) : Turn w w' (DT m w) :=
  ht.mono fun j e => by subst e; exact ⟨Nat.le_refl _, .inl ⟨_, h.hd⟩⟩
theorem DF.dts {m : Nat} {vS vGN vGS vC : Value} {ps : List Nat} {gp : List (ByteArray × Nat)} {cp : List CallT} {st : FS} {w w' : World} (h : DF m vS vGN vGS vC ps gp cp st w) (ht : Turn w w' (fun j => vS.ownBlock = some j)) : Turn w w' (DT m w) :=
  ht.mono fun j e => by obtain ⟨c, hc⟩ := h.sl.obj e; exact ⟨h.lv j e, .inr ⟨c, hc⟩⟩
end Go.Proofs.Ytbpaiocbgbpiaaa
