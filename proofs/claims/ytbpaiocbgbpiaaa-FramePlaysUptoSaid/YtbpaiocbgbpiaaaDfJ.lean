/- The variable that a parameter is, in the document: arg, walked. -/
import Derived.Test.YtbpaiocbgbpiaaaDfI
import Derived.Test.YtbpaiocbgbpiaaaFrW9
namespace Go.Proofs.Ytbpaiocbgbpiaaa
open Go.RowKit
set_option linter.unusedVariables false
set_option linter.unusedSimpArgs false

abbrev set6 (w : World) (B : Nat) (y0 y1 y2 y3 y4 y5 : Value) : World := (((((w.setCell ⟨B, 0, none⟩ y0).setCell ⟨B, 1, none⟩ y1).setCell ⟨B, 2, none⟩ y2).setCell ⟨B, 3, none⟩ y3).setCell ⟨B, 4, none⟩ y4).setCell ⟨B, 5, none⟩ y5
theorem cells6 {w1 : World} {B : Nat} {e : TypeId} {x0 x1 x2 x3 x4 x5 y0 y1 y2 y3 y4 y5 : Value} (h : w1.heap[B]? = some (.cells #[x0, x1, x2, x3, x4, x5] e (0, 0))) : (set6 w1 B y0 y1 y2 y3 y4 y5).heap[B]? = some (.cells #[y0, y1, y2, y3, y4, y5] e (0, 0)) := by
  unfold set6
  rw [heap_setCell_same _ _ _ _ _ _ (heap_setCell_same _ _ _ _ _ _ (heap_setCell_same _ _ _ _ _ _ (heap_setCell_same _ _ _ _ _ _ (heap_setCell_same _ _ _ _ _ _ (heap_setCell_same _ _ _ _ _ _ h)))))]
  rfl
theorem turn6 {w w1 : World} {B : Nat} {X : Nat → Prop} (h : Turn w w1 X) (hB : B < w.heap.size → X B) (y0 y1 y2 y3 y4 y5 : Value) : Turn w (set6 w1 B y0 y1 y2 y3 y4 y5) X :=
  (((((h.setCell _ _ hB).setCell _ _ hB).setCell _ _ hB).setCell _ _ hB).setCell _ _ hB).setCell _ _ hB
/-- A block of the kind of a variable that is none of them is written. -/
theorem DF.past {m : Nat} {vS vGN vGS vC : Value} {ps : List Nat} {gp : List (ByteArray × Nat)} {cp : List CallT} {st : FS} {w w' : World} (h : DF m vS vGN vGS vC ps gp cp st w) {B : Nat} {cs : Array Value} (hB : w.heap[B]? = some (.cells cs 93 (0, 0))) (hv : vS.ownBlock ≠ some B) (ht : Turn w w' (fun j => j = B)) : DF m vS vGN vGS vC ps gp cp st w' := by
  have hX : ∀ j, j = B → ¬ ((∃ cs, w.heap[j]? = some (.cells cs 9 (0, 0))) ∨ ∃ cs, w.heap[j]? = some (.cells cs 3 (0, 0))) := fun j e hc => by
    subst e
    rw [hB] at hc
    rcases hc with ⟨cs, hc⟩ | ⟨cs, hc⟩ <;> simp at hc
  have hmB : m ≠ B := fun e => by
    have := h.hd
    rw [e, hB] at this
    simp at this
  refine ⟨(ht.block m (Array.getElem?_eq_some_iff.1 h.hd).1 hmB).trans h.hd, h.pl, h.pok, h.sl.same fun j hj => ht.block j (h.sl.lt hj).2 fun e => hv (by rw [← e]; exact hj), h.gn.turn ht hX, h.g, h.cr.same fun j hj => ht.block j (h.cr.lt hj).2 fun e => ?_, h.cl, fun k c hc => ⟨(h.ce k c hc).1.turn ht hX, (h.ce k c hc).2⟩, h.gb, h.cb, h.lv⟩
  subst e
  obtain ⟨c, hc⟩ := h.cr.obj hj
  rw [hB] at hc
  simp at hc
def slV (s : SM) : Value := .agg #[.int .i64 s.val.1, .float .f64 s.val.2.1, .string s.val.2.2, .bool s.given, .int .i64 (s.arr : Int), .int .i64 (frI s.frm)]
/-- The state, the names of all told from a world on. -/
def DN (m : Nat) (vS vGN vGS vC : Value) (cp : List CallT) (st : FS) (w w' : World) : Prop := ∃ vS' vGN' vGS' ps gp, DF m vS' vGN' vGS' vC ps gp cp st w' ∧ NewB w vS vS' ∧ NewB w vGN vGN' ∧ NewB w vGS vGS'
def ArgAt24 (m : Nat) (vS vGN vGS vC : Value) (cp : List CallT) (st : FS) (a : ArgT) (w : World) (e : Ending) (w' : World) : Prop :=
  e = .returned (slV (argS st a).2) ∧ DN m vS vGN vGS vC cp (argS st a).1 w w' ∧ Turn w w' (fun j => j = m ∨ vS.ownBlock = some j)
theorem dn_alloc {m : Nat} {vS vGN vGS vC : Value} {cp : List CallT} {st : FS} {w W : World} {X : Nat → Prop} {B : Nat} {o : Obj} (h : DN m vS vGN vGS vC cp st w W ∧ Turn w W X ∧ W.heap[B]? = some o) (x : Obj) : DN m vS vGN vGS vC cp st w (W.alloc x) ∧ Turn w (W.alloc x) X ∧ (W.alloc x).heap[B]? = some o := by
  obtain ⟨⟨a, b, c, d, e, h1, h2, h3, h3'⟩, h4, h5⟩ := h
  exact ⟨⟨a, b, c, d, e, h1.below ((Below.refl _ W).alloc (Nat.le_refl _) _), h2, h3, h3'⟩, h4.trans (Turn.alloc W x X) (fun _ q => q) (fun _ _ q => q), at_old h5⟩

set_option maxRecDepth 20000 in
set_option maxHeartbeats 16000000 in
theorem arg24_any (m : Nat) (vS vGN vGS vC : Value) (ps : List Nat) (gp : List (ByteArray × Nat)) (cp : List CallT) (st : FS) (w : World) (k : Nat) (nm : ByteArray) (x : Int) (y : Nat) (z : ByteArray) (h : DF m vS vGN vGS vC ps gp cp st w) (hok : OkF st) (hl : st.sl.length ≤ 399999999) (hc : st.ca.length ≤ 1000) :
    Calls Try.prog 38 #[.pointer (some ⟨m, 0, none⟩), .agg #[.int .i64 (k : Int), .string nm, .int .i64 x, .float .f64 y, .string z]] w (ArgAt24 m vS vGN vGS vC cp st (k, nm, (x, y, z)) w) := by
  have hbA : Below w.heap.size w ((w.alloc (.cells #[.int .i64 (k : Int), .string nm, .int .i64 x, .float .f64 y, .string z] 74)).alloc (.cells #[.int .i64 0, .float .f64 0, .string ⟨#[]⟩, .bool false, .int .i64 0, .int .i64 0] 93)) := ((Below.refl _ w).alloc (Nat.le_refl _) _).alloc (by simp) _
  have hsz : ((w.alloc (.cells #[.int .i64 (k : Int), .string nm, .int .i64 x, .float .f64 y, .string z] 74)).alloc (.cells #[.int .i64 0, .float .f64 0, .string ⟨#[]⟩, .bool false, .int .i64 0, .int .i64 0] 93)).heap.size = w.heap.size + 2 := by simp
  have hb3 : ((w.alloc (.cells #[.int .i64 (k : Int), .string nm, .int .i64 x, .float .f64 y, .string z] 74)).alloc (.cells #[.int .i64 0, .float .f64 0, .string ⟨#[]⟩, .bool false, .int .i64 0, .int .i64 0] 93)).heap[w.heap.size]? = some (.cells #[.int .i64 (k : Int), .string nm, .int .i64 x, .float .f64 y, .string z] 74 (0, 0)) := at_old (heap_alloc_new _ _)
  have hb4 : ((w.alloc (.cells #[.int .i64 (k : Int), .string nm, .int .i64 x, .float .f64 y, .string z] 74)).alloc (.cells #[.int .i64 0, .float .f64 0, .string ⟨#[]⟩, .bool false, .int .i64 0, .int .i64 0] 93)).heap[w.heap.size + 1]? = some (.cells #[.int .i64 0, .float .f64 0, .string ⟨#[]⟩, .bool false, .int .i64 0, .int .i64 0] 93 (0, 0)) := at_new (by simp)
  have hml : m < w.heap.size := (Array.getElem?_eq_some_iff.1 h.hd).1
  have hvl : ∀ j, vS.ownBlock = some j → j < w.heap.size := fun j hj => (h.sl.lt hj).2
  by_cases hk0 : k = 0
  · subst hk0
    by_cases hnm : nm.data.toList = []
    · obtain rfl : nm = ⟨#[]⟩ := Go.WideShapes.bytes_inj hnm
      have hf : argS st (0, ⟨#[]⟩, (x, y, z)) = (st, ⟨0, (x, y, z), decide (x ≠ 0), none⟩) := by
        unfold argS
        rw [if_neg (by simp), if_pos hnm]
      have HF := Lib.hid hf
      have H := Lib.hid (And.intro h (And.intro hbA (And.intro hb4 hsz)))
      by_cases hx0 : x = 0
      · subst hx0
        clear h hok hl hc hf hb3 hb4 hbA hsz hml hvl hnm
        go_enter Try.func38, Try.ntmps38
        go_wp2_with fail
        obtain ⟨h, hbA, hb4, hsz⟩ := H.out
        refine bodyPost_ret (results_cell_row rfl _ _ (w.heap.size + 1) 93 #[.int .i64 0, .float .f64 y, .string z, .bool false, .int .i64 0, .int .i64 (-1)] (0, 0) _ rfl (at_new (by simp)) Try.underlying93 rfl (by kernel_rfl)) rfl ?_
        unfold ArgAt24
        rw [HF.out]
        exact ⟨rfl, ⟨_, _, _, _, _, h.below (((Below.refl _ w).alloc (Nat.le_refl _) _).alloc (by simp) _), .inl rfl, .inl rfl, .inl rfl⟩, Turn.of_below (((Below.refl _ w).alloc (Nat.le_refl _) _).alloc (by simp) _) _⟩
      · have hxb : (x != 0) = true := by simp [hx0]
        have HD := Lib.hid (show decide (x ≠ 0) = true by simp [hx0])
        clear h hok hl hc hf hb3 hb4 hbA hsz hml hvl hnm hx0
        go_enter Try.func38, Try.ntmps38
        go_wp2_with fail
        obtain ⟨h, hbA, hb4, hsz⟩ := H.out
        refine bodyPost_ret (results_cell_row rfl _ _ (w.heap.size + 1) 93 #[.int .i64 x, .float .f64 y, .string z, .bool true, .int .i64 0, .int .i64 (-1)] (0, 0) _ rfl (at_new (by simp)) Try.underlying93 rfl (by kernel_rfl)) rfl ?_
        unfold ArgAt24
        rw [HF.out, HD.out]
        exact ⟨rfl, ⟨_, _, _, _, _, h.below (((Below.refl _ w).alloc (Nat.le_refl _) _).alloc (by simp) _), .inl rfl, .inl rfl, .inl rfl⟩, Turn.of_below (((Below.refl _ w).alloc (Nat.le_refl _) _).alloc (by simp) _) _⟩
    · have hne0 : nm.toList.isEmpty = false := str_ne0 (fun e => hnm (by rw [e]))
      have HF := Lib.hid (find24x m vS vGN vGS vC ps gp cp st nm _ (h.below hbA) hok (by omega) hc)
      unfold FoundX at HF
      cases hf : findS st nm with
      | mk st1 i =>
      rw [hf] at HF
      dsimp only at HF
      obtain ⟨hok1, hi1, _, _⟩ := find_facts hok hf
      have hl2 := find_facts2 hf
      have hk : argS st (0, nm, (x, y, z)) = (if resA st1.sl i ≠ 0 then (st1, ⟨resA st1.sl i, noCell, false, none⟩) else if (slotS st1 i).given = true then (st1, ⟨0, (slotS st1 i).val, true, none⟩) else (st1, ⟨0, noCell, false, some i⟩)) := by
        unfold argS
        rw [if_neg (by simp), if_neg hnm, hf]
      have HK := Lib.hid hk
      have HO := Lib.hid (And.intro hok1 (And.intro hi1 (And.intro (slotS_get hi1) (show st1.sl.length ≤ 400000000 by omega))))
      have H := Lib.hid (And.intro hbA (And.intro hb4 (And.intro hsz (And.intro hml hvl))))
      have hi0 : (0 : Int) ≤ (i : Int) := by omega
      have hi2 : (i : Int) < (st1.sl.length : Int) := by omega
      have hl1 : (st1.sl.length : Int) ≤ 400000000 := by omega
      clear h hok hf hok1 hi1 hk hl hl2 hc hb3 hb4 hbA hsz hml hvl hnm
      go_enter Try.func38, Try.ntmps38
      go_wp2_with fail
      refine HF.out.mono ?_
      rintro e w1 ⟨rfl, ⟨vS1, vGN1, vGS1, ps1, gp1, h1, hv1, hn1, hn2⟩, ht1⟩
      have HS := Lib.hid (seen24x m i vS1 vGN1 vGS1 vC ps1 gp1 cp st1 w1 h1 HO.out.1 HO.out.2.1 HO.out.2.2.2)
      have H1 := Lib.hid (And.intro hv1 ht1)
      have HN := Lib.hid (And.intro (show NewB w vS vS1 from hv1.imp id fun q j hj => by have := q j hj; have := H.out.2.2.1; omega) <| And.intro (show NewB w vGN vGN1 from hn1.imp id fun q j hj => by have := q j hj; have := H.out.2.2.1; omega) (show NewB w vGS vGS1 from hn2.imp id fun q j hj => by have := q j hj; have := H.out.2.2.1; omega))
      clear h1 hv1 ht1 hn1 hn2
      go_wp2_with fail
      refine HS.out.mono ?_
      rintro e w2 ⟨rfl, ⟨ps2, h2⟩, ht2⟩
      obtain ⟨hbA, hb4, hsz, hml, hvl⟩ := H.out
      obtain ⟨hv1, ht1⟩ := H1.out
      have hvB : vS1.ownBlock ≠ some (w.heap.size + 1) := fun e => by
        rcases hv1 with rfl | hv1
        · have := hvl _ e; omega
        · have := hv1 _ e; omega
      have hs1 := ht1.size
      have hB2 := (ht2.block (w.heap.size + 1) (by omega) hvB).trans ((ht1.block (w.heap.size + 1) (by omega) (by omega)).trans hb4)
      obtain ⟨d0, _, _, _, _, _⟩ := h2.cells
      obtain ⟨p2, hp2, _, _⟩ := h2.arrAt HO.out.2.2.1
      obtain ⟨g, cap, rfl, hrow, hgm, hgl, hcells, hfz⟩ := h2.slot HO.out.2.2.1 hp2
      obtain ⟨k0, k1, k2, k3, k4, k5⟩ := sl24_at hcells
      have hgB : g ≠ w.heap.size + 1 := fun e => hvB (by rw [e]; rfl)
      have hmB : m ≠ w.heap.size + 1 := by omega
      have n0 : w2.cell? ⟨w.heap.size + 1, 0, none⟩ = some (.int .i64 0) := cell_of_row w2 _ 0 _ _ _ hB2
      have n1 : w2.cell? ⟨w.heap.size + 1, 1, none⟩ = some (.float .f64 0) := cell_of_row w2 _ 1 _ _ _ hB2
      have n2 : w2.cell? ⟨w.heap.size + 1, 2, none⟩ = some (.string ⟨#[]⟩) := cell_of_row w2 _ 2 _ _ _ hB2
      have n3 : w2.cell? ⟨w.heap.size + 1, 3, none⟩ = some (.bool false) := cell_of_row w2 _ 3 _ _ _ hB2
      have n4 : w2.cell? ⟨w.heap.size + 1, 4, none⟩ = some (.int .i64 0) := cell_of_row w2 _ 4 _ _ _ hB2
      have n5 : w2.cell? ⟨w.heap.size + 1, 5, none⟩ = some (.int .i64 0) := cell_of_row w2 _ 5 _ _ _ hB2
      have fB := fun j => frozen_of_row w2 (w.heap.size + 1) j _ _ hB2
      have f0 := fB 0
      have f1 := fB 1
      have f2 := fB 2
      have f3 := fB 3
      have f4 := fB 4
      have f5 := fB 5
      have hT2 : Turn w w2 (fun j => j = m ∨ vS.ownBlock = some j) := ((Turn.of_below hbA _).trans ht1 (fun _ q => q) (fun _ _ q => .inl q)).trans ht2 (fun _ q => q) (fun j hj q => by
        rcases hv1 with e | hv1
        · rw [← e]; exact .inr q
        · have := hv1 _ q; omega)
      have hlt2 : w.heap.size + 1 < w2.heap.size := (Array.getElem?_eq_some_iff.1 hB2).1
      have HR := Lib.hid (And.intro h2 (And.intro hT2 (And.intro hB2 (And.intro hvB hlt2))))
      have hs2 : w.heap.size + 1 < w2.heap.size := by omega
      have hs3 : w.heap.size + 1 ≠ w2.heap.size := by omega
      have hs4 : w2.heap.size ≠ w.heap.size + 1 := by omega
      clear h2 ht2 hp2 hcells HS hrow hbA hb4 hsz hml hvl hv1 ht1 hvB hs1 hB2 hT2 fB hfz hlt2
      have HEND := Lib.hid (fun (w3 : World) (hb : Below w2.heap.size w2 w3) (y0 y1 y2 y3 y4 y5 : Value) => show DN m vS vGN vGS vC cp st1 w (set6 w3 (w.heap.size + 1) y0 y1 y2 y3 y4 y5) ∧ Turn w (set6 w3 (w.heap.size + 1) y0 y1 y2 y3 y4 y5) (fun j => j = m ∨ vS.ownBlock = some j) ∧ (set6 w3 (w.heap.size + 1) y0 y1 y2 y3 y4 y5).heap[w.heap.size + 1]? = some (.cells #[y0, y1, y2, y3, y4, y5] 93 (0, 0)) from by
        obtain ⟨h2, hT2, hB2, hvB, hlt2⟩ := HR.out
        have hB3 := (hb.block _ hlt2).trans hB2
        exact ⟨⟨_, _, _, _, _, (h2.below hb).past hB3 hvB (turn6 (X := fun j => j = w.heap.size + 1) (Turn.refl _ _) (fun _ => rfl) _ _ _ _ _ _), HN.out.1, HN.out.2.1, HN.out.2.2⟩, turn6 (hT2.trans (Turn.of_below hb (fun _ => False)) (fun _ q => q) (fun _ _ q => q.elim)) (fun e => absurd e (by omega)) _ _ _ _ _ _, cells6 hB3⟩)
      cases hr : resA st1.sl i with
      | succ q =>
        have HK2 := Lib.hid (show argS st (0, nm, (x, y, z)) = (st1, ⟨q + 1, noCell, false, none⟩) by rw [HK.out, hr]; simp)
        have hq0 : (0 : Int) < ((q + 1 : Nat) : Int) := by omega
        generalize q + 1 = q' at hq0 HK2
        clear hr k0 k1 k2 k3 k4 k5 hs2 hs3 hs4
        go_wp2_with fail
        obtain ⟨e1, e2, e3⟩ := HEND.out _ (Below.refl _ _) (.int .i64 0) (.float .f64 0) (.string ⟨#[]⟩) (.bool false) (.int .i64 (q' : Int)) (.int .i64 (-1))
        refine bodyPost_ret (results_cell_row rfl _ _ (w.heap.size + 1) 93 #[.int .i64 0, .float .f64 0, .string ⟨#[]⟩, .bool false, .int .i64 (q' : Int), .int .i64 (-1)] (0, 0) _ rfl e3 Try.underlying93 rfl (by kernel_rfl)) rfl ?_
        unfold ArgAt24
        rw [HK2.out]
        exact ⟨rfl, e1, e2⟩
      | zero =>
        cases hg : (slotS st1 i).given with
        | true =>
          have HK2 := Lib.hid (show argS st (0, nm, (x, y, z)) = (st1, ⟨0, (slotS st1 i).val, true, none⟩) by rw [HK.out, hr, hg]; simp)
          rw [hg] at k3
          generalize (slotS st1 i).val = c at *
          obtain ⟨x', y', z'⟩ := c
          dsimp only at k0 k1 k2
          clear hr hg HK
          go_wp2_with fail
          obtain ⟨e1, e2, e3⟩ := dn_alloc (HEND.out _ (Below.refl _ _) (.int .i64 x') (.float .f64 y') (.string z') (.bool true) (.int .i64 0) (.int .i64 (-1))) _
          refine bodyPost_ret (results_cell_row rfl _ _ (w.heap.size + 1) 93 #[.int .i64 x', .float .f64 y', .string z', .bool true, .int .i64 0, .int .i64 (-1)] (0, 0) _ rfl e3 Try.underlying93 rfl (by kernel_rfl)) rfl ?_
          unfold ArgAt24
          rw [HK2.out]
          exact ⟨rfl, e1, e2⟩
        | false =>
          have HK2 := Lib.hid (show argS st (0, nm, (x, y, z)) = (st1, ⟨0, noCell, false, some i⟩) by rw [HK.out, hr, hg]; simp)
          rw [hg] at k3
          clear hr hg HK
          go_wp2_with fail
          obtain ⟨e1, e2, e3⟩ := dn_alloc (HEND.out _ (Below.refl _ _) (.int .i64 0) (.float .f64 0) (.string ⟨#[]⟩) (.bool false) (.int .i64 0) (.int .i64 (i : Int))) _
          refine bodyPost_ret (results_cell_row rfl _ _ (w.heap.size + 1) 93 #[.int .i64 0, .float .f64 0, .string ⟨#[]⟩, .bool false, .int .i64 0, .int .i64 (i : Int)] (0, 0) _ rfl e3 Try.underlying93 rfl (by kernel_rfl)) rfl ?_
          unfold ArgAt24
          rw [HK2.out]
          exact ⟨rfl, e1, e2⟩
  · have hf : argS st (k, nm, (x, y, z)) = (st, ⟨k, noCell, false, none⟩) := by unfold argS; rw [if_pos hk0]
    have HF := Lib.hid hf
    have H := Lib.hid (And.intro h (And.intro hbA (And.intro hb4 hsz)))
    have hk1 : (0 : Int) < (k : Int) := by omega
    clear h hok hl hc hf hb3 hb4 hbA hsz hml hvl hk0
    go_enter Try.func38, Try.ntmps38
    go_wp2_with fail
    obtain ⟨h, hbA, hb4, hsz⟩ := H.out
    refine bodyPost_ret (results_cell_row rfl _ _ (w.heap.size + 1) 93 #[.int .i64 0, .float .f64 0, .string ⟨#[]⟩, .bool false, .int .i64 (k : Int), .int .i64 (-1)] (0, 0) _ rfl (at_new (by simp)) Try.underlying93 rfl (by kernel_rfl)) rfl ?_
    unfold ArgAt24
    rw [HF.out]
    exact ⟨rfl, ⟨_, _, _, _, _, h.below (((Below.refl _ w).alloc (Nat.le_refl _) _).alloc (by simp) _), .inl rfl, .inl rfl, .inl rfl⟩, Turn.of_below (((Below.refl _ w).alloc (Nat.le_refl _) _).alloc (by simp) _) _⟩
end Go.Proofs.Ytbpaiocbgbpiaaa
