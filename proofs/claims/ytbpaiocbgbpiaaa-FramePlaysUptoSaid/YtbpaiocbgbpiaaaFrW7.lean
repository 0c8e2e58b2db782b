/- Get, Set, Depth: walked. -/
import Derived.Test.YtbpaiocbgbpiaaaFrW6
import Derived.Laws.ResultCell
import Derived.Laws.Rows
namespace Go.Proofs.Ytbpaiocbgbpiaaa
open Go.RowKit
set_option linter.unusedVariables false
set_option linter.unusedSimpArgs false

/-- The walk's law on a store of a float: the library has none. -/
@[go_sem] theorem run_store_float {P : Program} (w : World) (a : Addr) (m : Mode) (k : FloatKind) (b : Nat) : (store a (.float k b) m).run P w = stored P w a (.float k b) m := run_store P w a _ m rfl
theorem results_cell_row2 {P : Program} {fn : Func} {p u : Tmp} {ty : TypeId} (h : fn.results = #[.cell p ty, .tmp u]) (tmps : Array Value) (w : World) (g : Nat) (t : TypeId) (cs : Array Value) (fr : Nat × Nat) (d : TypeDesc)
    (hp : tmps.getD p undef = .pointer (some ⟨g, 0, none⟩)) (hg : w.heap[g]? = some (.cells cs t fr))
    (hu : P.underlying ty = some d) (hd : (match d with | .struct _ | .array _ _ => true | _ => false) = true) (hi : (P.info? ty).map (·.size) = some cs.size) {v : Value} (hv : tmps.getD u undef = v) :
    (results fn tmps).run P w = .ok (.tuple #[.agg cs, v]) w := by
  rw [results_cell_tmp h, hp, hv]
  simp [asAddr, run_loadVar_row w g t ty cs fr d hg hu hd hi, Result.andThen]
def cellV (c : CellT) : Value := .agg #[.int .i64 c.1, .float .f64 c.2.1, .string c.2.2]
/-- Cells of a block of three are written. -/
theorem cells3 {w1 : World} {B : Nat} {e : TypeId} {x0 x1 x2 y0 y1 y2 : Value} (h : w1.heap[B]? = some (.cells #[x0, x1, x2] e (0, 0))) :
    (((w1.setCell ⟨B, 0, none⟩ y0).setCell ⟨B, 1, none⟩ y1).setCell ⟨B, 2, none⟩ y2).heap[B]? = some (.cells #[y0, y1, y2] e (0, 0)) := by
  rw [heap_setCell_same _ _ _ _ _ _ (heap_setCell_same _ _ _ _ _ _ (heap_setCell_same _ _ _ _ _ _ h))]
  rfl
theorem turn3 {w1 : World} {B : Nat} {y0 y1 y2 : Value} {X : Nat → Prop} (h : X B) : Turn w1 (((w1.setCell ⟨B, 0, none⟩ y0).setCell ⟨B, 1, none⟩ y1).setCell ⟨B, 2, none⟩ y2) X :=
  (((Turn.refl _ _).setCell _ _ (fun _ => h)).setCell _ _ (fun _ => h)).setCell _ _ (fun _ => h)
/-- A method that first makes a block of its own, and writes into it at the end. -/
theorem FrGo.boxed {G G' : GH} {st st' : FS} {w w1 w2 w3 : World} (h : FR XN G st w) (hb : Below w.heap.size w w1) (hl : w.heap.size < w1.heap.size) (hg : FrGo G st' w1 G' w2) (ht : Turn w2 w3 (fun j => j = w.heap.size)) : FrGo G st' w G' w3 := by
  have hn : ∀ j, Own G' j → j ≠ w.heap.size := fun j hj e => by
    subst e
    rcases hg.ow _ hj with x | x
    · have := h.lt x; omega
    · omega
  refine ⟨hg.fr.turn ht hn, ?_, fun j hj => ?_, hg.F, hg.sb, hg.ab, hg.ks, hg.q⟩
  · refine ((Turn.of_below hb _).trans hg.tu (fun _ x => x) (fun _ _ x => x)).trans ht (fun _ x => x) (fun j hj x => by omega)
  · rcases hg.ow j hj with x | x
    · exact .inl x
    · exact .inr (Nat.le_trans hb.size x)
/-- The block that was made first stands. -/
theorem FrGo.stands {G G' : GH} {st st' : FS} {w w1 w2 : World} (h : FR XN G st w) (hl : w.heap.size < w1.heap.size) (hg : FrGo G st' w1 G' w2) {o : Obj} (ho : w1.heap[w.heap.size]? = some o) : w2.heap[w.heap.size]? = some o :=
  (hg.tu.block _ hl (fun x => by have := h.lt x; omega)).trans ho

def GetAt (G : GH) (st : FS) (nm : ByteArray) (w : World) (e : Ending) (w' : World) : Prop := ∃ G', e = .returned (.tuple #[cellV (getS st nm).2.1, .int .i64 ((getS st nm).2.2 : Int)]) ∧ FrGo G (getS st nm).1 w G' w'
set_option maxHeartbeats 8000000 in
theorem get_any (G : GH) (st : FS) (w : World) (nm : ByteArray) (h : FR XN G st w) (hok : OkF st) (hs : nm.size ≤ maxLen) (hn : st.sl.length < 9007199254740992) :
    Calls Try.prog 18 #[.pointer (some ⟨G.F, 0, none⟩), .string nm] w (GetAt G st nm w) := by
  cases hf : findS st nm with
  | mk st1 i =>
  obtain ⟨hok1, hi1, _, _⟩ := find_facts hok hf
  have hb0 : Below w.heap.size w (w.alloc (.cells #[.int .i64 0, .float .f64 0, .string ⟨#[]⟩] 32)) := (Below.refl _ w).alloc (Nat.le_refl _) _
  have hbx : (w.alloc (.cells #[.int .i64 0, .float .f64 0, .string ⟨#[]⟩] 32)).heap[w.heap.size]? = some (.cells #[.int .i64 0, .float .f64 0, .string ⟨#[]⟩] 32 (0, 0)) := heap_alloc_new _ _
  have hlt : w.heap.size < (w.alloc (.cells #[.int .i64 0, .float .f64 0, .string ⟨#[]⟩] 32)).heap.size := by simp
  have HFi := Lib.hid (find_ptr (h.below hb0) hok hs hn hf)
  have hk : getS st nm = (if resA st1.sl i ≠ 0 then (st1, noCell, 80) else (st1, (slotS st1 i).val, 0)) := by unfold getS; rw [hf]
  have HK := Lib.hid hk
  have HO := Lib.hid (And.intro hok1 hi1)
  have HB := Lib.hid (And.intro h (And.intro hb0 (And.intro hlt hbx)))
  clear h hok hf hok1 hi1 hk hn hb0 hlt hbx
  go_enter Try.func18, Try.ntmps18
  go_wp2_with fail
  refine HFi.out.mono ?_
  rintro e w1 ⟨G1, b, rfl, hbp, hg1⟩
  have hse := seen_any i G1 st1 w1 hg1.fr HO.out.1 HO.out.2
  rw [hbp] at hse
  have HSe := Lib.hid hse
  have HG1 := Lib.hid (And.intro hbp hg1)
  clear hse hbp hg1 HFi
  go_wp2_with fail
  refine HSe.out.mono ?_
  rintro e w2 ⟨rfl, hS⟩
  obtain ⟨g2, hb, v, hv, hx⟩ := behind HO.out.1 HO.out.2 HG1.out.1 HG1.out.2 hS
  obtain ⟨_, c1, c2, c3, _, _, _⟩ := sl_cells hv
  have hst := g2.stands HB.out.1 HB.out.2.2.1 HB.out.2.2.2
  have HST := Lib.hid hst
  have d0 : w2.cell? ⟨w.heap.size, 0, none⟩ = some (.int .i64 0) := cell_of_row w2 _ 0 _ _ _ hst
  have d1 : w2.cell? ⟨w.heap.size, 1, none⟩ = some (.float .f64 0) := cell_of_row w2 _ 1 _ _ _ hst
  have d2 : w2.cell? ⟨w.heap.size, 2, none⟩ = some (.string ⟨#[]⟩) := cell_of_row w2 _ 2 _ _ _ hst
  have f0 := frozen_of_row w2 w.heap.size 0 _ _ hst
  have f1 := frozen_of_row w2 w.heap.size 1 _ _ hst
  have f2 := frozen_of_row w2 w.heap.size 2 _ _ hst
  have HR := Lib.hid g2
  have hne : b ≠ w.heap.size := fun e => by
    subst e
    rw [hst] at hv
    simp at hv
  clear g2 hb hv hx hS HSe HG1 hst
  cases hr : resA st1.sl i with
  | succ k =>
    have hk2 : getS st nm = (st1, noCell, 80) := by rw [HK.out, hr]; simp
    have HK2 := Lib.hid hk2
    clear hk2 hr c1 c2 c3
    simp only [arP]
    generalize G1.ab.getD k 0 = g
    go_wp2_with fail
    refine bodyPost_ret (results_cell_row2 rfl _ _ w.heap.size 32 #[.int .i64 0, .float .f64 0, .string ⟨#[]⟩] (0, 0) _ rfl (cells3 HST.out) Try.underlying32 rfl (by kernel_rfl) rfl) rfl ?_
    refine ⟨G1, by rw [HK2.out]; rfl, ?_⟩
    rw [HK2.out]
    exact FrGo.boxed HB.out.1 HB.out.2.1 HB.out.2.2.1 HR.out (turn3 rfl)
  | zero =>
    simp only [arP]
    have hk2 : getS st nm = (st1, (slotS st1 i).val, 0) := by rw [HK.out, hr]; simp
    have HK2 := Lib.hid hk2
    clear hk2 hr
    generalize (slotS st1 i).val = c at *
    obtain ⟨x, y, z⟩ := c
    dsimp only at c1 c2 c3
    go_wp2_with fail
    refine bodyPost_ret (results_cell_row2 rfl _ _ w.heap.size 32 #[.int .i64 x, .float .f64 y, .string z] (0, 0) _ rfl (cells3 HST.out) Try.underlying32 rfl (by kernel_rfl) rfl) rfl ?_
    refine ⟨G1, by rw [HK2.out]; rfl, ?_⟩
    rw [HK2.out]
    exact FrGo.boxed HB.out.1 HB.out.2.1 HB.out.2.2.1 HR.out (turn3 rfl)

theorem cells4of6 {w1 : World} {B : Nat} {e : TypeId} {x0 x1 x2 x3 x4 x5 y1 y2 y3 y4 : Value} (h : w1.heap[B]? = some (.cells #[x0, x1, x2, x3, x4, x5] e (0, 0))) :
    ((((w1.setCell ⟨B, 1, none⟩ y1).setCell ⟨B, 2, none⟩ y2).setCell ⟨B, 3, none⟩ y3).setCell ⟨B, 4, none⟩ y4).heap[B]? = some (.cells #[x0, y1, y2, y3, y4, x5] e (0, 0)) := by
  have h1 : (w1.setCell ⟨B, 1, none⟩ y1).heap[B]? = some (.cells #[x0, y1, x2, x3, x4, x5] e (0, 0)) := by rw [heap_setCell_same _ _ _ _ _ _ h]; rfl
  have h2 : ((w1.setCell ⟨B, 1, none⟩ y1).setCell ⟨B, 2, none⟩ y2).heap[B]? = some (.cells #[x0, y1, y2, x3, x4, x5] e (0, 0)) := by rw [heap_setCell_same _ _ _ _ _ _ h1]; rfl
  have h3 : (((w1.setCell ⟨B, 1, none⟩ y1).setCell ⟨B, 2, none⟩ y2).setCell ⟨B, 3, none⟩ y3).heap[B]? = some (.cells #[x0, y1, y2, y3, x4, x5] e (0, 0)) := by rw [heap_setCell_same _ _ _ _ _ _ h2]; rfl
  rw [heap_setCell_same _ _ _ _ _ _ h3]; rfl
theorem turn4 {w1 : World} {B : Nat} {y1 y2 y3 y4 : Value} {X : Nat → Prop} (h : X B) : Turn w1 ((((w1.setCell ⟨B, 1, none⟩ y1).setCell ⟨B, 2, none⟩ y2).setCell ⟨B, 3, none⟩ y3).setCell ⟨B, 4, none⟩ y4) X :=
  ((((Turn.refl w1 X).setCell ⟨B, 1, none⟩ y1 (fun _ => h)).setCell ⟨B, 2, none⟩ y2 (fun _ => h)).setCell ⟨B, 3, none⟩ y3 (fun _ => h)).setCell ⟨B, 4, none⟩ y4 (fun _ => h)
/-- A value is given. -/
theorem FR.valued {G : GH} {st : FS} {w : World} (h : FR XN G st w) (hok : OkF st) {i b p : Nat} {v : Value} (hi : i < st.sl.length) (hr : resA st.sl i = 0) (hb : G.sb[i]? = some b) (hv : w.heap[b]? = some (.cells (slC G.sb v (slotS st i)) 83 (0, 0)))
    (hp : v = arP G.ab p ∧ (p = 0 ∨ p = resA st.sl i) ∧ ((slotS st i).arr ≠ 0 → p = (slotS st i).arr)) (c : CellT) :
    FR XN G (valS st i c) ((((w.setCell ⟨b, 1, none⟩ (.int .i64 c.1)).setCell ⟨b, 2, none⟩ (.float .f64 c.2.1)).setCell ⟨b, 3, none⟩ (.string c.2.2)).setCell ⟨b, 4, none⟩ (.bool true)) := by
  obtain ⟨rfl, hp1, hp2⟩ := hp
  have hs := slotS_get hi
  have hrv := resA_val hok.ok hs hr c
  have hset : ((((w.setCell ⟨b, 1, none⟩ (.int .i64 c.1)).setCell ⟨b, 2, none⟩ (.float .f64 c.2.1)).setCell ⟨b, 3, none⟩ (.string c.2.2)).setCell ⟨b, 4, none⟩ (.bool true)).heap[b]? = some (.cells (slC G.sb (arP G.ab p) ⟨(slotS st i).arr, c, true, (slotS st i).frm⟩) 83 (0, 0)) := by
    exact cells4of6 hv
  have htu : Turn w ((((w.setCell ⟨b, 1, none⟩ (.int .i64 c.1)).setCell ⟨b, 2, none⟩ (.float .f64 c.2.1)).setCell ⟨b, 3, none⟩ (.string c.2.2)).setCell ⟨b, 4, none⟩ (.bool true)) (fun j => j = b) :=
    turn4 rfl
  generalize ((((w.setCell ⟨b, 1, none⟩ (.int .i64 c.1)).setCell ⟨b, 2, none⟩ (.float .f64 c.2.1)).setCell ⟨b, 3, none⟩ (.string c.2.2)).setCell ⟨b, 4, none⟩ (.bool true)) = w4 at *
  have hl' : (st.sl.set i ⟨(slotS st i).arr, c, true, (slotS st i).frm⟩).length = st.sl.length := List.length_set
  exact h.put (X := XN) (Y := XN) (i := i) (s' := ⟨(slotS st i).arr, c, true, (slotS st i).frm⟩) (v' := arP G.ab p) hb (st.sl.set i ⟨(slotS st i).arr, c, true, (slotS st i).frm⟩) hl' (fun k => get_set _ k) (fun k _ => hrv k) hset htu (fun _ _ _ x => x) (fun _ => ⟨p, rfl, by rw [hrv i]; exact hp1, hp2⟩)
def SetAt (G : GH) (st : FS) (nm : ByteArray) (c : CellT) (w : World) (e : Ending) (w' : World) : Prop := ∃ G', e = .returned (.int .i64 ((setS st nm c).2 : Int)) ∧ FrGo G (setS st nm c).1 w G' w'
set_option maxHeartbeats 8000000 in
theorem set_any (G : GH) (st : FS) (w : World) (nm : ByteArray) (x : Int) (y : Nat) (z : ByteArray) (h : FR XN G st w) (hok : OkF st) (hs : nm.size ≤ maxLen) (hn : st.sl.length < 9007199254740992) :
    Calls Try.prog 11 #[.pointer (some ⟨G.F, 0, none⟩), .string nm, .agg #[.int .i64 x, .float .f64 y, .string z]] w (SetAt G st nm (x, y, z) w) := by
  cases hf : findS st nm with
  | mk st1 i =>
  obtain ⟨hok1, hi1, _, _⟩ := find_facts hok hf
  have hb0 : Below w.heap.size w (w.alloc (.cells #[.int .i64 x, .float .f64 y, .string z] 32)) := (Below.refl _ w).alloc (Nat.le_refl _) _
  have hbx : (w.alloc (.cells #[.int .i64 x, .float .f64 y, .string z] 32)).heap[w.heap.size]? = some (.cells #[.int .i64 x, .float .f64 y, .string z] 32 (0, 0)) := heap_alloc_new _ _
  have hlt : w.heap.size < (w.alloc (.cells #[.int .i64 x, .float .f64 y, .string z] 32)).heap.size := by simp
  have HFi := Lib.hid (find_ptr (h.below hb0) hok hs hn hf)
  have hk : setS st nm (x, y, z) = (if resA st1.sl i ≠ 0 then (st1, 80) else (valS st1 i (x, y, z), 0)) := by unfold setS; rw [hf]
  have HK := Lib.hid hk
  have HO := Lib.hid (And.intro hok1 hi1)
  have HB := Lib.hid (And.intro h (And.intro hb0 (And.intro hlt hbx)))
  clear h hok hf hok1 hi1 hk hn hb0 hlt hbx
  go_enter Try.func11, Try.ntmps11
  go_wp2_with fail
  refine HFi.out.mono ?_
  rintro e w1 ⟨G1, b, rfl, hbp, hg1⟩
  have hse := seen_any i G1 st1 w1 hg1.fr HO.out.1 HO.out.2
  rw [hbp] at hse
  have HSe := Lib.hid hse
  have HG1 := Lib.hid (And.intro hbp hg1)
  clear hse hbp hg1 HFi
  go_wp2_with fail
  refine HSe.out.mono ?_
  rintro e w2 ⟨rfl, hS⟩
  obtain ⟨g2, hb, v, hv, p, hx⟩ := behind HO.out.1 HO.out.2 HG1.out.1 HG1.out.2 hS
  obtain ⟨_, c1, c2, c3, c4, _, fz⟩ := sl_cells hv
  have hst := g2.stands HB.out.1 HB.out.2.2.1 HB.out.2.2.2
  have d0 : w2.cell? ⟨w.heap.size, 0, none⟩ = some (.int .i64 x) := cell_of_row w2 _ 0 _ _ _ hst
  have d1 : w2.cell? ⟨w.heap.size, 1, none⟩ = some (.float .f64 y) := cell_of_row w2 _ 1 _ _ _ hst
  have d2 : w2.cell? ⟨w.heap.size, 2, none⟩ = some (.string z) := cell_of_row w2 _ 2 _ _ _ hst
  have f1 := fz 1
  have f2 := fz 2
  have f3 := fz 3
  have f4 := fz 4
  have hne : b ≠ w.heap.size := fun e => by
    subst e
    rw [hst] at hv
    simp [slC] at hv
  have HR := Lib.hid (FrGo.boxed HB.out.1 HB.out.2.1 HB.out.2.2.1 g2 (Turn.refl _ _))
  have HS := Lib.hid (And.intro hS.fr (And.intro hb (And.intro hv hx)))
  clear g2 hb hv hx hS HSe HG1 hst fz
  cases hr : resA st1.sl i with
  | succ k =>
    have hk2 : setS st nm (x, y, z) = (st1, 80) := by rw [HK.out, hr]; simp
    have HK2 := Lib.hid hk2
    clear hk2 hr c1 c2 c3 d0 d1 d2 c4
    simp only [arP]
    generalize G1.ab.getD k 0 = g
    go_wp2_with fail
    go_ret
    exact ⟨G1, by rw [HK2.out]; rfl, by rw [HK2.out]; exact HR.out⟩
  | zero =>
    simp only [arP]
    have hk2 : setS st nm (x, y, z) = (valS st1 i (x, y, z), 0) := by rw [HK.out, hr]; simp
    have hV := HS.out.1.valued HO.out.1 HO.out.2 hr HS.out.2.1 HS.out.2.2.1 HS.out.2.2.2 (x, y, z)
    have hT : Turn w2 ((((w2.setCell ⟨b, 1, none⟩ (.int .i64 x)).setCell ⟨b, 2, none⟩ (.float .f64 y)).setCell ⟨b, 3, none⟩ (.string z)).setCell ⟨b, 4, none⟩ (.bool true)) (Own G1) := by
      have ho : Own G1 b := .inr (.inr (.inr (.inr (.inl (List.mem_of_getElem? HS.out.2.1)))))
      exact turn4 ho
    have HE := Lib.hid (HR.out.trans (G2 := G1) ⟨hV, hT, fun _ x => .inl x, rfl, ⟨[], by simp⟩, ⟨[], by simp⟩, ⟨[], by simp⟩, rfl⟩)
    have HK2 := Lib.hid hk2
    clear hk2 hr hV hT
    go_wp2_with fail
    go_ret
    exact ⟨G1, by rw [HK2.out]; rfl, by rw [HK2.out]; exact HE.out⟩

set_option maxHeartbeats 8000000 in
theorem depth_any (G : GH) (st : FS) (w : World) (h : FR XN G st w) :
    Calls Try.prog 15 #[.pointer (some ⟨G.F, 0, none⟩)] w fun e w' => e = .returned (.int .i64 (st.ca.length : Int)) ∧ w = w' := by
  obtain ⟨c0, c1, _⟩ := hd_cells h.hd
  obtain ⟨A, c, hcv⟩ := own_shape h.cr
  rw [hcv] at c1
  clear h hcv
  go_enter Try.func15, Try.ntmps15
  go_wp2_with fail
  go_ret
  exact ⟨rfl, rfl⟩
end Go.Proofs.Ytbpaiocbgbpiaaa
