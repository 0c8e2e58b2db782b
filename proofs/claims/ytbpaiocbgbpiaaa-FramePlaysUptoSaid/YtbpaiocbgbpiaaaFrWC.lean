/- An array's elements: walked. -/
import Derived.Test.YtbpaiocbgbpiaaaFrWB
import Derived.StillTailTactics
namespace Go.Proofs.Ytbpaiocbgbpiaaa
open Go.RowKit
set_option linter.unusedVariables false
set_option linter.unusedSimpArgs false

theorem zero_el (w : World) : (zeroValue 89).run Try.prog w = .ok (elV 0 noCell) w := by kernel_rfl
theorem cells5 {w1 : World} {B : Nat} {e : TypeId} {x0 x1 x2 x3 x4 y0 y1 y2 y3 y4 : Value} (h : w1.heap[B]? = some (.cells #[x0, x1, x2, x3, x4] e (0, 0))) :
    (((((w1.setCell ⟨B, 0, none⟩ y0).setCell ⟨B, 1, none⟩ y1).setCell ⟨B, 2, none⟩ y2).setCell ⟨B, 3, none⟩ y3).setCell ⟨B, 4, none⟩ y4).heap[B]? = some (.cells #[y0, y1, y2, y3, y4] e (0, 0)) := by
  have h0 : (w1.setCell ⟨B, 0, none⟩ y0).heap[B]? = some (.cells #[y0, x1, x2, x3, x4] e (0, 0)) := by rw [heap_setCell_same _ _ _ _ _ _ h]; rfl
  have h1 : ((w1.setCell ⟨B, 0, none⟩ y0).setCell ⟨B, 1, none⟩ y1).heap[B]? = some (.cells #[y0, y1, x2, x3, x4] e (0, 0)) := by rw [heap_setCell_same _ _ _ _ _ _ h0]; rfl
  have h2 : (((w1.setCell ⟨B, 0, none⟩ y0).setCell ⟨B, 1, none⟩ y1).setCell ⟨B, 2, none⟩ y2).heap[B]? = some (.cells #[y0, y1, y2, x3, x4] e (0, 0)) := by rw [heap_setCell_same _ _ _ _ _ _ h1]; rfl
  have h3 : ((((w1.setCell ⟨B, 0, none⟩ y0).setCell ⟨B, 1, none⟩ y1).setCell ⟨B, 2, none⟩ y2).setCell ⟨B, 3, none⟩ y3).heap[B]? = some (.cells #[y0, y1, y2, y3, x4] e (0, 0)) := by rw [heap_setCell_same _ _ _ _ _ _ h2]; rfl
  rw [heap_setCell_same _ _ _ _ _ _ h3]; rfl
theorem turn5 {w1 : World} {B : Nat} {y0 y1 y2 y3 y4 : Value} {X : Nat → Prop} (h : X B) : Turn w1 (((((w1.setCell ⟨B, 0, none⟩ y0).setCell ⟨B, 1, none⟩ y1).setCell ⟨B, 2, none⟩ y2).setCell ⟨B, 3, none⟩ y3).setCell ⟨B, 4, none⟩ y4) X :=
  (((((Turn.refl w1 X).setCell ⟨B, 0, none⟩ y0 (fun _ => h)).setCell ⟨B, 1, none⟩ y1 (fun _ => h)).setCell ⟨B, 2, none⟩ y2 (fun _ => h)).setCell ⟨B, 3, none⟩ y3 (fun _ => h)).setCell ⟨B, 4, none⟩ y4 (fun _ => h)
/-- An element, or none, and whether it is there. -/
def GotAt (x : Option Value) (w : World) (e : Ending) (w' : World) : Prop := e = .returned (.tuple #[x.getD (elV 0 noCell), .bool x.isSome]) ∧ Below w.heap.size w w'
set_option maxRecDepth 20000 in
set_option maxHeartbeats 8000000 in
theorem aget_any (b mb n k : Nat) (f : ByteArray → Option Value) (key : ByteArray) (w : World) (hh : w.heap[b]? = some (.cells #[.map (some mb), .int .i64 (k : Int)] 101 (0, 0))) (hm : MapF Try.prog 9 w mb n f)
    (hs : key.size ≤ maxLen) (hv : ∀ v, f key = some v → ∃ p c, v = elV p c) :
    Calls Try.prog 40 #[.pointer (some ⟨b, 0, none⟩), .string key] w (GotAt (f key) w) := by
  have c0 : w.cell? ⟨b, 0, none⟩ = some (.map (some mb)) := cell_of_row w b 0 _ _ _ hh
  have hb1 : Below w.heap.size w (w.alloc (.cells #[.int .i64 0, .int .i64 0, .float .f64 0, .string ⟨#[]⟩, .pointer none] 89)) := (Below.refl _ w).alloc (Nat.le_refl _) _
  have hm1 := hm.same (hb1.block _ hm.lt)
  have hx : ∃ p c, (f key).getD (elV 0 noCell) = elV p c := by
    cases hf : f key with
    | none => exact ⟨0, noCell, rfl⟩
    | some v => obtain ⟨p, c, rfl⟩ := hv v hf; exact ⟨p, c, rfl⟩
  obtain ⟨p, ⟨x, y, z⟩, hx⟩ := hx
  have HX := Lib.hid hx
  have c0' := (hb1.cell (p := ⟨b, 0, none⟩) (lt_of_cell c0)).trans c0
  have hne : b ≠ w.heap.size := Nat.ne_of_lt (lt_of_cell c0)
  have hbx : (w.alloc (.cells #[.int .i64 0, .int .i64 0, .float .f64 0, .string ⟨#[]⟩, .pointer none] 89)).heap[w.heap.size]? = some (.cells #[.int .i64 0, .int .i64 0, .float .f64 0, .string ⟨#[]⟩, .pointer none] 89 (0, 0)) := heap_alloc_new _ _
  have HB := Lib.hid (And.intro hb1 hbx)
  clear hh hm hv hx hb1 hbx
  generalize hg : (f key).isSome = g at *
  have HG := Lib.hid hg
  clear hg
  go_enter Try.func40, Try.ntmps40
  go_wp2_with (at_lookup; refine wpList_lookF_ok _ rfl _ _ 99 rfl 9 89 Try.underlying9 Try.underlying99 (zero_el _) mb n f rfl hm1 key rfl hs ?_; rw [HX.out, HG.out]; simp only [elV])
  refine bodyPost_ret (results_cell_row2 rfl _ _ w.heap.size 89 #[.int .i64 p, .int .i64 x, .float .f64 y, .string z, .pointer none] (0, 0) _ rfl (heap_alloc2_old _ _ _) Try.underlying89 rfl (by kernel_rfl) rfl) rfl ?_
  exact ⟨by rw [HX.out, HG.out]; rfl, ((Below.refl _ w).alloc (Nat.le_refl _) _).alloc (by simp) _⟩
set_option maxRecDepth 20000 in
set_option maxHeartbeats 8000000 in
theorem akind_any (b mb n k : Nat) (f : ByteArray → Option Value) (key : ByteArray) (w : World) (hh : w.heap[b]? = some (.cells #[.map (some mb), .int .i64 (k : Int)] 101 (0, 0))) (hm : MapF Try.prog 9 w mb n f)
    (hs : key.size ≤ maxLen) (hv : ∀ v, f key = some v → ∃ p c, v = elV p c) :
    Calls Try.prog 27 #[.pointer (some ⟨b, 0, none⟩), .string key] w fun e w' => e = .returned (.int .i64 (if (f key).isSome = true then 1 else 0)) ∧ Below w.heap.size w w' := by
  have hx : ∃ p c, (f key).getD (elV 0 noCell) = elV p c := by
    cases hf : f key with
    | none => exact ⟨0, noCell, rfl⟩
    | some v => obtain ⟨p, c, rfl⟩ := hv v hf; exact ⟨p, c, rfl⟩
  obtain ⟨p, ⟨x, y, z⟩, hx⟩ := hx
  have HX := Lib.hid hx
  have HG := Lib.hid (aget_any b mb n k f key w hh hm hs hv)
  clear hh hm hv hx
  cases hg : (f key).isSome with
  | true =>
    have HS := Lib.hid hg
    clear hg
    go_enter Try.func27, Try.ntmps27
    go_wp2_with fail
    refine HG.out.mono ?_
    rintro e w1 ⟨rfl, hb⟩
    rw [HX.out, HS.out]
    simp only [elV]
    have HB := Lib.hid hb
    clear hb
    go_wp2_with fail
    go_ret
    exact ⟨rfl, HB.out.alloc HB.out.size _⟩
  | false =>
    have HS := Lib.hid hg
    clear hg
    go_enter Try.func27, Try.ntmps27
    go_wp2_with fail
    refine HG.out.mono ?_
    rintro e w1 ⟨rfl, hb⟩
    rw [HX.out, HS.out]
    simp only [elV]
    have HB := Lib.hid hb
    clear hb
    go_wp2_with fail
    go_ret
    exact ⟨rfl, HB.out.alloc HB.out.size _⟩
theorem put_turn {w W w9 : World} {b mb : Nat} (h : Turn w W (fun j => j = b ∨ j = mb)) (hg : W.drew.grownBy w9 (some mb)) : Turn w w9 (fun j => j = b ∨ j = mb) := by
  have h1 : Turn W W.drew (fun j => j = b ∨ j = mb) := Turn.of_below (Below.refl _ W).drew _
  have h2 : Turn W.drew w9 (fun j => j = b ∨ j = mb) := (Turn.of_grown hg).mono (fun j e => by cases e; exact Or.inr rfl)
  exact (h.trans h1 (fun _ q => q) (fun _ _ q => q)).trans h2 (fun _ q => q) (fun _ _ q => q)
/-- What 'put' leaves: the element is there. -/
def PutAt (b mb n : Nat) (f : ByteArray → Option Value) (key : ByteArray) (c : CellT) (w : World) (e : Ending) (w' : World) : Prop :=
  e = .returned (.tuple #[]) ∧ ∃ (k' : Nat) (p : Int), w'.heap[b]? = some (.cells #[.map (some mb), .int .i64 (k' : Int)] 101 (0, 0)) ∧ k' ≤ n ∧ MapF Try.prog 9 w' mb n (upd f key (elV p c)) ∧ Turn w w' (fun j => j = b ∨ j = mb)
set_option maxRecDepth 20000 in
set_option maxHeartbeats 8000000 in
theorem put_any (b mb n k : Nat) (f : ByteArray → Option Value) (key : ByteArray) (x : Int) (y : Nat) (z : ByteArray) (w : World) (hh : w.heap[b]? = some (.cells #[.map (some mb), .int .i64 (k : Int)] 101 (0, 0))) (hm : MapF Try.prog 9 w mb n f)
    (hs : key.size ≤ maxLen) (hv : ∀ v, f key = some v → ∃ p c, v = elV p c) (hn : n < 1000) (hk : k ≤ n) :
    Calls Try.prog 32 #[.pointer (some ⟨b, 0, none⟩), .string key, .agg #[.int .i64 0, .int .i64 x, .float .f64 y, .string z, .pointer none]] w (PutAt b mb (n + 1) f key (x, y, z) w) := by
  have hb1 : Below w.heap.size w (w.alloc (.cells #[.int .i64 0, .int .i64 x, .float .f64 y, .string z, .pointer none] 89)) := (Below.refl _ w).alloc (Nat.le_refl _) _
  have hm1 := hm.same (hb1.block _ hm.lt)
  have c0 : w.cell? ⟨b, 0, none⟩ = some (.map (some mb)) := cell_of_row w b 0 _ _ _ hh
  have c0' := (hb1.cell (p := ⟨b, 0, none⟩) (lt_of_cell c0)).trans c0
  have hne : b ≠ w.heap.size := Nat.ne_of_lt (lt_of_cell c0)
  have hcap : n < maxLen := by unfold maxLen; omega
  have c0g : ∀ o o', ((w.alloc o).alloc o').cell? ⟨b, 0, none⟩ = some (.map (some mb)) := fun o o' => ((((Below.refl w.heap.size w).alloc (Nat.le_refl _) o).alloc (by simp) o').cell (p := ⟨b, 0, none⟩) (lt_of_cell c0)).trans c0
  cases hf : f key with
  | some v =>
    obtain ⟨p, ⟨x0, y0, z0⟩, rfl⟩ := hv v hf
    have HF := Lib.hid hf
    clear hf hv
    go_enter Try.func32, Try.ntmps32
    go_wp2_with (at_lookup; refine wpList_lookF_ok _ rfl _ _ 99 rfl 9 89 Try.underlying9 Try.underlying99 (zero_el _) mb n f rfl hm1 key rfl hs ?_; rw [HF.out]; simp only [Option.getD_some, Option.isSome_some, elV])
    have hF : ((w.alloc (.cells #[.int .i64 p, .int .i64 x, .float .f64 y, .string z, .pointer none] 89)).alloc (.cells #[.int .i64 p, .int .i64 x0, .float .f64 y0, .string z0, .pointer none] 89)).heap[b]? = some (.cells #[.map (some mb), .int .i64 (k : Int)] 101 (0, 0)) ∧ ((w.alloc (.cells #[.int .i64 p, .int .i64 x, .float .f64 y, .string z, .pointer none] 89)).alloc (.cells #[.int .i64 p, .int .i64 x0, .float .f64 y0, .string z0, .pointer none] 89)).heap[w.heap.size]? = some (.cells #[.int .i64 p, .int .i64 x, .float .f64 y, .string z, .pointer none] 89 (0, 0)) ∧ MapF Try.prog 9 ((w.alloc (.cells #[.int .i64 p, .int .i64 x, .float .f64 y, .string z, .pointer none] 89)).alloc (.cells #[.int .i64 p, .int .i64 x0, .float .f64 y0, .string z0, .pointer none] 89)) mb n f ∧ Turn w ((w.alloc (.cells #[.int .i64 p, .int .i64 x, .float .f64 y, .string z, .pointer none] 89)).alloc (.cells #[.int .i64 p, .int .i64 x0, .float .f64 y0, .string z0, .pointer none] 89)) (fun j => j = b ∨ j = mb) := by
      have hb2 : Below w.heap.size w ((w.alloc (.cells #[.int .i64 p, .int .i64 x, .float .f64 y, .string z, .pointer none] 89)).alloc (.cells #[.int .i64 p, .int .i64 x0, .float .f64 y0, .string z0, .pointer none] 89)) := ((Below.refl _ w).alloc (Nat.le_refl _) _).alloc (by simp) _
      exact ⟨(hb2.block _ (lt_of_cell c0)).trans hh, heap_alloc2_old _ _ _, hm.same (hb2.block _ hm.lt), Turn.of_below hb2 _⟩
    obtain ⟨w0, w1, w2, w3⟩ := hF
    generalize ((w.alloc (.cells #[.int .i64 p, .int .i64 x, .float .f64 y, .string z, .pointer none] 89)).alloc (.cells #[.int .i64 p, .int .i64 x0, .float .f64 y0, .string z0, .pointer none] 89)) = W at *
    have e0 : W.cell? ⟨w.heap.size, 0, none⟩ = some (.int .i64 p) := cell_of_row W _ 0 _ _ _ w1
    have e1 : W.cell? ⟨w.heap.size, 1, none⟩ = some (.int .i64 x) := cell_of_row W _ 1 _ _ _ w1
    have e2 : W.cell? ⟨w.heap.size, 2, none⟩ = some (.float .f64 y) := cell_of_row W _ 2 _ _ _ w1
    have e3 : W.cell? ⟨w.heap.size, 3, none⟩ = some (.string z) := cell_of_row W _ 3 _ _ _ w1
    have e4 : W.cell? ⟨w.heap.size, 4, none⟩ = some (.pointer none) := cell_of_row W _ 4 _ _ _ w1
    have b0 : W.cell? ⟨b, 0, none⟩ = some (.map (some mb)) := cell_of_row W _ 0 _ _ _ w0
    have HE := Lib.hid (And.intro w0 (And.intro w3 hh))
    have hmW : MapF Try.prog 9 W.drew mb n f := w2.same rfl
    clear w0 w1 w2 w3 c0g hm1 hb1 c0' c0 hh hm
    go_still_tail 6, (by kernel_rfl)
    change wpList _ _ _ _ _ W.drew
    go_wp2_with (refine wpList_storeF _ rfl _ _ _ 99 rfl 9 89 Try.underlying9 Try.underlying99 mb n f rfl hmW hcap key rfl hs (elV p (x, y, z)) rfl ?_; intro w9 hm9 hg9)
    go_end0
    obtain ⟨w0, w3, hh⟩ := HE.out
    have hgb : w9.heap[b]? = W.heap[b]? := hg9.block b (Array.getElem?_eq_some_iff.1 w0).1 (fun e => by
      cases e
      obtain ⟨es, ec, ho⟩ := hmW.obj
      have : W.heap[b]? = some (.map es ec) := ho
      rw [w0] at this
      cases this)
    exact ⟨rfl, k, p, hgb.trans w0, by omega, hm9, put_turn w3 hg9⟩
  | none =>
    have HF := Lib.hid hf
    have f1 := frozen_of_row w b 1 _ _ hh
    have c1 : w.cell? ⟨b, 1, none⟩ = some (.int .i64 (k : Int)) := cell_of_row w b 1 _ _ _ hh
    have c1g : ∀ o o', ((w.alloc o).alloc o').cell? ⟨b, 1, none⟩ = some (.int .i64 (k : Int)) := fun o o' => ((((Below.refl w.heap.size w).alloc (Nat.le_refl _) o).alloc (by simp) o').cell (p := ⟨b, 1, none⟩) (lt_of_cell c1)).trans c1
    have f1g : ∀ o o', ((w.alloc o).alloc o').frozen? ⟨b, 1, none⟩ = false := fun o o' => ((((Below.refl w.heap.size w).alloc (Nat.le_refl _) o).alloc (by simp) o').frozen (p := ⟨b, 1, none⟩) (lt_of_cell c1)).trans f1
    have k0 : (0 : Int) ≤ (k : Int) := by omega
    have k1 : (k : Int) ≤ 1000 := by omega
    clear hf hv
    go_enter Try.func32, Try.ntmps32
    go_wp2_with (at_lookup; refine wpList_lookF_ok _ rfl _ _ 99 rfl 9 89 Try.underlying9 Try.underlying99 (zero_el _) mb n f rfl hm1 key rfl hs ?_; rw [HF.out]; simp only [Option.getD_none, Option.isSome_none, elV])
    have hF : ((((w.alloc (.cells #[.int .i64 0, .int .i64 x, .float .f64 y, .string z, .pointer none] 89)).alloc (.cells #[.int .i64 0, .int .i64 noCell.1, .float .f64 noCell.2.1, .string noCell.2.2, .pointer none] 89)).setCell ⟨b, 1, none⟩ (.int .i64 ((k : Int) + 1))).setCell ⟨w.heap.size, 0, none⟩ (.int .i64 ((k : Int) + 1))).heap[b]? = some (.cells #[.map (some mb), .int .i64 ((k + 1 : Nat) : Int)] 101 (0, 0)) ∧ ((((w.alloc (.cells #[.int .i64 0, .int .i64 x, .float .f64 y, .string z, .pointer none] 89)).alloc (.cells #[.int .i64 0, .int .i64 noCell.1, .float .f64 noCell.2.1, .string noCell.2.2, .pointer none] 89)).setCell ⟨b, 1, none⟩ (.int .i64 ((k : Int) + 1))).setCell ⟨w.heap.size, 0, none⟩ (.int .i64 ((k : Int) + 1))).heap[w.heap.size]? = some (.cells #[.int .i64 ((k : Int) + 1), .int .i64 x, .float .f64 y, .string z, .pointer none] 89 (0, 0)) ∧ MapF Try.prog 9 ((((w.alloc (.cells #[.int .i64 0, .int .i64 x, .float .f64 y, .string z, .pointer none] 89)).alloc (.cells #[.int .i64 0, .int .i64 noCell.1, .float .f64 noCell.2.1, .string noCell.2.2, .pointer none] 89)).setCell ⟨b, 1, none⟩ (.int .i64 ((k : Int) + 1))).setCell ⟨w.heap.size, 0, none⟩ (.int .i64 ((k : Int) + 1))) mb n f ∧ Turn w ((((w.alloc (.cells #[.int .i64 0, .int .i64 x, .float .f64 y, .string z, .pointer none] 89)).alloc (.cells #[.int .i64 0, .int .i64 noCell.1, .float .f64 noCell.2.1, .string noCell.2.2, .pointer none] 89)).setCell ⟨b, 1, none⟩ (.int .i64 ((k : Int) + 1))).setCell ⟨w.heap.size, 0, none⟩ (.int .i64 ((k : Int) + 1))) (fun j => j = b ∨ j = mb) := by
      have hb2 : Below w.heap.size w ((w.alloc (.cells #[.int .i64 0, .int .i64 x, .float .f64 y, .string z, .pointer none] 89)).alloc (.cells #[.int .i64 0, .int .i64 noCell.1, .float .f64 noCell.2.1, .string noCell.2.2, .pointer none] 89)) := ((Below.refl _ w).alloc (Nat.le_refl _) _).alloc (by simp) _
      have hn2 : ((w.alloc (.cells #[.int .i64 0, .int .i64 x, .float .f64 y, .string z, .pointer none] 89)).alloc (.cells #[.int .i64 0, .int .i64 noCell.1, .float .f64 noCell.2.1, .string noCell.2.2, .pointer none] 89)).heap[w.heap.size]? = some (.cells #[.int .i64 0, .int .i64 x, .float .f64 y, .string z, .pointer none] 89 (0, 0)) := heap_alloc2_old _ _ _
      generalize ((w.alloc (.cells #[.int .i64 0, .int .i64 x, .float .f64 y, .string z, .pointer none] 89)).alloc (.cells #[.int .i64 0, .int .i64 noCell.1, .float .f64 noCell.2.1, .string noCell.2.2, .pointer none] 89)) = w2 at *
      have hbb := (hb2.block _ (lt_of_cell c0)).trans hh
      have hmb : mb ≠ b := fun e => by
        subst e
        obtain ⟨es, ec, ho⟩ := hm.obj
        rw [hh] at ho; cases ho
      have hmw : mb ≠ w.heap.size := Nat.ne_of_lt hm.lt
      refine ⟨?_, ?_, hm.same ?_, ?_⟩
      · rw [heap_setCell_other _ _ _ _ hne, heap_setCell_same _ _ _ _ _ _ hbb]; rfl
      · rw [heap_setCell_same _ _ _ _ _ _ ((heap_setCell_other _ _ _ _ hne.symm).trans hn2)]; rfl
      · rw [heap_setCell_other _ _ _ _ hmw, heap_setCell_other _ _ _ _ hmb]; exact hb2.block _ hm.lt
      · exact ((Turn.of_below hb2 (fun j => j = b ∨ j = mb)).setCell ⟨b, 1, none⟩ _ (fun _ => .inl rfl)).setCell ⟨w.heap.size, 0, none⟩ _ (fun hq => absurd hq (Nat.lt_irrefl _))
    obtain ⟨w0, w1, w2, w3⟩ := hF
    generalize ((((w.alloc (.cells #[.int .i64 0, .int .i64 x, .float .f64 y, .string z, .pointer none] 89)).alloc (.cells #[.int .i64 0, .int .i64 noCell.1, .float .f64 noCell.2.1, .string noCell.2.2, .pointer none] 89)).setCell ⟨b, 1, none⟩ (.int .i64 ((k : Int) + 1))).setCell ⟨w.heap.size, 0, none⟩ (.int .i64 ((k : Int) + 1))) = W at *
    have e0 : W.cell? ⟨w.heap.size, 0, none⟩ = some (.int .i64 ((k : Int) + 1)) := cell_of_row W _ 0 _ _ _ w1
    have e1 : W.cell? ⟨w.heap.size, 1, none⟩ = some (.int .i64 x) := cell_of_row W _ 1 _ _ _ w1
    have e2 : W.cell? ⟨w.heap.size, 2, none⟩ = some (.float .f64 y) := cell_of_row W _ 2 _ _ _ w1
    have e3 : W.cell? ⟨w.heap.size, 3, none⟩ = some (.string z) := cell_of_row W _ 3 _ _ _ w1
    have e4 : W.cell? ⟨w.heap.size, 4, none⟩ = some (.pointer none) := cell_of_row W _ 4 _ _ _ w1
    have b0 : W.cell? ⟨b, 0, none⟩ = some (.map (some mb)) := cell_of_row W _ 0 _ _ _ w0
    have HE := Lib.hid (And.intro w0 (And.intro w3 hh))
    have hmW : MapF Try.prog 9 W.drew mb n f := w2.same rfl
    clear w0 w1 w2 w3 c0g c1g f1g c1 f1 hm1 hb1 c0' c0 hh hm
    go_still_tail 6, (by kernel_rfl)
    change wpList _ _ _ _ _ W.drew
    go_wp2_with (refine wpList_storeF _ rfl _ _ _ 99 rfl 9 89 Try.underlying9 Try.underlying99 mb n f rfl hmW hcap key rfl hs (elV ((k : Int) + 1) (x, y, z)) rfl ?_; intro w9 hm9 hg9)
    go_end0
    obtain ⟨w0, w3, hh⟩ := HE.out
    have hgb : w9.heap[b]? = W.heap[b]? := hg9.block b (Array.getElem?_eq_some_iff.1 w0).1 (fun e => by
      cases e
      obtain ⟨es, ec, ho⟩ := hmW.obj
      have : W.heap[b]? = some (.map es ec) := ho
      rw [w0] at this
      cases this)
    exact ⟨rfl, k + 1, ((k : Int) + 1), hgb.trans w0, by omega, hm9, put_turn w3 hg9⟩

/-! ### the arrays of the variables -/
def putK (ks : ByteArray → Bool) (key s : ByteArray) : Bool := if s.data.toList = key.data.toList then true else ks s
theorem ArrIs.kind {w : World} {b mb q : Nat} {ks : ByteArray → Bool} (h : ArrIs w b mb q ks) (key : ByteArray) (hs : key.size ≤ maxLen) :
    Calls Try.prog 27 #[.pointer (some ⟨b, 0, none⟩), .string key] w fun e w' => e = .returned (.int .i64 (if ks key = true then 1 else 0)) ∧ Below w.heap.size w w' := by
  obtain ⟨n, k, f, h1, h2, h3, h4, h5, h6⟩ := h.ex
  rw [← h5 key]
  exact akind_any b mb n k f key w h1 h2 hs (h6 key)
def ASetAt (b mb q : Nat) (ks : ByteArray → Bool) (key : ByteArray) (w : World) (e : Ending) (w' : World) : Prop := e = .returned (.int .i64 0) ∧ ArrIs w' b mb (q + 1) (putK ks key) ∧ Turn w w' (fun j => j = b ∨ j = mb)
set_option maxRecDepth 20000 in
set_option maxHeartbeats 8000000 in
theorem ArrIs.set {w : World} {b mb q : Nat} {ks : ByteArray → Bool} (h : ArrIs w b mb q ks) (hq : q < 900) (key : ByteArray) (hs : key.size ≤ maxLen) (x : Int) (y : Nat) (z : ByteArray) :
    Calls Try.prog 16 #[.pointer (some ⟨b, 0, none⟩), .string key, .agg #[.int .i64 x, .float .f64 y, .string z]] w (ASetAt b mb q ks key w) := by
  have hb1 : Below w.heap.size w (w.alloc (.cells #[.int .i64 x, .float .f64 y, .string z] 32)) := (Below.refl _ w).alloc (Nat.le_refl _) _
  have hbx : (w.alloc (.cells #[.int .i64 x, .float .f64 y, .string z] 32)).heap[w.heap.size]? = some (.cells #[.int .i64 x, .float .f64 y, .string z] 32 (0, 0)) := heap_alloc_new _ _
  obtain ⟨n, k, f, h1, h2, h3, h4, h5, h6⟩ := h.ex
  have h1' := (hb1.block _ (Array.getElem?_eq_some_iff.1 h1).1).trans h1
  have h2' := h2.same (hb1.block _ h2.lt)
  have HK := Lib.hid (akind_any b mb n k f key _ h1' h2' hs (h6 key))
  have hlt : w.heap.size < (w.alloc (.cells #[.int .i64 x, .float .f64 y, .string z] 32)).heap.size := by simp
  have hbl : b < (w.alloc (.cells #[.int .i64 x, .float .f64 y, .string z] 32)).heap.size := (Array.getElem?_eq_some_iff.1 h1').1
  have hml := h2'.lt
  have H := Lib.hid (And.intro h1' (And.intro h2' (And.intro h3 (And.intro h4 (And.intro h5 (And.intro h6 (And.intro hb1 (And.intro hbx (And.intro hlt (And.intro hbl hml))))))))))
  clear h h1 h2 h3 h4 h5 h6 h1' h2' hb1 hbx hlt hbl hml
  generalize hgi : (if (f key).isSome = true then (1 : Int) else 0) = g at *
  have hg2 : (g == 2) = false := by
    rw [← hgi]
    split <;> rfl
  clear hgi
  go_enter Try.func16, Try.ntmps16
  go_wp2_with fail
  refine HK.out.mono ?_
  rintro e w2 ⟨rfl, hb⟩
  obtain ⟨h1, h2, h3, h4, h5, h6, hb1, hbx, hlt, hbl, hml⟩ := H.out
  have hst := (hb.block _ hlt).trans hbx
  have d0 : w2.cell? ⟨w.heap.size, 0, none⟩ = some (.int .i64 x) := cell_of_row w2 _ 0 _ _ _ hst
  have d1 : w2.cell? ⟨w.heap.size, 1, none⟩ = some (.float .f64 y) := cell_of_row w2 _ 1 _ _ _ hst
  have d2 : w2.cell? ⟨w.heap.size, 2, none⟩ = some (.string z) := cell_of_row w2 _ 2 _ _ _ hst
  obtain ⟨n', hn1, hn2, hn3⟩ : ∃ n', n ≤ n' ∧ k ≤ n' ∧ n' ≤ q := ⟨max n k, by omega, by omega, by omega⟩
  have HP := Lib.hid (put_any b mb n' k f key x y z w2 ((hb.block _ hbl).trans h1) ((h2.same (hb.block _ hml)).mono hn1) hs (h6 key) (by omega) hn2)
  have HT := Lib.hid (And.intro (Turn.of_below (hb1.trans (hb.mono hb1.size)) (fun j => j = b ∨ j = mb)) (And.intro h5 (And.intro h6 hn3)))
  clear h1 h2 h3 h4 h5 h6 hb1 hbx hlt hbl hml hst hb hn1 hn2 hn3 HK H
  go_wp2_with fail
  refine HP.out.mono ?_
  rintro e w3 ⟨rfl, k', p, q1, q2, q3, q4⟩
  have HE := Lib.hid (And.intro q1 (And.intro q2 (And.intro q3 q4)))
  clear q1 q2 q3 q4 d0 d1 d2 HP
  go_wp2_with fail
  go_ret
  obtain ⟨q1, q2, q3, q4⟩ := HE.out
  obtain ⟨t1, h5, h6, hn3⟩ := HT.out
  refine ⟨rfl, ⟨n' + 1, k', _, q1, q3, by omega, by omega, fun s => ?_, fun s v hv => ?_⟩, t1.trans q4 (fun _ x => x) (fun _ _ x => x)⟩
  · unfold upd putK
    split
    · rfl
    · exact h5 s
  · unfold upd at hv
    split at hv
    · cases hv; exact ⟨p, (x, y, z), rfl⟩
    · exact h6 s v hv
end Go.Proofs.Ytbpaiocbgbpiaaa
