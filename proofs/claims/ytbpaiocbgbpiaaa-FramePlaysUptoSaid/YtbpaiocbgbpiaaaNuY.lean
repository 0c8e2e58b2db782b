/- Looks, Input and the law's value, walked: each a function of the text. -/
import Derived.Test.YtbpaiocbgbpiaaaFrWF
import Derived.Lib.MinMax
import Derived.WalkSmall
import Derived.LaidEqlPtr
import Derived.Test.YtbpaiocbgbpiaaaNuX
namespace Go.Proofs.Ytbpaiocbgbpiaaa
open Go.RowKit
set_option linter.unusedVariables false
set_option linter.unusedSimpArgs false

theorem arr_info : (Try.prog.info? 101).isSome = true := by kernel_rfl
theorem ptr_same (b : Nat) (w : World) : (binOp .eql 28 (.pointer (some ⟨b, 0, none⟩)) (.pointer (some ⟨b, 0, none⟩))).run Try.prog w = .ok (.bool true) w := by
  obtain ⟨j, hj⟩ := Option.isSome_iff_exists.1 arr_info
  exact run_eql_ptr_same w _ Try.underlying28 hj
theorem ptr_not (b : Nat) (w : World) : (binOp .neq 28 (.pointer (some ⟨b, 0, none⟩)) (.pointer (some ⟨b, 0, none⟩))).run Try.prog w = .ok (.bool false) w := by
  obtain ⟨j, hj⟩ := Option.isSome_iff_exists.1 arr_info
  have h : ∀ d : Nat, (Op.equalIn (d + 1) 28 (.pointer (some ⟨b, 0, none⟩)) (.pointer (some ⟨b, 0, none⟩))).run Try.prog w = .ok true w := fun d => by
    simp [Op.equalIn, run_underlying Try.underlying28, sizeOf, typeInfo, hj, run_sameAddr_same]
  simp only [binOp]
  simp [Op.equal, Op.maxDepth, h 9999]
end Go.Proofs.Ytbpaiocbgbpiaaa

namespace Go.Proofs.Ytbpaiocbgbpiaaa
open Go.RowKit
set_option linter.unusedVariables false
set_option linter.unusedSimpArgs false

def looksB (s : ByteArray) : Bool := if (prefR s).2 = 0 then false else decide (blE s (prefR s).2 = s.size)
set_option maxRecDepth 20000 in
set_option maxHeartbeats 8000000 in
theorem looks_any (s : ByteArray) (w : World) (hs : s.size ≤ 1048576) :
    Calls Try.prog 45 #[.string s] w fun e w' => e = .returned (.bool (looksB s)) ∧ Below w.heap.size w w' := by
  have s1 : (s.size : Int) ≤ 1048576 := by omega
  have HP := Lib.hid (prefix_any s w hs)
  have hle := prefR_le s
  have l1 : ((prefR s).2 : Int) ≤ 1048576 := by omega
  have HL : looksB s = if (prefR s).2 = 0 then false else decide (blE s (prefR s).2 = s.size) := rfl
  have HLH := Lib.hid HL
  clear HL
  generalize prefR s = pr at *
  by_cases h0 : pr.2 = 0
  · have z : ((pr.2 : Int) == 0) = true := by rw [beq_iff_eq]; omega
    have HZ := Lib.hid h0
    clear h0 hle
    go_enter Try.func45, Try.ntmps45
    go_wp2_with fail
    refine HP.out.mono ?_
    rintro e wp ⟨rfl, hbp⟩
    go_wp2_with fail
    go_ret
    rw [HLH.out, if_pos HZ.out]
    exact ⟨rfl, hbp⟩
  · have z : ((pr.2 : Int) == 0) = false := by rw [beq_eq_false_iff_ne]; omega
    rw [if_neg h0] at HLH
    have HLE := Lib.hid hle
    clear h0 hle
    go_enter Try.func45, Try.ntmps45
    go_wp2_with fail
    refine HP.out.mono ?_
    rintro e wp ⟨rfl, hbp⟩
    have HB := Lib.hid hbp
    clear hbp
    go_wp2_with fail
    go_loopw [5] (fun v5 wr => ∃ k : Nat, v5 = .int .i64 (k : Int) ∧ pr.2 ≤ k ∧ k ≤ blE s pr.2 ∧ wp = wr) (fun v5 _ => s.size - (intOf v5).toNat)
    case atStart => exact ⟨pr.2, rfl, Nat.le_refl _, Nat.le_add_right _ _, rfl⟩
    case round =>
      obtain ⟨k, rfl, hk1, hk2, rfl⟩ := hrel
      have hbl := blE_le HLE.out
      have k0 : (0 : Int) ≤ (k : Int) := by omega
      have k1 : (k : Int) ≤ 1048576 := by omega
      by_cases hlt : k < s.size
      · have ks : (k : Int) < (s.size : Int) := by omega
        have hg := bD_get s k hlt
        have hst := blE_step hk1 hk2 hlt
        have HBl := Lib.hid (blank_any (bD s k) wp)
        cases hb : blB (bD s k) with
        | true =>
          have HK := Lib.hid (And.intro (hst.1 hb) (And.intro hlt hk1))
          rw [hb] at HBl
          clear hst hk1 hk2 hbl hb
          generalize bD s k = x at *
          go_wp2_with fail
          refine HBl.out.mono ?_
          rintro e wi ⟨rfl, hw⟩
          subst hw
          go_wp2_with fail
          go_roundw
          case rel => exact ⟨k + 1, by go_num, by have := HK.out.2.2; omega, HK.out.1, trivial⟩
          case measure => have := HK.out.2.1; simp [intOf]; omega
        | false =>
          have hke := hst.2 hb
          rw [hb] at HBl
          have HF := Lib.hid (show looksB s = false by rw [HLH.out]; exact decide_eq_false (by omega))
          clear hst hk1 hk2 hbl hb hke
          generalize bD s k = x at *
          go_wp2_with fail
          refine HBl.out.mono ?_
          rintro e wi ⟨rfl, hw⟩
          subst hw
          go_wp2_with fail
          go_ret
          rw [HF.out]
          exact ⟨rfl, HB.out⟩
      · have ks : ¬ (k : Int) < (s.size : Int) := by omega
        have HF := Lib.hid (show looksB s = true by rw [HLH.out]; exact decide_eq_true (by omega))
        clear hk1 hk2 hbl hlt
        go_wp2_with fail
        go_ret
        rw [HF.out]
        exact ⟨rfl, HB.out⟩
/-- A text's value. -/
def inR (s : ByteArray) : CellT := if looksB s = true then (3, (prefR s).1, s) else (2, 0, s)
def valR (s : ByteArray) : CellT := if s.size = 0 then noCell else inR s
theorem box3_cells {w : World} {T : TypeId} : (w.alloc (.cells #[.int .i64 0, .float .f64 0, .string ⟨#[]⟩] T)).cell? ⟨w.heap.size, 0, none⟩ = some (.int .i64 0) ∧ (w.alloc (.cells #[.int .i64 0, .float .f64 0, .string ⟨#[]⟩] T)).cell? ⟨w.heap.size, 1, none⟩ = some (.float .f64 0) ∧ (w.alloc (.cells #[.int .i64 0, .float .f64 0, .string ⟨#[]⟩] T)).cell? ⟨w.heap.size, 2, none⟩ = some (.string ⟨#[]⟩) :=
  ⟨by rw [World.cell?_alloc_new]; rfl, by rw [World.cell?_alloc_new]; rfl, by rw [World.cell?_alloc_new]; rfl⟩
/-- What is known of the block that is made first, later on. -/
theorem box_later {w wa w2 : World} {T : TypeId} {x0 x1 x2 : Value} (ha : wa = w.alloc (.cells #[x0, x1, x2] T)) (hb : Below wa.heap.size wa w2) :
    w2.heap[w.heap.size]? = some (.cells #[x0, x1, x2] T (0, 0)) ∧ w2.cell? ⟨w.heap.size, 0, none⟩ = some x0 ∧ w2.cell? ⟨w.heap.size, 1, none⟩ = some x1 ∧ w2.cell? ⟨w.heap.size, 2, none⟩ = some x2 ∧ (∀ j, w2.frozen? ⟨w.heap.size, j, none⟩ = false) ∧ Below w.heap.size w w2 := by
  subst ha
  have h0 : w2.heap[w.heap.size]? = some (.cells #[x0, x1, x2] T (0, 0)) := (hb.block _ (by simp)).trans (heap_alloc_new _ _)
  refine ⟨h0, ?_, ?_, ?_, fun j => frozen_of_row w2 _ j _ _ h0, ?_⟩
  · simp [World.cell?, h0]
  · simp [World.cell?, h0]
  · simp [World.cell?, h0]
  · have h1 : Below w.heap.size w (w.alloc (.cells #[x0, x1, x2] T)) := (Below.refl _ w).alloc (Nat.le_refl _) _
    exact h1.trans (hb.mono h1.size)
theorem below_set3 {B : Nat} {w w2 : World} (h : Below B w w2) {b : Nat} (hb : B ≤ b) (y0 y1 y2 : Value) : Below B w (((w2.setCell ⟨b, 0, none⟩ y0).setCell ⟨b, 1, none⟩ y1).setCell ⟨b, 2, none⟩ y2) :=
  ((h.setCell (p := ⟨b, 0, none⟩) hb _).setCell (p := ⟨b, 1, none⟩) hb _).setCell (p := ⟨b, 2, none⟩) hb _
set_option maxRecDepth 20000 in
set_option maxHeartbeats 8000000 in
theorem input_any (s : ByteArray) (w : World) (hs : s.size ≤ 1048576) :
    Calls Try.prog 36 #[.string s] w fun e w' => e = .returned (cellV (inR s)) ∧ Below w.heap.size w w' := by
  have HL := Lib.hid (fun w => looks_any s w hs)
  have HP := Lib.hid (fun w => prefix_any s w hs)
  cases hl : looksB s with
  | true =>
    have HI := Lib.hid (show inR s = (3, (prefR s).1, s) by unfold inR; rw [if_pos hl])
    rw [hl] at HL
    clear hl
    generalize prefR s = pr at *
    go_enter Try.func36, Try.ntmps36
    go_wp2_with fail
    generalize hwa : w.alloc (.cells #[.int .i64 0, .float .f64 0, .string ⟨#[]⟩] 32) = wa
    have HWA := Lib.hid hwa.symm
    clear hwa
    refine (HL.out wa).mono ?_
    rintro e w2 ⟨rfl, hb2⟩
    have HB2 := Lib.hid hb2
    clear hb2
    go_wp2_with fail
    refine (HP.out w2).mono ?_
    rintro e w3 ⟨rfl, hb3⟩
    obtain ⟨h0, c0, c1, c2, fz, hbb⟩ := box_later HWA.out (HB2.out.trans (hb3.mono HB2.out.size))
    have HH := Lib.hid (And.intro h0 hbb)
    have f0 := fz 0
    have f1 := fz 1
    have f2 := fz 2
    clear h0 hbb hb3 fz
    generalize hB : w.heap.size = B at *
    have HBB := Lib.hid hB
    clear hB
    go_wp2_with fail
    refine bodyPost_ret (results_cell_row rfl _ _ B 32 #[.int .i64 3, .float .f64 pr.1, .string s] (0, 0) _ rfl (cells3 HH.out.1) Try.underlying32 rfl (by kernel_rfl)) rfl ?_
    rw [HI.out]
    refine ⟨rfl, ?_⟩
    have hbb := HH.out.2
    rw [HBB.out]
    exact below_set3 hbb (Nat.le_refl _) _ _ _
  | false =>
    have HI := Lib.hid (show inR s = (2, 0, s) by unfold inR; rw [if_neg (by rw [hl]; decide)])
    rw [hl] at HL
    clear hl HP
    go_enter Try.func36, Try.ntmps36
    go_wp2_with fail
    generalize hwa : w.alloc (.cells #[.int .i64 0, .float .f64 0, .string ⟨#[]⟩] 32) = wa
    have HWA := Lib.hid hwa.symm
    clear hwa
    refine (HL.out wa).mono ?_
    rintro e w2 ⟨rfl, hb2⟩
    have HB2 := Lib.hid hb2
    clear hb2
    go_wp2_with fail
    refine (text_any s w2).mono ?_
    rintro e w3 ⟨rfl, hb3⟩
    obtain ⟨h0, c0, c1, c2, fz, hbb⟩ := box_later HWA.out (HB2.out.trans (hb3.mono HB2.out.size))
    have HH := Lib.hid (And.intro h0 hbb)
    have f0 := fz 0
    have f1 := fz 1
    have f2 := fz 2
    clear h0 hbb hb3 fz
    generalize hB : w.heap.size = B at *
    have HBB := Lib.hid hB
    clear hB
    go_wp2_with fail
    refine bodyPost_ret (results_cell_row rfl _ _ B 32 #[.int .i64 2, .float .f64 0, .string s] (0, 0) _ rfl (cells3 HH.out.1) Try.underlying32 rfl (by kernel_rfl)) rfl ?_
    rw [HI.out]
    refine ⟨rfl, ?_⟩
    have hbb := HH.out.2
    rw [HBB.out]
    exact below_set3 hbb (Nat.le_refl _) _ _ _
theorem empty_of {s : ByteArray} (h : s.size = 0) : s = ⟨#[]⟩ := by
  cases s with
  | mk d =>
    have : d.size = 0 := h
    have : d = #[] := Array.eq_empty_of_size_eq_zero this
    rw [this]
set_option maxRecDepth 20000 in
set_option maxHeartbeats 8000000 in
/-- The law's value of a text. -/
theorem val_any (s : ByteArray) (w : World) (hs : s.size ≤ 1048576) :
    Calls Try.prog 21 #[.string s] w fun e w' => e = .returned (cellV (valR s)) ∧ Below w.heap.size w w' := by
  by_cases h0 : s.size = 0
  · obtain rfl := empty_of h0
    have HI := Lib.hid (show valR ⟨#[]⟩ = noCell by unfold valR; rw [if_pos h0])
    clear h0 hs
    go_enter Try.func21, Try.ntmps21
    go_wp2_with fail
    refine bodyPost_ret (results_cell_row rfl _ _ w.heap.size 32 #[.int .i64 0, .float .f64 0, .string ⟨#[]⟩] (0, 0) _ rfl (heap_alloc_new _ _) Try.underlying32 rfl (by kernel_rfl)) rfl ?_
    rw [HI.out]
    exact ⟨rfl, (Below.refl _ w).alloc (Nat.le_refl _) _⟩
  · have hlen : s.data.toList.length = s.size := by simp
    have hse : s.toList.isEmpty = false := by
      rw [Lib.toList_data]
      cases hx : s.data.toList with
      | nil => rw [hx] at hlen; simp at hlen; omega
      | cons => rfl
    have HI := Lib.hid (show valR s = inR s by unfold valR; rw [if_neg h0])
    have HIn := Lib.hid (fun w => input_any s w hs)
    generalize inR s = c at *
    obtain ⟨x, y, z⟩ := c
    clear h0 hlen hs
    go_enter Try.func21, Try.ntmps21
    go_wp2_with fail
    generalize hwa : w.alloc (.cells #[.int .i64 0, .float .f64 0, .string ⟨#[]⟩] 32) = wa
    have HWA := Lib.hid hwa.symm
    clear hwa
    refine (HIn.out wa).mono ?_
    rintro e w3 ⟨rfl, hb3⟩
    obtain ⟨h0, c0, c1, c2, fz, hbb⟩ := box_later HWA.out hb3
    have HH := Lib.hid (And.intro h0 hbb)
    have f0 := fz 0
    have f1 := fz 1
    have f2 := fz 2
    have hcv : cellV (x, y, z) = .agg #[.int .i64 x, .float .f64 y, .string z] := rfl
    rw [hcv]
    clear h0 hbb hb3 fz hcv
    generalize hB : w.heap.size = B at *
    have HBB := Lib.hid hB
    clear hB
    go_wp2_with fail
    refine bodyPost_ret (results_cell_row rfl _ _ B 32 #[.int .i64 x, .float .f64 y, .string z] (0, 0) _ rfl (cells3 HH.out.1) Try.underlying32 rfl (by kernel_rfl)) rfl ?_
    rw [HI.out]
    refine ⟨rfl, ?_⟩
    have hbb := HH.out.2
    rw [HBB.out]
    exact below_set3 hbb (Nat.le_refl _) _ _ _
end Go.Proofs.Ytbpaiocbgbpiaaa
