/- The document's powers of two, and what fits. -/
import Derived.Test.YtpklbdgajbfaiaaNtW5
namespace Go.Proofs.Ytpklbdgajbfaiaa
open Go.RowKit
set_option linter.unusedVariables false

theorem dg_one : dg 10000 1 = [1] := by rfl
theorem pow_len {x k : Nat} (h : x ≤ 2 ^ k) (hk : k ≤ 20000) : (dg 10000 x).length ≤ 1000000 := by
  refine Nat.le_trans ((dg_len (by omega) (k + 1) x).2 (Nat.lt_of_le_of_lt h ?_)) (by omega)
  refine Nat.lt_of_le_of_lt (Nat.pow_le_pow_left (show 2 ≤ 10000 by omega) k) ?_
  exact Nat.pow_lt_pow_right (by omega) (by omega)

set_option maxHeartbeats 4000000 in
theorem pow_any (k : Nat) (w : World) (hk : k ≤ 20000) :
    Calls Try.prog 29 #[.int .i64 2, .int .i64 (k : Int)] w (NumIs (2 ^ k) w) := by
  go_enter Try.func29, Try.ntmps29
  go_wp2_with fail
  have hR0 : Rw .i64 (w.alloc (.cells #[.int .i64 1] 3)) (w.alloc (.cells #[.int .i64 1] 3)).heap.size (some ⟨w.heap.size, 0, none⟩) (dg 10000 1) := by
    rw [dg_one]
    intro _
    refine ⟨w.heap.size, 0, rfl, by simp, fun j hj => ?_⟩
    have : j = 0 := by simpa using hj
    subst this
    exact cell_one_new w _ _ 0 _ rfl
  have hB0 : Below w.heap.size w (w.alloc (.cells #[.int .i64 1] 3)) := (Below.refl _ w).alloc (Nat.le_refl _) _
  go_loopw [1, 5] (fun v1 v5 wr => ∃ (j x : Nat) (A : Option Addr) (c : Nat), v1 = .int .i64 (j : Int) ∧ v5 = .slice A (dg 10000 x).length c ∧ x * 2 ^ j = 2 ^ k ∧ j ≤ k ∧ (dg 10000 x).length ≤ c ∧ c ≤ maxLen ∧ Rw .i64 wr wr.heap.size A (dg 10000 x) ∧ Below w.heap.size w wr)
    (fun v1 _ _ => (intOf v1).toNat)
  case atStart => exact ⟨k, 1, some ⟨w.heap.size, 0, none⟩, 1, rfl, by rw [dg_one]; rfl, by simp, Nat.le_refl _, by rw [dg_one]; exact Nat.le_refl _, by unfold maxLen; omega, hR0, hB0⟩
  case round =>
    obtain ⟨j, x, A, c, rfl, rfl, hx, hj, hc, hm, hR, hB⟩ := hrel
    have hxl : x ≤ 2 ^ k := by rw [← hx]; exact Nat.le_mul_of_pos_right _ (Nat.two_pow_pos _)
    have hl := pow_len hxl hk
    by_cases h8 : 8 ≤ j
    · have j8 : (8 : Int) ≤ (j : Int) := by omega
      have HT := Lib.hid (show Calls Try.prog 38 #[.slice A (dg 10000 x).length c, .int .i64 256] wr (NumIs (x * 256) wr) from times_any A c wr.heap.size x 256 wr hR (Nat.le_refl _) hl (by omega) hc hm)
      generalize hy : x * 256 = y at HT
      have HX := Lib.hid (And.intro hx hy)
      clear hx hy hxl hl hR
      go_wp2_with fail
      refine HT.out.mono ?_
      rintro e w' ⟨A', c', rfl, hc', hm', hR', hB'⟩
      go_wp2_with fail
      go_roundw
      case rel =>
        refine ⟨j - 8, y, A', c', by go_num, rfl, ?_, by omega, hc', hm', hR', hB.trans (hB'.mono hB.size)⟩
        rw [← HX.out.1, ← HX.out.2, Nat.mul_assoc]
        congr 1
        rw [show (256 : Nat) = 2 ^ 8 from rfl, ← Nat.pow_add]
        congr 1; omega
      case measure => simp [intOf]; omega
    · have j8 : ¬ (8 : Int) ≤ (j : Int) := by omega
      have HX := Lib.hid hx
      have HR := Lib.hid hR
      have HC := Lib.hid (And.intro hc hm)
      clear hx hxl hl hR hc hm
      obtain ⟨wo, rfl⟩ : ∃ wo : World, wo = wr := ⟨_, rfl⟩
      go_wp2_with fail
      go_loopw [1, 5] (fun v1 v5 wr => ∃ (j x : Nat) (A : Option Addr) (c : Nat), v1 = .int .i64 (j : Int) ∧ v5 = .slice A (dg 10000 x).length c ∧ x * 2 ^ j = 2 ^ k ∧ j ≤ k ∧ (dg 10000 x).length ≤ c ∧ c ≤ maxLen ∧ Rw .i64 wr wr.heap.size A (dg 10000 x) ∧ Below w.heap.size w wr)
        (fun v1 _ _ => (intOf v1).toNat)
      case atStart => exact ⟨j, x, A, c, rfl, rfl, HX.out, hj, HC.out.1, HC.out.2, HR.out, hB⟩
      case round =>
        clear HX HR HC hj hB j8 h8
        obtain ⟨j, x, A, c, rfl, rfl, hx, hj, hc, hm, hR, hB⟩ := hrel
        have hxl : x ≤ 2 ^ k := by rw [← hx]; exact Nat.le_mul_of_pos_right _ (Nat.two_pow_pos _)
        have hl := pow_len hxl hk
        by_cases h0 : 0 < j
        · have j0 : (0 : Int) < (j : Int) := by omega
          have HT := Lib.hid (show Calls Try.prog 38 #[.slice A (dg 10000 x).length c, .int .i64 2] wr (NumIs (x * 2) wr) from times_any A c wr.heap.size x 2 wr hR (Nat.le_refl _) hl (by omega) hc hm)
          generalize hy : x * 2 = y at HT
          have HX := Lib.hid (And.intro hx hy)
          clear hx hy hxl hl hR
          go_wp2_with fail
          refine HT.out.mono ?_
          rintro e w' ⟨A', c', rfl, hc', hm', hR', hB'⟩
          go_wp2_with fail
          go_roundw
          case rel =>
            refine ⟨j - 1, y, A', c', by go_num, rfl, ?_, by omega, hc', hm', hR', hB.trans (hB'.mono hB.size)⟩
            rw [← HX.out.1, ← HX.out.2, Nat.mul_assoc]
            congr 1
            rw [← Nat.pow_succ']
            congr 1; omega
          case measure => simp [intOf]; omega
        · obtain rfl : j = 0 := by omega
          rw [Nat.pow_zero, Nat.mul_one] at hx
          have HX := Lib.hid hx
          have HR := Lib.hid hR
          have HC := Lib.hid (And.intro hc hm)
          clear hx hxl hl hR hc hm
          go_wp2_with fail
          go_ret
          have hx := HX.out
          subst hx
          exact ⟨_, _, rfl, HC.out.1, HC.out.2, HR.out, hB⟩

theorem fits_short {x : Nat} (h : (dg 10000 x).length < 616) : x < 2 ^ 8192 := by
  have h1 := (dg_len (b := 10000) (by omega) 615 x).1 (by omega)
  exact Nat.lt_of_lt_of_le h1 (by decide +kernel)

theorem fits_any (A : Option Addr) (c B x : Nat) (w : World) (hr : Rw .i64 w B A (dg 10000 x)) (hB0 : B ≤ w.heap.size) (hl : (dg 10000 x).length ≤ 1000000) :
    Calls Try.prog 42 #[.slice A (dg 10000 x).length c] w fun e w' => e = .returned (.bool (decide (x < 2 ^ 8192))) ∧ Below w.heap.size w w' := by
  by_cases h : (dg 10000 x).length < 616
  · rw [decide_eq_true (fits_short h)]
    have h' : ((dg 10000 x).length : Int) < 616 := by omega
    generalize (dg 10000 x).length = n at *
    clear hr
    go_enter Try.func42, Try.ntmps42
    go_wp2_with fail
    go_ret
    exact ⟨rfl, Below.refl _ _⟩
  · have h' : ¬ ((dg 10000 x).length : Int) < 616 := by omega
    have HP := Lib.hid (fun w => show Calls Try.prog 29 #[.int .i64 2, .int .i64 8192] w (NumIs (2 ^ 8192) w) from pow_any 8192 w (by omega))
    have hpl := pow_len (Nat.le_refl (2 ^ 8192)) (by omega)
    generalize 2 ^ 8192 = M at *
    have HC := Lib.hid (fun A2 c2 (W : World) (hB : B ≤ W.heap.size) (h1 : Rw .i64 W B A (dg 10000 x)) (h2 : Rw .i64 W W.heap.size A2 (dg 10000 M)) => rcmp_any A c W.heap.size x A2 c2 M W (h1.more hB) h2 (Nat.le_refl _) hl hpl)
    have HR := Lib.hid hr
    clear hr hl hpl h
    go_enter Try.func42, Try.ntmps42
    go_wp2_with fail
    refine (HP.out w).mono ?_
    rintro e w1 ⟨A2, c2, rfl, _, _, h2, hb⟩
    have hB1 := Nat.le_trans hB0 hb.size
    have h1 := HR.out.below (hb.mono hB0)
    go_wp2_with fail
    refine (HC.out A2 c2 w1 hB1 h1 h2).mono ?_
    rintro e w2 ⟨rfl, hb2⟩
    have hbb := hb.trans (hb2.mono hb.size)
    rcases Nat.lt_trichotomy x M with hc | hc | hc
    · rw [cmpI_lt hc]
      go_wp2_with fail
      go_ret
      exact ⟨by rw [decide_eq_true hc]; rfl, hbb⟩
    · rw [show cmpI x M = 0 by rw [hc, cmpI_eq]]
      go_wp2_with fail
      go_ret
      exact ⟨by rw [decide_eq_false (by omega)]; rfl, hbb⟩
    · rw [cmpI_gt hc]
      go_wp2_with fail
      go_ret
      exact ⟨by rw [decide_eq_false (by omega)]; rfl, hbb⟩

theorem is_yes (A : Option Addr) (c B : Nat) (l : List Nat) (A2 : Option Addr) (c2 : Nat) (w : World) (hr : Rw .u32 w B A l) (hB0 : B ≤ w.heap.size) (hlo : Lo 4294967296 l) (hk : okL l = true)
    (hr2 : Rw .i64 w B A2 (dg 10000 (vb 4294967296 l))) :
    Calls Try.prog 28 #[.slice A l.length c, .slice A2 (dg 10000 (vb 4294967296 l)).length c2] w fun e w' => e = .returned (.bool true) ∧ Below w.heap.size w w' := by
  have hl := (okL_top hk).1
  have hdl := dec_len hlo
  have HV := rvalid_any A c B l w hr (by unfold maxLen; omega)
  rw [hk] at HV
  have HO := of_any A c B l w hr hB0 hlo (by omega)
  generalize vb 4294967296 l = x at *
  have HC := Lib.hid (fun A3 c3 (W : World) (hb : Below w.heap.size w W) (h1 : Rw .i64 W W.heap.size A3 (dg 10000 x)) => rcmp_any A3 c3 W.heap.size x A2 c2 x W h1 ((hr2.below (hb.mono hB0)).more (Nat.le_trans hB0 hb.size)) (Nat.le_refl _) (by omega) (by omega))
  replace HV := Lib.hid HV
  replace HO := Lib.hid HO
  clear hr hr2 hdl hlo hk
  go_enter Try.func28, Try.ntmps28
  go_wp2_with fail
  refine HV.out.mono ?_
  rintro e w' ⟨he, hw⟩
  subst he
  subst hw
  dsimp only
  go_wp2_with fail
  refine HO.out.mono ?_
  rintro e w1 ⟨A3, c3, rfl, _, _, h3, hb⟩
  go_wp2_with fail
  refine (HC.out A3 c3 w1 hb h3).mono ?_
  rintro e w2 ⟨rfl, hb2⟩
  rw [cmpI_eq]
  go_wp2_with fail
  go_ret
  exact ⟨rfl, hb.trans (hb2.mono hb.size)⟩

end Go.Proofs.Ytpklbdgajbfaiaa
