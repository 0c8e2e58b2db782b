/- The document's powers of 2, 5 and 10, walked. -/
import Derived.Test.YtbpaiocbgbpiaaaBnM
namespace Go.Proofs.Ytbpaiocbgbpiaaa
open Go.RowKit
set_option linter.unusedVariables false

theorem dg_one : dg 10000 1 = [1] := by rfl
theorem pow_len {n x k : Nat} (hn : n ≤ 10) (h : x ≤ n ^ k) (hk : k ≤ 20000) : (dg 10000 x).length ≤ 1000000 := by
  refine Nat.le_trans ((dg_len (by omega) (k + 1) x).2 (Nat.lt_of_le_of_lt h ?_)) (by omega)
  refine Nat.lt_of_le_of_lt (Nat.pow_le_pow_left (show n ≤ 10000 by omega) k) ?_
  exact Nat.pow_lt_pow_right (by omega) (by omega)

set_option maxHeartbeats 4000000 in
theorem pow2_any (k : Nat) (w : World) (hk : k ≤ 20000) :
    Calls Try.prog 60 #[.int .i64 2, .int .i64 (k : Int)] w (NumIs (2 ^ k) w) := by
  go_enter Try.func60, Try.ntmps60
  go_wp2_with fail
  have hR0 : Rw .i64 (w.alloc (.cells #[.int .i64 1] 3)) (w.alloc (.cells #[.int .i64 1] 3)).heap.size (some ⟨w.heap.size, 0, none⟩) (dg 10000 1) := by
    rw [dg_one]
    intro _
    refine ⟨w.heap.size, 0, rfl, by simp, fun j hj => ?_⟩
    have : j = 0 := by simpa using hj
    subst this
    exact cell_one_new w _ _ 0 _ rfl
  have hB0 : Below w.heap.size w (w.alloc (.cells #[.int .i64 1] 3)) := (Below.refl _ w).alloc (Nat.le_refl _) _
  go_loopw [1, 5] (fun v1 v5 wr => ∃ (j x : Nat) (A : Option Addr) (c : Nat), v1 = .int .i64 (j : Int) ∧ v5 = .slice A (dg 10000 x).length c ∧ x * 2 ^ j = 2 ^ k ∧ j ≤ k ∧ (dg 10000 x).length ≤ c ∧ c ≤ maxLen ∧ Rw .i64 wr wr.heap.size A (dg 10000 x) ∧ Below w.heap.size w wr)
    (fun v1 _ _ => (intOf v1).toNat)
  case atStart => exact ⟨k, 1, some ⟨w.heap.size, 0, none⟩, 1, rfl, by rw [dg_one]; rfl, by simp, Nat.le_refl _, by rw [dg_one]; exact Nat.le_refl _, by unfold maxLen; omega, hR0, hB0⟩
  case round =>
    obtain ⟨j, x, A, c, rfl, rfl, hx, hj, hc, hm, hR, hB⟩ := hrel
    have hxl : x ≤ 2 ^ k := by rw [← hx]; exact Nat.le_mul_of_pos_right _ (Nat.pow_pos (by omega))
    have hl := pow_len (n := 2) (by omega) hxl hk
    by_cases h8 : 8 ≤ j
    · have j8 : (8 : Int) ≤ (j : Int) := by omega
      have HT := Lib.hid (show Calls Try.prog 62 #[.slice A (dg 10000 x).length c, .int .i64 256] wr (NumIs (x * 256) wr) from times_any A c wr.heap.size x 256 wr hR (Nat.le_refl _) hl (by omega) hc hm)
      generalize hy : x * 256 = y at HT
      have HX := Lib.hid (And.intro hx hy)
      clear hx hy hxl hl hR
      go_wp2_with fail
      refine HT.out.mono ?_
      rintro e w' ⟨A', c', rfl, hc', hm', hR', hB'⟩
      go_wp2_with fail
      go_roundw
      case rel =>
        refine ⟨j - 8, y, A', c', by go_num, rfl, ?_, by omega, hc', hm', hR', hB.trans (hB'.mono hB.size)⟩
        rw [← HX.out.1, ← HX.out.2, Nat.mul_assoc]
        congr 1
        rw [show (256 : Nat) = 2 ^ 8 from rfl, ← Nat.pow_add]
        congr 1; omega
      case measure => simp [intOf]; omega
    · have j8 : ¬ (8 : Int) ≤ (j : Int) := by omega
      have HX := Lib.hid hx
      have HR := Lib.hid hR
      have HC := Lib.hid (And.intro hc hm)
      clear hx hxl hl hR hc hm
      obtain ⟨wo, rfl⟩ : ∃ wo : World, wo = wr := ⟨_, rfl⟩
      go_wp2_with fail
      go_loopw [1, 5] (fun v1 v5 wr => ∃ (j x : Nat) (A : Option Addr) (c : Nat), v1 = .int .i64 (j : Int) ∧ v5 = .slice A (dg 10000 x).length c ∧ x * 2 ^ j = 2 ^ k ∧ j ≤ k ∧ (dg 10000 x).length ≤ c ∧ c ≤ maxLen ∧ Rw .i64 wr wr.heap.size A (dg 10000 x) ∧ Below w.heap.size w wr)
        (fun v1 _ _ => (intOf v1).toNat)
      case atStart => exact ⟨j, x, A, c, rfl, rfl, HX.out, hj, HC.out.1, HC.out.2, HR.out, hB⟩
      case round =>
        clear HX HR HC hj hB j8 h8
        obtain ⟨j, x, A, c, rfl, rfl, hx, hj, hc, hm, hR, hB⟩ := hrel
        have hxl : x ≤ 2 ^ k := by rw [← hx]; exact Nat.le_mul_of_pos_right _ (Nat.pow_pos (by omega))
        have hl := pow_len (n := 2) (by omega) hxl hk
        by_cases h0 : 0 < j
        · have j0 : (0 : Int) < (j : Int) := by omega
          have HT := Lib.hid (show Calls Try.prog 62 #[.slice A (dg 10000 x).length c, .int .i64 2] wr (NumIs (x * 2) wr) from times_any A c wr.heap.size x 2 wr hR (Nat.le_refl _) hl (by omega) hc hm)
          generalize hy : x * 2 = y at HT
          have HX := Lib.hid (And.intro hx hy)
          clear hx hy hxl hl hR
          go_wp2_with fail
          refine HT.out.mono ?_
          rintro e w' ⟨A', c', rfl, hc', hm', hR', hB'⟩
          go_wp2_with fail
          go_roundw
          case rel =>
            refine ⟨j - 1, y, A', c', by go_num, rfl, ?_, by omega, hc', hm', hR', hB.trans (hB'.mono hB.size)⟩
            rw [← HX.out.1, ← HX.out.2, Nat.mul_assoc]
            congr 1
            rw [← Nat.pow_succ']
            congr 1; omega
          case measure => simp [intOf]; omega
        · obtain rfl : j = 0 := by omega
          rw [Nat.pow_zero, Nat.mul_one] at hx
          have HX := Lib.hid hx
          have HR := Lib.hid hR
          have HC := Lib.hid (And.intro hc hm)
          clear hx hxl hl hR hc hm
          go_wp2_with fail
          go_ret
          have hx := HX.out
          subst hx
          exact ⟨_, _, rfl, HC.out.1, HC.out.2, HR.out, hB⟩


set_option maxHeartbeats 4000000 in
theorem pow5_any (k : Nat) (w : World) (hk : k ≤ 20000) :
    Calls Try.prog 60 #[.int .i64 5, .int .i64 (k : Int)] w (NumIs (5 ^ k) w) := by
  go_enter Try.func60, Try.ntmps60
  go_wp2_with fail
  have hR0 : Rw .i64 (w.alloc (.cells #[.int .i64 1] 3)) (w.alloc (.cells #[.int .i64 1] 3)).heap.size (some ⟨w.heap.size, 0, none⟩) (dg 10000 1) := by
    rw [dg_one]
    intro _
    refine ⟨w.heap.size, 0, rfl, by simp, fun j hj => ?_⟩
    have : j = 0 := by simpa using hj
    subst this
    exact cell_one_new w _ _ 0 _ rfl
  have hB0 : Below w.heap.size w (w.alloc (.cells #[.int .i64 1] 3)) := (Below.refl _ w).alloc (Nat.le_refl _) _
  go_loopw [1, 5] (fun v1 v5 wr => ∃ (j x : Nat) (A : Option Addr) (c : Nat), v1 = .int .i64 (j : Int) ∧ v5 = .slice A (dg 10000 x).length c ∧ x * 5 ^ j = 5 ^ k ∧ j ≤ k ∧ (dg 10000 x).length ≤ c ∧ c ≤ maxLen ∧ Rw .i64 wr wr.heap.size A (dg 10000 x) ∧ Below w.heap.size w wr)
    (fun v1 _ _ => (intOf v1).toNat)
  case atStart => exact ⟨k, 1, some ⟨w.heap.size, 0, none⟩, 1, rfl, by rw [dg_one]; rfl, by simp, Nat.le_refl _, by rw [dg_one]; exact Nat.le_refl _, by unfold maxLen; omega, hR0, hB0⟩
  case round =>
    obtain ⟨j, x, A, c, rfl, rfl, hx, hj, hc, hm, hR, hB⟩ := hrel
    have hxl : x ≤ 5 ^ k := by rw [← hx]; exact Nat.le_mul_of_pos_right _ (Nat.pow_pos (by omega))
    have hl := pow_len (n := 5) (by omega) hxl hk
    by_cases h8 : 8 ≤ j
    · have j8 : (8 : Int) ≤ (j : Int) := by omega
      have HT := Lib.hid (show Calls Try.prog 62 #[.slice A (dg 10000 x).length c, .int .i64 390625] wr (NumIs (x * 390625) wr) from times_any A c wr.heap.size x 390625 wr hR (Nat.le_refl _) hl (by omega) hc hm)
      generalize hy : x * 390625 = y at HT
      have HX := Lib.hid (And.intro hx hy)
      clear hx hy hxl hl hR
      go_wp2_with fail
      refine HT.out.mono ?_
      rintro e w' ⟨A', c', rfl, hc', hm', hR', hB'⟩
      go_wp2_with fail
      go_roundw
      case rel =>
        refine ⟨j - 8, y, A', c', by go_num, rfl, ?_, by omega, hc', hm', hR', hB.trans (hB'.mono hB.size)⟩
        rw [← HX.out.1, ← HX.out.2, Nat.mul_assoc]
        congr 1
        rw [show (390625 : Nat) = 5 ^ 8 from rfl, ← Nat.pow_add]
        congr 1; omega
      case measure => simp [intOf]; omega
    · have j8 : ¬ (8 : Int) ≤ (j : Int) := by omega
      have HX := Lib.hid hx
      have HR := Lib.hid hR
      have HC := Lib.hid (And.intro hc hm)
      clear hx hxl hl hR hc hm
      obtain ⟨wo, rfl⟩ : ∃ wo : World, wo = wr := ⟨_, rfl⟩
      go_wp2_with fail
      go_loopw [1, 5] (fun v1 v5 wr => ∃ (j x : Nat) (A : Option Addr) (c : Nat), v1 = .int .i64 (j : Int) ∧ v5 = .slice A (dg 10000 x).length c ∧ x * 5 ^ j = 5 ^ k ∧ j ≤ k ∧ (dg 10000 x).length ≤ c ∧ c ≤ maxLen ∧ Rw .i64 wr wr.heap.size A (dg 10000 x) ∧ Below w.heap.size w wr)
        (fun v1 _ _ => (intOf v1).toNat)
      case atStart => exact ⟨j, x, A, c, rfl, rfl, HX.out, hj, HC.out.1, HC.out.2, HR.out, hB⟩
      case round =>
        clear HX HR HC hj hB j8 h8
        obtain ⟨j, x, A, c, rfl, rfl, hx, hj, hc, hm, hR, hB⟩ := hrel
        have hxl : x ≤ 5 ^ k := by rw [← hx]; exact Nat.le_mul_of_pos_right _ (Nat.pow_pos (by omega))
        have hl := pow_len (n := 5) (by omega) hxl hk
        by_cases h0 : 0 < j
        · have j0 : (0 : Int) < (j : Int) := by omega
          have HT := Lib.hid (show Calls Try.prog 62 #[.slice A (dg 10000 x).length c, .int .i64 5] wr (NumIs (x * 5) wr) from times_any A c wr.heap.size x 5 wr hR (Nat.le_refl _) hl (by omega) hc hm)
          generalize hy : x * 5 = y at HT
          have HX := Lib.hid (And.intro hx hy)
          clear hx hy hxl hl hR
          go_wp2_with fail
          refine HT.out.mono ?_
          rintro e w' ⟨A', c', rfl, hc', hm', hR', hB'⟩
          go_wp2_with fail
          go_roundw
          case rel =>
            refine ⟨j - 1, y, A', c', by go_num, rfl, ?_, by omega, hc', hm', hR', hB.trans (hB'.mono hB.size)⟩
            rw [← HX.out.1, ← HX.out.2, Nat.mul_assoc]
            congr 1
            rw [← Nat.pow_succ']
            congr 1; omega
          case measure => simp [intOf]; omega
        · obtain rfl : j = 0 := by omega
          rw [Nat.pow_zero, Nat.mul_one] at hx
          have HX := Lib.hid hx
          have HR := Lib.hid hR
          have HC := Lib.hid (And.intro hc hm)
          clear hx hxl hl hR hc hm
          go_wp2_with fail
          go_ret
          have hx := HX.out
          subst hx
          exact ⟨_, _, rfl, HC.out.1, HC.out.2, HR.out, hB⟩


set_option maxHeartbeats 4000000 in
theorem pow10_any (k : Nat) (w : World) (hk : k ≤ 20000) :
    Calls Try.prog 60 #[.int .i64 10, .int .i64 (k : Int)] w (NumIs (10 ^ k) w) := by
  go_enter Try.func60, Try.ntmps60
  go_wp2_with fail
  have hR0 : Rw .i64 (w.alloc (.cells #[.int .i64 1] 3)) (w.alloc (.cells #[.int .i64 1] 3)).heap.size (some ⟨w.heap.size, 0, none⟩) (dg 10000 1) := by
    rw [dg_one]
    intro _
    refine ⟨w.heap.size, 0, rfl, by simp, fun j hj => ?_⟩
    have : j = 0 := by simpa using hj
    subst this
    exact cell_one_new w _ _ 0 _ rfl
  have hB0 : Below w.heap.size w (w.alloc (.cells #[.int .i64 1] 3)) := (Below.refl _ w).alloc (Nat.le_refl _) _
  go_loopw [1, 5] (fun v1 v5 wr => ∃ (j x : Nat) (A : Option Addr) (c : Nat), v1 = .int .i64 (j : Int) ∧ v5 = .slice A (dg 10000 x).length c ∧ x * 10 ^ j = 10 ^ k ∧ j ≤ k ∧ (dg 10000 x).length ≤ c ∧ c ≤ maxLen ∧ Rw .i64 wr wr.heap.size A (dg 10000 x) ∧ Below w.heap.size w wr)
    (fun v1 _ _ => (intOf v1).toNat)
  case atStart => exact ⟨k, 1, some ⟨w.heap.size, 0, none⟩, 1, rfl, by rw [dg_one]; rfl, by simp, Nat.le_refl _, by rw [dg_one]; exact Nat.le_refl _, by unfold maxLen; omega, hR0, hB0⟩
  case round =>
    obtain ⟨j, x, A, c, rfl, rfl, hx, hj, hc, hm, hR, hB⟩ := hrel
    have hxl : x ≤ 10 ^ k := by rw [← hx]; exact Nat.le_mul_of_pos_right _ (Nat.pow_pos (by omega))
    have hl := pow_len (n := 10) (by omega) hxl hk
    by_cases h8 : 8 ≤ j
    · have j8 : (8 : Int) ≤ (j : Int) := by omega
      have HT := Lib.hid (show Calls Try.prog 62 #[.slice A (dg 10000 x).length c, .int .i64 100000000] wr (NumIs (x * 100000000) wr) from times_any A c wr.heap.size x 100000000 wr hR (Nat.le_refl _) hl (by omega) hc hm)
      generalize hy : x * 100000000 = y at HT
      have HX := Lib.hid (And.intro hx hy)
      clear hx hy hxl hl hR
      go_wp2_with fail
      refine HT.out.mono ?_
      rintro e w' ⟨A', c', rfl, hc', hm', hR', hB'⟩
      go_wp2_with fail
      go_roundw
      case rel =>
        refine ⟨j - 8, y, A', c', by go_num, rfl, ?_, by omega, hc', hm', hR', hB.trans (hB'.mono hB.size)⟩
        rw [← HX.out.1, ← HX.out.2, Nat.mul_assoc]
        congr 1
        rw [show (100000000 : Nat) = 10 ^ 8 from rfl, ← Nat.pow_add]
        congr 1; omega
      case measure => simp [intOf]; omega
    · have j8 : ¬ (8 : Int) ≤ (j : Int) := by omega
      have HX := Lib.hid hx
      have HR := Lib.hid hR
      have HC := Lib.hid (And.intro hc hm)
      clear hx hxl hl hR hc hm
      obtain ⟨wo, rfl⟩ : ∃ wo : World, wo = wr := ⟨_, rfl⟩
      go_wp2_with fail
      go_loopw [1, 5] (fun v1 v5 wr => ∃ (j x : Nat) (A : Option Addr) (c : Nat), v1 = .int .i64 (j : Int) ∧ v5 = .slice A (dg 10000 x).length c ∧ x * 10 ^ j = 10 ^ k ∧ j ≤ k ∧ (dg 10000 x).length ≤ c ∧ c ≤ maxLen ∧ Rw .i64 wr wr.heap.size A (dg 10000 x) ∧ Below w.heap.size w wr)
        (fun v1 _ _ => (intOf v1).toNat)
      case atStart => exact ⟨j, x, A, c, rfl, rfl, HX.out, hj, HC.out.1, HC.out.2, HR.out, hB⟩
      case round =>
        clear HX HR HC hj hB j8 h8
        obtain ⟨j, x, A, c, rfl, rfl, hx, hj, hc, hm, hR, hB⟩ := hrel
        have hxl : x ≤ 10 ^ k := by rw [← hx]; exact Nat.le_mul_of_pos_right _ (Nat.pow_pos (by omega))
        have hl := pow_len (n := 10) (by omega) hxl hk
        by_cases h0 : 0 < j
        · have j0 : (0 : Int) < (j : Int) := by omega
          have HT := Lib.hid (show Calls Try.prog 62 #[.slice A (dg 10000 x).length c, .int .i64 10] wr (NumIs (x * 10) wr) from times_any A c wr.heap.size x 10 wr hR (Nat.le_refl _) hl (by omega) hc hm)
          generalize hy : x * 10 = y at HT
          have HX := Lib.hid (And.intro hx hy)
          clear hx hy hxl hl hR
          go_wp2_with fail
          refine HT.out.mono ?_
          rintro e w' ⟨A', c', rfl, hc', hm', hR', hB'⟩
          go_wp2_with fail
          go_roundw
          case rel =>
            refine ⟨j - 1, y, A', c', by go_num, rfl, ?_, by omega, hc', hm', hR', hB.trans (hB'.mono hB.size)⟩
            rw [← HX.out.1, ← HX.out.2, Nat.mul_assoc]
            congr 1
            rw [← Nat.pow_succ']
            congr 1; omega
          case measure => simp [intOf]; omega
        · obtain rfl : j = 0 := by omega
          rw [Nat.pow_zero, Nat.mul_one] at hx
          have HX := Lib.hid hx
          have HR := Lib.hid hR
          have HC := Lib.hid (And.intro hc hm)
          clear hx hxl hl hR hc hm
          go_wp2_with fail
          go_ret
          have hx := HX.out
          subst hx
          exact ⟨_, _, rfl, HC.out.1, HC.out.2, HR.out, hB⟩



end Go.Proofs.Ytbpaiocbgbpiaaa
