/- The words of any two numbers, the program's and the document's: walked. -/
import Derived.Test.YtbkfnmmfjpaifaaWrP
import Derived.Test.YtbkfnmmfjpaifaaTrT
namespace Go.Proofs.Ytbkfnmmfjpaifaa
open Go.RowKit Flt
set_option linter.unusedVariables false
set_option linter.unusedSimpArgs false

theorem ptrunc_small (b : Nat) (w : World) (h : b < 4845873199050653696) :
    Calls Try.prog 34 #[.float .f64 b] w fun e w' => e = .returned (.float .f64 (natW (tN b))) ∧ w = w' := by
  obtain ⟨hc, hw, _⟩ := canonB (b := b) (by omega)
  have he := pE_small h
  by_cases h0 : pE b = 0
  · have := trunc_whole (pM b) (pE b) w hc (by omega)
    rw [hw] at this
    have e : natW (tN b) = b := by
      have hv := vB_natW (tN_lt b)
      refine vB_inj hv.1 (by omega) ?_
      rw [hv.2]
      unfold tN vB uB
      rw [h0]
      simp
    rw [e]
    exact this
  · have := trunc_canon (pM b) (pE b) w hc (by omega)
    rw [hw] at this
    have e : pM b / 2 ^ (min (-(pE b)) 63).toNat = tN b := by
      unfold tN
      by_cases h63 : -(pE b) ≤ 63
      · rw [show (min (-(pE b)) 63).toNat = (-(pE b)).toNat by omega]
      · have hm := pM_lt b
        have h1 : 2 ^ 63 ≤ 2 ^ (-(pE b)).toNat := Nat.pow_le_pow_right (by omega) (by omega)
        rw [show (min (-(pE b)) 63).toNat = 63 by omega, Nat.div_eq_of_lt (by omega), Nat.div_eq_of_lt (by omega)]
    rw [e] at this
    exact this
set_option maxHeartbeats 1000000 in
theorem parts_negz (w : World) :
    Calls Try.prog 38 #[.float .f64 9223372036854775808] w fun e w' => e = .returned (.tuple #[.int .u64 0, .int .i64 (-1074), .bool true]) ∧ w = w' := by
  have hbits := rf_bits 9223372036854775808
  have h1 : bits .andNot .u64 9223372036854775808 9223372036854775808 = 0 := by decide +kernel
  have h2 : bits .and .u64 0 4503599627370495 = 0 := by decide +kernel
  go_enter Try.func38, Try.ntmps38
  go_wp2_with fail
  go_ret3
  exact ⟨rfl, rfl⟩
set_option maxHeartbeats 1000000 in
theorem signed_negz (w : World) :
    Calls Try.prog 39 #[.float .f64 0, .float .f64 9223372036854775808] w fun e w' => e = .returned (.float .f64 9223372036854775808) ∧ w = w' := by
  have hbits := rf_bits 9223372036854775808
  have hbits0 := rf_bits 0
  have h4 : bits .and .u64 9223372036854775808 9223372036854775808 = 9223372036854775808 := by decide +kernel
  have h5 : bits .or .u64 0 9223372036854775808 = 9223372036854775808 := by decide +kernel
  have hfr := rf_from 9223372036854775808
  go_enter Try.func39, Try.ntmps39
  go_wp2_with fail
  go_ret
  exact ⟨rfl, rfl⟩
set_option maxHeartbeats 1000000 in
theorem ptrunc_negz (w : World) :
    Calls Try.prog 34 #[.float .f64 9223372036854775808] w fun e w' => e = .returned (.float .f64 9223372036854775808) ∧ w = w' := by
  have h3 : floatOfInt .f64 0 = 0 := by decide +kernel
  go_enter Try.func34, Try.ntmps34
  go_wp2_with fail
  refine (parts_negz w).mono ?_
  rintro e w1 ⟨rfl, hw⟩
  subst hw
  go_wp2_with fail
  refine (signed_negz w).mono ?_
  rintro e w1 ⟨rfl, hw⟩
  subst hw
  go_wp2_with fail
  go_ret
  exact ⟨rfl, rfl⟩
theorem negz_tests : ge0 9223372036854775808 = true ∧ lt53 9223372036854775808 = true ∧ (FloatKind.f64.format.order 9223372036854775808 9223372036854775808 != some .eq) = false := by
  refine ⟨?_, ?_, ?_⟩ <;> decide +kernel
theorem negz_u64 (w : World) : (convert 26 28 (.float .f64 9223372036854775808)).run Try.prog w = .ok (.int .u64 0) w := by kernel_rfl
theorem negz_int (w : World) : (convert 26 3 (.float .f64 9223372036854775808)).run Try.prog w = .ok (.int .i64 0) w := by kernel_rfl
set_option maxHeartbeats 1000000 in
/-- The program's word of any number. -/
theorem pword_any (b : Nat) (w : World) (hb : b < 18446744073709551616) :
    Calls Try.prog 32 #[.float .f64 b] w fun e w' => e = .returned (.tuple #[.int .u64 (((wordB b).getD 0 : Nat) : Int), .bool (wordB b).isSome]) ∧ w = w' := by
  rcases word_ways hb with ⟨h, hn⟩ | rfl | h
  · rw [hn]
    rcases h with h | ⟨h, h2⟩
    · unfold ge0 at h
      go_enter Try.func32, Try.ntmps32
      go_wp2_with fail
      go_ret2
      exact ⟨rfl, rfl⟩
    · unfold ge0 at h
      unfold lt53 at h2
      go_enter Try.func32, Try.ntmps32
      go_wp2_with fail
      go_ret2
      exact ⟨rfl, rfl⟩
  · have hn : wordB 9223372036854775808 = some 0 := rfl
    rw [hn]
    obtain ⟨h, h2, h3⟩ := negz_tests
    unfold ge0 at h
    unfold lt53 at h2
    have h4 := negz_u64
    go_enter Try.func32, Try.ntmps32
    go_wp2_with fail
    refine (ptrunc_negz w).mono ?_
    rintro e w1 ⟨rfl, hw⟩
    subst hw
    go_wp2_with fail
    go_ret2
    exact ⟨rfl, rfl⟩
  · obtain ⟨t1, t2⟩ := small_tests h
    have HT := Lib.hid (ptrunc_small b w h)
    have t3 := trunc_eq h
    have hlt := tN_lt b
    have hn : wordB b = if natW (tN b) = b then some (tN b) else none := by unfold wordB; rw [if_neg (by omega), if_pos h]
    have hc := run_f_u64 (tN b) hlt
    unfold ge0 at t1
    unfold lt53 at t2
    generalize tN b = n at *
    by_cases e : natW n = b
    · rw [e] at hc HT t3
      rw [decide_eq_true rfl] at t3
      rw [hn, if_pos e]
      clear hn e
      go_enter Try.func32, Try.ntmps32
      go_wp2_with fail
      refine HT.out.mono ?_
      rintro e w1 ⟨rfl, hw⟩
      subst hw
      go_wp2_with fail
      go_ret2
      exact ⟨rfl, rfl⟩
    · rw [decide_eq_false e] at t3
      rw [hn, if_neg e]
      clear hn e hc
      generalize natW n = x at *
      go_enter Try.func32, Try.ntmps32
      go_wp2_with fail
      refine HT.out.mono ?_
      rintro e w1 ⟨rfl, hw⟩
      subst hw
      go_wp2_with fail
      go_ret2
      exact ⟨rfl, rfl⟩
set_option maxHeartbeats 1000000 in
/-- The document's. -/
theorem rword_any (b : Nat) (w : World) (hb : b < 18446744073709551616) :
    Calls Try.prog 31 #[.float .f64 b] w fun e w' => e = .returned (.tuple #[.int .i64 (((wordB b).getD 0 : Nat) : Int), .bool (wordB b).isSome]) ∧ Below w.heap.size w w' := by
  rcases word_ways hb with ⟨h, hn⟩ | rfl | h
  · rw [hn]
    rcases h with h | ⟨h, h2⟩
    · unfold ge0 at h
      go_enter Try.func31, Try.ntmps31
      go_wp2_with fail
      go_ret2
      exact ⟨rfl, Below.refl _ _⟩
    · unfold ge0 at h
      unfold lt53 at h2
      go_enter Try.func31, Try.ntmps31
      go_wp2_with fail
      go_ret2
      exact ⟨rfl, Below.refl _ _⟩
  · have hn : wordB 9223372036854775808 = some 0 := rfl
    rw [hn]
    obtain ⟨h, h2, h3⟩ := negz_tests
    unfold ge0 at h
    unfold lt53 at h2
    have h4 := negz_int
    have hT := rtrunc_any 9223372036854775808 w (by decide) (by decide) (by decide)
    have e0 : natW (pM 9223372036854775808 / 2 ^ (-(pE 9223372036854775808)).toNat) + 9223372036854775808 / 9223372036854775808 * 9223372036854775808 = 9223372036854775808 := by
      rw [show pM 9223372036854775808 = 0 from rfl, Nat.zero_div]; rfl
    rw [e0] at hT
    have HT := Lib.hid hT
    clear hT e0
    go_enter Try.func31, Try.ntmps31
    go_wp2_with fail
    refine HT.out.mono ?_
    rintro e w1 ⟨rfl, hb1⟩
    go_wp2_with fail
    go_ret2
    exact ⟨rfl, hb1⟩
  · obtain ⟨t1, t2⟩ := small_tests h
    have hT := rtrunc_any b w (by omega) (by omega) (pE_small h)
    rw [show pM b / 2 ^ (-(pE b)).toNat = tN b from rfl, Nat.div_eq_of_lt (show b < 9223372036854775808 by omega), Nat.zero_mul, Nat.add_zero] at hT
    have HT := Lib.hid hT
    have t3 := trunc_eq h
    have hlt := tN_lt b
    have hn : wordB b = if natW (tN b) = b then some (tN b) else none := by unfold wordB; rw [if_neg (by omega), if_pos h]
    have hc := run_f_int (tN b) hlt
    unfold ge0 at t1
    unfold lt53 at t2
    clear hT
    generalize tN b = n at *
    by_cases e : natW n = b
    · rw [e] at hc HT t3
      rw [decide_eq_true rfl] at t3
      rw [hn, if_pos e]
      clear hn e
      go_enter Try.func31, Try.ntmps31
      go_wp2_with fail
      refine HT.out.mono ?_
      rintro e w1 ⟨rfl, hb1⟩
      go_wp2_with fail
      go_ret2
      exact ⟨rfl, hb1⟩
    · rw [decide_eq_false e] at t3
      rw [hn, if_neg e]
      clear hn e hc
      generalize natW n = x at *
      go_enter Try.func31, Try.ntmps31
      go_wp2_with fail
      refine HT.out.mono ?_
      rintro e w1 ⟨rfl, hb1⟩
      go_wp2_with fail
      go_ret2
      exact ⟨rfl, hb1⟩
end Go.Proofs.Ytbkfnmmfjpaifaa
