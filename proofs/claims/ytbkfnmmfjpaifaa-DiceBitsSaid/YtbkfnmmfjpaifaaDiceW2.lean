/- The walks of the dice's bits: Parts, Trunc, word, both, And .. Right, on whole numbers below 2^53. -/
import Derived.Test.YtbkfnmmfjpaifaaDiceW1
namespace Go.Proofs.Ytbkfnmmfjpaifaa
open Go.RowKit Flt
set_option linter.unusedVariables false

theorem andNot_sign (b : Nat) (hb : b < 9223372036854775808) : bits .andNot .u64 (b : Int) 9223372036854775808 = (b : Int) := by
  refine (u64_andNot_nat b 9223372036854775808 (by omega) (by decide)).trans ?_
  have : b &&& (18446744073709551615 - 9223372036854775808) = b % 9223372036854775808 := Nat.and_two_pow_sub_one_eq_mod b 63
  rw [this, Nat.mod_eq_of_lt hb]

theorem and_frac (b : Nat) (hb : b < 9223372036854775808) : bits .and .u64 (b : Int) 4503599627370495 = ((b % 4503599627370496 : Nat) : Int) := by
  refine (bits_and_u64_nat b 4503599627370495 (by omega) (by decide)).trans ?_
  rw [nat_mask52]

theorem or_hidden (r : Nat) (hr : r < 4503599627370496) : bits .or .u64 (r : Int) 4503599627370496 = ((r + 4503599627370496 : Nat) : Int) := by
  refine (bits_or_u64_nat r 4503599627370496 (by omega) (by decide)).trans ?_
  have := nat_join 52 4503599627370496 r (by decide) hr
  rw [Nat.or_comm, this]; congr 1; omega

set_option maxHeartbeats 400000 in
theorem parts_sub (m : Nat) (w : World) (hm : m < 4503599627370496) :
    Calls Try.prog 38 #[.float .f64 m] w fun e w' => e = .returned (.tuple #[.int .u64 (m : Int), .int .i64 (-1074), .bool true]) ∧ w = w' := by
  have hbits := f64bits m
  have h1 := andNot_sign m (by omega)
  have h2 := and_frac m (by omega)
  have h3 : (m : Int) / 4503599627370496 = 0 := by omega
  rw [Nat.mod_eq_of_lt hm] at h2
  go_enter Try.func38, Try.ntmps38
  go_wp2
  go_ret3
  exact ⟨rfl, rfl⟩

set_option maxHeartbeats 400000 in
theorem parts_norm (k r : Nat) (w : World) (hk : 1 ≤ k) (hk2 : k ≤ 2046) (hr : r < 4503599627370496) :
    Calls Try.prog 38 #[.float .f64 (k * 4503599627370496 + r)] w fun e w' => e = .returned (.tuple #[.int .u64 ((r + 4503599627370496 : Nat) : Int), .int .i64 ((k : Int) - 1075), .bool true]) ∧ w = w' := by
  have h1 := andNot_sign (k * 4503599627370496 + r) (by omega)
  have h2 := and_frac (k * 4503599627370496 + r) (by omega)
  rw [show (k * 4503599627370496 + r) % 4503599627370496 = r from by omega] at h2
  have h3 : ((k * 4503599627370496 + r : Nat) : Int) / 4503599627370496 = (k : Int) := by omega
  have h4 := or_hidden r hr
  have hbd : k * 4503599627370496 + r < 9223372036854775808 := by omega
  generalize k * 4503599627370496 + r = b at *
  have hbits := f64bits b
  go_enter Try.func38, Try.ntmps38
  go_wp2
  go_ret3
  exact ⟨rfl, rfl⟩

theorem parts_canon (m : Nat) (e : Int) (w : World) (hc : Canon m e) :
    Calls Try.prog 38 #[.float .f64 (wordOf m e)] w fun r w' => r = .returned (.tuple #[.int .u64 (m : Int), .int .i64 e, .bool true]) ∧ w = w' := by
  obtain ⟨h1, h2, h3, h4⟩ := hc
  by_cases hs : m < 4503599627370496
  · obtain rfl : e = -1074 := by omega
    have := parts_sub m w hs
    rw [show wordOf m (-1074) = m from by simp [wordOf]]
    exact this
  · have := parts_norm ((e + 1074).toNat + 1) (m - 4503599627370496) w (by omega) (by omega) (by omega)
    rw [show ((e + 1074).toNat + 1) * 4503599627370496 + (m - 4503599627370496) = wordOf m e from by unfold wordOf; omega,
      show m - 4503599627370496 + 4503599627370496 = m from by omega, show (((e + 1074).toNat + 1 : Nat) : Int) - 1075 = e from by omega] at this
    exact this

/-- A float that is not below 0, with the sign of another such one: itself. -/
theorem and_sign (b : Nat) (hb : b < 9223372036854775808) : bits .and .u64 (b : Int) 9223372036854775808 = 0 := by
  refine (bits_and_u64_nat b 9223372036854775808 (by omega) (by decide)).trans ?_
  have := nat_bit 63 b
  rw [show (2 : Nat) ^ 63 = 9223372036854775808 from by decide] at this
  rw [this, Nat.div_eq_of_lt hb]; simp
theorem or_zero (b : Nat) (hb : b < 9223372036854775808) : bits .or .u64 (b : Int) 0 = (b : Int) := by
  refine (bits_or_u64_nat b 0 (by omega) (by decide)).trans ?_
  rw [Nat.or_zero]

set_option maxHeartbeats 400000 in
theorem signed_pos (a b : Nat) (w : World) (ha : a < 9223372036854775808) (hb : b < 9223372036854775808) :
    Calls Try.prog 39 #[.float .f64 a, .float .f64 b] w fun e w' => e = .returned (.float .f64 a) ∧ w = w' := by
  have h1 := and_sign b hb
  have h2 := or_zero a ha
  have h3 := f64bits a
  have h4 := f64bits b
  have h5 := f64frombits (a : Int)
  go_enter Try.func39, Try.ntmps39
  go_wp2
  go_ret
  exact ⟨rfl, rfl⟩

theorem wordOf_lt63 {m : Nat} {e : Int} (hc : Canon m e) : wordOf m e < 9223372036854775808 := by
  obtain ⟨h1, h2, h3, h4⟩ := hc
  unfold wordOf; omega
theorem isV_lt63 {b q : Nat} (h : IsV b q) : b < 9223372036854775808 := by
  obtain ⟨m, e, hc, rfl, _⟩ := h
  exact wordOf_lt63 hc
theorem natW_lt63 {n : Nat} (h : n < 9007199254740992) : natW n < 9223372036854775808 := isV_lt63 (isV_natW h)

theorem floatOfInt_shr (m k : Nat) (hm : m < 9007199254740992) : floatOfInt .f64 ((m : Int) / 2 ^ k) = natW (m / 2 ^ k) := by
  have : ((m : Int) / 2 ^ k) = ((m / 2 ^ k : Nat) : Int) := by simp
  rw [this]
  exact floatOfInt_nat (Nat.lt_of_le_of_lt (Nat.div_le_self _ _) hm)

set_option maxHeartbeats 400000 in
theorem trunc_canon (m : Nat) (e : Int) (w : World) (hc : Canon m e) (he : e < 0) :
    Calls Try.prog 34 #[.float .f64 (wordOf m e)] w fun r w' => r = .returned (.float .f64 (natW (m / 2 ^ (min (-e) 63).toNat))) ∧ w = w' := by
  have hp := Lib.hid (parts_canon m e)
  have hm := hc.1
  have he2 := hc.2.1
  have hw := wordOf_lt63 hc
  have hc' := Lib.hid hc
  clear hc
  have hlt : ∀ k, natW (m / 2 ^ k) < 9223372036854775808 := fun k => natW_lt63 (Nat.lt_of_le_of_lt (Nat.div_le_self _ _) hm)
  generalize wordOf m e = b at *
  by_cases h63 : 63 < -e
  · have e1 := Lib.hid (floatOfInt_shr m 63 hm)
    have hlt' := hlt 63
    clear hlt
    rw [show (min (-e) 63).toNat = 63 from by omega]
    go_enter Try.func34, Try.ntmps34
    go_wp2_with fail
    refine (hp.out w hc'.out).mono ?_
    rintro r w' ⟨rfl, rfl⟩
    go_wp2_with fail
    rw [show ((m : Int) / 9223372036854775808) = (m : Int) / 2 ^ 63 from rfl, e1.out]
    refine (signed_pos _ b _ hlt' hw).mono ?_
    rintro r w' ⟨rfl, rfl⟩
    go_wp2_with fail
    go_ret
    exact ⟨rfl, rfl⟩
  · have e1 := Lib.hid (floatOfInt_shr m (-e).toNat hm)
    have hlt' := hlt (-e).toNat
    clear hlt
    rw [show (min (-e) 63).toNat = (-e).toNat from by omega]
    go_enter Try.func34, Try.ntmps34
    go_wp2_with fail
    refine (hp.out w hc'.out).mono ?_
    rintro r w' ⟨rfl, rfl⟩
    go_wp2_with fail
    rw [e1.out]
    refine (signed_pos _ b _ hlt' hw).mono ?_
    rintro r w' ⟨rfl, rfl⟩
    go_wp2_with fail
    go_ret
    exact ⟨rfl, rfl⟩

set_option maxHeartbeats 400000 in
theorem trunc_whole (m : Nat) (e : Int) (w : World) (hc : Canon m e) (he : 0 ≤ e) :
    Calls Try.prog 34 #[.float .f64 (wordOf m e)] w fun r w' => r = .returned (.float .f64 (wordOf m e)) ∧ w = w' := by
  have hp := Lib.hid (parts_canon m e)
  have hc' := Lib.hid hc
  clear hc
  generalize wordOf m e = b at *
  go_enter Try.func34, Try.ntmps34
  go_wp2_with fail
  refine (hp.out w hc'.out).mono ?_
  rintro r w' ⟨rfl, rfl⟩
  go_wp2_with fail
  go_ret
  exact ⟨rfl, rfl⟩

/-- The canonical parts of a whole number. -/
theorem natW_parts {n : Nat} (h : n < 9007199254740992) : ∃ m e, Canon m e ∧ natW n = wordOf m e ∧ ((0 ≤ e ∧ True) ∨ (e < 0 ∧ m / 2 ^ (min (-e) 63).toNat = n)) := by
  by_cases hn : n = 0
  · subst hn
    exact ⟨0, -1074, ⟨by omega, by omega, by omega, .inr rfl⟩, by decide, .inr ⟨by omega, by simp⟩⟩
  · have hl := log2_le52 hn h
    have hc := canon_nat hn h 0 (by omega)
    refine ⟨_, _, hc, by rw [natW, if_neg hn]; simp, ?_⟩
    by_cases h52 : n.log2 = 52
    · exact .inl ⟨by omega, trivial⟩
    · refine .inr ⟨by omega, ?_⟩
      rw [show (min (-((n.log2 : Int) - 52 - (0 : Nat))) 63).toNat = 52 - n.log2 from by omega]
      exact Nat.mul_div_cancel _ (Nat.two_pow_pos _)

theorem trunc_natW (n : Nat) (w : World) (h : n < 9007199254740992) :
    Calls Try.prog 34 #[.float .f64 (natW n)] w fun r w' => r = .returned (.float .f64 (natW n)) ∧ w = w' := by
  obtain ⟨m, e, hc, hw, hx⟩ := natW_parts h
  rw [hw]
  rcases hx with ⟨he, _⟩ | ⟨he, hx⟩
  · exact trunc_whole m e w hc he
  · have := trunc_canon m e w hc he
    rw [hx] at this
    rw [← hw] at this ⊢
    exact this

theorem run_f_u64 (n : Nat) (h : n < 9007199254740992) (w : World) : (convert 26 28 (.float .f64 (natW n))).run Try.prog w = .ok (.int .u64 (n : Int)) w := by
  refine run_convert_float_int w _ _ .f64 .u64 _ _ (by kernel_rfl) (by kernel_rfl) ?_
  unfold floatToIntVal
  rw [toInt_natW h]
  simp only []
  rw [if_pos]
  simp only [IntKind.min, IntKind.max, IntKind.signed, IntKind.bits]
  omega

theorem run_f_int (n : Nat) (h : n < 9007199254740992) (w : World) : (convert 26 3 (.float .f64 (natW n))).run Try.prog w = .ok (.int .i64 (n : Int)) w := by
  refine run_convert_float_int w _ _ .f64 .i64 _ _ (by kernel_rfl) (by kernel_rfl) ?_
  unfold floatToIntVal
  rw [toInt_natW h]
  simp only []
  rw [if_pos]
  simp only [IntKind.min, IntKind.max, IntKind.signed, IntKind.bits]
  omega

theorem isV_p53 : IsV 4845873199050653696 (9007199254740992 * p2 1074) :=
  ⟨4503599627370496, 1, ⟨by omega, by omega, by omega, .inl (by omega)⟩, by decide, by
    unfold mv
    rw [show ((1 : Int) + 1074).toNat = 1 + 1074 from by decide, p2_add, ← Nat.mul_assoc, show (4503599627370496 : Nat) * p2 1 = 9007199254740992 from by decide]⟩

theorem ord_ge0 {b q : Nat} (h : IsV b q) : (FloatKind.f64.format.order b 0 == some .gt || FloatKind.f64.format.order b 0 == some .eq) = true := by
  have : FloatKind.f64.format.order b 0 = some (compare q 0) := h.order isV_zero
  rw [this]
  rcases Nat.eq_zero_or_pos q with rfl | hq
  · decide
  · rw [Nat.compare_eq_gt.2 hq]; decide
theorem ord_lt53 {n : Nat} (h : n < 9007199254740992) : (FloatKind.f64.format.order (natW n) 4845873199050653696 == some .lt) = true := by
  have : FloatKind.f64.format.order (natW n) 4845873199050653696 = some (compare (n * p2 1074) (9007199254740992 * p2 1074)) := (isV_natW h).order isV_p53
  rw [this, compare_scale _ _ _ (p2_pos _), Nat.compare_eq_lt.2 h]; decide
theorem ord_self {b q : Nat} (h : IsV b q) : (FloatKind.f64.format.order b b != some .eq) = false := by
  have : FloatKind.f64.format.order b b = some .eq := h.refl
  rw [this]; decide

set_option maxHeartbeats 400000 in
theorem word_yes (n : Nat) (w : World) (h : n < 9007199254740992) :
    Calls Try.prog 32 #[.float .f64 (natW n)] w fun r w' => r = .returned (.tuple #[.int .u64 (n : Int), .bool true]) ∧ w = w' := by
  have ht := Lib.hid (fun w => trunc_natW n w h)
  have h1 := ord_ge0 (isV_natW h)
  have h2 := ord_lt53 h
  have h3 := ord_self (isV_natW h)
  have h4 := fun w => run_f_u64 n h w
  generalize natW n = b at *
  go_enter Try.func32, Try.ntmps32
  go_wp2_with fail
  refine (ht.out w).mono ?_
  rintro r w' ⟨rfl, rfl⟩
  go_wp2_with fail
  go_ret2
  exact ⟨rfl, rfl⟩

end Go.Proofs.Ytbkfnmmfjpaifaa
