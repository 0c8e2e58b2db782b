/- The walks of the dice's bits: both, And, Or, Xor, Not, on whole numbers below 2^53. -/
import Derived.Test.YtbkfnmmfjpaifaaDiceW2
namespace Go.Proofs.Ytbkfnmmfjpaifaa
open Go.RowKit Flt
set_option linter.unusedVariables false

theorem mask53 (r : Nat) (hr : r < 18446744073709551616) : bits .and .u64 (r : Int) 9007199254740991 = ((r % 9007199254740992 : Nat) : Int) := by
  refine (bits_and_u64_nat r 9007199254740991 hr (by decide)).trans ?_
  rw [nat_mask53]

set_option maxHeartbeats 400000 in
theorem and_yes (a b : Nat) (w : World) (ha : a < 9007199254740992) (hb : b < 9007199254740992) :
    Calls Try.prog 16 #[.float .f64 (natW a), .float .f64 (natW b)] w fun r w' => r = .returned (.tuple #[.float .f64 (natW (a &&& b)), .int .i64 0]) ∧ w = w' := by
  have hx := Lib.hid (fun w => word_yes a w ha)
  have hy := Lib.hid (fun w => word_yes b w hb)
  have hlt : a &&& b < 9007199254740992 := Nat.lt_of_le_of_lt Nat.and_le_left ha
  have h1 := bits_and_u64_nat a b (by omega) (by omega)
  have h2 := mask53 (a &&& b) (by omega)
  rw [Nat.mod_eq_of_lt hlt] at h2
  have h3 := floatOfInt_nat hlt
  generalize natW (a &&& b) = c at *
  generalize natW a = x at *
  generalize natW b = y at *
  generalize a &&& b = r at *
  clear ha hb
  go_enter Try.func16, Try.ntmps16
  go_wp2_with (go_at_call 24; go_in)
  refine (hx.out _).mono ?_
  rintro e w' ⟨rfl, rfl⟩
  go_wp2_with fail
  refine (hy.out _).mono ?_
  rintro e w' ⟨rfl, rfl⟩
  go_wp2
  go_ret2
  exact ⟨rfl, rfl⟩

set_option maxHeartbeats 400000 in
theorem or_yes (a b : Nat) (w : World) (ha : a < 9007199254740992) (hb : b < 9007199254740992) :
    Calls Try.prog 17 #[.float .f64 (natW a), .float .f64 (natW b)] w fun r w' => r = .returned (.tuple #[.float .f64 (natW (a ||| b)), .int .i64 0]) ∧ w = w' := by
  have hx := Lib.hid (fun w => word_yes a w ha)
  have hy := Lib.hid (fun w => word_yes b w hb)
  have hlt : a ||| b < 9007199254740992 := Nat.or_lt_two_pow (n := 53) ha hb
  have h1 := bits_or_u64_nat a b (by omega) (by omega)
  have h2 := mask53 (a ||| b) (by omega)
  rw [Nat.mod_eq_of_lt hlt] at h2
  have h3 := floatOfInt_nat hlt
  generalize natW (a ||| b) = c at *
  generalize natW a = x at *
  generalize natW b = y at *
  generalize a ||| b = r at *
  clear ha hb
  go_enter Try.func17, Try.ntmps17
  go_wp2_with (go_at_call 24; go_in)
  refine (hx.out _).mono ?_
  rintro e w' ⟨rfl, rfl⟩
  go_wp2_with fail
  refine (hy.out _).mono ?_
  rintro e w' ⟨rfl, rfl⟩
  go_wp2
  go_ret2
  exact ⟨rfl, rfl⟩

set_option maxHeartbeats 400000 in
theorem xor_yes (a b : Nat) (w : World) (ha : a < 9007199254740992) (hb : b < 9007199254740992) :
    Calls Try.prog 18 #[.float .f64 (natW a), .float .f64 (natW b)] w fun r w' => r = .returned (.tuple #[.float .f64 (natW (a ^^^ b)), .int .i64 0]) ∧ w = w' := by
  have hx := Lib.hid (fun w => word_yes a w ha)
  have hy := Lib.hid (fun w => word_yes b w hb)
  have hlt : a ^^^ b < 9007199254740992 := Nat.xor_lt_two_pow (n := 53) ha hb
  have h1 := bits_xor_u64_nat a b (by omega) (by omega)
  have h2 := mask53 (a ^^^ b) (by omega)
  rw [Nat.mod_eq_of_lt hlt] at h2
  have h3 := floatOfInt_nat hlt
  generalize natW (a ^^^ b) = c at *
  generalize natW a = x at *
  generalize natW b = y at *
  generalize a ^^^ b = r at *
  clear ha hb
  go_enter Try.func18, Try.ntmps18
  go_wp2_with (go_at_call 24; go_in)
  refine (hx.out _).mono ?_
  rintro e w' ⟨rfl, rfl⟩
  go_wp2_with fail
  refine (hy.out _).mono ?_
  rintro e w' ⟨rfl, rfl⟩
  go_wp2
  go_ret2
  exact ⟨rfl, rfl⟩

theorem and_add_or (n : Nat) : ∀ a b : Nat, a + b ≤ n → (a &&& b) + (a ||| b) = a + b ∧ (a &&& b) + (a ^^^ b) = (a ||| b) := by
  induction n with
  | zero =>
    intro a b h
    obtain rfl : a = 0 := by omega
    obtain rfl : b = 0 := by omega
    decide
  | succ n ih =>
    intro a b h
    by_cases h0 : a + b = 0
    · obtain rfl : a = 0 := by omega
      obtain rfl : b = 0 := by omega
      decide
    · obtain ⟨i1, i2⟩ := ih (a / 2) (b / 2) (by omega)
      have d1 := @Nat.and_div_two a b
      have d2 := @Nat.or_div_two a b
      have d3 := @Nat.xor_div_two a b
      rw [← d1, ← d2] at i1
      rw [← d1, ← d2, ← d3] at i2
      have m1 := @Nat.and_mod_two_eq_one a b
      have m2 := @Nat.or_mod_two_eq_one a b
      have m3 := @Nat.xor_mod_two_eq_one a b
      constructor <;> omega
theorem xor_ones (a : Nat) (ha : a < 18446744073709551616) : 18446744073709551615 ^^^ a = 18446744073709551615 - a := by
  have h1 : (BitVec.allOnes 64 ^^^ BitVec.ofNat 64 a).toNat = 18446744073709551615 ^^^ a := by
    simp [BitVec.toNat_xor]
    rw [Nat.mod_eq_of_lt ha]
  rw [← h1, BitVec.allOnes_xor, BitVec.toNat_not]
  simp
  omega
theorem not_bits (a : Nat) (ha : a < 9007199254740992) : bits .and .u64 (bits .xor .u64 IntKind.u64.max (a : Int)) 9007199254740991 = ((9007199254740991 - a : Nat) : Int) := by
  rw [show IntKind.u64.max = ((18446744073709551615 : Nat) : Int) from by decide, bits_xor_u64_nat _ _ (by decide) (by omega), xor_ones a (by omega), mask53 _ (by omega)]
  congr 1
  omega

theorem natW_zero : natW 0 = 0 := rfl

set_option maxHeartbeats 400000 in
theorem not_yes (a : Nat) (w : World) (ha : a < 9007199254740992) :
    Calls Try.prog 19 #[.float .f64 (natW a)] w fun r w' => r = .returned (.tuple #[.float .f64 (natW (9007199254740991 - a)), .int .i64 0]) ∧ w = w' := by
  have hx := Lib.hid (fun w => word_yes a w ha)
  have hy := Lib.hid (fun w => word_yes 0 w (by omega))
  have h3 := floatOfInt_nat (n := 9007199254740991 - a) (by omega)
  have h4 := not_bits a ha
  generalize natW a = x at *
  generalize natW (9007199254740991 - a) = z at *
  generalize 9007199254740991 - a = q at *
  go_enter Try.func19, Try.ntmps19
  go_wp2_with (go_at_call 24; go_in)
  refine (hx.out _).mono ?_
  rintro e w' ⟨rfl, rfl⟩
  go_wp2_with fail
  refine (hy.out _).mono ?_
  rintro e w' ⟨rfl, rfl⟩
  go_wp2
  go_ret2
  exact ⟨rfl, rfl⟩

set_option maxHeartbeats 400000 in
/-- The document's example. -/
theorem fixed_any (w : World) :
    Calls Try.prog 7 #[] w fun r w' => r = .returned (.bool true) ∧ Below w.heap.size w w' := by
  have e1 : diceW (nx (seedOf 0)) = 4406209285428609024 := by decide +kernel
  have e2 : diceW (nx (nx (seedOf 0))) = 4562187153742659584 := by decide +kernel
  have e3 : natW (12 ^^^ 10) = 4618441417868443648 := by decide +kernel
  have o1 : (FloatKind.f64.format.order 4406209285428609024 4406209285428609024 == some .eq) = true := by decide +kernel
  have o2 : (FloatKind.f64.format.order 4562187153742659584 4562187153742659584 == some .eq) = true := by decide +kernel
  have o3 : (FloatKind.f64.format.order 4618441417868443648 4618441417868443648 == some .eq) = true := by decide +kernel
  have x12 : (4622945017495814144 : Nat) = natW 12 := by decide +kernel
  have x10 : (4621819117588971520 : Nat) = natW 10 := by decide +kernel
  have hx := Lib.hid (fun w => xor_yes 12 10 w (by omega) (by omega))
  rw [← x12, ← x10, e3] at hx
  have h1 := Lib.hid (fun g w hD => next_any g 0 (seedOf 0) w hD)
  have h2 := Lib.hid (fun g w hD => next_any g 0 (nx (seedOf 0)) w hD)
  rw [e1] at h1
  rw [e2] at h2
  clear x12 x10 e1 e2 e3
  go_enter Try.func7, Try.ntmps7
  go_wp2_with fail
  refine (new_any 0 w (by decide)).mono ?_
  rintro e w1 ⟨rfl, hD, hb, hs⟩
  go_wp2_with fail
  refine (h1.out _ _ hD).mono ?_
  rintro e w2 ⟨rfl, rfl⟩
  have hD2 := hD.set1 (nx (seedOf 0))
  go_wp2_with fail
  refine (h2.out _ _ hD2).mono ?_
  rintro e w2 ⟨rfl, rfl⟩
  go_wp2_with fail
  refine (hx.out _).mono ?_
  rintro e w' ⟨rfl, rfl⟩
  go_wp2_with fail
  go_ret
  exact ⟨rfl, (hb.setCell (p := ⟨w.heap.size, 1, none⟩) (Nat.le_refl _) _).setCell (p := ⟨w.heap.size, 1, none⟩) (Nat.le_refl _) _⟩

end Go.Proofs.Ytbkfnmmfjpaifaa
