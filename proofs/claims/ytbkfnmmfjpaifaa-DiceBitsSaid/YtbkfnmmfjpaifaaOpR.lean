/- The document's Bits of any two numbers, walked. -/
import Derived.Test.YtbkfnmmfjpaifaaOpX
namespace Go.Proofs.Ytbkfnmmfjpaifaa
open Go.RowKit Flt
set_option linter.unusedVariables false
set_option linter.unusedSimpArgs false

theorem and_bit (a b j : Nat) : (a &&& b) / 2 ^ j % 2 = if a / 2 ^ j % 2 = 1 ∧ b / 2 ^ j % 2 = 1 then 1 else 0 := by
  have h := Nat.testBit_and a b j
  simp only [Nat.testBit_eq_decide_div_mod_eq] at h
  have h1 := Nat.mod_two_eq_zero_or_one ((a &&& b) / 2 ^ j)
  rcases Nat.mod_two_eq_zero_or_one (a / 2 ^ j) with p | p <;> rcases Nat.mod_two_eq_zero_or_one (b / 2 ^ j) with q | q <;> rw [p, q] at h <;> rw [p, q] <;> simp at h ⊢ <;> omega
theorem or_bit (a b j : Nat) : (a ||| b) / 2 ^ j % 2 = if a / 2 ^ j % 2 = 1 ∨ b / 2 ^ j % 2 = 1 then 1 else 0 := by
  have h := Nat.testBit_or a b j
  simp only [Nat.testBit_eq_decide_div_mod_eq] at h
  have h1 := Nat.mod_two_eq_zero_or_one ((a ||| b) / 2 ^ j)
  rcases Nat.mod_two_eq_zero_or_one (a / 2 ^ j) with p | p <;> rcases Nat.mod_two_eq_zero_or_one (b / 2 ^ j) with q | q <;> rw [p, q] at h <;> rw [p, q] <;> simp at h ⊢ <;> omega
theorem xor_bit (a b j : Nat) : (a ^^^ b) / 2 ^ j % 2 = if a / 2 ^ j % 2 ≠ b / 2 ^ j % 2 then 1 else 0 := by
  have h := Nat.testBit_xor a b j
  simp only [Nat.testBit_eq_decide_div_mod_eq] at h
  have h1 := Nat.mod_two_eq_zero_or_one ((a ^^^ b) / 2 ^ j)
  rcases Nat.mod_two_eq_zero_or_one (a / 2 ^ j) with p | p <;> rcases Nat.mod_two_eq_zero_or_one (b / 2 ^ j) with q | q <;> rw [p, q] at h <;> rw [p, q] <;> simp at h ⊢ <;> omega
theorem not_bit (a j : Nat) (ha : a < 9007199254740992) (hj : j < 53) : (9007199254740991 - a) / 2 ^ j % 2 = if a / 2 ^ j % 2 = 0 then 1 else 0 := by
  have h := Nat.testBit_two_pow_sub_succ (n := 53) (x := a) ha j
  rw [show 2 ^ 53 - (a + 1) = 9007199254740991 - a by omega] at h
  simp only [Nat.testBit_eq_decide_div_mod_eq, decide_eq_true hj, Bool.true_and] at h
  have h1 := Nat.mod_two_eq_zero_or_one ((9007199254740991 - a) / 2 ^ j)
  rcases Nat.mod_two_eq_zero_or_one (a / 2 ^ j) with p | p <;> rw [p] at h <;> rw [p] <;> simp at h ⊢ <;> omega
theorem half_step (Z j : Nat) : Z / 2 ^ j = 2 * (Z / 2 ^ (j + 1)) + Z / 2 ^ j % 2 := by
  rw [Nat.pow_succ, ← Nat.div_div_eq_div_mul]
  omega

set_option maxRecDepth 20000 in
set_option maxHeartbeats 4000000 in
theorem rbits1 (x y : Nat) (w : World) (hx : x < 18446744073709551616) (hy : y < 18446744073709551616) :
    Calls Try.prog 22 #[.int .i64 1, .float .f64 x, .float .f64 y] w fun e w' => e = .returned (.tuple #[.float .f64 (resF (two (fun a b => some (a &&& b)) (wordB x) (wordB y))), .int .i64 (resE (two (fun a b => some (a &&& b)) (wordB x) (wordB y)))]) ∧ Below w.heap.size w w' := by
  have HX := Lib.hid (fun w => rword_any x w hx)
  have HY := Lib.hid (fun w => rword_any y w hy)
  clear hx
  cases hY : wordB y with
  | none =>
    have HY2 := HY.out
    rw [hY] at HY2
    replace HY := Lib.hid HY2
    clear HY2
    have e : two (fun a b => some (a &&& b)) (wordB x) none = none := by cases wordB x <;> rfl
    rw [e]
    generalize hxv : (((wordB x).getD 0 : Nat) : Int) = xv at *
    generalize (wordB x).isSome = xb at *
    clear e hy hxv
    cases xb
    all_goals
      go_enter Try.func22, Try.ntmps22
      go_wp2_with fail
      refine (HX.out w).mono ?_
      rintro e w1 ⟨rfl, hb1⟩
      go_wp2_with fail
      refine (HY.out w1).mono ?_
      rintro e w2 ⟨rfl, hb2⟩
      have HB := Lib.hid (hb1.trans (hb2.mono hb1.size))
      clear hb1 hb2
      go_wp2_with fail
      go_ret2
      exact ⟨rfl, HB.out⟩
  | some b =>
    have hb := wordB_lt hY
    have HY2 := HY.out
    rw [hY] at HY2
    replace HY := Lib.hid HY2
    clear HY2
    have e3 : (some b).getD 0 = b := rfl
    rw [e3] at HY
    cases hX : wordB x with
    | none =>
      have HX2 := HX.out
      rw [hX] at HX2
      replace HX := Lib.hid HX2
      clear HX2
      go_enter Try.func22, Try.ntmps22
      go_wp2_with fail
      refine (HX.out w).mono ?_
      rintro e w1 ⟨rfl, hb1⟩
      go_wp2_with fail
      refine (HY.out w1).mono ?_
      rintro e w2 ⟨rfl, hb2⟩
      have HB := Lib.hid (hb1.trans (hb2.mono hb1.size))
      clear hb1 hb2
      go_wp2_with fail
      go_ret2
      exact ⟨rfl, HB.out⟩
    | some a =>
      have ha := wordB_lt hX
      have HX2 := HX.out
      rw [hX] at HX2
      replace HX := Lib.hid HX2
      clear HX2
      have e2 : (some a).getD 0 = a := rfl
      rw [e2] at HX
      have hlt : a &&& b < 9007199254740992 := Nat.lt_of_le_of_lt Nat.and_le_left ha
      have h3 := floatOfInt_nat hlt
      show Calls _ _ _ _ fun e w' => e = .returned (.tuple #[.float .f64 (natW (a &&& b)), .int .i64 0]) ∧ Below w.heap.size w w'
      have hbit := fun j (hj : j < 53) => and_bit a b j
      generalize hcv : natW (a &&& b) = c at *
      generalize hZ : a &&& b = Z at *
      have HBIT := Lib.hid hbit
      have HL := Lib.hid (And.intro ha (And.intro hb hlt))
      clear hbit e2 hy hcv hZ ha hb hlt
      go_enter Try.func22, Try.ntmps22
      go_wp2_with fail
      refine (HX.out w).mono ?_
      rintro e w1 ⟨rfl, hb1⟩
      go_wp2_with fail
      refine (HY.out w1).mono ?_
      rintro e w2 ⟨rfl, hb2⟩
      have HB := Lib.hid (hb1.trans (hb2.mono hb1.size))
      clear hb1 hb2
      go_wp2_with fail
      go_loopw [14, 15] (fun v14 v15 wr => ∃ i : Nat, v15 = .int .i64 ((i : Int) - 1) ∧ v14 = .int .i64 ((Z / 2 ^ i : Nat) : Int) ∧ i ≤ 53 ∧ Below w.heap.size w wr) (fun _ v15 _ => (intOf v15 + 1).toNat)
      case atStart => exact ⟨53, rfl, by rw [Nat.div_eq_of_lt (by have := HL.out; omega)]; rfl, Nat.le_refl _, HB.out⟩
      case round =>
        obtain ⟨i, rfl, rfl, hi, hbw⟩ := hrel
        cases i with
        | zero =>
          have hi1 : (((0 : Nat) : Int) - 1) = -1 := by omega
          rw [hi1]
          rw [Nat.pow_zero, Nat.div_one]
          go_wp2_with fail
          go_ret2
          exact ⟨rfl, hbw⟩
        | succ j =>
          have hi1 : (((j + 1 : Nat) : Int) - 1) = (j : Int) := by omega
          rw [hi1]
          have hstep := half_step Z j
          rw [HBIT.out j (by omega)] at hstep
          have hPlt : 2 ^ j ≤ 2 ^ 52 := Nat.pow_le_pow_right (by omega) (by omega)
          have hP0 : 0 < 2 ^ j := Nat.two_pow_pos j
          have hcast : (2 : Int) ^ j = ((2 ^ j : Nat) : Int) := by simp
          have ht : Z / 2 ^ (j + 1) ≤ Z := Nat.div_le_self _ _
          have hJ := Lib.hid (show Z / 2 ^ j = Z / 2 ^ j from rfl)
          generalize Z / 2 ^ (j + 1) = t at *
          generalize hzj : Z / 2 ^ j = zj at *
          have hwr : IntKind.i64.wrap ((2 : Int) ^ j) = ((2 ^ j : Nat) : Int) := by rw [hcast, IntKind.wrap_i64]; omega
          generalize hPP : 2 ^ j = P at *
          have p1 : (a : Int).tdiv (P : Int) = ((a / P : Nat) : Int) := (Int.ofNat_tdiv a P).symm
          have p1' : (a : Int) / (P : Int) = ((a / P : Nat) : Int) := by simp
          have q1 : (b : Int).tdiv (P : Int) = ((b / P : Nat) : Int) := (Int.ofNat_tdiv b P).symm
          have q1' : (b : Int) / (P : Int) = ((b / P : Nat) : Int) := by simp
          have apl : a / P ≤ a := Nat.div_le_self _ _
          have bpl : b / P ≤ b := Nat.div_le_self _ _
          generalize a / P = ap at *
          generalize b / P = bp at *
          have j1 : (0 : Int) ≤ (j : Int) := by omega
          have j2 : (j : Int) ≤ 52 := by omega
          have P1 : (0 : Int) < (P : Int) := by omega
          have P2 : (P : Int) ≤ 4503599627370496 := by omega
          obtain ⟨ha, hb, hlt⟩ := HL.out
          have t1 : (t : Int) ≤ 9007199254740992 := by omega
          have a1 : (ap : Int) ≤ 9007199254740992 := by omega
          have b1 : (bp : Int) ≤ 9007199254740992 := by omega
          have HJ := Lib.hid (And.intro hzj hPP)
          have HI := Lib.hid hi
          have HBW := Lib.hid hbw
          clear hJ hi ha hb hlt hPlt hP0 hcast ht apl bpl hbw hi1 hzj hPP
          rcases Nat.mod_two_eq_zero_or_one ap with pp | pp <;> rcases Nat.mod_two_eq_zero_or_one bp with qq | qq
          all_goals
            rw [pp, qq] at hstep
            have HST := Lib.hid hstep
            first
              | have p2 : (ap : Int).tmod 2 = 0 := by show (ap : Int).tmod ((2 : Nat) : Int) = 0; rw [← Int.ofNat_tmod, pp]; rfl
              | have p2 : (ap : Int).tmod 2 = 1 := by show (ap : Int).tmod ((2 : Nat) : Int) = 1; rw [← Int.ofNat_tmod, pp]; rfl
            first
              | have p3 : (ap : Int) % 2 = 0 := by omega
              | have p3 : (ap : Int) % 2 = 1 := by omega
            first
              | have q2 : (bp : Int).tmod 2 = 0 := by show (bp : Int).tmod ((2 : Nat) : Int) = 0; rw [← Int.ofNat_tmod, qq]; rfl
              | have q2 : (bp : Int).tmod 2 = 1 := by show (bp : Int).tmod ((2 : Nat) : Int) = 1; rw [← Int.ofNat_tmod, qq]; rfl
            first
              | have q3 : (bp : Int) % 2 = 0 := by omega
              | have q3 : (bp : Int) % 2 = 1 := by omega
            clear pp qq hstep
            go_wp2_with fail
            go_region
            go_wp2_with fail
            refine ⟨⟨j, rfl, ?_, by have := HI.out; omega, HBW.out.drew⟩, by simp [intOf] <;> omega⟩
            rw [HJ.out.2, HJ.out.1]
            have h := HST.out
            simp at h
            congr 1
            omega

set_option maxRecDepth 20000 in
set_option maxHeartbeats 4000000 in
theorem rbits2 (x y : Nat) (w : World) (hx : x < 18446744073709551616) (hy : y < 18446744073709551616) :
    Calls Try.prog 22 #[.int .i64 2, .float .f64 x, .float .f64 y] w fun e w' => e = .returned (.tuple #[.float .f64 (resF (two (fun a b => some (a ||| b)) (wordB x) (wordB y))), .int .i64 (resE (two (fun a b => some (a ||| b)) (wordB x) (wordB y)))]) ∧ Below w.heap.size w w' := by
  have HX := Lib.hid (fun w => rword_any x w hx)
  have HY := Lib.hid (fun w => rword_any y w hy)
  clear hx
  cases hY : wordB y with
  | none =>
    have HY2 := HY.out
    rw [hY] at HY2
    replace HY := Lib.hid HY2
    clear HY2
    have e : two (fun a b => some (a ||| b)) (wordB x) none = none := by cases wordB x <;> rfl
    rw [e]
    generalize hxv : (((wordB x).getD 0 : Nat) : Int) = xv at *
    generalize (wordB x).isSome = xb at *
    clear e hy hxv
    cases xb
    all_goals
      go_enter Try.func22, Try.ntmps22
      go_wp2_with fail
      refine (HX.out w).mono ?_
      rintro e w1 ⟨rfl, hb1⟩
      go_wp2_with fail
      refine (HY.out w1).mono ?_
      rintro e w2 ⟨rfl, hb2⟩
      have HB := Lib.hid (hb1.trans (hb2.mono hb1.size))
      clear hb1 hb2
      go_wp2_with fail
      go_ret2
      exact ⟨rfl, HB.out⟩
  | some b =>
    have hb := wordB_lt hY
    have HY2 := HY.out
    rw [hY] at HY2
    replace HY := Lib.hid HY2
    clear HY2
    have e3 : (some b).getD 0 = b := rfl
    rw [e3] at HY
    cases hX : wordB x with
    | none =>
      have HX2 := HX.out
      rw [hX] at HX2
      replace HX := Lib.hid HX2
      clear HX2
      go_enter Try.func22, Try.ntmps22
      go_wp2_with fail
      refine (HX.out w).mono ?_
      rintro e w1 ⟨rfl, hb1⟩
      go_wp2_with fail
      refine (HY.out w1).mono ?_
      rintro e w2 ⟨rfl, hb2⟩
      have HB := Lib.hid (hb1.trans (hb2.mono hb1.size))
      clear hb1 hb2
      go_wp2_with fail
      go_ret2
      exact ⟨rfl, HB.out⟩
    | some a =>
      have ha := wordB_lt hX
      have HX2 := HX.out
      rw [hX] at HX2
      replace HX := Lib.hid HX2
      clear HX2
      have e2 : (some a).getD 0 = a := rfl
      rw [e2] at HX
      have hlt : a ||| b < 9007199254740992 := Nat.or_lt_two_pow (n := 53) ha hb
      have h3 := floatOfInt_nat hlt
      show Calls _ _ _ _ fun e w' => e = .returned (.tuple #[.float .f64 (natW (a ||| b)), .int .i64 0]) ∧ Below w.heap.size w w'
      have hbit := fun j (hj : j < 53) => or_bit a b j
      generalize hcv : natW (a ||| b) = c at *
      generalize hZ : a ||| b = Z at *
      have HBIT := Lib.hid hbit
      have HL := Lib.hid (And.intro ha (And.intro hb hlt))
      clear hbit e2 hy hcv hZ ha hb hlt
      go_enter Try.func22, Try.ntmps22
      go_wp2_with fail
      refine (HX.out w).mono ?_
      rintro e w1 ⟨rfl, hb1⟩
      go_wp2_with fail
      refine (HY.out w1).mono ?_
      rintro e w2 ⟨rfl, hb2⟩
      have HB := Lib.hid (hb1.trans (hb2.mono hb1.size))
      clear hb1 hb2
      go_wp2_with fail
      go_loopw [14, 15] (fun v14 v15 wr => ∃ i : Nat, v15 = .int .i64 ((i : Int) - 1) ∧ v14 = .int .i64 ((Z / 2 ^ i : Nat) : Int) ∧ i ≤ 53 ∧ Below w.heap.size w wr) (fun _ v15 _ => (intOf v15 + 1).toNat)
      case atStart => exact ⟨53, rfl, by rw [Nat.div_eq_of_lt (by have := HL.out; omega)]; rfl, Nat.le_refl _, HB.out⟩
      case round =>
        obtain ⟨i, rfl, rfl, hi, hbw⟩ := hrel
        cases i with
        | zero =>
          have hi1 : (((0 : Nat) : Int) - 1) = -1 := by omega
          rw [hi1]
          rw [Nat.pow_zero, Nat.div_one]
          go_wp2_with fail
          go_ret2
          exact ⟨rfl, hbw⟩
        | succ j =>
          have hi1 : (((j + 1 : Nat) : Int) - 1) = (j : Int) := by omega
          rw [hi1]
          have hstep := half_step Z j
          rw [HBIT.out j (by omega)] at hstep
          have hPlt : 2 ^ j ≤ 2 ^ 52 := Nat.pow_le_pow_right (by omega) (by omega)
          have hP0 : 0 < 2 ^ j := Nat.two_pow_pos j
          have hcast : (2 : Int) ^ j = ((2 ^ j : Nat) : Int) := by simp
          have ht : Z / 2 ^ (j + 1) ≤ Z := Nat.div_le_self _ _
          have hJ := Lib.hid (show Z / 2 ^ j = Z / 2 ^ j from rfl)
          generalize Z / 2 ^ (j + 1) = t at *
          generalize hzj : Z / 2 ^ j = zj at *
          have hwr : IntKind.i64.wrap ((2 : Int) ^ j) = ((2 ^ j : Nat) : Int) := by rw [hcast, IntKind.wrap_i64]; omega
          generalize hPP : 2 ^ j = P at *
          have p1 : (a : Int).tdiv (P : Int) = ((a / P : Nat) : Int) := (Int.ofNat_tdiv a P).symm
          have p1' : (a : Int) / (P : Int) = ((a / P : Nat) : Int) := by simp
          have q1 : (b : Int).tdiv (P : Int) = ((b / P : Nat) : Int) := (Int.ofNat_tdiv b P).symm
          have q1' : (b : Int) / (P : Int) = ((b / P : Nat) : Int) := by simp
          have apl : a / P ≤ a := Nat.div_le_self _ _
          have bpl : b / P ≤ b := Nat.div_le_self _ _
          generalize a / P = ap at *
          generalize b / P = bp at *
          have j1 : (0 : Int) ≤ (j : Int) := by omega
          have j2 : (j : Int) ≤ 52 := by omega
          have P1 : (0 : Int) < (P : Int) := by omega
          have P2 : (P : Int) ≤ 4503599627370496 := by omega
          obtain ⟨ha, hb, hlt⟩ := HL.out
          have t1 : (t : Int) ≤ 9007199254740992 := by omega
          have a1 : (ap : Int) ≤ 9007199254740992 := by omega
          have b1 : (bp : Int) ≤ 9007199254740992 := by omega
          have HJ := Lib.hid (And.intro hzj hPP)
          have HI := Lib.hid hi
          have HBW := Lib.hid hbw
          clear hJ hi ha hb hlt hPlt hP0 hcast ht apl bpl hbw hi1 hzj hPP
          rcases Nat.mod_two_eq_zero_or_one ap with pp | pp <;> rcases Nat.mod_two_eq_zero_or_one bp with qq | qq
          all_goals
            rw [pp, qq] at hstep
            have HST := Lib.hid hstep
            first
              | have p2 : (ap : Int).tmod 2 = 0 := by show (ap : Int).tmod ((2 : Nat) : Int) = 0; rw [← Int.ofNat_tmod, pp]; rfl
              | have p2 : (ap : Int).tmod 2 = 1 := by show (ap : Int).tmod ((2 : Nat) : Int) = 1; rw [← Int.ofNat_tmod, pp]; rfl
            first
              | have p3 : (ap : Int) % 2 = 0 := by omega
              | have p3 : (ap : Int) % 2 = 1 := by omega
            first
              | have q2 : (bp : Int).tmod 2 = 0 := by show (bp : Int).tmod ((2 : Nat) : Int) = 0; rw [← Int.ofNat_tmod, qq]; rfl
              | have q2 : (bp : Int).tmod 2 = 1 := by show (bp : Int).tmod ((2 : Nat) : Int) = 1; rw [← Int.ofNat_tmod, qq]; rfl
            first
              | have q3 : (bp : Int) % 2 = 0 := by omega
              | have q3 : (bp : Int) % 2 = 1 := by omega
            clear pp qq hstep
            go_wp2_with fail
            go_region
            go_wp2_with fail
            refine ⟨⟨j, rfl, ?_, by have := HI.out; omega, HBW.out.drew⟩, by simp [intOf] <;> omega⟩
            rw [HJ.out.2, HJ.out.1]
            have h := HST.out
            simp at h
            congr 1
            omega

set_option maxRecDepth 20000 in
set_option maxHeartbeats 4000000 in
theorem rbits3 (x y : Nat) (w : World) (hx : x < 18446744073709551616) (hy : y < 18446744073709551616) :
    Calls Try.prog 22 #[.int .i64 3, .float .f64 x, .float .f64 y] w fun e w' => e = .returned (.tuple #[.float .f64 (resF (two (fun a b => some (a ^^^ b)) (wordB x) (wordB y))), .int .i64 (resE (two (fun a b => some (a ^^^ b)) (wordB x) (wordB y)))]) ∧ Below w.heap.size w w' := by
  have HX := Lib.hid (fun w => rword_any x w hx)
  have HY := Lib.hid (fun w => rword_any y w hy)
  clear hx
  cases hY : wordB y with
  | none =>
    have HY2 := HY.out
    rw [hY] at HY2
    replace HY := Lib.hid HY2
    clear HY2
    have e : two (fun a b => some (a ^^^ b)) (wordB x) none = none := by cases wordB x <;> rfl
    rw [e]
    generalize hxv : (((wordB x).getD 0 : Nat) : Int) = xv at *
    generalize (wordB x).isSome = xb at *
    clear e hy hxv
    cases xb
    all_goals
      go_enter Try.func22, Try.ntmps22
      go_wp2_with fail
      refine (HX.out w).mono ?_
      rintro e w1 ⟨rfl, hb1⟩
      go_wp2_with fail
      refine (HY.out w1).mono ?_
      rintro e w2 ⟨rfl, hb2⟩
      have HB := Lib.hid (hb1.trans (hb2.mono hb1.size))
      clear hb1 hb2
      go_wp2_with fail
      go_ret2
      exact ⟨rfl, HB.out⟩
  | some b =>
    have hb := wordB_lt hY
    have HY2 := HY.out
    rw [hY] at HY2
    replace HY := Lib.hid HY2
    clear HY2
    have e3 : (some b).getD 0 = b := rfl
    rw [e3] at HY
    cases hX : wordB x with
    | none =>
      have HX2 := HX.out
      rw [hX] at HX2
      replace HX := Lib.hid HX2
      clear HX2
      go_enter Try.func22, Try.ntmps22
      go_wp2_with fail
      refine (HX.out w).mono ?_
      rintro e w1 ⟨rfl, hb1⟩
      go_wp2_with fail
      refine (HY.out w1).mono ?_
      rintro e w2 ⟨rfl, hb2⟩
      have HB := Lib.hid (hb1.trans (hb2.mono hb1.size))
      clear hb1 hb2
      go_wp2_with fail
      go_ret2
      exact ⟨rfl, HB.out⟩
    | some a =>
      have ha := wordB_lt hX
      have HX2 := HX.out
      rw [hX] at HX2
      replace HX := Lib.hid HX2
      clear HX2
      have e2 : (some a).getD 0 = a := rfl
      rw [e2] at HX
      have hlt : a ^^^ b < 9007199254740992 := Nat.xor_lt_two_pow (n := 53) ha hb
      have h3 := floatOfInt_nat hlt
      show Calls _ _ _ _ fun e w' => e = .returned (.tuple #[.float .f64 (natW (a ^^^ b)), .int .i64 0]) ∧ Below w.heap.size w w'
      have hbit := fun j (hj : j < 53) => xor_bit a b j
      generalize hcv : natW (a ^^^ b) = c at *
      generalize hZ : a ^^^ b = Z at *
      have HBIT := Lib.hid hbit
      have HL := Lib.hid (And.intro ha (And.intro hb hlt))
      clear hbit e2 hy hcv hZ ha hb hlt
      go_enter Try.func22, Try.ntmps22
      go_wp2_with fail
      refine (HX.out w).mono ?_
      rintro e w1 ⟨rfl, hb1⟩
      go_wp2_with fail
      refine (HY.out w1).mono ?_
      rintro e w2 ⟨rfl, hb2⟩
      have HB := Lib.hid (hb1.trans (hb2.mono hb1.size))
      clear hb1 hb2
      go_wp2_with fail
      go_loopw [14, 15] (fun v14 v15 wr => ∃ i : Nat, v15 = .int .i64 ((i : Int) - 1) ∧ v14 = .int .i64 ((Z / 2 ^ i : Nat) : Int) ∧ i ≤ 53 ∧ Below w.heap.size w wr) (fun _ v15 _ => (intOf v15 + 1).toNat)
      case atStart => exact ⟨53, rfl, by rw [Nat.div_eq_of_lt (by have := HL.out; omega)]; rfl, Nat.le_refl _, HB.out⟩
      case round =>
        obtain ⟨i, rfl, rfl, hi, hbw⟩ := hrel
        cases i with
        | zero =>
          have hi1 : (((0 : Nat) : Int) - 1) = -1 := by omega
          rw [hi1]
          rw [Nat.pow_zero, Nat.div_one]
          go_wp2_with fail
          go_ret2
          exact ⟨rfl, hbw⟩
        | succ j =>
          have hi1 : (((j + 1 : Nat) : Int) - 1) = (j : Int) := by omega
          rw [hi1]
          have hstep := half_step Z j
          rw [HBIT.out j (by omega)] at hstep
          have hPlt : 2 ^ j ≤ 2 ^ 52 := Nat.pow_le_pow_right (by omega) (by omega)
          have hP0 : 0 < 2 ^ j := Nat.two_pow_pos j
          have hcast : (2 : Int) ^ j = ((2 ^ j : Nat) : Int) := by simp
          have ht : Z / 2 ^ (j + 1) ≤ Z := Nat.div_le_self _ _
          have hJ := Lib.hid (show Z / 2 ^ j = Z / 2 ^ j from rfl)
          generalize Z / 2 ^ (j + 1) = t at *
          generalize hzj : Z / 2 ^ j = zj at *
          have hwr : IntKind.i64.wrap ((2 : Int) ^ j) = ((2 ^ j : Nat) : Int) := by rw [hcast, IntKind.wrap_i64]; omega
          generalize hPP : 2 ^ j = P at *
          have p1 : (a : Int).tdiv (P : Int) = ((a / P : Nat) : Int) := (Int.ofNat_tdiv a P).symm
          have p1' : (a : Int) / (P : Int) = ((a / P : Nat) : Int) := by simp
          have q1 : (b : Int).tdiv (P : Int) = ((b / P : Nat) : Int) := (Int.ofNat_tdiv b P).symm
          have q1' : (b : Int) / (P : Int) = ((b / P : Nat) : Int) := by simp
          have apl : a / P ≤ a := Nat.div_le_self _ _
          have bpl : b / P ≤ b := Nat.div_le_self _ _
          generalize a / P = ap at *
          generalize b / P = bp at *
          have j1 : (0 : Int) ≤ (j : Int) := by omega
          have j2 : (j : Int) ≤ 52 := by omega
          have P1 : (0 : Int) < (P : Int) := by omega
          have P2 : (P : Int) ≤ 4503599627370496 := by omega
          obtain ⟨ha, hb, hlt⟩ := HL.out
          have t1 : (t : Int) ≤ 9007199254740992 := by omega
          have a1 : (ap : Int) ≤ 9007199254740992 := by omega
          have b1 : (bp : Int) ≤ 9007199254740992 := by omega
          have HJ := Lib.hid (And.intro hzj hPP)
          have HI := Lib.hid hi
          have HBW := Lib.hid hbw
          clear hJ hi ha hb hlt hPlt hP0 hcast ht apl bpl hbw hi1 hzj hPP
          rcases Nat.mod_two_eq_zero_or_one ap with pp | pp <;> rcases Nat.mod_two_eq_zero_or_one bp with qq | qq
          all_goals
            rw [pp, qq] at hstep
            have HST := Lib.hid hstep
            first
              | have p2 : (ap : Int).tmod 2 = 0 := by show (ap : Int).tmod ((2 : Nat) : Int) = 0; rw [← Int.ofNat_tmod, pp]; rfl
              | have p2 : (ap : Int).tmod 2 = 1 := by show (ap : Int).tmod ((2 : Nat) : Int) = 1; rw [← Int.ofNat_tmod, pp]; rfl
            first
              | have p3 : (ap : Int) % 2 = 0 := by omega
              | have p3 : (ap : Int) % 2 = 1 := by omega
            first
              | have q2 : (bp : Int).tmod 2 = 0 := by show (bp : Int).tmod ((2 : Nat) : Int) = 0; rw [← Int.ofNat_tmod, qq]; rfl
              | have q2 : (bp : Int).tmod 2 = 1 := by show (bp : Int).tmod ((2 : Nat) : Int) = 1; rw [← Int.ofNat_tmod, qq]; rfl
            first
              | have q3 : (bp : Int) % 2 = 0 := by omega
              | have q3 : (bp : Int) % 2 = 1 := by omega
            clear pp qq hstep
            go_wp2_with fail
            go_region
            go_wp2_with fail
            refine ⟨⟨j, rfl, ?_, by have := HI.out; omega, HBW.out.drew⟩, by simp [intOf] <;> omega⟩
            rw [HJ.out.2, HJ.out.1]
            have h := HST.out
            simp at h
            congr 1
            omega

set_option maxRecDepth 20000 in
set_option maxHeartbeats 4000000 in
theorem rbits4 (x y : Nat) (w : World) (hx : x < 18446744073709551616) (hy : y < 18446744073709551616) :
    Calls Try.prog 22 #[.int .i64 4, .float .f64 x, .float .f64 y] w fun e w' => e = .returned (.tuple #[.float .f64 (resF (two (fun a b => if 52 < b then none else some (a * 2 ^ b % 9007199254740992)) (wordB x) (wordB y))), .int .i64 (resE (two (fun a b => if 52 < b then none else some (a * 2 ^ b % 9007199254740992)) (wordB x) (wordB y)))]) ∧ Below w.heap.size w w' := by
  have HX := Lib.hid (fun w => rword_any x w hx)
  have HY := Lib.hid (fun w => rword_any y w hy)
  clear hx
  cases hY : wordB y with
  | none =>
    have HY2 := HY.out
    rw [hY] at HY2
    replace HY := Lib.hid HY2
    clear HY2
    have e : two (fun a b => if 52 < b then none else some (a * 2 ^ b % 9007199254740992)) (wordB x) none = none := by cases wordB x <;> rfl
    rw [e]
    generalize hxv : (((wordB x).getD 0 : Nat) : Int) = xv at *
    generalize (wordB x).isSome = xb at *
    clear e hy hxv
    cases xb
    all_goals
      go_enter Try.func22, Try.ntmps22
      go_wp2_with fail
      refine (HX.out w).mono ?_
      rintro e w1 ⟨rfl, hb1⟩
      go_wp2_with fail
      refine (HY.out w1).mono ?_
      rintro e w2 ⟨rfl, hb2⟩
      have HB := Lib.hid (hb1.trans (hb2.mono hb1.size))
      clear hb1 hb2
      go_wp2_with fail
      go_ret2
      exact ⟨rfl, HB.out⟩
  | some b =>
    have hb := wordB_lt hY
    have HY2 := HY.out
    rw [hY] at HY2
    replace HY := Lib.hid HY2
    clear HY2
    have e3 : (some b).getD 0 = b := rfl
    rw [e3] at HY
    cases hX : wordB x with
    | none =>
      have HX2 := HX.out
      rw [hX] at HX2
      replace HX := Lib.hid HX2
      clear HX2
      by_cases hc : 52 < b
      · have hc1 : (52 : Int) < (b : Int) := by omega
        go_enter Try.func22, Try.ntmps22
        go_wp2_with fail
        refine (HX.out w).mono ?_
        rintro e w1 ⟨rfl, hb1⟩
        go_wp2_with fail
        refine (HY.out w1).mono ?_
        rintro e w2 ⟨rfl, hb2⟩
        have HB := Lib.hid (hb1.trans (hb2.mono hb1.size))
        clear hb1 hb2
        go_wp2_with fail
        go_ret2
        exact ⟨rfl, HB.out⟩
      · have hc1 : ¬ (52 : Int) < (b : Int) := by omega
        go_enter Try.func22, Try.ntmps22
        go_wp2_with fail
        refine (HX.out w).mono ?_
        rintro e w1 ⟨rfl, hb1⟩
        go_wp2_with fail
        refine (HY.out w1).mono ?_
        rintro e w2 ⟨rfl, hb2⟩
        have HB := Lib.hid (hb1.trans (hb2.mono hb1.size))
        clear hb1 hb2
        go_wp2_with fail
        go_ret2
        exact ⟨rfl, HB.out⟩
    | some a =>
      have ha := wordB_lt hX
      have HX2 := HX.out
      rw [hX] at HX2
      replace HX := Lib.hid HX2
      clear HX2
      have e2 : (some a).getD 0 = a := rfl
      rw [e2] at HX
      by_cases hc : 52 < b
      · have hc1 : (52 : Int) < (b : Int) := by omega
        have e : two (fun a b => if 52 < b then none else some (a * 2 ^ b % 9007199254740992)) (some a) (some b) = none := if_pos hc
        rw [e]
        clear e
        go_enter Try.func22, Try.ntmps22
        go_wp2_with fail
        refine (HX.out w).mono ?_
        rintro e w1 ⟨rfl, hb1⟩
        go_wp2_with fail
        refine (HY.out w1).mono ?_
        rintro e w2 ⟨rfl, hb2⟩
        have HB := Lib.hid (hb1.trans (hb2.mono hb1.size))
        clear hb1 hb2
        go_wp2_with fail
        go_ret2
        exact ⟨rfl, HB.out⟩
      · have hc1 : (b : Int) ≤ 52 := by omega
        have hlt : a * 2 ^ b % 9007199254740992 < 9007199254740992 := Nat.mod_lt _ (by decide)
        have h3 := floatOfInt_nat hlt
        have e : two (fun a b => if 52 < b then none else some (a * 2 ^ b % 9007199254740992)) (some a) (some b) = some (a * 2 ^ b % 9007199254740992) := if_neg hc
        rw [e]
        show Calls _ _ _ _ fun e w' => e = .returned (.tuple #[.float .f64 (natW (a * 2 ^ b % 9007199254740992)), .int .i64 0]) ∧ Below w.heap.size w w'
        have HA := Lib.hid ha
        clear e e2 hy hlt ha
        go_enter Try.func22, Try.ntmps22
        go_wp2_with fail
        refine (HX.out w).mono ?_
        rintro e w1 ⟨rfl, hb1⟩
        go_wp2_with fail
        refine (HY.out w1).mono ?_
        rintro e w2 ⟨rfl, hb2⟩
        have HB := Lib.hid (hb1.trans (hb2.mono hb1.size))
        clear hb1 hb2
        go_wp2_with fail
        go_loopw [8, 12] (fun v8 v12 wr => ∃ i : Nat, v12 = .int .i64 (i : Int) ∧ v8 = .int .i64 ((a * 2 ^ i % 9007199254740992 : Nat) : Int) ∧ i ≤ b ∧ Below w.heap.size w wr) (fun _ v12 _ => b - (intOf v12).toNat)
        case atStart => exact ⟨0, rfl, by rw [Nat.pow_zero, Nat.mul_one, Nat.mod_eq_of_lt HA.out], Nat.zero_le _, HB.out⟩
        case round =>
          obtain ⟨i, rfl, rfl, hi, hbw⟩ := hrel
          have HBW := Lib.hid hbw
          clear hbw
          by_cases hlt : i < b
          · have i1 : (i : Int) < (b : Int) := by omega
            have i0 : (0 : Int) ≤ (i : Int) := by omega
            obtain ⟨z, hz⟩ : ∃ z, z = a * 2 ^ i % 9007199254740992 := ⟨_, rfl⟩
            rw [← hz]
            have z1 : (z : Int) ≤ 9007199254740991 := by have := Nat.mod_lt (a * 2 ^ i) (show 0 < 9007199254740992 by decide); omega
            have z0 : (0 : Int) ≤ (z : Int) := by omega
            obtain ⟨z2, hz2⟩ : ∃ z2, z2 = 2 * z % 9007199254740992 := ⟨_, rfl⟩
            have f1 : (2 * (z : Int)).tmod 9007199254740992 = (z2 : Int) := by rw [hz2]; exact (Int.ofNat_tmod (2 * z) 9007199254740992).symm
            have f2 : (2 * (z : Int)) % 9007199254740992 = (z2 : Int) := by omega
            have HZ := Lib.hid (show z2 = a * 2 ^ (i + 1) % 9007199254740992 by rw [hz2, hz, Nat.pow_succ, Nat.mul_mod_mod]; congr 1; rw [Nat.mul_comm 2, Nat.mul_assoc])
            have HI := Lib.hid hlt
            clear hz hz2 hlt hi
            go_wp2_with fail
            refine ⟨⟨i + 1, by go_num, ?_, HI.out, HBW.out⟩, by have := HI.out; simp [intOf]; omega⟩
            rw [← HZ.out]
          · obtain rfl : i = b := by omega
            have i1 : ¬ (i : Int) < (i : Int) := by omega
            generalize hSz : a * 2 ^ i % 9007199254740992 = z at *
            generalize hcz : natW z = c at *
            have HC := Lib.hid (And.intro hSz hcz)
            clear hSz hcz
            go_wp2_with fail
            go_ret2
            rw [HC.out.1, HC.out.2]
            exact ⟨rfl, HBW.out⟩

set_option maxRecDepth 20000 in
set_option maxHeartbeats 4000000 in
theorem rbits5 (x y : Nat) (w : World) (hx : x < 18446744073709551616) (hy : y < 18446744073709551616) :
    Calls Try.prog 22 #[.int .i64 5, .float .f64 x, .float .f64 y] w fun e w' => e = .returned (.tuple #[.float .f64 (resF (two (fun a b => if 52 < b then none else some (a / 2 ^ b)) (wordB x) (wordB y))), .int .i64 (resE (two (fun a b => if 52 < b then none else some (a / 2 ^ b)) (wordB x) (wordB y)))]) ∧ Below w.heap.size w w' := by
  have HX := Lib.hid (fun w => rword_any x w hx)
  have HY := Lib.hid (fun w => rword_any y w hy)
  clear hx
  cases hY : wordB y with
  | none =>
    have HY2 := HY.out
    rw [hY] at HY2
    replace HY := Lib.hid HY2
    clear HY2
    have e : two (fun a b => if 52 < b then none else some (a / 2 ^ b)) (wordB x) none = none := by cases wordB x <;> rfl
    rw [e]
    generalize hxv : (((wordB x).getD 0 : Nat) : Int) = xv at *
    generalize (wordB x).isSome = xb at *
    clear e hy hxv
    cases xb
    all_goals
      go_enter Try.func22, Try.ntmps22
      go_wp2_with fail
      refine (HX.out w).mono ?_
      rintro e w1 ⟨rfl, hb1⟩
      go_wp2_with fail
      refine (HY.out w1).mono ?_
      rintro e w2 ⟨rfl, hb2⟩
      have HB := Lib.hid (hb1.trans (hb2.mono hb1.size))
      clear hb1 hb2
      go_wp2_with fail
      go_ret2
      exact ⟨rfl, HB.out⟩
  | some b =>
    have hb := wordB_lt hY
    have HY2 := HY.out
    rw [hY] at HY2
    replace HY := Lib.hid HY2
    clear HY2
    have e3 : (some b).getD 0 = b := rfl
    rw [e3] at HY
    cases hX : wordB x with
    | none =>
      have HX2 := HX.out
      rw [hX] at HX2
      replace HX := Lib.hid HX2
      clear HX2
      by_cases hc : 52 < b
      · have hc1 : (52 : Int) < (b : Int) := by omega
        go_enter Try.func22, Try.ntmps22
        go_wp2_with fail
        refine (HX.out w).mono ?_
        rintro e w1 ⟨rfl, hb1⟩
        go_wp2_with fail
        refine (HY.out w1).mono ?_
        rintro e w2 ⟨rfl, hb2⟩
        have HB := Lib.hid (hb1.trans (hb2.mono hb1.size))
        clear hb1 hb2
        go_wp2_with fail
        go_ret2
        exact ⟨rfl, HB.out⟩
      · have hc1 : ¬ (52 : Int) < (b : Int) := by omega
        go_enter Try.func22, Try.ntmps22
        go_wp2_with fail
        refine (HX.out w).mono ?_
        rintro e w1 ⟨rfl, hb1⟩
        go_wp2_with fail
        refine (HY.out w1).mono ?_
        rintro e w2 ⟨rfl, hb2⟩
        have HB := Lib.hid (hb1.trans (hb2.mono hb1.size))
        clear hb1 hb2
        go_wp2_with fail
        go_ret2
        exact ⟨rfl, HB.out⟩
    | some a =>
      have ha := wordB_lt hX
      have HX2 := HX.out
      rw [hX] at HX2
      replace HX := Lib.hid HX2
      clear HX2
      have e2 : (some a).getD 0 = a := rfl
      rw [e2] at HX
      by_cases hc : 52 < b
      · have hc1 : (52 : Int) < (b : Int) := by omega
        have e : two (fun a b => if 52 < b then none else some (a / 2 ^ b)) (some a) (some b) = none := if_pos hc
        rw [e]
        clear e
        go_enter Try.func22, Try.ntmps22
        go_wp2_with fail
        refine (HX.out w).mono ?_
        rintro e w1 ⟨rfl, hb1⟩
        go_wp2_with fail
        refine (HY.out w1).mono ?_
        rintro e w2 ⟨rfl, hb2⟩
        have HB := Lib.hid (hb1.trans (hb2.mono hb1.size))
        clear hb1 hb2
        go_wp2_with fail
        go_ret2
        exact ⟨rfl, HB.out⟩
      · have hc1 : (b : Int) ≤ 52 := by omega
        have hlt : a / 2 ^ b < 9007199254740992 := Nat.lt_of_le_of_lt (Nat.div_le_self _ _) ha
        have h3 := floatOfInt_nat hlt
        have e : two (fun a b => if 52 < b then none else some (a / 2 ^ b)) (some a) (some b) = some (a / 2 ^ b) := if_neg hc
        rw [e]
        show Calls _ _ _ _ fun e w' => e = .returned (.tuple #[.float .f64 (natW (a / 2 ^ b)), .int .i64 0]) ∧ Below w.heap.size w w'
        have HA := Lib.hid ha
        clear e e2 hy hlt ha
        go_enter Try.func22, Try.ntmps22
        go_wp2_with fail
        refine (HX.out w).mono ?_
        rintro e w1 ⟨rfl, hb1⟩
        go_wp2_with fail
        refine (HY.out w1).mono ?_
        rintro e w2 ⟨rfl, hb2⟩
        have HB := Lib.hid (hb1.trans (hb2.mono hb1.size))
        clear hb1 hb2
        go_wp2_with fail
        go_loopw [8, 13] (fun v8 v13 wr => ∃ i : Nat, v13 = .int .i64 (i : Int) ∧ v8 = .int .i64 ((a / 2 ^ i : Nat) : Int) ∧ i ≤ b ∧ Below w.heap.size w wr) (fun _ v13 _ => b - (intOf v13).toNat)
        case atStart => exact ⟨0, rfl, by rw [Nat.pow_zero, Nat.div_one], Nat.zero_le _, HB.out⟩
        case round =>
          obtain ⟨i, rfl, rfl, hi, hbw⟩ := hrel
          have HBW := Lib.hid hbw
          clear hbw
          by_cases hlt : i < b
          · have i1 : (i : Int) < (b : Int) := by omega
            have i0 : (0 : Int) ≤ (i : Int) := by omega
            obtain ⟨z, hz⟩ : ∃ z, z = a / 2 ^ i := ⟨_, rfl⟩
            rw [← hz]
            have z1 : (z : Int) ≤ 9007199254740991 := by have := Nat.div_le_self a (2 ^ i); have := HA.out; omega
            have z0 : (0 : Int) ≤ (z : Int) := by omega
            obtain ⟨z2, hz2⟩ : ∃ z2, z2 = z / 2 := ⟨_, rfl⟩
            have f1 : (z : Int).tdiv 2 = (z2 : Int) := by rw [hz2]; exact (Int.ofNat_tdiv z 2).symm
            have f2 : (z : Int) / 2 = (z2 : Int) := by omega
            have HZ := Lib.hid (show z2 = a / 2 ^ (i + 1) by rw [hz2, hz, Nat.pow_succ, Nat.div_div_eq_div_mul])
            have HI := Lib.hid hlt
            clear hz hz2 hlt hi
            go_wp2_with fail
            refine ⟨⟨i + 1, by go_num, ?_, HI.out, HBW.out⟩, by have := HI.out; simp [intOf]; omega⟩
            rw [← HZ.out]
          · obtain rfl : i = b := by omega
            have i1 : ¬ (i : Int) < (i : Int) := by omega
            generalize hSz : a / 2 ^ i = z at *
            generalize hcz : natW z = c at *
            have HC := Lib.hid (And.intro hSz hcz)
            clear hSz hcz
            go_wp2_with fail
            go_ret2
            rw [HC.out.1, HC.out.2]
            exact ⟨rfl, HBW.out⟩

set_option maxRecDepth 20000 in
set_option maxHeartbeats 4000000 in
theorem rbits6 (x y : Nat) (w : World) (hx : x < 18446744073709551616) (hy : y < 18446744073709551616) :
    Calls Try.prog 22 #[.int .i64 6, .float .f64 x, .float .f64 y] w fun e w' => e = .returned (.tuple #[.float .f64 (resF (two (fun a b => some (9007199254740991 - a)) (wordB x) (some 0))), .int .i64 (resE (two (fun a b => some (9007199254740991 - a)) (wordB x) (some 0)))]) ∧ Below w.heap.size w w' := by
  have HX := Lib.hid (fun w => rword_any x w hx)
  have HY := Lib.hid (fun w => rword_any y w hy)
  clear hx
  generalize (((wordB y).getD 0 : Nat) : Int) = yv at *
  generalize (wordB y).isSome = yb at *
  obtain ⟨b, hb0⟩ : ∃ b, b = 0 := ⟨_, rfl⟩
  have hb : b < 9007199254740992 := by omega
  cases hX : wordB x with
  | none =>
    have HX2 := HX.out
    rw [hX] at HX2
    replace HX := Lib.hid HX2
    clear HX2
    go_enter Try.func22, Try.ntmps22
    go_wp2_with fail
    refine (HX.out w).mono ?_
    rintro e w1 ⟨rfl, hb1⟩
    go_wp2_with fail
    refine (HY.out w1).mono ?_
    rintro e w2 ⟨rfl, hb2⟩
    have HB := Lib.hid (hb1.trans (hb2.mono hb1.size))
    clear hb1 hb2
    go_wp2_with fail
    go_ret2
    exact ⟨rfl, HB.out⟩
  | some a =>
    have ha := wordB_lt hX
    have HX2 := HX.out
    rw [hX] at HX2
    replace HX := Lib.hid HX2
    clear HX2
    have e2 : (some a).getD 0 = a := rfl
    rw [e2] at HX
    have hlt : 9007199254740991 - a < 9007199254740992 := by omega
    have h3 := floatOfInt_nat hlt
    show Calls _ _ _ _ fun e w' => e = .returned (.tuple #[.float .f64 (natW (9007199254740991 - a)), .int .i64 0]) ∧ Below w.heap.size w w'
    have hbit := fun j (hj : j < 53) => not_bit a j ha hj
    generalize hcv : natW (9007199254740991 - a) = c at *
    generalize hZ : 9007199254740991 - a = Z at *
    have HBIT := Lib.hid hbit
    have HL := Lib.hid (And.intro ha (And.intro hb hlt))
    clear hbit e2 hy hcv hZ ha hb hlt
    go_enter Try.func22, Try.ntmps22
    go_wp2_with fail
    refine (HX.out w).mono ?_
    rintro e w1 ⟨rfl, hb1⟩
    go_wp2_with fail
    refine (HY.out w1).mono ?_
    rintro e w2 ⟨rfl, hb2⟩
    have HB := Lib.hid (hb1.trans (hb2.mono hb1.size))
    clear hb1 hb2
    go_wp2_with fail
    go_loopw [14, 15] (fun v14 v15 wr => ∃ i : Nat, v15 = .int .i64 ((i : Int) - 1) ∧ v14 = .int .i64 ((Z / 2 ^ i : Nat) : Int) ∧ i ≤ 53 ∧ Below w.heap.size w wr) (fun _ v15 _ => (intOf v15 + 1).toNat)
    case atStart => exact ⟨53, rfl, by rw [Nat.div_eq_of_lt (by have := HL.out; omega)]; rfl, Nat.le_refl _, HB.out⟩
    case round =>
      obtain ⟨i, rfl, rfl, hi, hbw⟩ := hrel
      cases i with
      | zero =>
        have hi1 : (((0 : Nat) : Int) - 1) = -1 := by omega
        rw [hi1]
        rw [Nat.pow_zero, Nat.div_one]
        go_wp2_with fail
        go_ret2
        exact ⟨rfl, hbw⟩
      | succ j =>
        have hi1 : (((j + 1 : Nat) : Int) - 1) = (j : Int) := by omega
        rw [hi1]
        have hstep := half_step Z j
        rw [HBIT.out j (by omega)] at hstep
        have hPlt : 2 ^ j ≤ 2 ^ 52 := Nat.pow_le_pow_right (by omega) (by omega)
        have hP0 : 0 < 2 ^ j := Nat.two_pow_pos j
        have hcast : (2 : Int) ^ j = ((2 ^ j : Nat) : Int) := by simp
        have ht : Z / 2 ^ (j + 1) ≤ Z := Nat.div_le_self _ _
        have hJ := Lib.hid (show Z / 2 ^ j = Z / 2 ^ j from rfl)
        generalize Z / 2 ^ (j + 1) = t at *
        generalize hzj : Z / 2 ^ j = zj at *
        have hwr : IntKind.i64.wrap ((2 : Int) ^ j) = ((2 ^ j : Nat) : Int) := by rw [hcast, IntKind.wrap_i64]; omega
        generalize hPP : 2 ^ j = P at *
        have p1 : (a : Int).tdiv (P : Int) = ((a / P : Nat) : Int) := (Int.ofNat_tdiv a P).symm
        have p1' : (a : Int) / (P : Int) = ((a / P : Nat) : Int) := by simp
        have q1 : (0 : Int).tdiv (P : Int) = 0 := Int.zero_tdiv _
        have q1' : (0 : Int) / (P : Int) = 0 := Int.zero_ediv _
        have apl : a / P ≤ a := Nat.div_le_self _ _
        generalize a / P = ap at *
        have j1 : (0 : Int) ≤ (j : Int) := by omega
        have j2 : (j : Int) ≤ 52 := by omega
        have P1 : (0 : Int) < (P : Int) := by omega
        have P2 : (P : Int) ≤ 4503599627370496 := by omega
        obtain ⟨ha, hb, hlt⟩ := HL.out
        have t1 : (t : Int) ≤ 9007199254740992 := by omega
        have a1 : (ap : Int) ≤ 9007199254740992 := by omega
        have HJ := Lib.hid (And.intro hzj hPP)
        have HI := Lib.hid hi
        have HBW := Lib.hid hbw
        clear hJ hi ha hb hlt hPlt hP0 hcast ht apl hbw hi1 hzj hPP
        rcases Nat.mod_two_eq_zero_or_one ap with pp | pp
        all_goals
          rw [pp] at hstep
          have HST := Lib.hid hstep
          first
            | have p2 : (ap : Int).tmod 2 = 0 := by show (ap : Int).tmod ((2 : Nat) : Int) = 0; rw [← Int.ofNat_tmod, pp]; rfl
            | have p2 : (ap : Int).tmod 2 = 1 := by show (ap : Int).tmod ((2 : Nat) : Int) = 1; rw [← Int.ofNat_tmod, pp]; rfl
          first
            | have p3 : (ap : Int) % 2 = 0 := by omega
            | have p3 : (ap : Int) % 2 = 1 := by omega
          clear pp hstep
          go_wp2_with fail
          go_region
          go_wp2_with fail
          refine ⟨⟨j, rfl, ?_, by have := HI.out; omega, HBW.out.drew⟩, by simp [intOf] <;> omega⟩
          rw [HJ.out.2, HJ.out.1]
          have h := HST.out
          simp at h
          congr 1
          omega

end Go.Proofs.Ytbkfnmmfjpaifaa
