/- Not, Left and Right of any two numbers, walked. -/
import Derived.Test.YtbkfnmmfjpaifaaOpW
namespace Go.Proofs.Ytbkfnmmfjpaifaa
open Go.RowKit Flt
set_option linter.unusedVariables false
set_option linter.unusedSimpArgs false

theorem natW_inj0 : natW 0 = 0 := rfl
theorem wordB_zero : wordB 0 = some 0 := by decide +kernel
set_option maxHeartbeats 1000000 in
theorem not_all (x : Nat) (w : World) (hx : x < 18446744073709551616) :
    Calls Try.prog 19 #[.float .f64 x] w fun e w' => e = .returned (.tuple #[.float .f64 (resF (two (fun a b => some (9007199254740991 - a)) (wordB x) (some 0))), .int .i64 (resE (two (fun a b => some (9007199254740991 - a)) (wordB x) (some 0)))]) ∧ w = w' := by
  have HX := Lib.hid (pword_any x w hx)
  have hY := pword_any 0 w (by omega)
  rw [wordB_zero] at hY
  have HY := Lib.hid hY
  clear hY
  cases hX : wordB x with
  | none =>
    rw [hX] at HX
    go_enter Try.func19, Try.ntmps19
    go_wp2_with (go_at_call 24; go_in)
    refine HX.out.mono ?_
    rintro e w' ⟨rfl, rfl⟩
    go_wp2_with fail
    refine HY.out.mono ?_
    rintro e w' ⟨rfl, rfl⟩
    go_wp2
    go_ret2
    exact ⟨rfl, rfl⟩
  | some a =>
    have ha := wordB_lt hX
    rw [hX] at HX
    have h3 := floatOfInt_nat (n := 9007199254740991 - a) (by omega)
    have h4 := not_bits a ha
    have e : two (fun a b => some (9007199254740991 - a)) (some a) (some 0) = some (9007199254740991 - a) := rfl
    rw [e]
    have e2 : (some a).getD 0 = a := rfl
    rw [e2] at HX
    show Calls _ _ _ _ fun e w' => e = .returned (.tuple #[.float .f64 (natW (9007199254740991 - a)), .int .i64 0]) ∧ w = w'
    generalize natW (9007199254740991 - a) = z at *
    generalize 9007199254740991 - a = q at *
    clear e e2
    go_enter Try.func19, Try.ntmps19
    go_wp2_with (go_at_call 24; go_in)
    refine HX.out.mono ?_
    rintro e w' ⟨rfl, rfl⟩
    go_wp2_with fail
    refine HY.out.mono ?_
    rintro e w' ⟨rfl, rfl⟩
    go_wp2
    go_ret2
    exact ⟨rfl, rfl⟩
/-- Is it above 52? -/
def gt52 (y : Nat) : Bool := FloatKind.f64.format.order y 4632515166703976448 == some .gt
theorem gt52_word {y k : Nat} (h : wordB y = some k) : gt52 y = decide (52 < k) := by
  have h52 : (4632515166703976448 : Nat) = natW 52 := by decide +kernel
  have hk := wordB_lt h
  unfold wordB at h
  by_cases e0 : y = 9223372036854775808
  · rw [if_pos e0] at h
    cases h
    subst e0
    decide +kernel
  · rw [if_neg e0] at h
    by_cases e1 : y < 4845873199050653696
    · rw [if_pos e1] at h
      by_cases e2 : natW (tN y) = y
      · rw [if_pos e2] at h
        cases h
        unfold gt52
        have : FloatKind.f64.format.order y 4632515166703976448 = some (compare (tN y * p2 1074) (52 * p2 1074)) := by
          rw [h52]
          have := (isV_natW hk).order (isV_natW (n := 52) (by omega))
          rw [e2] at this
          exact this
        rw [this, compare_scale _ _ _ (p2_pos _)]
        by_cases hc : 52 < tN y
        · rw [Nat.compare_eq_gt.2 hc, decide_eq_true hc]; rfl
        · rw [decide_eq_false hc]
          have : compare (tN y) 52 ≠ .gt := fun q => hc (Nat.compare_eq_gt.1 q)
          revert this
          cases compare (tN y) 52 <;> simp
      · rw [if_neg e2] at h; cases h
    · rw [if_neg e1] at h; cases h

set_option maxHeartbeats 1000000 in
theorem left_all (x y : Nat) (w : World) (hx : x < 18446744073709551616) (hy : y < 18446744073709551616) :
    Calls Try.prog 20 #[.float .f64 x, .float .f64 y] w fun e w' => e = .returned (.tuple #[.float .f64 (resF (two (fun a b => if 52 < b then none else some (a * 2 ^ b % 9007199254740992)) (wordB x) (wordB y))), .int .i64 (resE (two (fun a b => if 52 < b then none else some (a * 2 ^ b % 9007199254740992)) (wordB x) (wordB y)))]) ∧ w = w' := by
  have HX := Lib.hid (pword_any x w hx)
  have HY := Lib.hid (pword_any y w hy)
  have hgt : (FloatKind.f64.format.order y 4632515166703976448 == some .gt) = gt52 y := rfl
  cases hY : wordB y with
  | none =>
    rw [hY] at HY
    have e : two (fun a b => if 52 < b then none else some (a * 2 ^ b % 9007199254740992)) (wordB x) none = none := by cases wordB x <;> rfl
    rw [e]
    generalize (((wordB x).getD 0 : Nat) : Int) = xv at *
    generalize (wordB x).isSome = xb at *
    cases hg : gt52 y
    · rw [hg] at hgt
      clear hx hy e hg
      cases xb
      all_goals
        go_enter Try.func20, Try.ntmps20
        go_wp2_with (go_at_call 24; go_in)
        refine HX.out.mono ?_
        rintro e w' ⟨rfl, rfl⟩
        go_wp2_with fail
        refine HY.out.mono ?_
        rintro e w' ⟨rfl, rfl⟩
        go_wp2
        go_ret2
        exact ⟨rfl, rfl⟩
    · rw [hg] at hgt
      clear hx hy e hg
      go_enter Try.func20, Try.ntmps20
      go_wp2_with fail
      go_ret2
      exact ⟨rfl, rfl⟩
  | some b =>
    have hb := wordB_lt hY
    rw [gt52_word hY] at hgt
    rw [hY] at HY
    have e3 : (some b).getD 0 = b := rfl
    rw [e3] at HY
    by_cases hc : 52 < b
    · rw [decide_eq_true hc] at hgt
      have e : two (fun a b => if 52 < b then none else some (a * 2 ^ b % 9007199254740992)) (wordB x) (some b) = none := by
        cases wordB x with
        | none => rfl
        | some a => exact if_pos hc
      rw [e]
      clear hx hy e
      go_enter Try.func20, Try.ntmps20
      go_wp2_with fail
      go_ret2
      exact ⟨rfl, rfl⟩
    · rw [decide_eq_false hc] at hgt
      cases hX : wordB x with
      | none =>
        rw [hX] at HX
        have e : two (fun a b => if 52 < b then none else some (a * 2 ^ b % 9007199254740992)) none (some b) = none := rfl
        rw [e]
        clear hx hy e
        go_enter Try.func20, Try.ntmps20
        go_wp2_with (go_at_call 24; go_in)
        refine HX.out.mono ?_
        rintro e w' ⟨rfl, rfl⟩
        go_wp2_with fail
        refine HY.out.mono ?_
        rintro e w' ⟨rfl, rfl⟩
        go_wp2
        go_ret2
        exact ⟨rfl, rfl⟩
      | some a =>
        have ha := wordB_lt hX
        rw [hX] at HX
        have e2 : (some a).getD 0 = a := rfl
        rw [e2] at HX
        have hlt : a * 2 ^ b % 9007199254740992 < 9007199254740992 := Nat.mod_lt _ (by decide)
        have h3 := floatOfInt_nat hlt
        have e : two (fun a b => if 52 < b then none else some (a * 2 ^ b % 9007199254740992)) (some a) (some b) = some (a * 2 ^ b % 9007199254740992) := if_neg hc
        rw [e]
        show Calls _ _ _ _ fun e w' => e = .returned (.tuple #[.float .f64 (natW (a * 2 ^ b % 9007199254740992)), .int .i64 0]) ∧ w = w'
        have hb52 : (b : Int) ≤ 52 := by omega
        have hs : bits .and .u64 (IntKind.u64.wrap ((a : Int) * 2 ^ b)) 9007199254740991 = ((a * 2 ^ b % 9007199254740992 : Nat) : Int) := by
          rw [IntKind.wrap_u64]
          have e : ((a : Int) * 2 ^ b) % 18446744073709551616 = ((a * 2 ^ b % 18446744073709551616 : Nat) : Int) := by
            have e1 : (a : Int) * 2 ^ b = ((a * 2 ^ b : Nat) : Int) := by simp
            rw [e1]
            generalize a * 2 ^ b = z
            omega
          rw [e, mask53 _ (Nat.mod_lt _ (by decide))]
          congr 1
          rw [Nat.mod_mod_of_dvd _ (by decide)]
        generalize natW (a * 2 ^ b % 9007199254740992) = c at *
        generalize a * 2 ^ b % 9007199254740992 = r at *
        clear hx hy e e2 e3
        go_enter Try.func20, Try.ntmps20
        go_wp2_with (go_at_call 24; go_in)
        refine HX.out.mono ?_
        rintro e w' ⟨rfl, rfl⟩
        go_wp2_with fail
        refine HY.out.mono ?_
        rintro e w' ⟨rfl, rfl⟩
        go_wp2
        go_ret2
        exact ⟨rfl, rfl⟩

set_option maxHeartbeats 1000000 in
theorem right_all (x y : Nat) (w : World) (hx : x < 18446744073709551616) (hy : y < 18446744073709551616) :
    Calls Try.prog 21 #[.float .f64 x, .float .f64 y] w fun e w' => e = .returned (.tuple #[.float .f64 (resF (two (fun a b => if 52 < b then none else some (a / 2 ^ b)) (wordB x) (wordB y))), .int .i64 (resE (two (fun a b => if 52 < b then none else some (a / 2 ^ b)) (wordB x) (wordB y)))]) ∧ w = w' := by
  have HX := Lib.hid (pword_any x w hx)
  have HY := Lib.hid (pword_any y w hy)
  have hgt : (FloatKind.f64.format.order y 4632515166703976448 == some .gt) = gt52 y := rfl
  cases hY : wordB y with
  | none =>
    rw [hY] at HY
    have e : two (fun a b => if 52 < b then none else some (a / 2 ^ b)) (wordB x) none = none := by cases wordB x <;> rfl
    rw [e]
    generalize (((wordB x).getD 0 : Nat) : Int) = xv at *
    generalize (wordB x).isSome = xb at *
    cases hg : gt52 y
    · rw [hg] at hgt
      clear hx hy e hg
      cases xb
      all_goals
        go_enter Try.func21, Try.ntmps21
        go_wp2_with (go_at_call 24; go_in)
        refine HX.out.mono ?_
        rintro e w' ⟨rfl, rfl⟩
        go_wp2_with fail
        refine HY.out.mono ?_
        rintro e w' ⟨rfl, rfl⟩
        go_wp2
        go_ret2
        exact ⟨rfl, rfl⟩
    · rw [hg] at hgt
      clear hx hy e hg
      go_enter Try.func21, Try.ntmps21
      go_wp2_with fail
      go_ret2
      exact ⟨rfl, rfl⟩
  | some b =>
    have hb := wordB_lt hY
    rw [gt52_word hY] at hgt
    rw [hY] at HY
    have e3 : (some b).getD 0 = b := rfl
    rw [e3] at HY
    by_cases hc : 52 < b
    · rw [decide_eq_true hc] at hgt
      have e : two (fun a b => if 52 < b then none else some (a / 2 ^ b)) (wordB x) (some b) = none := by
        cases wordB x with
        | none => rfl
        | some a => exact if_pos hc
      rw [e]
      clear hx hy e
      go_enter Try.func21, Try.ntmps21
      go_wp2_with fail
      go_ret2
      exact ⟨rfl, rfl⟩
    · rw [decide_eq_false hc] at hgt
      cases hX : wordB x with
      | none =>
        rw [hX] at HX
        have e : two (fun a b => if 52 < b then none else some (a / 2 ^ b)) none (some b) = none := rfl
        rw [e]
        clear hx hy e
        go_enter Try.func21, Try.ntmps21
        go_wp2_with (go_at_call 24; go_in)
        refine HX.out.mono ?_
        rintro e w' ⟨rfl, rfl⟩
        go_wp2_with fail
        refine HY.out.mono ?_
        rintro e w' ⟨rfl, rfl⟩
        go_wp2
        go_ret2
        exact ⟨rfl, rfl⟩
      | some a =>
        have ha := wordB_lt hX
        rw [hX] at HX
        have e2 : (some a).getD 0 = a := rfl
        rw [e2] at HX
        have hlt : a / 2 ^ b < 9007199254740992 := Nat.lt_of_le_of_lt (Nat.div_le_self _ _) ha
        have h3 := floatOfInt_nat hlt
        have e : two (fun a b => if 52 < b then none else some (a / 2 ^ b)) (some a) (some b) = some (a / 2 ^ b) := if_neg hc
        rw [e]
        show Calls _ _ _ _ fun e w' => e = .returned (.tuple #[.float .f64 (natW (a / 2 ^ b)), .int .i64 0]) ∧ w = w'
        have hb52 : (b : Int) ≤ 52 := by omega
        have hs : bits .and .u64 ((a : Int) / 2 ^ b) 9007199254740991 = ((a / 2 ^ b : Nat) : Int) := by
          have e : (a : Int) / 2 ^ b = ((a / 2 ^ b : Nat) : Int) := by push_cast; rfl
          rw [e, mask53 _ (by omega), Nat.mod_eq_of_lt hlt]
        generalize natW (a / 2 ^ b) = c at *
        generalize a / 2 ^ b = r at *
        clear hx hy e e2 e3
        go_enter Try.func21, Try.ntmps21
        go_wp2_with (go_at_call 24; go_in)
        refine HX.out.mono ?_
        rintro e w' ⟨rfl, rfl⟩
        go_wp2_with fail
        refine HY.out.mono ?_
        rintro e w' ⟨rfl, rfl⟩
        go_wp2
        go_ret2
        exact ⟨rfl, rfl⟩

end Go.Proofs.Ytbkfnmmfjpaifaa
