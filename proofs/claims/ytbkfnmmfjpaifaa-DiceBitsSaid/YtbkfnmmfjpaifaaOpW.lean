/- The dice's bits of any two numbers, walked. -/
import Derived.Test.YtbkfnmmfjpaifaaWrW
namespace Go.Proofs.Ytbkfnmmfjpaifaa
open Go.RowKit Flt
set_option linter.unusedVariables false
set_option linter.unusedSimpArgs false

def resF (o : Option Nat) : Nat := match o with | some n => natW n | none => 0
def resE (o : Option Nat) : Int := match o with | some _ => 0 | none => 1
/-- Two words put together. -/
def two (f : Nat → Nat → Option Nat) (x y : Option Nat) : Option Nat := match x, y with | some a, some b => f a b | _, _ => none

set_option maxHeartbeats 1000000 in
theorem and_all (x y : Nat) (w : World) (hx : x < 18446744073709551616) (hy : y < 18446744073709551616) :
    Calls Try.prog 16 #[.float .f64 x, .float .f64 y] w fun e w' => e = .returned (.tuple #[.float .f64 (resF (two (fun a b => some (a &&& b)) (wordB x) (wordB y))), .int .i64 (resE (two (fun a b => some (a &&& b)) (wordB x) (wordB y)))]) ∧ w = w' := by
  have HX := Lib.hid (pword_any x w hx)
  have HY := Lib.hid (pword_any y w hy)
  have ha := fun a (h : wordB x = some a) => wordB_lt h
  have hb := fun b (h : wordB y = some b) => wordB_lt h
  clear hx hy
  cases hX : wordB x with
  | none =>
    rw [hX] at HX
    have e : two (fun a b => some (a &&& b)) none (wordB y) = none := by cases wordB y <;> rfl
    rw [e]
    generalize (((wordB y).getD 0 : Nat) : Int) = yv at *
    generalize (wordB y).isSome = yb at *
    clear ha hb e
    go_enter Try.func16, Try.ntmps16
    go_wp2_with (go_at_call 24; go_in)
    refine HX.out.mono ?_
    rintro e w' ⟨rfl, rfl⟩
    go_wp2_with fail
    refine HY.out.mono ?_
    rintro e w' ⟨rfl, rfl⟩
    go_wp2
    go_ret2
    exact ⟨rfl, rfl⟩
  | some a =>
    have ha := ha a hX
    rw [hX] at HX
    cases hY : wordB y with
    | none =>
      rw [hY] at HY
      clear hb
      go_enter Try.func16, Try.ntmps16
      go_wp2_with (go_at_call 24; go_in)
      refine HX.out.mono ?_
      rintro e w' ⟨rfl, rfl⟩
      go_wp2_with fail
      refine HY.out.mono ?_
      rintro e w' ⟨rfl, rfl⟩
      go_wp2
      go_ret2
      exact ⟨rfl, rfl⟩
    | some b =>
      have hb := hb b hY
      rw [hY] at HY
      have hlt : a &&& b < 9007199254740992 := Nat.lt_of_le_of_lt Nat.and_le_left ha
      have h1 := bits_and_u64_nat a b (by omega) (by omega)
      have h2 := mask53 (a &&& b) (by omega)
      rw [Nat.mod_eq_of_lt hlt] at h2
      have h3 := floatOfInt_nat hlt
      have e : two (fun a b => some (a &&& b)) (some a) (some b) = some (a &&& b) := rfl
      rw [e]
      have e2 : (some a).getD 0 = a := rfl
      have e3 : (some b).getD 0 = b := rfl
      rw [e2] at HX
      rw [e3] at HY
      show Calls _ _ _ _ fun e w' => e = .returned (.tuple #[.float .f64 (natW (a &&& b)), .int .i64 0]) ∧ w = w'
      generalize natW (a &&& b) = c at *
      generalize a &&& b = r at *
      clear ha hb e e2 e3
      go_enter Try.func16, Try.ntmps16
      go_wp2_with (go_at_call 24; go_in)
      refine HX.out.mono ?_
      rintro e w' ⟨rfl, rfl⟩
      go_wp2_with fail
      refine HY.out.mono ?_
      rintro e w' ⟨rfl, rfl⟩
      go_wp2
      go_ret2
      exact ⟨rfl, rfl⟩

set_option maxHeartbeats 1000000 in
theorem or_all (x y : Nat) (w : World) (hx : x < 18446744073709551616) (hy : y < 18446744073709551616) :
    Calls Try.prog 17 #[.float .f64 x, .float .f64 y] w fun e w' => e = .returned (.tuple #[.float .f64 (resF (two (fun a b => some (a ||| b)) (wordB x) (wordB y))), .int .i64 (resE (two (fun a b => some (a ||| b)) (wordB x) (wordB y)))]) ∧ w = w' := by
  have HX := Lib.hid (pword_any x w hx)
  have HY := Lib.hid (pword_any y w hy)
  have ha := fun a (h : wordB x = some a) => wordB_lt h
  have hb := fun b (h : wordB y = some b) => wordB_lt h
  clear hx hy
  cases hX : wordB x with
  | none =>
    rw [hX] at HX
    have e : two (fun a b => some (a ||| b)) none (wordB y) = none := by cases wordB y <;> rfl
    rw [e]
    generalize (((wordB y).getD 0 : Nat) : Int) = yv at *
    generalize (wordB y).isSome = yb at *
    clear ha hb e
    go_enter Try.func17, Try.ntmps17
    go_wp2_with (go_at_call 24; go_in)
    refine HX.out.mono ?_
    rintro e w' ⟨rfl, rfl⟩
    go_wp2_with fail
    refine HY.out.mono ?_
    rintro e w' ⟨rfl, rfl⟩
    go_wp2
    go_ret2
    exact ⟨rfl, rfl⟩
  | some a =>
    have ha := ha a hX
    rw [hX] at HX
    cases hY : wordB y with
    | none =>
      rw [hY] at HY
      clear hb
      go_enter Try.func17, Try.ntmps17
      go_wp2_with (go_at_call 24; go_in)
      refine HX.out.mono ?_
      rintro e w' ⟨rfl, rfl⟩
      go_wp2_with fail
      refine HY.out.mono ?_
      rintro e w' ⟨rfl, rfl⟩
      go_wp2
      go_ret2
      exact ⟨rfl, rfl⟩
    | some b =>
      have hb := hb b hY
      rw [hY] at HY
      have hlt : a ||| b < 9007199254740992 := Nat.or_lt_two_pow (n := 53) ha hb
      have h1 := bits_or_u64_nat a b (by omega) (by omega)
      have h2 := mask53 (a ||| b) (by omega)
      rw [Nat.mod_eq_of_lt hlt] at h2
      have h3 := floatOfInt_nat hlt
      have e : two (fun a b => some (a ||| b)) (some a) (some b) = some (a ||| b) := rfl
      rw [e]
      have e2 : (some a).getD 0 = a := rfl
      have e3 : (some b).getD 0 = b := rfl
      rw [e2] at HX
      rw [e3] at HY
      show Calls _ _ _ _ fun e w' => e = .returned (.tuple #[.float .f64 (natW (a ||| b)), .int .i64 0]) ∧ w = w'
      generalize natW (a ||| b) = c at *
      generalize a ||| b = r at *
      clear ha hb e e2 e3
      go_enter Try.func17, Try.ntmps17
      go_wp2_with (go_at_call 24; go_in)
      refine HX.out.mono ?_
      rintro e w' ⟨rfl, rfl⟩
      go_wp2_with fail
      refine HY.out.mono ?_
      rintro e w' ⟨rfl, rfl⟩
      go_wp2
      go_ret2
      exact ⟨rfl, rfl⟩

set_option maxHeartbeats 1000000 in
theorem xor_all (x y : Nat) (w : World) (hx : x < 18446744073709551616) (hy : y < 18446744073709551616) :
    Calls Try.prog 18 #[.float .f64 x, .float .f64 y] w fun e w' => e = .returned (.tuple #[.float .f64 (resF (two (fun a b => some (a ^^^ b)) (wordB x) (wordB y))), .int .i64 (resE (two (fun a b => some (a ^^^ b)) (wordB x) (wordB y)))]) ∧ w = w' := by
  have HX := Lib.hid (pword_any x w hx)
  have HY := Lib.hid (pword_any y w hy)
  have ha := fun a (h : wordB x = some a) => wordB_lt h
  have hb := fun b (h : wordB y = some b) => wordB_lt h
  clear hx hy
  cases hX : wordB x with
  | none =>
    rw [hX] at HX
    have e : two (fun a b => some (a ^^^ b)) none (wordB y) = none := by cases wordB y <;> rfl
    rw [e]
    generalize (((wordB y).getD 0 : Nat) : Int) = yv at *
    generalize (wordB y).isSome = yb at *
    clear ha hb e
    go_enter Try.func18, Try.ntmps18
    go_wp2_with (go_at_call 24; go_in)
    refine HX.out.mono ?_
    rintro e w' ⟨rfl, rfl⟩
    go_wp2_with fail
    refine HY.out.mono ?_
    rintro e w' ⟨rfl, rfl⟩
    go_wp2
    go_ret2
    exact ⟨rfl, rfl⟩
  | some a =>
    have ha := ha a hX
    rw [hX] at HX
    cases hY : wordB y with
    | none =>
      rw [hY] at HY
      clear hb
      go_enter Try.func18, Try.ntmps18
      go_wp2_with (go_at_call 24; go_in)
      refine HX.out.mono ?_
      rintro e w' ⟨rfl, rfl⟩
      go_wp2_with fail
      refine HY.out.mono ?_
      rintro e w' ⟨rfl, rfl⟩
      go_wp2
      go_ret2
      exact ⟨rfl, rfl⟩
    | some b =>
      have hb := hb b hY
      rw [hY] at HY
      have hlt : a ^^^ b < 9007199254740992 := Nat.xor_lt_two_pow (n := 53) ha hb
      have h1 := bits_xor_u64_nat a b (by omega) (by omega)
      have h2 := mask53 (a ^^^ b) (by omega)
      rw [Nat.mod_eq_of_lt hlt] at h2
      have h3 := floatOfInt_nat hlt
      have e : two (fun a b => some (a ^^^ b)) (some a) (some b) = some (a ^^^ b) := rfl
      rw [e]
      have e2 : (some a).getD 0 = a := rfl
      have e3 : (some b).getD 0 = b := rfl
      rw [e2] at HX
      rw [e3] at HY
      show Calls _ _ _ _ fun e w' => e = .returned (.tuple #[.float .f64 (natW (a ^^^ b)), .int .i64 0]) ∧ w = w'
      generalize natW (a ^^^ b) = c at *
      generalize a ^^^ b = r at *
      clear ha hb e e2 e3
      go_enter Try.func18, Try.ntmps18
      go_wp2_with (go_at_call 24; go_in)
      refine HX.out.mono ?_
      rintro e w' ⟨rfl, rfl⟩
      go_wp2_with fail
      refine HY.out.mono ?_
      rintro e w' ⟨rfl, rfl⟩
      go_wp2
      go_ret2
      exact ⟨rfl, rfl⟩

end Go.Proofs.Ytbkfnmmfjpaifaa
