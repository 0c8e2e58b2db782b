/- 'What both have and what one of them has add up to both numbers, and the other bits of the other bits are the number': proved of every two ints. No condition. -/
import Derived.Test.YtbkfnmmfjpaifaaDiceW3
import Derived.ProofKit
import Derived.OpenShut
import Derived.ChangeOld
import Derived.Below
namespace Go.Proofs.Ytbkfnmmfjpaifaa
open Go.RowKit Flt
set_option linter.unusedVariables false

/-- The low 53 bits of an int. -/
def lo53 (a : Int) : Nat := (a % 9007199254740992).toNat
theorem lo53_lt (a : Int) : lo53 a < 9007199254740992 := by unfold lo53; omega
theorem i64_mask53 (a : Int) : bits .and .i64 a 9007199254740991 = (lo53 a : Int) := by
  show IntKind.i64.wrap ((BitVec.ofInt 64 a &&& BitVec.ofInt 64 9007199254740991).toNat : Int) = _
  rw [BitVec.toNat_and, show (BitVec.ofInt 64 9007199254740991).toNat = 9007199254740991 from by decide, nat_mask53, BitVec.toNat_ofInt]
  rw [IntKind.wrap_i64]
  unfold lo53
  omega

theorem run_fadd (a b : Nat) (h : a + b < 9007199254740992) (w : World) : (binOp .add 26 (.float .f64 (natW a)) (.float .f64 (natW b))).run Try.prog w = .ok (.float .f64 (natW (a + b))) w :=
  run_float_arith w .add _ .f64 _ _ _ (add_natW h)
theorem ord_eq {b q : Nat} (h : IsV b q) : (FloatKind.f64.format.order b b == some .eq) = true := by
  have : FloatKind.f64.format.order b b = some .eq := h.refl
  rw [this]; decide

set_option maxHeartbeats 400000 in
theorem logic_walk (a b : Int) (w : World) :
    Calls Try.prog 5 #[.int .i64 a, .int .i64 b] w fun r w' => r = .returned (.bool true) ∧ Below w.heap.size w w' := by
  have ma := i64_mask53 a
  have mb := i64_mask53 b
  have la := lo53_lt a
  have lb := lo53_lt b
  have fa := floatOfInt_nat la
  have fb := floatOfInt_nat lb
  generalize lo53 a = x at *
  generalize lo53 b = y at *
  obtain ⟨s1, s2⟩ := and_add_or (x + y) x y (Nat.le_refl _)
  have lp : x &&& y < 9007199254740992 := Nat.lt_of_le_of_lt Nat.and_le_left la
  have lq : x ||| y < 9007199254740992 := Nat.or_lt_two_pow (n := 53) la lb
  have cA := Lib.hid (fun w => and_yes x y w la lb)
  have cO := Lib.hid (fun w => or_yes x y w la lb)
  have cX := Lib.hid (fun w => xor_yes x y w la lb)
  have cN := Lib.hid (fun w => not_yes x w la)
  have cM := Lib.hid (fun w => not_yes (9007199254740991 - x) w (by omega))
  have e0 : 9007199254740991 - (9007199254740991 - x) = x := by omega
  rw [e0] at cM
  have hadd := fun w => run_fadd (x &&& y) (x ^^^ y) (by omega) w
  rw [s2] at hadd
  have o1 := ord_eq (isV_natW lq)
  have o2 := ord_eq (isV_natW la)
  have i1 := fun w => run_f_int _ lp w
  have i2 := fun w => run_f_int _ lq w
  have i3 := fun w => run_f_int _ la w
  have i4 := fun w => run_f_int _ lb w
  have hsum : (((x &&& y : Nat) : Int) + ((x ||| y : Nat) : Int) == (x : Int) + (y : Int)) = true := by rw [beq_iff_eq]; omega
  clear s1 s2 e0
  generalize x &&& y = p at *
  generalize x ||| y = q at *
  generalize x ^^^ y = r at *
  generalize 9007199254740991 - x = n at *
  generalize natW p = wp at *
  generalize natW q = wq at *
  generalize natW r = wr at *
  generalize natW n = wn at *
  generalize natW x = wx at *
  generalize natW y = wy at *
  go_enter Try.func5, Try.ntmps5
  go_wp2_with fail
  refine (fixed_any w).mono ?_
  rintro e w1 ⟨rfl, hb⟩
  go_wp2_with fail
  refine (cA.out _).mono ?_
  rintro e w2 ⟨rfl, rfl⟩
  go_wp2_with fail
  refine (cO.out _).mono ?_
  rintro e w2 ⟨rfl, rfl⟩
  go_wp2_with fail
  refine (cX.out _).mono ?_
  rintro e w2 ⟨rfl, rfl⟩
  go_wp2_with fail
  refine (cN.out _).mono ?_
  rintro e w2 ⟨rfl, rfl⟩
  go_wp2_with fail
  refine (cM.out _).mono ?_
  rintro e w2 ⟨rfl, rfl⟩
  go_wp2_with fail
  go_ret
  exact ⟨rfl, hb⟩

end Go.Proofs.Ytbkfnmmfjpaifaa
