/- Plain facts on the dice: the next state, the state of a seed, and how the model spells them. No program in sight. -/
import Derived.Test.YtbkfnmmfjpaifaaFlt
import Derived.WalkKit
import Derived.WalkLawsBesides
namespace Go.Proofs.Ytbkfnmmfjpaifaa
open Go.RowKit
set_option linter.unusedVariables false

/-- The next state. -/
def nx (s : Nat) : Nat := (s * 25214903917 + 11) % 281474976710656
theorem nx_lt (s : Nat) : nx s < 281474976710656 := Nat.mod_lt _ (by decide)

theorem nat_mask48 (x : Nat) : x &&& 281474976710655 = x % 281474976710656 := Nat.and_two_pow_sub_one_eq_mod x 48
theorem nat_mask53 (x : Nat) : x &&& 9007199254740991 = x % 9007199254740992 := Nat.and_two_pow_sub_one_eq_mod x 53
theorem nat_mask52 (x : Nat) : x &&& 4503599627370495 = x % 4503599627370496 := Nat.and_two_pow_sub_one_eq_mod x 52

theorem nx_bits (s : Nat) : bits .and .u64 (IntKind.u64.wrap (IntKind.u64.wrap ((s : Int) * 25214903917) + 11)) 281474976710655 = (nx s : Int) := by
  have e1 : IntKind.u64.wrap (IntKind.u64.wrap ((s : Int) * 25214903917) + 11) = (((s * 25214903917 + 11) % 18446744073709551616 : Nat) : Int) := by
    rw [IntKind.wrap_u64, IntKind.wrap_u64]
    omega
  rw [e1]
  have := bits_and_u64_nat ((s * 25214903917 + 11) % 18446744073709551616) 281474976710655 (Nat.mod_lt _ (by decide)) (by decide)
  refine (this.trans ?_)
  rw [nat_mask48, nx]
  congr 1
  omega

/-- Is the word one of a NaN? -/
def nan (b : Nat) : Bool := FloatKind.f64.format.order b b != some .eq
/-- The state of a seed. -/
def seedOf (b : Nat) : Nat := if nan b = true then 0 else (b ^^^ b / 65536) % 281474976710656
theorem seedOf_lt (b : Nat) : seedOf b < 281474976710656 := by
  unfold seedOf; split
  · decide
  · exact Nat.mod_lt _ (by decide)

theorem seed_bits (b : Nat) (hb : b < 18446744073709551616) :
    bits .and .u64 (bits .xor .u64 (b : Int) ((b : Int) / 65536)) 281474976710655 = (((b ^^^ b / 65536) % 281474976710656 : Nat) : Int) := by
  rw [show ((b : Int) / 65536) = (b : Int) / ((65536 : Nat) : Int) from rfl, xorShift_u64 b 65536 hb]
  have hx : b ^^^ b / 65536 < 18446744073709551616 := Nat.xor_lt_two_pow (n := 64) hb (Nat.lt_of_le_of_lt (Nat.div_le_self _ _) hb)
  refine ((bits_and_u64_nat (b ^^^ b / 65536) 281474976710655 hx (by decide)).trans ?_)
  rw [nat_mask48]

theorem step_plain (s : Nat) (hs : s < 281474976710656) :
    ((s : Int) % 16777216 * 15525485 + (((s : Int) % 16777216 * 1502 + (s : Int) / 16777216 * 15525485) % 16777216) * 16777216 + 11) % 281474976710656 = (nx s : Int) := by
  unfold nx
  omega

end Go.Proofs.Ytbkfnmmfjpaifaa
