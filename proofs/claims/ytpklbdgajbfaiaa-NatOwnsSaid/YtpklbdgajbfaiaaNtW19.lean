/- A long division, its plain law. -/
import Derived.Test.YtpklbdgajbfaiaaNtW18
namespace Go.Proofs.Ytpklbdgajbfaiaa
open Go.RowKit
set_option linter.unusedVariables false

/-- Digit d of a number. -/
theorem getD_div {l : List Nat} (hlo : Lo 4294967296 l) : ∀ d, l.getD d 0 = vb 4294967296 l / 4294967296 ^ d % 4294967296 := by
  induction l with
  | nil => intro d; simp [vb]
  | cons x l ih =>
    intro d
    have hx := hlo x (by simp)
    have hl : Lo 4294967296 l := fun y hy => hlo y (by simp [hy])
    cases d with
    | zero =>
      show x = (x + 4294967296 * vb 4294967296 l) / 4294967296 ^ 0 % 4294967296
      rw [Nat.pow_zero, Nat.div_one]; omega
    | succ d =>
      show l.getD d 0 = (x + 4294967296 * vb 4294967296 l) / 4294967296 ^ (d + 1) % 4294967296
      rw [ih hl d, Nat.pow_succ, Nat.mul_comm (4294967296 ^ d), ← Nat.div_div_eq_div_mul]
      congr 2
      omega
/-- One bit. -/
theorem bit_at {l : List Nat} (hlo : Lo 4294967296 l) (i : Nat) : l.getD (i / 32) 0 / 2 ^ (i % 32) % 2 = vb 4294967296 l / 2 ^ i % 2 := by
  rw [getD_div hlo]
  have e : (4294967296 : Nat) ^ (i / 32) * 2 ^ (i % 32) = 2 ^ i := by
    rw [show (4294967296 : Nat) = 2 ^ 32 from rfl, ← Nat.pow_mul, ← Nat.pow_add]
    congr 1; omega
  rw [← e, ← Nat.div_div_eq_div_mul]
  generalize vb 4294967296 l / 4294967296 ^ (i / 32) = v
  have hk : i % 32 < 32 := Nat.mod_lt _ (by omega)
  generalize i % 32 = k at *
  have h2 : (4294967296 : Nat) = 2 ^ k * (2 * 2 ^ (31 - k)) := by
    rw [← Nat.pow_succ', ← Nat.pow_add, show k + (31 - k).succ = 32 by omega]
  rw [h2, Nat.mod_mul_right_div_self, Nat.mod_mul_right_mod]
/-- A bit more of the dividend. -/
theorem more_bit (x i : Nat) : x / 2 ^ i = 2 * (x / 2 ^ (i + 1)) + x / 2 ^ i % 2 := by
  rw [Nat.pow_succ, ← Nat.div_div_eq_div_mul]; omega
/-- One round of the division. -/
theorem div_round (X y L Q b : Nat) (hy : 0 < y) (h : Q * y + L = X) (hL : L < y) (hb : b ≤ 1) :
    (2 * L + b < 2 * y) ∧ (¬ y ≤ 2 * L + b → (2 * Q) * y + (2 * L + b) = 2 * X + b) ∧ (y ≤ 2 * L + b → (2 * Q + 1) * y + (2 * L + b - y) = 2 * X + b ∧ 2 * L + b - y < y) := by
  have e : 2 * Q * y = 2 * (Q * y) := Nat.mul_assoc 2 Q y
  refine ⟨by omega, fun _ => by omega, fun h2 => ⟨?_, by omega⟩⟩
  rw [Nat.add_mul, Nat.one_mul, e]; omega
/-- One digit shifted in. -/
theorem shl_step (l p : List Nat) (k bit v c : Nat) (hk : k < p.length) (hv : vb 4294967296 (p.take k) + 4294967296 ^ k * bit = 2 * vb 4294967296 (l.take k) + c) (hd : v + 4294967296 * (l.getD k 0 / 2147483648) = 2 * l.getD k 0 + bit) :
    vb 4294967296 ((p.set k v).take (k + 1)) + 4294967296 ^ (k + 1) * (l.getD k 0 / 2147483648) = 2 * vb 4294967296 (l.take (k + 1)) + c := by
  rw [set_take p k _ hk, vb_snoc, List.length_take, Nat.min_eq_left (Nat.le_of_lt hk), vb_take, Nat.pow_succ]
  have e2 : 4294967296 ^ k * (v + 4294967296 * (l.getD k 0 / 2147483648)) = 4294967296 ^ k * (2 * l.getD k 0 + bit) := by rw [hd]
  rw [Nat.mul_add, Nat.mul_add, ← Nat.mul_assoc] at e2
  have e3 : 4294967296 ^ k * (2 * l.getD k 0) = 2 * (4294967296 ^ k * l.getD k 0) := Nat.mul_left_comm _ _ _
  omega

end Go.Proofs.Ytpklbdgajbfaiaa
