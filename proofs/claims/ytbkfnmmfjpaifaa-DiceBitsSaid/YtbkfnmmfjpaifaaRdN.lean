/- What Read gives for a whole number below 2^53: its own float. Plain. -/
import Derived.Test.YtbkfnmmfjpaifaaBnS
import Derived.Test.YtbkfnmmfjpaifaaFlt
namespace Go.Proofs.Ytbkfnmmfjpaifaa
open Flt
set_option linter.unusedVariables false

theorem srch_law (p : Nat → Bool) : ∀ (n lo hi r : Nat), hi - lo ≤ n → lo ≤ r → r ≤ hi → (∀ b, lo ≤ b → b < r → p b = true) → (∀ b, r ≤ b → b < hi → p b = false) → srch p lo hi = r := by
  intro n
  induction n with
  | zero =>
    intro lo hi r h1 h2 h3 _ _
    obtain rfl : lo = hi := by omega
    obtain rfl : lo = r := by omega
    exact srch_end p lo
  | succ n ih =>
    intro lo hi r h1 h2 h3 ht hf
    by_cases hlt : lo < hi
    · by_cases hm : (lo + hi) / 2 < r
      · rw [srch_up hlt rfl (ht _ (by omega) hm)]
        exact ih _ _ _ (by omega) (by omega) h3 (fun b hb => ht b (by omega)) hf
      · rw [srch_dn hlt rfl (hf _ (by omega) (by omega))]
        exact ih _ _ _ (by omega) h2 (by omega) ht (fun b hb hb2 => hf b hb (by omega))
    · obtain rfl : lo = hi := by omega
      obtain rfl : lo = r := by omega
      exact srch_end p lo
/-- The least step behind these bits, and their value: in units of the least double. -/
def uB (b : Nat) : Nat := p2 (pE b + 1074).toNat
def vB (b : Nat) : Nat := pM b * uB b
theorem vB_succ {b : Nat} (h : b + 1 < 9218868437227405312) : vB (b + 1) = vB b + uB b := by
  obtain ⟨q, hq⟩ : ∃ q, q = b / 4503599627370496 := ⟨_, rfl⟩
  obtain ⟨t, ht⟩ : ∃ t, t = b % 4503599627370496 := ⟨_, rfl⟩
  have hb : b % 9223372036854775808 = b := Nat.mod_eq_of_lt (by omega)
  have hb1 : (b + 1) % 9223372036854775808 = b + 1 := Nat.mod_eq_of_lt (by omega)
  unfold vB uB pM pE
  rw [hb, hb1, ← hq, ← ht]
  by_cases hc : t + 1 < 4503599627370496
  · have e1 : (b + 1) / 4503599627370496 = q := by omega
    have e2 : (b + 1) % 4503599627370496 = t + 1 := by omega
    rw [e1, e2]
    by_cases h0 : q = 0
    · simp only [if_pos h0]; rw [Nat.add_mul, Nat.one_mul]
    · simp only [if_neg h0]
      rw [show t + 1 + 4503599627370496 = (t + 4503599627370496) + 1 by omega, Nat.add_mul, Nat.one_mul]
  · have e1 : (b + 1) / 4503599627370496 = q + 1 := by omega
    have e2 : (b + 1) % 4503599627370496 = 0 := by omega
    rw [e1, e2, if_neg (Nat.succ_ne_zero q), if_neg (Nat.succ_ne_zero q)]
    by_cases h0 : q = 0
    · subst h0
      simp only [if_pos]
      have : t + 1 = 4503599627370496 := by omega
      rw [show ((((0 + 1 : Nat) : Int) - 1075 + 1074).toNat) = 0 by omega, show ((-1074 : Int) + 1074).toNat = 0 by omega]
      simp only [p2]
      omega
    · simp only [if_neg h0]
      rw [show ((((q + 1 : Nat) : Int) - 1075 + 1074).toNat) = (((q : Nat) : Int) - 1075 + 1074).toNat + 1 by omega]
      have ht1 : t = 4503599627370495 := by omega
      subst ht1
      generalize (((q : Nat) : Int) - 1075 + 1074).toNat = k
      rw [p2_add k 1]
      have : p2 1 = 2 := rfl
      rw [this]
      generalize p2 k = z
      omega
theorem vB_mono {a b : Nat} (hab : a ≤ b) (hb : b < 9218868437227405312) : vB a ≤ vB b := by
  induction b with
  | zero => obtain rfl : a = 0 := by omega
            exact Nat.le_refl _
  | succ b ih =>
    by_cases h : a = b + 1
    · subst h; exact Nat.le_refl _
    · rw [vB_succ hb]
      exact Nat.le_trans (ih (by omega) (by omega)) (Nat.le_add_right _ _)
/-- Left and right, scaled alike. -/
theorem lr_scale (N b : Nat) (hb : b < 9218868437227405312) : ∃ c, 0 < c ∧ leftN N 0 b * c = N * p2 1075 ∧ rightN 0 b * c = 2 * vB b + uB b := by
  have hE := pE_in (b := b) (by omega)
  unfold leftN rightN vB uB
  generalize pM b = m
  generalize pE b = x at *
  simp only [Int.toNat_zero, Int.neg_zero, Nat.pow_zero, Nat.one_mul]
  by_cases h : 1 ≤ x
  · refine ⟨p2 1075, p2_pos _, ?_, ?_⟩
    · rw [show (1 - x).toNat = 0 by omega, Nat.pow_zero, Nat.mul_one]
    · have : 2 ^ (x - 1).toNat * p2 1075 = p2 (x + 1074).toNat := by
        rw [show (x + 1074).toNat = (x - 1).toNat + 1075 by omega, p2_add]; rfl
      rw [Nat.mul_assoc, this]
      generalize p2 (x + 1074).toNat = z
      rw [Nat.add_mul, Nat.one_mul, Nat.mul_comm m 2, Nat.mul_assoc]
  · refine ⟨p2 (x + 1074).toNat, p2_pos _, ?_, ?_⟩
    · rw [Nat.mul_assoc]
      have : 2 ^ (1 - x).toNat * p2 (x + 1074).toNat = p2 1075 := by
        rw [show (1075 : Nat) = (1 - x).toNat + (x + 1074).toNat by omega, p2_add]; rfl
      rw [this]
    · rw [show (x - 1).toNat = 0 by omega, Nat.pow_zero, Nat.mul_one]
      generalize p2 (x + 1074).toNat = z
      rw [Nat.add_mul, Nat.one_mul, Nat.mul_comm m 2, Nat.mul_assoc]
theorem pM_wordOf {m : Nat} {e : Int} (h : Canon m e) : pM (wordOf m e) = m ∧ pE (wordOf m e) = e := by
  obtain ⟨h1, h2, h3, h4⟩ := h
  obtain ⟨k, hk⟩ : ∃ k : Nat, e = (k : Int) - 1074 := ⟨(e + 1074).toNat, by omega⟩
  subst hk
  have hw : wordOf m ((k : Int) - 1074) = k * 4503599627370496 + m := by
    unfold wordOf
    rw [show ((k : Int) - 1074 + 1074).toNat = k from by omega]
  have hk2 : k ≤ 2045 := by omega
  unfold pM pE
  rw [hw]
  have e0 : (k * 4503599627370496 + m) % 9223372036854775808 = k * 4503599627370496 + m := by omega
  rw [e0]
  by_cases hs : m < 4503599627370496
  · have : k = 0 := by omega
    subst this
    rw [if_pos (by omega), if_pos (by omega)]
    omega
  · rw [if_neg (by omega), if_neg (by omega)]
    omega
theorem vB_natW {n : Nat} (h : n < 9007199254740992) : natW n < 9218868437227405312 ∧ vB (natW n) = n * p2 1074 := by
  obtain ⟨m, e, hc, h1, h2⟩ := isV_natW h
  rw [h1]
  unfold vB uB
  rw [(pM_wordOf hc).1, (pM_wordOf hc).2]
  refine ⟨?_, h2⟩
  obtain ⟨a, b, c, d⟩ := hc
  unfold wordOf
  omega
theorem uB_pos (b : Nat) : 0 < uB b := p2_pos _
/-- A whole number below 2^53 is read as its own float. -/
theorem readF_nat {n : Nat} (h : n < 9007199254740992) : readF n 0 = natW n := by
  unfold readF
  by_cases h0 : n = 0
  · rw [if_pos h0, h0]; rfl
  · rw [if_neg h0]
    obtain ⟨hi, hv⟩ := vB_natW h
    have e2 : p2 1075 = p2 1074 * 2 := by rw [show (1075 : Nat) = 1074 + 1 from rfl, p2_add, show p2 1 = 2 from rfl]
    have hup : ∀ b, natW n ≤ b → b < 9218868437227405312 → leftN n 0 b < rightN 0 b := fun b h1 h2 => by
      obtain ⟨c, hc, hl, hr⟩ := lr_scale n b h2
      have hm := vB_mono h1 h2
      have hu := uB_pos b
      refine Nat.lt_of_mul_lt_mul_right (a := c) ?_
      rw [hl, hr, e2, ← Nat.mul_assoc, ← hv]
      omega
    have hdn : ∀ b, b < natW n → rightN 0 b < leftN n 0 b := fun b h1 => by
      obtain ⟨c, hc, hl, hr⟩ := lr_scale n b (by omega)
      have hm := vB_mono (a := b + 1) (b := natW n) h1 hi
      rw [vB_succ (by omega)] at hm
      have hu := uB_pos b
      refine Nat.lt_of_mul_lt_mul_right (a := c) ?_
      rw [hl, hr, e2, ← Nat.mul_assoc, ← hv]
      omega
    have hs : readS n 0 = natW n := by
      unfold readS
      refine srch_law _ _ 0 _ _ (Nat.le_refl _) (Nat.zero_le _) (by omega) (fun b _ hb => ?_) (fun b hb hb2 => ?_)
      · unfold abv; exact decide_eq_true (hdn b hb)
      · unfold abv; exact decide_eq_false (by have := hup b hb hb2; omega)
    rw [hs, if_neg]
    intro hc
    have := hup _ (Nat.le_refl _) hi
    omega
end Go.Proofs.Ytbkfnmmfjpaifaa
