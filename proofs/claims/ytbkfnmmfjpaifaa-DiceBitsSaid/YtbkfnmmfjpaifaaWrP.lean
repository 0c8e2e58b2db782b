/- Which doubles are whole numbers below 2^53. Plain. -/
import Derived.Test.YtbkfnmmfjpaifaaRdN
import Derived.Test.YtbkfnmmfjpaifaaDiceW2
namespace Go.Proofs.Ytbkfnmmfjpaifaa
open Flt Ieee
set_option linter.unusedVariables false

theorem canonB {b : Nat} (h : b < 9218868437227405312) : Canon (pM b) (pE b) ∧ wordOf (pM b) (pE b) = b ∧ mv (pM b) (pE b) = vB b := by
  have e0 : b % 9223372036854775808 = b := Nat.mod_eq_of_lt (by omega)
  refine ⟨?_, ?_, rfl⟩
  · unfold Canon pM pE
    rw [e0]
    by_cases hq : b / 4503599627370496 = 0
    · rw [if_pos hq, if_pos hq]; omega
    · rw [if_neg hq, if_neg hq]; omega
  · unfold wordOf pM pE
    rw [e0]
    by_cases hq : b / 4503599627370496 = 0
    · rw [if_pos hq, if_pos hq]; omega
    · rw [if_neg hq, if_neg hq]; omega
theorem isV_b {b : Nat} (h : b < 9218868437227405312) : IsV b (vB b) := ⟨_, _, (canonB h).1, (canonB h).2.1.symm, (canonB h).2.2⟩
theorem vB_lt {a b : Nat} (hab : a < b) (hb : b < 9218868437227405312) : vB a < vB b := by
  have h1 := vB_succ (b := a) (by omega)
  have h2 := vB_mono (a := a + 1) (b := b) hab hb
  have := uB_pos a
  omega
theorem vB_inj {a b : Nat} (ha : a < 9218868437227405312) (hb : b < 9218868437227405312) (h : vB a = vB b) : a = b := by
  rcases Nat.lt_trichotomy a b with h1 | h1 | h1
  · have := vB_lt h1 hb; omega
  · exact h1
  · have := vB_lt h1 ha; omega
theorem vB_p53 : vB 4845873199050653696 = 9007199254740992 * p2 1074 := by
  obtain ⟨m, e, hc, h1, h2⟩ := isV_p53
  have h3 : vB (wordOf m e) = mv m e := by
    unfold vB uB
    rw [(pM_wordOf hc).1, (pM_wordOf hc).2]
    rfl
  rw [h1, h3, h2]
/-- Is it not below 0, and below 2^53? -/
def ge0 (b : Nat) : Bool := FloatKind.f64.format.order b 0 == some .gt || FloatKind.f64.format.order b 0 == some .eq
def lt53 (b : Nat) : Bool := FloatKind.f64.format.order b 4845873199050653696 == some .lt
theorem read_neg {b : Nat} (h1 : 9223372036854775808 < b) (h2 : b < 18446744073709551616) : (∃ m e, 0 < m ∧ double.read b = .number true m e) ∨ double.read b = .infinity true ∨ ∃ n k, double.read b = .nan n k := by
  have hsw : double.signWeight = 9223372036854775808 := by decide +kernel
  have hbi : double.binade = 4503599627370496 := by decide +kernel
  have hin : double.infRung = 9218868437227405312 := by decide +kernel
  have hd : b / 9223372036854775808 % 2 = 1 := by omega
  unfold Format.read
  simp only [hsw, hbi, hin, hd]
  by_cases a1 : b % 9223372036854775808 < 4503599627370496
  · rw [if_pos a1]
    exact .inl ⟨_, _, by omega, rfl⟩
  · rw [if_neg a1]
    by_cases a2 : b % 9223372036854775808 < 9218868437227405312
    · rw [if_pos a2]
      exact .inl ⟨_, _, by omega, rfl⟩
    · rw [if_neg a2]
      by_cases a3 : b % 9223372036854775808 = 9218868437227405312
      · rw [if_pos a3]
        exact .inr (.inl rfl)
      · rw [if_neg a3]
        exact .inr (.inr ⟨_, _, rfl⟩)
theorem ge0_neg {b : Nat} (h1 : 9223372036854775808 < b) (h2 : b < 18446744073709551616) : ge0 b = false := by
  have hz : double.read 0 = .number false 0 (-1074) := read_zero
  unfold ge0
  show (Format.order double b 0 == some .gt || Format.order double b 0 == some .eq) = false
  unfold Format.order
  rw [hz]
  rcases read_neg h1 h2 with ⟨m, e, hm, h⟩ | h | ⟨n, k, h⟩
  · rw [h]
    simp only [Datum.order]
    have : compare (signed true m (e - min e (-1074)).toNat) (signed false 0 (-1074 - min e (-1074)).toNat) = .lt := by
      have hp : 0 < m <<< (e - min e (-1074)).toNat := by rw [Nat.shiftLeft_eq]; exact Nat.mul_pos hm (Nat.two_pow_pos _)
      simp only [signed, if_true, Bool.false_eq_true, if_false, Nat.zero_shiftLeft]
      simp only [compare, compareOfLessAndEq]
      rw [if_pos (by omega)]
    rw [this]
    rfl
  · rw [h]; rfl
  · rw [h]; rfl
theorem read_big {b : Nat} (h1 : 9218868437227405312 ≤ b) (h2 : b < 9223372036854775808) : double.read b = .infinity false ∨ ∃ n k, double.read b = .nan n k := by
  have hsw : double.signWeight = 9223372036854775808 := by decide +kernel
  have hbi : double.binade = 4503599627370496 := by decide +kernel
  have hin : double.infRung = 9218868437227405312 := by decide +kernel
  have hd : b / 9223372036854775808 % 2 = 0 := by omega
  have hm : b % 9223372036854775808 = b := Nat.mod_eq_of_lt h2
  unfold Format.read
  simp only [hsw, hbi, hin, hd, hm]
  rw [if_neg (by omega), if_neg (by omega)]
  by_cases a3 : b = 9218868437227405312
  · rw [if_pos a3]; exact .inl rfl
  · rw [if_neg a3]; exact .inr ⟨_, _, rfl⟩
theorem lt53_big {b : Nat} (h1 : 4845873199050653696 ≤ b) (h2 : b < 9223372036854775808) : lt53 b = false := by
  unfold lt53
  by_cases hi : b < 9218868437227405312
  · have h := (isV_b hi).order isV_p53
    have hm := vB_mono h1 hi
    rw [vB_p53] at hm
    have : FloatKind.f64.format.order b 4845873199050653696 = some (compare (vB b) (9007199254740992 * p2 1074)) := h
    rw [this]
    have hn : compare (vB b) (9007199254740992 * p2 1074) ≠ .lt := fun hc => by
      have := Nat.compare_eq_lt.1 hc
      omega
    revert hn
    cases compare (vB b) (9007199254740992 * p2 1074) <;> simp
  · have hr : double.read 4845873199050653696 = .number false 4503599627370496 1 := by decide +kernel
    show (Format.order double b 4845873199050653696 == some .lt) = false
    unfold Format.order
    rw [hr]
    rcases read_big (by omega) h2 with h | ⟨n, k, h⟩ <;> rw [h] <;> rfl
/-- The whole number that it is without what stands behind the point. -/
def tN (b : Nat) : Nat := pM b / 2 ^ (-(pE b)).toNat
def wordB (b : Nat) : Option Nat := if b = 9223372036854775808 then some 0 else if b < 4845873199050653696 then (if natW (tN b) = b then some (tN b) else none) else none
theorem tN_lt (b : Nat) : tN b < 9007199254740992 := Nat.lt_of_le_of_lt (Nat.div_le_self _ _) (pM_lt b)
theorem wordB_lt {b n : Nat} (h : wordB b = some n) : n < 9007199254740992 := by
  unfold wordB at h
  split at h
  · cases h; omega
  · split at h
    · split at h
      · cases h; exact tN_lt b
      · cases h
    · cases h
theorem pE_small {b : Nat} (h : b < 4845873199050653696) : pE b ≤ 0 := by unfold pE; split <;> omega
theorem small_tests {b : Nat} (h : b < 4845873199050653696) : ge0 b = true ∧ lt53 b = true := by
  refine ⟨ord_ge0 (isV_b (by omega)), ?_⟩
  have hl := vB_lt h (by decide)
  rw [vB_p53] at hl
  have : FloatKind.f64.format.order b 4845873199050653696 = some (compare (vB b) (9007199254740992 * p2 1074)) := (isV_b (by omega)).order isV_p53
  unfold lt53
  rw [this, Nat.compare_eq_lt.2 hl]
  rfl
/-- Which of the ways a word goes. -/
theorem word_ways {b : Nat} (h : b < 18446744073709551616) : ((ge0 b = false ∨ (ge0 b = true ∧ lt53 b = false)) ∧ wordB b = none) ∨ b = 9223372036854775808 ∨ b < 4845873199050653696 := by
  by_cases h0 : b = 9223372036854775808
  · exact .inr (.inl h0)
  · by_cases h1 : b < 4845873199050653696
    · exact .inr (.inr h1)
    · refine .inl ⟨?_, by unfold wordB; rw [if_neg h0, if_neg h1]⟩
      by_cases h2 : b < 9223372036854775808
      · have := lt53_big (by omega) h2
        cases hg : ge0 b
        · exact .inl rfl
        · exact .inr ⟨rfl, this⟩
      · exact .inl (ge0_neg (by omega) h)
theorem trunc_eq {b : Nat} (h : b < 4845873199050653696) : (FloatKind.f64.format.order (natW (tN b)) b != some .eq) = !decide (natW (tN b) = b) := by
  have hv := vB_natW (tN_lt b)
  have : FloatKind.f64.format.order (natW (tN b)) b = some (compare (tN b * p2 1074) (vB b)) := (isV_natW (tN_lt b)).order (isV_b (by omega))
  rw [this, ← hv.2]
  by_cases e : natW (tN b) = b
  · rw [decide_eq_true e, e]
    simp
  · rw [decide_eq_false e]
    have : vB (natW (tN b)) ≠ vB b := fun hc => e (vB_inj hv.1 (by omega) hc)
    have hne : compare (vB (natW (tN b))) (vB b) ≠ .eq := fun hc => this (Nat.compare_eq_eq.1 hc)
    revert hne
    cases compare (vB (natW (tN b))) (vB b) <;> simp
end Go.Proofs.Ytbkfnmmfjpaifaa
