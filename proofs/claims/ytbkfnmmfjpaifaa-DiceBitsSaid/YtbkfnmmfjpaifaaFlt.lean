/- Plain facts on the model's doubles: the word of a whole number below 2^53, its order, sums, its quotient by 2^48, and that it is read back whole. No program in sight. -/
import Derived.Laws.FloatArith
namespace Go.Proofs.Ytbkfnmmfjpaifaa.Flt
open Ieee

/-- m * 2^e as a double has it: no bit too many, and as few noughts ahead as may be. -/
def Canon (m : Nat) (e : Int) : Prop := m < 9007199254740992 ∧ -1074 ≤ e ∧ e ≤ 971 ∧ (4503599627370496 ≤ m ∨ e = -1074)
/-- Its word. -/
def wordOf (m : Nat) (e : Int) : Nat := (e + 1074).toNat * 4503599627370496 + m
/-- 2 ^ k, kept closed. -/
def p2 (k : Nat) : Nat := 2 ^ k
theorem p2_pos (k : Nat) : 0 < p2 k := Nat.two_pow_pos k
theorem p2_add (a b : Nat) : p2 (a + b) = p2 a * p2 b := Nat.pow_add 2 a b
/-- Its value, in units of the least double. -/
def mv (m : Nat) (e : Int) : Nat := m * p2 (e + 1074).toNat

theorem read_wordOf {m : Nat} {e : Int} (h : Canon m e) : double.read (wordOf m e) = .number false m e := by
  obtain ⟨h1, h2, h3, h4⟩ := h
  obtain ⟨k, hk⟩ : ∃ k : Nat, e = (k : Int) - 1074 := ⟨(e + 1074).toNat, by omega⟩
  subst hk
  have hw : wordOf m ((k : Int) - 1074) = k * 4503599627370496 + m := by
    unfold wordOf
    rw [show ((k : Int) - 1074 + 1074).toNat = k from by omega]
  rw [hw]
  have hk : k ≤ 2045 := by omega
  have hsw : double.signWeight = 9223372036854775808 := by decide +kernel
  have hbi : double.binade = 4503599627370496 := by decide +kernel
  have hin : double.infRung = 9218868437227405312 := by decide +kernel
  have hlp : double.leastPlace = -1074 := by decide +kernel
  unfold Format.read
  simp only [hsw, hbi, hin, hlp]
  have hlt : k * 4503599627370496 + m < 9218868437227405312 := by omega
  have hd : (k * 4503599627370496 + m) / 9223372036854775808 = 0 := by omega
  have hmod : (k * 4503599627370496 + m) % 9223372036854775808 = k * 4503599627370496 + m := by omega
  rw [hd, hmod]
  by_cases hb : k * 4503599627370496 + m < 4503599627370496
  · rw [if_pos hb]
    have : k = 0 := by omega
    subst this
    simp
  · rw [if_neg hb, if_pos hlt]
    have hm : 4503599627370496 ≤ m := by omega
    have e1 : (k * 4503599627370496 + m) / 4503599627370496 = k + 1 := by omega
    have e2 : (k * 4503599627370496 + m) % 4503599627370496 = m - 4503599627370496 := by omega
    rw [e1, e2]
    have e3 : 4503599627370496 + (m - 4503599627370496) = m := by omega
    rw [e3]
    have e4 : (-1074 : Int) + ((k + 1 - 1 : Nat) : Int) = (k : Int) - 1074 := by omega
    rw [e4]
    simp

theorem log2_bounds {n k : Nat} (h1 : 2 ^ k ≤ n) (h2 : n < 2 ^ (k + 1)) : n.log2 = k := by
  have hn : n ≠ 0 := by have := Nat.two_pow_pos k; omega
  have a := Nat.log2_self_le hn
  have b := @Nat.lt_log2_self n
  apply Nat.le_antisymm
  · have : 2 ^ n.log2 < 2 ^ (k + 1) := Nat.lt_of_le_of_lt a h2
    have := (Nat.pow_lt_pow_iff_right (a := 2) (by omega)).1 this
    omega
  · have : 2 ^ k < 2 ^ (n.log2 + 1) := Nat.lt_of_le_of_lt h1 b
    have := (Nat.pow_lt_pow_iff_right (a := 2) (by omega)).1 this
    omega

theorem log2_mul_pow {n : Nat} (hn : n ≠ 0) (k : Nat) : (n * 2 ^ k).log2 = n.log2 + k := by
  apply log2_bounds
  · rw [Nat.pow_add]
    exact Nat.mul_le_mul_right _ (Nat.log2_self_le hn)
  · rw [show n.log2 + k + 1 = (n.log2 + 1) + k from by omega, Nat.pow_add]
    exact Nat.mul_lt_mul_of_pos_right Nat.lt_log2_self (Nat.two_pow_pos k)

theorem cut_exact (way : Toward) (neg : Bool) (m d : Nat) (hm : m ≠ 0) : way.cut neg (m * 2 ^ d) d = m := by
  unfold Toward.cut
  have hmin : min d ((m * 2 ^ d).log2 + 2) = d := by
    rw [log2_mul_pow hm]; omega
  simp only [hmin, Nat.shiftLeft_eq, Nat.one_mul]
  have hp := Nat.two_pow_pos d
  have e1 : m * 2 ^ d / 2 ^ d = m := Nat.mul_div_cancel _ hp
  have e2 : m * 2 ^ d % 2 ^ d = 0 := Nat.mul_mod_left _ _
  rw [e1, e2]
  have hz : (2 ^ d == 2 * 0) = false := by simp
  have hz' : decide (2 ^ d < 2 * 0) = false := by simp
  cases way <;> simp [hz]

theorem cut_zero (way : Toward) (neg : Bool) (m : Nat) : way.cut neg m 0 = m := by
  unfold Toward.cut
  cases way <;> simp <;> omega

/-- A number that a double has is written as itself, however it is laid out. -/
theorem nearest_exact {m : Nat} {e : Int} (h : Canon m e) (hm : m ≠ 0) (neg : Bool) (mag : Nat) (place : Int)
    (hx : mag * 2 ^ (place - e).toNat = m * 2 ^ (e - place).toNat) : double.nearest neg mag place = double.word neg (wordOf m e) := by
  obtain ⟨h1, h2, h3, h4⟩ := h
  have hmag : mag ≠ 0 := by
    rintro rfl
    have hp := Nat.two_pow_pos (e - place).toNat
    have : m * 2 ^ (e - place).toNat = 0 := by rw [← hx]; simp
    rcases Nat.mul_eq_zero.1 this with h | h <;> omega
  have hl : (mag.log2 : Int) + place = (m.log2 : Int) + e := by
    have a := log2_mul_pow hmag (place - e).toNat
    have b := log2_mul_pow hm (e - place).toNat
    rw [hx] at a
    omega
  have hml : m.log2 ≤ 52 := by
    have := Nat.log2_self_le hm
    rcases Nat.lt_or_ge 52 m.log2 with hc | hc
    · have : 2 ^ 53 ≤ 2 ^ m.log2 := Nat.pow_le_pow_right (by omega) hc
      omega
    · exact hc
  have hmh : 4503599627370496 ≤ m → m.log2 = 52 := fun hh => log2_bounds (k := 52) (by simpa using hh) (by simpa using h1)
  have hlp : double.leastPlace = -1074 := by decide +kernel
  have hbi : double.binade = 4503599627370496 := by decide +kernel
  have hin : double.infRung = 9218868437227405312 := by decide +kernel
  have hfb : double.fractionBits = 52 := by decide +kernel
  have hlast : max (place + (mag.log2 : Int) - (52 : Nat)) (-1074) = e := by
    rcases h4 with h4 | h4
    · have := hmh h4; omega
    · omega
  unfold Format.nearest
  rw [if_neg hmag]
  simp only [hlp, hbi, hin, hfb, hlast]
  have hk : Toward.even.cut neg (mag <<< (place - e).toNat) (e - place).toNat = m := by
    rw [Nat.shiftLeft_eq, hx]
    exact cut_exact _ _ _ _ hm
  rw [hk]
  have e1 : (e - -1074).toNat = (e + 1074).toNat := by omega
  rw [e1]
  have hk2 : (e + 1074).toNat ≤ 2045 := by omega
  have : min ((e + 1074).toNat * 4503599627370496 + m) 9218868437227405312 = wordOf m e := by
    unfold wordOf
    exact Nat.min_eq_left (by omega)
  rw [this]

theorem compare_cast (x y : Nat) : compare (x : Int) (y : Int) = compare x y := by
  simp only [compare, compareOfLessAndEq]
  congr 1
  · simp
  · congr 1; exact propext Int.ofNat_inj

theorem compare_scale (x y c : Nat) (hc : 0 < c) : compare (x * c) (y * c) = compare x y := by
  simp only [compare, compareOfLessAndEq]
  have h1 : x * c < y * c ↔ x < y := Nat.mul_lt_mul_right hc
  have h2 : x * c = y * c ↔ x = y := Nat.mul_left_inj (by omega)
  simp only [h1, h2]

theorem order_number {a b : Nat} {i j : Int} (hi : -1074 ≤ i) (hj : -1074 ≤ j) :
    (Datum.number false a i).order (.number false b j) = some (compare (mv a i) (mv b j)) := by
  simp only [Datum.order, signed, Bool.false_eq_true, if_false, Nat.shiftLeft_eq]
  rw [compare_cast, ← compare_scale _ _ (2 ^ (min i j + 1074).toNat) (Nat.two_pow_pos _)]
  unfold mv p2
  rw [Nat.mul_assoc, Nat.mul_assoc, ← Nat.pow_add, ← Nat.pow_add]
  rw [show (i - min i j).toNat + (min i j + 1074).toNat = (i + 1074).toNat from by omega,
    show (j - min i j).toNat + (min i j + 1074).toNat = (j + 1074).toNat from by omega]

/-- The word w is that of the finite double that is not below 0 and has the value q (in units of the least one). -/
def IsV (w q : Nat) : Prop := ∃ m e, Canon m e ∧ w = wordOf m e ∧ mv m e = q

theorem IsV.order {w w' q q' : Nat} (h : IsV w q) (h' : IsV w' q') : double.order w w' = some (compare q q') := by
  obtain ⟨m, e, hc, rfl, rfl⟩ := h
  obtain ⟨m', e', hc', rfl, rfl⟩ := h'
  unfold Format.order
  rw [read_wordOf hc, read_wordOf hc', order_number hc.2.1 hc'.2.1]

theorem IsV.refl {w q : Nat} (h : IsV w q) : double.order w w = some .eq := by
  rw [h.order h]; simp

theorem IsV.lt {w q : Nat} (h : IsV w q) : w < 18446744073709551616 := by
  obtain ⟨m, e, hc, rfl, rfl⟩ := h
  obtain ⟨h1, h2, h3, h4⟩ := hc
  unfold wordOf; omega

/-- The word of a whole number below 2^53. -/
def natW (n : Nat) : Nat := if n = 0 then 0 else wordOf (n * 2 ^ (52 - n.log2)) ((n.log2 : Int) - 52)

theorem log2_le52 {n : Nat} (hn : n ≠ 0) (h : n < 9007199254740992) : n.log2 ≤ 52 := by
  have := Nat.log2_self_le hn
  rcases Nat.lt_or_ge 52 n.log2 with hc | hc
  · have : 2 ^ 53 ≤ 2 ^ n.log2 := Nat.pow_le_pow_right (by omega) hc
    omega
  · exact hc

theorem canon_nat {n : Nat} (hn : n ≠ 0) (h : n < 9007199254740992) (s : Nat) (hs : s ≤ 1000) : Canon (n * 2 ^ (52 - n.log2)) ((n.log2 : Int) - 52 - s) := by
  have hl := log2_le52 hn h
  have a := Nat.log2_self_le hn
  have b := @Nat.lt_log2_self n
  have hp := Nat.two_pow_pos (52 - n.log2)
  have c1 : 2 ^ n.log2 * 2 ^ (52 - n.log2) = 2 ^ 52 := by rw [← Nat.pow_add]; congr 1; omega
  have c2 : 2 ^ (n.log2 + 1) * 2 ^ (52 - n.log2) = 2 ^ 53 := by rw [← Nat.pow_add]; congr 1; omega
  have d1 : 2 ^ 52 ≤ n * 2 ^ (52 - n.log2) := by rw [← c1]; exact Nat.mul_le_mul_right _ a
  have d2 : n * 2 ^ (52 - n.log2) < 2 ^ 53 := by rw [← c2]; exact Nat.mul_lt_mul_of_pos_right b hp
  exact ⟨by simpa using d2, by omega, by omega, .inl (by simpa using d1)⟩

theorem mv_nat {n : Nat} (hn : n ≠ 0) (h : n < 9007199254740992) (s : Nat) (hs : s ≤ 1000) : mv (n * 2 ^ (52 - n.log2)) ((n.log2 : Int) - 52 - s) = n * p2 (1074 - s) := by
  have hl := log2_le52 hn h
  unfold mv p2
  rw [Nat.mul_assoc, ← Nat.pow_add]
  congr 2
  omega

theorem isV_zero : IsV 0 0 := ⟨0, -1074, ⟨by omega, by omega, by omega, .inr rfl⟩, by decide, by simp [mv]⟩

theorem isV_natW {n : Nat} (h : n < 9007199254740992) : IsV (natW n) (n * p2 1074) := by
  by_cases hn : n = 0
  · subst hn
    simpa [natW] using isV_zero
  · refine ⟨_, _, canon_nat hn h 0 (by omega), ?_, by simpa using mv_nat hn h 0 (by omega)⟩
    rw [natW, if_neg hn]
    simp

theorem word_false (r : Nat) : double.word false r = r := by simp [Format.word]

/-- What 'float64(n)' gives. -/
theorem nearest_nat {n : Nat} (h : n < 9007199254740992) : double.nearest false n 0 = natW n := by
  by_cases hn : n = 0
  · subst hn
    decide +kernel
  · have hl := log2_le52 hn h
    have hc := canon_nat hn h 0 (by omega)
    have hm : n * 2 ^ (52 - n.log2) ≠ 0 := by
      have := hc.2.2.2
      omega
    rw [nearest_exact hc hm false n 0, word_false, natW, if_neg hn]
    · simp
    · rw [show (0 - ((n.log2 : Int) - 52 - (0 : Nat))).toNat = 52 - n.log2 from by omega, show ((n.log2 : Int) - 52 - (0 : Nat) - 0).toNat = 0 from by omega]
      simp

theorem floatOfInt_nat {n : Nat} (h : n < 9007199254740992) : floatOfInt .f64 (n : Int) = natW n := by
  have : floatOfInt .f64 (n : Int) = double.nearest false n 0 := by
    simp only [floatOfInt, FloatKind.nearest, FloatKind.encode, FloatKind.format, Format.write]
    have e1 : decide ((n : Int) < 0) = false := by simp
    rw [e1]
    simp
  rw [this, nearest_nat h]

theorem read_natW {n : Nat} (hn : n ≠ 0) (h : n < 9007199254740992) : double.read (natW n) = .number false (n * 2 ^ (52 - n.log2)) ((n.log2 : Int) - 52) := by
  rw [natW, if_neg hn]
  have := read_wordOf (canon_nat hn h 0 (by omega))
  simpa using this
theorem read_zero : double.read 0 = .number false 0 (-1074) := by decide +kernel

/-- 'uint64(x)', 'int(x)' of it. -/
theorem toInt_natW {n : Nat} (h : n < 9007199254740992) : (FloatKind.f64.decode (natW n)).toInt .zero = some (n : Int) := by
  by_cases hn : n = 0
  · subst hn
    decide +kernel
  · have hl := log2_le52 hn h
    simp only [FloatKind.decode, FloatKind.format, read_natW hn h, Datum.toInt, Datum.integral, signed, Bool.false_eq_true, if_false]
    rw [show ((n.log2 : Int) - 52).toNat = 0 from by omega, show (-((n.log2 : Int) - 52)).toNat = 52 - n.log2 from by omega]
    simp only [Nat.shiftLeft_zero]
    rw [cut_exact _ _ _ _ hn]

/-- A sum of two whole numbers that stays below 2^53. -/
theorem add_natW {n k : Nat} (h : n + k < 9007199254740992) : double.add (natW n) (natW k) = some (natW (n + k)) := by
  have key : ∀ (a b : Nat) (i j : Int), -1074 ≤ i → -1074 ≤ j → mv a i = n * p2 1074 → mv b j = k * p2 1074 → i ≤ 0 → j ≤ 0 →
      ((Datum.number false a i).sum (.number false b j)).map double.write = some (natW (n + k)) := by
    intro a b i j hi hj ha hb hi0 hj0
    simp only [Datum.sum, signed, Bool.false_eq_true, if_false, Nat.shiftLeft_eq, Option.map_some, Bool.and_self]
    rw [← Int.natCast_add]
    have hs : ((a * 2 ^ (i - min i j).toNat + b * 2 ^ (j - min i j).toNat : Nat) : Int).natAbs = a * 2 ^ (i - min i j).toNat + b * 2 ^ (j - min i j).toNat := by
      exact Int.natAbs_natCast _
    rw [hs]
    have hneg : (if ((a * 2 ^ (i - min i j).toNat + b * 2 ^ (j - min i j).toNat : Nat) : Int) = 0 then false else decide (((a * 2 ^ (i - min i j).toNat + b * 2 ^ (j - min i j).toNat : Nat) : Int) < 0)) = false := by
      split
      · rfl
      · simp only [decide_eq_false_iff_not]
        exact Int.not_lt.2 (Int.natCast_nonneg _)
    rw [hneg]
    have hval : (a * 2 ^ (i - min i j).toNat + b * 2 ^ (j - min i j).toNat) * 2 ^ (min i j + 1074).toNat = (n + k) * p2 1074 := by
      rw [Nat.add_mul, Nat.mul_assoc, Nat.mul_assoc, ← Nat.pow_add, ← Nat.pow_add]
      rw [show (i - min i j).toNat + (min i j + 1074).toNat = (i + 1074).toNat from by omega,
        show (j - min i j).toNat + (min i j + 1074).toNat = (j + 1074).toNat from by omega]
      have ha' : a * 2 ^ (i + 1074).toNat = n * p2 1074 := ha
      have hb' : b * 2 ^ (j + 1074).toNat = k * p2 1074 := hb
      rw [ha', hb', Nat.add_mul]
    generalize hmag : a * 2 ^ (i - min i j).toNat + b * 2 ^ (j - min i j).toNat = mag at hval
    generalize hpl : min i j = p at hval
    have hp1 : -1074 ≤ p := by omega
    have hp2 : p ≤ 0 := by omega
    have hval' : mag = (n + k) * 2 ^ (-p).toNat := by
      have e1 : (n + k) * p2 1074 = (n + k) * 2 ^ (-p).toNat * 2 ^ (p + 1074).toNat := by
        rw [show p2 1074 = p2 ((-p).toNat + (p + 1074).toNat) from by congr 1; omega, p2_add, ← Nat.mul_assoc]
        rfl
      rw [e1] at hval
      exact Nat.eq_of_mul_eq_mul_right (Nat.two_pow_pos _) hval
    simp only [Format.write]
    by_cases h0 : n + k = 0
    · have : mag = 0 := by rw [hval', h0]; simp
      rw [this, h0]
      simp [Format.nearest, Format.word, natW]
    · have hc := canon_nat h0 h 0 (by omega)
      have hl := log2_le52 h0 h
      have hm : (n + k) * 2 ^ (52 - (n + k).log2) ≠ 0 := by
        have := hc.2.2.2
        omega
      rw [nearest_exact hc hm false mag p, word_false, natW, if_neg h0]
      · simp
      · rw [hval', Nat.mul_assoc, Nat.mul_assoc, ← Nat.pow_add, ← Nat.pow_add]
        congr 2
        omega
  unfold Format.add
  by_cases hn : n = 0
  · by_cases hk : k = 0
    · subst hn; subst hk; decide +kernel
    · have hl := log2_le52 hk (by omega)
      subst hn
      rw [show natW 0 = 0 from rfl, read_zero, read_natW hk (by omega)]
      exact key _ _ _ _ (by omega) (by omega) (by simp [mv]) (by simpa using mv_nat hk (by omega) 0 (by omega)) (by omega) (by omega)
  · have hl := log2_le52 hn (by omega)
    rw [read_natW hn (by omega)]
    by_cases hk : k = 0
    · subst hk
      rw [show natW 0 = 0 from rfl, read_zero]
      exact key _ _ _ _ (by omega) (by omega) (by simpa using mv_nat hn (by omega) 0 (by omega)) (by simp [mv]) (by omega) (by omega)
    · have hl' := log2_le52 hk (by omega)
      rw [read_natW hk (by omega)]
      exact key _ _ _ _ (by omega) (by omega) (by simpa using mv_nat hn (by omega) 0 (by omega)) (by simpa using mv_nat hk (by omega) 0 (by omega)) (by omega) (by omega)

/-- The word of n / 2^48. -/
def diceW (n : Nat) : Nat := if n = 0 then 0 else wordOf (n * 2 ^ (52 - n.log2)) ((n.log2 : Int) - 52 - (48 : Nat))

theorem isV_diceW {n : Nat} (h : n < 9007199254740992) : IsV (diceW n) (n * p2 1026) := by
  by_cases hn : n = 0
  · subst hn
    simpa [diceW] using isV_zero
  · refine ⟨_, _, canon_nat hn h 48 (by omega), ?_, mv_nat hn h 48 (by omega)⟩
    rw [diceW, if_neg hn]

theorem div_diceW {n : Nat} (h : n < 9007199254740992) : double.div (natW n) 4823355200913801216 = some (diceW n) := by
  have hr : double.read 4823355200913801216 = .number false 4503599627370496 (-4) := by decide +kernel
  by_cases hn : n = 0
  · subst hn
    decide +kernel
  · unfold Format.div
    rw [hr, read_natW hn h]
    have hl := log2_le52 hn h
    have hc := canon_nat hn h 48 (by omega)
    have hm : n * 2 ^ (52 - n.log2) ≠ 0 := by
      have := hc.2.2.2
      omega
    have hlg : (n * 2 ^ (52 - n.log2)).log2 = 52 := by rw [log2_mul_pow hn]; omega
    have hfb : double.fractionBits = 52 := by decide +kernel
    have hl2 : (4503599627370496 : Nat).log2 = 52 := by decide +kernel
    have hne : ¬ (4503599627370496 : Nat) = 0 := by decide
    simp only [Datum.quotient, hfb, if_neg hne, hlg, hl2, Option.map_some, Bool.false_bne, Nat.shiftLeft_eq, Nat.reduceAdd, Nat.reduceSub]
    have e1 : n * 2 ^ (52 - n.log2) * 2 ^ 54 / 4503599627370496 = n * 2 ^ (52 - n.log2) * 4 := by
      rw [show (2 : Nat) ^ 54 = 4 * 4503599627370496 from by decide, ← Nat.mul_assoc]
      exact Nat.mul_div_cancel _ (by decide)
    have e2 : n * 2 ^ (52 - n.log2) * 2 ^ 54 % 4503599627370496 = 0 := by
      rw [show (2 : Nat) ^ 54 = 4 * 4503599627370496 from by decide, ← Nat.mul_assoc]
      exact Nat.mul_mod_left _ _
    rw [e1, e2]
    simp only [Format.write]
    have e3 : 2 * (n * 2 ^ (52 - n.log2) * 4) + ((0 : Nat) != 0).toNat = n * 2 ^ (52 - n.log2) * 8 := by simp; omega
    rw [e3, nearest_exact hc hm false]
    · rw [word_false, diceW, if_neg hn]
    · rw [show ((n.log2 : Int) - 52 - -4 - ((54 : Nat) : Int) - 1 - ((n.log2 : Int) - 52 - ((48 : Nat) : Int))).toNat = 0 from by omega,
        show ((n.log2 : Int) - 52 - ((48 : Nat) : Int) - ((n.log2 : Int) - 52 - -4 - ((54 : Nat) : Int) - 1)).toNat = 3 from by omega]
      simp

theorem isV_one : IsV 4607182418800017408 (p2 1074) :=
  ⟨4503599627370496, -52, ⟨by omega, by omega, by omega, .inl (by omega)⟩, by decide, by
    unfold mv
    rw [show ((-52 : Int) + 1074).toNat = 1022 from by decide, show (4503599627370496 : Nat) = p2 52 from by decide, ← p2_add]⟩

theorem diceW_lt_one {n : Nat} (h : n < 281474976710656) : double.order (diceW n) 4607182418800017408 = some .lt := by
  rw [(isV_diceW (by omega)).order isV_one]
  refine congrArg some ?_
  rw [show p2 1074 = p2 48 * p2 1026 from p2_add 48 1026, compare_scale _ _ _ (p2_pos _)]
  rw [Nat.compare_eq_lt]
  simpa [p2] using h

theorem diceW_ge_zero {n : Nat} (h : n < 9007199254740992) : double.order (diceW n) 0 ≠ some .lt := by
  rw [(isV_diceW h).order isV_zero]
  intro hc
  have := Nat.compare_eq_lt.1 (Option.some.inj hc)
  omega

end Go.Proofs.Ytbkfnmmfjpaifaa.Flt
