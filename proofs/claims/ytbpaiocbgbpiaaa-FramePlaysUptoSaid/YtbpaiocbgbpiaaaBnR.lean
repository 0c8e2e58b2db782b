/- The document's Parts and above, walked, for any seat. -/
import Derived.Test.YtbpaiocbgbpiaaaBnD
import Derived.Laws.FloatArith
namespace Go.Proofs.Ytbpaiocbgbpiaaa
open Go.RowKit
set_option linter.unusedVariables false
set_option linter.unusedSimpArgs false

theorem rf_bits (b : Nat) (w : World) : (callFunc 43 #[.float .f64 b]).run Try.prog w = .ok (.value (.int .u64 (b : Int))) w := by kernel_rfl
theorem rf_from (n : Int) (w : World) : (callFunc 51 #[.int .u64 n]).run Try.prog w = .ok (.value (.float .f64 n.toNat)) w := by kernel_rfl

/-- A double as a natural times a power of two. -/
def pM (b : Nat) : Nat := if b % 9223372036854775808 / 4503599627370496 = 0 then b % 4503599627370496 else b % 4503599627370496 + 4503599627370496
def pE (b : Nat) : Int := if b % 9223372036854775808 / 4503599627370496 = 0 then -1074 else ((b % 9223372036854775808 / 4503599627370496 : Nat) : Int) - 1075
theorem pM_lt (b : Nat) : pM b < 9007199254740992 := by unfold pM; split <;> omega
theorem pE_in {b : Nat} (h : b % 9223372036854775808 < 9218868437227405312) : -1074 ≤ pE b ∧ pE b ≤ 971 := by unfold pE; split <;> omega

set_option maxHeartbeats 1000000 in
theorem rparts_any (b : Nat) (w : World) (hb : b < 18446744073709551616) (hf : b % 9223372036854775808 < 9218868437227405312) :
    Calls Try.prog 56 #[.float .f64 b] w fun e w' => e = .returned (.tuple #[.int .u64 (pM b : Int), .int .i64 (pE b), .bool true]) ∧ w = w' := by
  have hbits := rf_bits b
  have e1 : (b : Int).tmod 9223372036854775808 = ((b % 9223372036854775808 : Nat) : Int) := (Int.ofNat_tmod b 9223372036854775808).symm
  obtain ⟨r, hr⟩ : ∃ r, r = b % 9223372036854775808 := ⟨_, rfl⟩
  have er : (b : Int) % 9223372036854775808 = (r : Int) := by omega
  rw [← hr] at hf e1
  have e2 : (r : Int).tdiv 4503599627370496 = ((r / 4503599627370496 : Nat) : Int) := (Int.ofNat_tdiv r 4503599627370496).symm
  have e3 : (r : Int).tmod 4503599627370496 = ((r % 4503599627370496 : Nat) : Int) := (Int.ofNat_tmod r 4503599627370496).symm
  obtain ⟨q, hq⟩ : ∃ q, q = r / 4503599627370496 := ⟨_, rfl⟩
  obtain ⟨t, ht⟩ : ∃ t, t = r % 4503599627370496 := ⟨_, rfl⟩
  have eq' : (r : Int) / 4503599627370496 = (q : Int) := by omega
  have et' : (r : Int) % 4503599627370496 = (t : Int) := by omega
  have hq1 : q ≤ 2046 := by omega
  have ht1 : t < 4503599627370496 := by omega
  have hqw : IntKind.i64.wrap (q : Int) = (q : Int) := by rw [IntKind.wrap_i64]; omega
  rw [← hq] at e2
  rw [← ht] at e3
  have y1 : ((q : Int) == 2047) = false := by rw [beq_eq_false_iff_ne]; omega
  have HP : pM b = (if q = 0 then t else t + 4503599627370496) ∧ pE b = (if q = 0 then -1074 else (q : Int) - 1075) := by
    unfold pM pE
    rw [← hr, ← hq]
    have : b % 4503599627370496 = t := by omega
    rw [this]
    exact ⟨rfl, rfl⟩
  have HPH := Lib.hid HP
  clear HP hr hq ht hf hb
  by_cases h0 : q = 0
  · have HH := Lib.hid h0
    have y2 : ((q : Int) == 0) = true := by rw [beq_iff_eq]; omega
    clear h0
    go_enter Try.func56, Try.ntmps56
    go_wp2_with fail
    go_ret3
    rw [HPH.out.1, HPH.out.2, if_pos HH.out, if_pos HH.out]
    exact ⟨rfl, rfl⟩
  · have HH := Lib.hid h0
    have y2 : ((q : Int) == 0) = false := by rw [beq_eq_false_iff_ne]; omega
    clear h0
    go_enter Try.func56, Try.ntmps56
    go_wp2_with fail
    go_ret3
    rw [HPH.out.1, HPH.out.2, if_neg HH.out, if_neg HH.out]
    exact ⟨rfl, rfl⟩

theorem Rw.up {k : IntKind} {w w' : World} {A : Option Addr} {l : List Nat} (h : Rw k w w.heap.size A l) (hb : Below w.heap.size w w') : Rw k w' w'.heap.size A l := (h.below hb).more hb.size
/-- So many pieces at most. -/
def Pc (k x : Nat) : Prop := (dg 10000 x).length ≤ k
theorem Pc.mul {a b x y : Nat} (h : Pc a x) (k : Pc b y) : Pc (a + b) (x * y) := by
  unfold Pc at *
  rw [dg_len (by omega)] at *
  rw [Nat.pow_add]
  have h1 : x * y ≤ x * 10000 ^ b := Nat.mul_le_mul_left _ (Nat.le_of_lt k)
  exact Nat.lt_of_le_of_lt h1 (Nat.mul_lt_mul_of_pos_right h (Nat.pow_pos (by omega)))
theorem Pc.more {a b x : Nat} (h : Pc a x) (hab : a ≤ b) : Pc b x := Nat.le_trans h hab
theorem Pc.pow {n : Nat} (hn : n ≤ 10) (k : Nat) : Pc (k + 1) (n ^ k) := by
  unfold Pc
  rw [dg_len (by omega)]
  exact Nat.lt_of_le_of_lt (Nat.pow_le_pow_left (show n ≤ 10000 by omega) k) (Nat.pow_lt_pow_right (by omega) (by omega))
theorem Pc.small {x : Nat} (h : x < 100000000000000000000) : Pc 5 x := by
  unfold Pc
  rw [dg_len (by omega)]
  exact Nat.lt_of_lt_of_le h (by decide)

/-- Digits times ten to the exp against the middle behind the float of these bits: both scaled to whole numbers. -/
def leftN (D : Nat) (exp : Int) (b : Nat) : Nat := D * (10 ^ exp.toNat * 2 ^ (1 - pE b).toNat)
def rightN (exp : Int) (b : Nat) : Nat := (pM b * 2 + 1) * (10 ^ (-exp).toNat * 2 ^ (pE b - 1).toNat)

set_option maxRecDepth 20000 in
set_option maxHeartbeats 4000000 in
theorem above_any (A : Option Addr) (c B D : Nat) (exp : Int) (b : Nat) (w : World) (hr : Rw .i64 w B A (dg 10000 D)) (hB0 : B ≤ w.heap.size) (hl : Pc 5000 D)
    (h1 : -1500 ≤ exp) (h2 : exp ≤ 400) (hb : b < 9218868437227405312) :
    Calls Try.prog 54 #[.slice A (dg 10000 D).length c, .int .i64 exp, .int .u64 (b : Int)] w fun e w' => e = .returned (.int .i64 (cmpI (leftN D exp b) (rightN exp b))) ∧ Below w.heap.size w w' := by
  have hM := pM_lt b
  have hE := pE_in (b := b) (by omega)
  have HPa := Lib.hid (rparts_any b w (by omega) (by omega))
  have hfr := rf_from (b : Int)
  have HLR : leftN D exp b = D * (10 ^ exp.toNat * 2 ^ (1 - pE b).toNat) ∧ rightN exp b = (pM b * 2 + 1) * (10 ^ (-exp).toNat * 2 ^ (pE b - 1).toNat) := ⟨rfl, rfl⟩
  generalize leftN D exp b = LN at *
  generalize rightN exp b = RN at *
  generalize pM b = m at *
  generalize pE b = x at *
  have hmw : IntKind.i64.wrap (m : Int) = (m : Int) := by rw [IntKind.wrap_i64]; omega
  obtain ⟨a1, ha1⟩ : ∃ a, a = exp.toNat := ⟨_, rfl⟩
  obtain ⟨a2, ha2⟩ : ∃ a, a = (1 - x).toNat := ⟨_, rfl⟩
  obtain ⟨a3, ha3⟩ : ∃ a, a = (-exp).toNat := ⟨_, rfl⟩
  obtain ⟨a4, ha4⟩ : ∃ a, a = (x - 1).toNat := ⟨_, rfl⟩
  rw [← ha1, ← ha2, ← ha3, ← ha4] at HLR
  obtain ⟨y, hy⟩ : ∃ y, y = x - 1 := ⟨_, rfl⟩
  have mx1 : max exp 0 = (a1 : Int) := by omega
  have mx2 : max (-y) 0 = (a2 : Int) := by omega
  have mx3 : max (-exp) 0 = (a3 : Int) := by omega
  have mx4 : max y 0 = (a4 : Int) := by omega
  have hyx : x - 1 = y := hy.symm
  have b1 : a1 ≤ 400 := by omega
  have b2 : a2 ≤ 1075 := by omega
  have b3 : a3 ≤ 1500 := by omega
  have b4 : a4 ≤ 970 := by omega
  have c1 : -1075 ≤ y := by omega
  have c2 : y ≤ 970 := by omega
  have HL := Lib.hid HLR
  have HR := Lib.hid (And.intro hr (And.intro hB0 hl))
  have HBn := Lib.hid (And.intro b1 (And.intro b2 (And.intro b3 (And.intro b4 (And.intro hM hE)))))
  clear HLR hr hB0 hl ha1 ha2 ha3 ha4 hy hE b1 b2 b3 b4
  go_enter Try.func54, Try.ntmps54
  go_wp2_with fail
  -- the chain
  have RD := Lib.hid ((HR.out.1).more HR.out.2.1)
  refine HPa.out.mono ?_
  rintro e w' ⟨rfl, hw⟩
  subst hw
  have P1 := Lib.hid (Pc.small (x := m) (by have := HBn.out.2.2.2.2.1; omega))
  have P2 := Lib.hid (Pc.small (x := 2) (by omega))
  have P4 := Lib.hid (Pc.small (x := 1) (by omega))
  have P5 := Lib.hid (Pc.small (x := m * 2 + 1) (by have := HBn.out.2.2.2.2.1; omega))
  have P6 := Lib.hid (Pc.pow (n := 10) (by omega) a1)
  have P7 := Lib.hid (Pc.pow (n := 2) (by omega) a2)
  have P10 := Lib.hid (Pc.pow (n := 10) (by omega) a3)
  have P11 := Lib.hid (Pc.pow (n := 2) (by omega) a4)
  have P3 := Lib.hid (P1.out.mul P2.out)
  have P8 := Lib.hid (P6.out.mul P7.out)
  have P9 := Lib.hid (HR.out.2.2.mul P8.out)
  have P12 := Lib.hid (P10.out.mul P11.out)
  have P13 := Lib.hid (P5.out.mul P12.out)
  have PD := Lib.hid HR.out.2.2
  have Q0 := Lib.hid (Below.refl w.heap.size w)
  go_wp2_with fail
  refine (small_any m w (by have := HBn.out.2.2.2.2.1; omega)).mono ?_
  rintro e w1 ⟨A1, c1', rfl, -, -, r1, q1⟩
  replace RD := Lib.hid (RD.out.up q1)
  have R1 := Lib.hid r1
  have Q1 := Lib.hid (Q0.out.trans (q1.mono Q0.out.size))
  clear r1 q1
  go_wp2_with fail
  refine (small_any 2 w1 (by have := HBn.out.2.2.2.2.1; omega)).mono ?_
  rintro e w2 ⟨A2, c2', rfl, -, -, r2, q2⟩
  replace RD := Lib.hid (RD.out.up q2)
  replace R1 := Lib.hid (R1.out.up q2)
  have R2 := Lib.hid r2
  have Q2 := Lib.hid (Q1.out.trans (q2.mono Q1.out.size))
  clear r2 q2
  go_wp2_with fail
  refine (rmul_any A1 c1' w2.heap.size m A2 c2' 2 w2 R1.out R2.out (Nat.le_refl _) (P1.out.more (by have := HBn.out; omega)) (P2.out.more (by have := HBn.out; omega))).mono ?_
  rintro e w3 ⟨A3, c3', rfl, -, -, r3, q3⟩
  replace RD := Lib.hid (RD.out.up q3)
  have R3 := Lib.hid r3
  have Q3 := Lib.hid (Q2.out.trans (q3.mono Q2.out.size))
  clear r3 q3
  go_wp2_with fail
  refine (small_any 1 w3 (by have := HBn.out.2.2.2.2.1; omega)).mono ?_
  rintro e w4 ⟨A4, c4', rfl, -, -, r4, q4⟩
  replace RD := Lib.hid (RD.out.up q4)
  replace R3 := Lib.hid (R3.out.up q4)
  have R4 := Lib.hid r4
  have Q4 := Lib.hid (Q3.out.trans (q4.mono Q3.out.size))
  clear r4 q4
  go_wp2_with fail
  refine (radd_any A3 c3' w4.heap.size (m * 2) A4 c4' 1 w4 R3.out R4.out (Nat.le_refl _) (P3.out.more (by have := HBn.out; omega)) (P4.out.more (by have := HBn.out; omega))).mono ?_
  rintro e w5 ⟨A5, c5', rfl, -, -, r5, q5⟩
  replace RD := Lib.hid (RD.out.up q5)
  have R5 := Lib.hid r5
  have Q5 := Lib.hid (Q4.out.trans (q5.mono Q4.out.size))
  clear r5 q5
  go_wp2_with fail
  refine (pow10_any a1 w5 (by have := HBn.out; omega)).mono ?_
  rintro e w6 ⟨A6, c6', rfl, -, -, r6, q6⟩
  replace RD := Lib.hid (RD.out.up q6)
  replace R5 := Lib.hid (R5.out.up q6)
  have R6 := Lib.hid r6
  have Q6 := Lib.hid (Q5.out.trans (q6.mono Q5.out.size))
  clear r6 q6
  go_wp2_with fail
  refine (pow2_any a2 w6 (by have := HBn.out; omega)).mono ?_
  rintro e w7 ⟨A7, c7', rfl, -, -, r7, q7⟩
  replace RD := Lib.hid (RD.out.up q7)
  replace R5 := Lib.hid (R5.out.up q7)
  replace R6 := Lib.hid (R6.out.up q7)
  have R7 := Lib.hid r7
  have Q7 := Lib.hid (Q6.out.trans (q7.mono Q6.out.size))
  clear r7 q7
  go_wp2_with fail
  refine (rmul_any A6 c6' w7.heap.size (10 ^ a1) A7 c7' (2 ^ a2) w7 R6.out R7.out (Nat.le_refl _) (P6.out.more (by have := HBn.out; omega)) (P7.out.more (by have := HBn.out; omega))).mono ?_
  rintro e w8 ⟨A8, c8', rfl, -, -, r8, q8⟩
  replace RD := Lib.hid (RD.out.up q8)
  replace R5 := Lib.hid (R5.out.up q8)
  have R8 := Lib.hid r8
  have Q8 := Lib.hid (Q7.out.trans (q8.mono Q7.out.size))
  clear r8 q8
  go_wp2_with fail
  refine (rmul_any A c w8.heap.size D A8 c8' (10 ^ a1 * 2 ^ a2) w8 RD.out R8.out (Nat.le_refl _) (PD.out.more (by have := HBn.out; omega)) (P8.out.more (by have := HBn.out; omega))).mono ?_
  rintro e w9 ⟨A9, c9', rfl, -, -, r9, q9⟩
  replace R5 := Lib.hid (R5.out.up q9)
  have R9 := Lib.hid r9
  have Q9 := Lib.hid (Q8.out.trans (q9.mono Q8.out.size))
  clear r9 q9
  go_wp2_with fail
  refine (pow10_any a3 w9 (by have := HBn.out; omega)).mono ?_
  rintro e w10 ⟨A10, c10', rfl, -, -, r10, q10⟩
  replace R5 := Lib.hid (R5.out.up q10)
  replace R9 := Lib.hid (R9.out.up q10)
  have R10 := Lib.hid r10
  have Q10 := Lib.hid (Q9.out.trans (q10.mono Q9.out.size))
  clear r10 q10
  go_wp2_with fail
  refine (pow2_any a4 w10 (by have := HBn.out; omega)).mono ?_
  rintro e w11 ⟨A11, c11', rfl, -, -, r11, q11⟩
  replace R5 := Lib.hid (R5.out.up q11)
  replace R9 := Lib.hid (R9.out.up q11)
  replace R10 := Lib.hid (R10.out.up q11)
  have R11 := Lib.hid r11
  have Q11 := Lib.hid (Q10.out.trans (q11.mono Q10.out.size))
  clear r11 q11
  go_wp2_with fail
  refine (rmul_any A10 c10' w11.heap.size (10 ^ a3) A11 c11' (2 ^ a4) w11 R10.out R11.out (Nat.le_refl _) (P10.out.more (by have := HBn.out; omega)) (P11.out.more (by have := HBn.out; omega))).mono ?_
  rintro e w12 ⟨A12, c12', rfl, -, -, r12, q12⟩
  replace R5 := Lib.hid (R5.out.up q12)
  replace R9 := Lib.hid (R9.out.up q12)
  have R12 := Lib.hid r12
  have Q12 := Lib.hid (Q11.out.trans (q12.mono Q11.out.size))
  clear r12 q12
  go_wp2_with fail
  refine (rmul_any A5 c5' w12.heap.size (m * 2 + 1) A12 c12' (10 ^ a3 * 2 ^ a4) w12 R5.out R12.out (Nat.le_refl _) (P5.out.more (by have := HBn.out; omega)) (P12.out.more (by have := HBn.out; omega))).mono ?_
  rintro e w13 ⟨A13, c13', rfl, -, -, r13, q13⟩
  replace R9 := Lib.hid (R9.out.up q13)
  have R13 := Lib.hid r13
  have Q13 := Lib.hid (Q12.out.trans (q13.mono Q12.out.size))
  clear r13 q13
  go_wp2_with fail
  refine (rcmp_any A9 c9' w13.heap.size (D * (10 ^ a1 * 2 ^ a2)) A13 c13' ((m * 2 + 1) * (10 ^ a3 * 2 ^ a4)) w13 R9.out R13.out (Nat.le_refl _) (P9.out.more (by have := HBn.out; omega)) (P13.out.more (by have := HBn.out; omega))).mono ?_
  rintro e w14 ⟨rfl, q14⟩
  have Q14 := Lib.hid (Q13.out.trans (q14.mono Q13.out.size))
  clear q14
  go_wp2_with fail
  go_ret
  rw [HL.out.1, HL.out.2]
  exact ⟨rfl, Q14.out⟩
end Go.Proofs.Ytbpaiocbgbpiaaa
