/- The program's comparison, walked; a difference of three words. -/
import Derived.Test.YtpklbdgajbfaiaaNtW8
import Derived.Laws.BitsAllLaws
namespace Go.Proofs.Ytpklbdgajbfaiaa
open Go.RowKit
set_option linter.unusedVariables false

set_option maxHeartbeats 4000000 in
theorem ncmp_any (A : Option Addr) (c B x : Nat) (A2 : Option Addr) (c2 y : Nat) (w : World) (hr : Rw .u32 w B A (dg 4294967296 x)) (hr2 : Rw .u32 w B A2 (dg 4294967296 y)) (hB0 : B ≤ w.heap.size)
    (hl : (dg 4294967296 x).length ≤ 1000000) (hl2 : (dg 4294967296 y).length ≤ 1000000) :
    Calls Try.prog 31 #[.slice A (dg 4294967296 x).length c, .slice A2 (dg 4294967296 y).length c2] w fun e w' => e = .returned (.int .i64 (cmpI x y)) ∧ Below w.heap.size w w' := by
  rcases Nat.lt_trichotomy (dg 4294967296 x).length (dg 4294967296 y).length with hc | hc | hc
  · rw [cmpI_lt (len_lt (by omega) hc)]
    have t1 : (((dg 4294967296 x).length : Int) == ((dg 4294967296 y).length : Int)) = false := by rw [beq_eq_false_iff_ne]; omega
    have t2 : ((dg 4294967296 x).length : Int) < ((dg 4294967296 y).length : Int) := by omega
    generalize (dg 4294967296 x).length = n1 at *
    generalize (dg 4294967296 y).length = n2 at *
    clear hr hr2
    go_enter Try.func31, Try.ntmps31
    go_wp2_with fail
    go_ret
    exact ⟨rfl, Below.refl _ _⟩
  · have hlo1 := dg_lo (b := 4294967296) (by omega) x
    have hv1' := vb_dg (b := 4294967296) (by omega) x
    have hlo2 := dg_lo (b := 4294967296) (by omega) y
    have hv2' := vb_dg (b := 4294967296) (by omega) y
    generalize dg 4294967296 x = l1 at *
    generalize dg 4294967296 y = l2 at *
    subst hv1' hv2'
    obtain ⟨n, hn1⟩ : ∃ n, l1.length = n := ⟨_, rfl⟩
    have hn2 : l2.length = n := by omega
    rw [hn1, hn2]
    rw [hn1] at hl
    clear hl2
    have t1 : ((n : Int) == (n : Int)) = true := beq_self_eq_true _
    have HC := Lib.hid hc
    clear hc
    go_enter Try.func31, Try.ntmps31
    go_wp2_with fail
    go_loopw [5] (fun v5 wr => ∃ k : Nat, v5 = .int .i64 ((k : Int) - 1) ∧ k ≤ n ∧ l1.drop k = l2.drop k ∧ Below w.heap.size w wr)
      (fun v5 _ => (intOf v5 + 1).toNat)
    case atStart => exact ⟨n, by go_num, Nat.le_refl _, by rw [List.drop_of_length_le (by omega), List.drop_of_length_le (by omega)], Below.refl _ _⟩
    case round =>
      obtain ⟨k, rfl, hk, hd, hB⟩ := hrel
      cases k with
      | zero =>
        have he : l1 = l2 := by simpa using hd
        subst he
        go_wp2_with fail
        go_ret
        rw [cmpI_eq]
        exact ⟨rfl, hB⟩
      | succ k =>
        have hrw1 : Rw .u32 wr B A l1 := hr.below (hB.mono hB0)
        have hrw2 : Rw .u32 wr B A2 l2 := hr2.below (hB.mono hB0)
        obtain ⟨b1, o1, rfl, _, h1c⟩ := hrw1.at_ (i := k) (by omega)
        obtain ⟨b2, o2, rfl, _, h2c⟩ := hrw2.at_ (i := k) (by omega)
        have HL := Lib.hid (fun h => cmpI_lt (cmp_at 4294967296 (by omega) hlo1 hlo2 HC.out (i := k) (by omega) hd h))
        have HG := Lib.hid (fun h => cmpI_gt (cmp_at 4294967296 (by omega) hlo2 hlo1 HC.out.symm (i := k) (by omega) hd.symm h))
        have HE := Lib.hid (fun h : l1.getD k 0 = l2.getD k 0 => drop_step (i := k) (by omega) (by omega) hd h)
        generalize l1.getD k 0 = d1 at *
        generalize l2.getD k 0 = d2 at *
        have hk1 : (((k + 1 : Nat) : Int) - 1) = (k : Int) := by omega
        rw [hk1]
        have i0 : (0 : Int) ≤ (k : Int) := by omega
        have i1 : (k : Int) < (n : Int) := by omega
        clear hd hrw1 hrw2 hr hr2
        rcases Nat.lt_trichotomy d1 d2 with hlt | heq | hgt
        · have q1 : (d1 : Int) < (d2 : Int) := by omega
          have q0 : ((d1 : Int) == (d2 : Int)) = false := by rw [beq_eq_false_iff_ne]; omega
          go_wp2_with fail
          go_quiet (fail)
          go_wp2_with fail
          go_quiet (fail)
          go_wp2_with fail
          go_ret
          rw [HL.out hlt]
          exact ⟨rfl, ⟨hB.os, hB.tape, hB.output, hB.size, hB.block⟩⟩
        · subst heq
          have q1 : ((d1 : Int) == (d1 : Int)) = true := beq_self_eq_true _
          go_wp2_with fail
          go_quiet (fail)
          go_wp2_with fail
          go_roundw
          case rel =>
            exact ⟨k, by go_num, by omega, HE.out trivial, ⟨hB.os, hB.tape, hB.output, hB.size, hB.block⟩⟩
          case measure => simp [intOf]
        · have q1 : ¬ (d1 : Int) < (d2 : Int) := by omega
          have q2 : ((d1 : Int) == (d2 : Int)) = false := by rw [beq_eq_false_iff_ne]; omega
          go_wp2_with fail
          go_quiet (fail)
          go_wp2_with fail
          go_quiet (fail)
          go_wp2_with fail
          go_ret
          rw [HG.out hgt]
          exact ⟨rfl, ⟨hB.os, hB.tape, hB.output, hB.size, hB.block⟩⟩
  · rw [cmpI_gt (len_lt (by omega) hc)]
    have t1 : (((dg 4294967296 x).length : Int) == ((dg 4294967296 y).length : Int)) = false := by rw [beq_eq_false_iff_ne]; omega
    have t2 : ¬ ((dg 4294967296 x).length : Int) < ((dg 4294967296 y).length : Int) := by omega
    generalize (dg 4294967296 x).length = n1 at *
    generalize (dg 4294967296 y).length = n2 at *
    clear hr hr2
    go_enter Try.func31, Try.ntmps31
    go_wp2_with fail
    go_ret
    exact ⟨rfl, Below.refl _ _⟩


theorem top31 (n : Nat) (h : n < 4294967296) : n.testBit 31 = decide (2147483648 ≤ n) := by
  rw [Nat.testBit_eq_decide_div_mod_eq]
  congr 1
  rw [show (2 : Nat) ^ 31 = 2147483648 from rfl]
  exact propext ⟨fun h2 => by omega, fun h2 => by omega⟩
theorem hi31 (n : Nat) (h : n < 4294967296) : n / 2147483648 = if n.testBit 31 = true then 1 else 0 := by
  rw [top31 n h]
  by_cases h2 : 2147483648 ≤ n
  · rw [if_pos (decide_eq_true h2)]; omega
  · rw [if_neg (by simpa using h2)]; omega
theorem xor_lt32 {a b : Nat} (ha : a < 4294967296) (hb : b < 4294967296) : a ^^^ b < 4294967296 := Nat.xor_lt_two_pow (n := 32) ha hb
theorem borrow (x y d : Nat) (hx : x < 4294967296) (hy : y < 4294967296) (hd : d < 4294967296) :
    bits .or .u32 (bits .and .u32 (bits .xor .u32 IntKind.u32.max (x : Int)) (y : Int)) (bits .and .u32 (bits .xor .u32 IntKind.u32.max (bits .xor .u32 (x : Int) (y : Int))) (d : Int)) / 2147483648 =
      ((if ((!decide (2147483648 ≤ x) && decide (2147483648 ≤ y)) || (!(decide (2147483648 ≤ x) ^^ decide (2147483648 ≤ y)) && decide (2147483648 ≤ d))) = true then 1 else 0 : Nat) : Int) := by
  have hm : (4294967295 : Nat) < 4294967296 := by decide
  rw [show IntKind.u32.max = ((4294967295 : Nat) : Int) from by decide, u32_xor_nat _ _ hm hx, u32_xor_nat _ _ hx hy, u32_xor_nat _ _ hm (xor_lt32 hx hy),
    u32_and_nat _ _ (xor_lt32 hm hx) hy, u32_and_nat _ _ (xor_lt32 hm (xor_lt32 hx hy)) hd,
    u32_or_nat _ _ (Nat.and_lt_two_pow (n := 32) _ hy) (Nat.and_lt_two_pow (n := 32) _ hd)]
  have hC : ((4294967295 ^^^ x) &&& y ||| (4294967295 ^^^ (x ^^^ y)) &&& d) < 4294967296 := Nat.or_lt_two_pow (n := 32) (Nat.and_lt_two_pow (n := 32) _ hy) (Nat.and_lt_two_pow (n := 32) _ hd)
  have h1 := hi31 _ hC
  rw [Nat.testBit_or, Nat.testBit_and, Nat.testBit_and, Nat.testBit_xor, Nat.testBit_xor, Nat.testBit_xor, top31 x hx, top31 y hy, top31 d hd, top31 _ hm, show decide (2147483648 ≤ 4294967295) = true from rfl, Bool.true_xor, Bool.true_xor] at h1
  rw [← h1]
  omega

/-- The difference of three words and its borrow. -/
theorem sub32_walk (x y b : Nat) (w : World) (hx : x < 4294967296) (hy : y < 4294967296) (hb : b ≤ 1) :
    Calls Try.prog 44 #[.int .u32 (x : Int), .int .u32 (y : Int), .int .u32 (b : Int)] w fun e w' => e = .returned (.tuple #[.int .u32 (((x + 8589934592 - y - b) % 4294967296 : Nat) : Int), .int .u32 ((if x < y + b then 1 else 0 : Nat) : Int)]) ∧ w = w' := by
  obtain ⟨d, hd⟩ : ∃ d, d = (x + 8589934592 - y - b) % 4294967296 := ⟨_, rfl⟩
  have hdl : d < 4294967296 := by omega
  have hdi : ((x : Int) - (y : Int) - (b : Int)) % 4294967296 = (d : Int) := by omega
  have hbo := borrow x y d hx hy hdl
  have hv : (if ((!decide (2147483648 ≤ x) && decide (2147483648 ≤ y)) || (!(decide (2147483648 ≤ x) ^^ decide (2147483648 ≤ y)) && decide (2147483648 ≤ d))) = true then 1 else 0 : Nat) = if x < y + b then 1 else 0 := by
    by_cases h1 : 2147483648 ≤ x <;> by_cases h2 : 2147483648 ≤ y <;> by_cases h3 : 2147483648 ≤ d <;> simp only [h1, h2, h3, decide_true, decide_false, Bool.not_true, Bool.not_false, Bool.true_and, Bool.false_and, Bool.xor_self, Bool.xor_true, Bool.xor_false, Bool.or_true, Bool.or_false, if_true, Bool.false_eq_true, if_false] <;> (split <;> omega)
  rw [hv] at hbo
  rw [← hd]
  generalize (if x < y + b then 1 else 0 : Nat) = r at *
  clear hv hd
  go_enter Try.func44, Try.ntmps44
  go_wp2_with fail
  all_goals first | exact absurd ‹IntKind.u32.signed = true› (by decide) | skip
  go_ret2
  exact ⟨rfl, rfl⟩

end Go.Proofs.Ytpklbdgajbfaiaa
