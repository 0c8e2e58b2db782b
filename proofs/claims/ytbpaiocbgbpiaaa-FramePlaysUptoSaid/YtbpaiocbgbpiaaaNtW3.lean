/- The document's comparison, walked. -/
import Derived.Test.YtbpaiocbgbpiaaaNtW2
import Derived.Deep.QuietTactic
import Derived.BigQuiet
namespace Go.Proofs.Ytbpaiocbgbpiaaa
open Go.RowKit
set_option linter.unusedVariables false

theorem vb_split (b : Nat) (l : List Nat) (i : Nat) (h : i < l.length) : vb b l = vb b (l.take i) + b ^ i * (l.getD i 0 + b * vb b (l.drop (i + 1))) := by
  have e : l = l.take i ++ (l.getD i 0 :: l.drop (i + 1)) := by
    rw [List.getD_eq_getElem?_getD, List.getElem?_eq_getElem h]
    show l = l.take i ++ (l[i] :: l.drop (i + 1))
    rw [← List.drop_eq_getElem_cons h, List.take_append_drop]
  have e2 := congrArg (vb b) e
  rw [vb_append, List.length_take, Nat.min_eq_left (by omega)] at e2
  exact e2
theorem cmp_at (b : Nat) (hb : 0 < b) {l r : List Nat} (hl : Lo b l) (hr : Lo b r) (hlen : l.length = r.length) {i : Nat} (hi : i < l.length) (hd : l.drop (i + 1) = r.drop (i + 1)) (h : l.getD i 0 < r.getD i 0) : vb b l < vb b r := by
  rw [vb_split b l i hi, vb_split b r i (by omega), hd]
  have h1 := vb_lt b hb _ (lo_take hl i)
  rw [List.length_take, Nat.min_eq_left (by omega)] at h1
  generalize vb b (r.drop (i + 1)) = v at *
  have h2 : b ^ i * (l.getD i 0 + b * v + 1) ≤ b ^ i * (r.getD i 0 + b * v) := Nat.mul_le_mul_left _ (by omega)
  rw [Nat.mul_add (b ^ i) (l.getD i 0 + b * v) 1] at h2
  omega
def cmpI (x y : Nat) : Int := if x < y then -1 else if y < x then 1 else 0
theorem cmpI_lt {x y : Nat} (h : x < y) : cmpI x y = -1 := if_pos h
theorem cmpI_gt {x y : Nat} (h : y < x) : cmpI x y = 1 := by unfold cmpI; rw [if_neg (by omega), if_pos h]
theorem cmpI_eq (x : Nat) : cmpI x x = 0 := by unfold cmpI; rw [if_neg (by omega), if_neg (by omega)]
theorem len_lt {b : Nat} (hb : 2 ≤ b) {x y : Nat} (h : (dg b x).length < (dg b y).length) : x < y := by
  have h1 := (dg_len hb (dg b x).length x).1 (Nat.le_refl _)
  rcases Nat.lt_or_ge x y with h2 | h2
  · exact h2
  · have := (dg_len hb (dg b x).length y).2 (Nat.lt_of_le_of_lt h2 h1)
    omega
theorem quiet_below {B : Nat} {w w' : World} (h : Below B w w') (n : Nat) : Below B w (w'.drewN n) := ⟨h.os, h.tape, h.output, h.size, h.block⟩
theorem drop_step {l r : List Nat} {i : Nat} (hi : i < l.length) (hi2 : i < r.length) (hd : l.drop (i + 1) = r.drop (i + 1)) (h : l.getD i 0 = r.getD i 0) : l.drop i = r.drop i := by
  rw [List.drop_eq_getElem_cons hi, List.drop_eq_getElem_cons hi2, hd]
  rw [List.getD_eq_getElem?_getD, List.getD_eq_getElem?_getD, List.getElem?_eq_getElem hi, List.getElem?_eq_getElem hi2] at h
  have h' : l[i] = r[i] := h
  rw [h']

set_option maxHeartbeats 4000000 in
theorem rcmp_any (A : Option Addr) (c B x : Nat) (A2 : Option Addr) (c2 y : Nat) (w : World) (hr : Rw .i64 w B A (dg 10000 x)) (hr2 : Rw .i64 w B A2 (dg 10000 y)) (hB0 : B ≤ w.heap.size)
    (hl : (dg 10000 x).length ≤ 1000000) (hl2 : (dg 10000 y).length ≤ 1000000) :
    Calls Try.prog 61 #[.slice A (dg 10000 x).length c, .slice A2 (dg 10000 y).length c2] w fun e w' => e = .returned (.int .i64 (cmpI x y)) ∧ Below w.heap.size w w' := by
  rcases Nat.lt_trichotomy (dg 10000 x).length (dg 10000 y).length with hc | hc | hc
  · rw [cmpI_lt (len_lt (by omega) hc)]
    have t1 : (((dg 10000 x).length : Int) == ((dg 10000 y).length : Int)) = false := by rw [beq_eq_false_iff_ne]; omega
    have t2 : ((dg 10000 x).length : Int) < ((dg 10000 y).length : Int) := by omega
    generalize (dg 10000 x).length = n1 at *
    generalize (dg 10000 y).length = n2 at *
    clear hr hr2
    go_enter Try.func61, Try.ntmps61
    go_wp2_with fail
    go_ret
    exact ⟨rfl, Below.refl _ _⟩
  · have hlo1 := dg_lo (b := 10000) (by omega) x
    have hv1' := vb_dg (b := 10000) (by omega) x
    have hlo2 := dg_lo (b := 10000) (by omega) y
    have hv2' := vb_dg (b := 10000) (by omega) y
    generalize dg 10000 x = l1 at *
    generalize dg 10000 y = l2 at *
    subst hv1' hv2'
    obtain ⟨n, hn1⟩ : ∃ n, l1.length = n := ⟨_, rfl⟩
    have hn2 : l2.length = n := by omega
    rw [hn1, hn2]
    rw [hn1] at hl
    clear hl2
    have t1 : ((n : Int) == (n : Int)) = true := beq_self_eq_true _
    have HC := Lib.hid hc
    clear hc
    go_enter Try.func61, Try.ntmps61
    go_wp2_with fail
    go_loopw [5] (fun v5 wr => ∃ k : Nat, v5 = .int .i64 ((k : Int) - 1) ∧ k ≤ n ∧ l1.drop k = l2.drop k ∧ Below w.heap.size w wr)
      (fun v5 _ => (intOf v5 + 1).toNat)
    case atStart => exact ⟨n, by go_num, Nat.le_refl _, by rw [List.drop_of_length_le (by omega), List.drop_of_length_le (by omega)], Below.refl _ _⟩
    case round =>
      obtain ⟨k, rfl, hk, hd, hB⟩ := hrel
      cases k with
      | zero =>
        have he : l1 = l2 := by simpa using hd
        subst he
        go_wp2_with fail
        go_ret
        rw [cmpI_eq]
        exact ⟨rfl, hB⟩
      | succ k =>
        have hrw1 : Rw .i64 wr B A l1 := hr.below (hB.mono hB0)
        have hrw2 : Rw .i64 wr B A2 l2 := hr2.below (hB.mono hB0)
        obtain ⟨b1, o1, rfl, _, h1c⟩ := hrw1.at_ (i := k) (by omega)
        obtain ⟨b2, o2, rfl, _, h2c⟩ := hrw2.at_ (i := k) (by omega)
        have HL := Lib.hid (fun h => cmpI_lt (cmp_at 10000 (by omega) hlo1 hlo2 HC.out (i := k) (by omega) hd h))
        have HG := Lib.hid (fun h => cmpI_gt (cmp_at 10000 (by omega) hlo2 hlo1 HC.out.symm (i := k) (by omega) hd.symm h))
        have HE := Lib.hid (fun h : l1.getD k 0 = l2.getD k 0 => drop_step (i := k) (by omega) (by omega) hd h)
        generalize l1.getD k 0 = d1 at *
        generalize l2.getD k 0 = d2 at *
        have hk1 : (((k + 1 : Nat) : Int) - 1) = (k : Int) := by omega
        rw [hk1]
        have i0 : (0 : Int) ≤ (k : Int) := by omega
        have i1 : (k : Int) < (n : Int) := by omega
        clear hd hrw1 hrw2 hr hr2
        rcases Nat.lt_trichotomy d1 d2 with hlt | heq | hgt
        · have q1 : (d1 : Int) < (d2 : Int) := by omega
          go_wp2_with fail
          go_quiet (fail)
          go_wp2_with fail
          go_ret
          rw [HL.out hlt]
          exact ⟨rfl, ⟨hB.os, hB.tape, hB.output, hB.size, hB.block⟩⟩
        · subst heq
          have q1 : ¬ (d1 : Int) < (d1 : Int) := by omega
          go_wp2_with fail
          go_quiet (fail)
          go_wp2_with fail
          go_quiet (fail)
          go_wp2_with fail
          go_roundw
          case rel =>
            exact ⟨k, by go_num, by omega, HE.out trivial, ⟨hB.os, hB.tape, hB.output, hB.size, hB.block⟩⟩
          case measure => simp [intOf]
        · have q1 : ¬ (d1 : Int) < (d2 : Int) := by omega
          have q2 : (d2 : Int) < (d1 : Int) := by omega
          go_wp2_with fail
          go_quiet (fail)
          go_wp2_with fail
          go_quiet (fail)
          go_wp2_with fail
          go_ret
          rw [HG.out hgt]
          exact ⟨rfl, ⟨hB.os, hB.tape, hB.output, hB.size, hB.block⟩⟩
  · rw [cmpI_gt (len_lt (by omega) hc)]
    have t1 : (((dg 10000 x).length : Int) == ((dg 10000 y).length : Int)) = false := by rw [beq_eq_false_iff_ne]; omega
    have t2 : ¬ ((dg 10000 x).length : Int) < ((dg 10000 y).length : Int) := by omega
    generalize (dg 10000 x).length = n1 at *
    generalize (dg 10000 y).length = n2 at *
    clear hr hr2
    go_enter Try.func61, Try.ntmps61
    go_wp2_with fail
    go_ret
    exact ⟨rfl, Below.refl _ _⟩

end Go.Proofs.Ytbpaiocbgbpiaaa
