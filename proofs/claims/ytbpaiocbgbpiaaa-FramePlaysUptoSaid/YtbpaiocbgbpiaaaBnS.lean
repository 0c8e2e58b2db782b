/- The document's Read, walked, for any seat. -/
import Derived.Test.YtbpaiocbgbpiaaaBnR
namespace Go.Proofs.Ytbpaiocbgbpiaaa
open Go.RowKit
set_option linter.unusedVariables false
set_option linter.unusedSimpArgs false

theorem decV_fold : ∀ (l : List UInt8) (v : Nat), (∀ c ∈ l, isDig c) → l.foldl (fun v c => 10 * v + (c.toNat - 48)) v + 1 ≤ 10 ^ l.length * (v + 1)
  | [], v, _ => by simp
  | c :: l, v, h => by
    have h2 := h c (by simp)
    unfold isDig at h2
    have ih := decV_fold l (10 * v + (c.toNat - 48)) fun x hx => h x (by simp [hx])
    rw [List.foldl_cons, List.length_cons, Nat.pow_succ]
    refine Nat.le_trans ih ?_
    rw [Nat.mul_assoc]
    exact Nat.mul_le_mul_left _ (by omega)
theorem decV_lt (l : List UInt8) (h : ∀ c ∈ l, isDig c) : decV l < 10 ^ l.length := by
  have := decV_fold l 0 h
  unfold decV
  omega
theorem ten_le (a k : Nat) (h : a ≤ k) : 10 ^ a ≤ 10000 ^ k := Nat.le_trans (Nat.pow_le_pow_left (show 10 ≤ 10000 by decide) _) (Nat.pow_le_pow_right (show 0 < 10000 by decide) h)
/-- Looked for by halves: the first place from lo on, below hi, at which p no longer holds (if p holds up to some place and then no more). -/
def srch (p : Nat → Bool) (lo hi : Nat) : Nat :=
  if h : lo < hi then (if p ((lo + hi) / 2) then srch p ((lo + hi) / 2 + 1) hi else srch p lo ((lo + hi) / 2)) else lo
  termination_by hi - lo
  decreasing_by all_goals omega
theorem srch_end (p : Nat → Bool) (lo : Nat) : srch p lo lo = lo := by
  rw [srch, dif_neg (by omega)]
theorem srch_up {p : Nat → Bool} {lo hi m : Nat} (h : lo < hi) (hm : m = (lo + hi) / 2) (hp : p m = true) : srch p lo hi = srch p (m + 1) hi := by
  subst hm
  rw [srch, dif_pos h, if_pos hp]
theorem srch_dn {p : Nat → Bool} {lo hi m : Nat} (h : lo < hi) (hm : m = (lo + hi) / 2) (hp : p m = false) : srch p lo hi = srch p lo m := by
  subst hm
  rw [srch, dif_pos h, if_neg (by rw [hp]; decide)]
/-- Is the value above the middle behind these bits? -/
def abv (D : Nat) (exp : Int) (b : Nat) : Bool := decide (rightN exp b < leftN D exp b)
def readS (D : Nat) (exp : Int) : Nat := srch (abv D exp) 0 9218868437227405312
/-- The nearest float's bits. -/
def readF (D : Nat) (exp : Int) : Nat :=
  if D = 0 then 0 else if readS D exp < 9218868437227405312 ∧ readS D exp % 2 = 1 ∧ leftN D exp (readS D exp) = rightN exp (readS D exp) then readS D exp + 1 else readS D exp

set_option maxRecDepth 20000 in
set_option maxHeartbeats 4000000 in
theorem read_any (s : ByteArray) (exp : Int) (w : World) (hs0 : s.size ≠ 0) (hs : s.size ≤ 1024) (hd : ∀ c ∈ s.data.toList, isDig c) (h1 : -1500 ≤ exp) (h2 : exp ≤ 400) :
    Calls Try.prog 52 #[.string s, .int .i64 exp] w fun e w' => e = .returned (.tuple #[.float .f64 (readF (decV s.data.toList) exp), .int .i64 0]) ∧ Below w.heap.size w w' := by
  have HPs := Lib.hid (rparse_ok s w hs0 (by omega) hd)
  have hP : Pc 5000 (decV s.data.toList) := by
    unfold Pc
    rw [dg_len (by omega)]
    refine Nat.lt_of_lt_of_le (decV_lt _ hd) ?_
    have hsz : s.data.toList.length = s.size := by simp
    rw [hsz]
    exact ten_le s.size 5000 (Nat.le_trans hs (by decide))
  have hF : readF (decV s.data.toList) exp = readF (decV s.data.toList) exp := rfl
  generalize decV s.data.toList = D at *
  have s1 : (s.size : Int) ≤ 1024 := by omega
  have HP := Lib.hid hP
  clear hP hd hs0 hs
  by_cases hD : D = 0
  · have d0 : (((dg 10000 D).length : Int) == 0) = true := by rw [hD]; rfl
    have HR : readF D exp = 0 := by unfold readF; rw [if_pos hD]
    have HRH := Lib.hid HR
    clear HR hD hF
    go_enter Try.func52, Try.ntmps52
    go_wp2_with fail
    refine HPs.out.mono ?_
    rintro e w1 ⟨A, c, rfl, -, hb1⟩
    go_wp2_with fail
    go_ret2
    rw [HRH.out]
    exact ⟨rfl, hb1⟩
  · have d0 : (((dg 10000 D).length : Int) == 0) = false := by
      rw [beq_eq_false_iff_ne]
      have := mt (dg_nil (b := 10000) (by omega) (n := D)).1 hD
      have := mt List.eq_nil_of_length_eq_zero this
      omega
    have HR : readF D exp = if readS D exp < 9218868437227405312 ∧ readS D exp % 2 = 1 ∧ leftN D exp (readS D exp) = rightN exp (readS D exp) then readS D exp + 1 else readS D exp := by unfold readF; rw [if_neg hD]
    have HRH := Lib.hid HR
    have HS0 := Lib.hid (show srch (abv D exp) 0 9218868437227405312 = readS D exp from rfl)
    clear HR hD hF
    generalize readF D exp = F at *
    generalize readS D exp = R at *
    go_enter Try.func52, Try.ntmps52
    go_wp2_with fail
    refine HPs.out.mono ?_
    rintro e w1 ⟨A, c, rfl, hr, hb1⟩
    have HRw := Lib.hid hr
    have HB1 := Lib.hid hb1
    clear hr hb1 HPs
    go_wp2_with fail
    go_loopw [8, 9] (fun v8 v9 wr => ∃ lo hi : Nat, v8 = .int .u64 (lo : Int) ∧ v9 = .int .u64 (hi : Int) ∧ lo ≤ hi ∧ hi ≤ 9218868437227405312 ∧ srch (abv D exp) lo hi = R ∧ Below w1.heap.size w1 wr)
      (fun v8 v9 _ => (intOf v9).toNat - (intOf v8).toNat)
    case atStart => exact ⟨0, 9218868437227405312, rfl, rfl, by omega, by omega, HS0.out, Below.refl _ _⟩
    case round =>
      clear HS0
      obtain ⟨lo, hi, rfl, rfl, hlh, hhi, hsr, hb⟩ := hrel
      by_cases hlt : lo < hi
      · obtain ⟨m, hm⟩ : ∃ m, m = (lo + hi) / 2 := ⟨_, rfl⟩
        have i1 : (lo : Int) < (hi : Int) := by omega
        have i2 : (hi : Int) ≤ 9218868437227405312 := by omega
        obtain ⟨S, hS⟩ : ∃ S, S = lo + hi := ⟨_, rfl⟩
        have e1 : (lo : Int) + (hi : Int) = (S : Int) := by omega
        have e2 : (S : Int).tdiv 2 = (m : Int) := by rw [hm, ← hS]; exact (Int.ofNat_tdiv S 2).symm
        have e3 : (S : Int) / 2 = (m : Int) := by omega
        have i3 : (S : Int) ≤ 18437736874454810624 := by omega
        have hAb := above_any A c w1.heap.size D exp m wr (HRw.out.below hb) hb.size HP.out h1 h2 (by omega)
        have HAb := Lib.hid hAb
        have HM := Lib.hid (And.intro hm (And.intro hlt (And.intro hhi hsr)))
        have HB := Lib.hid hb
        have i4 : (m : Int) ≤ 9218868437227405311 := by omega
        have HS := Lib.hid (show abv D exp m = decide (rightN exp m < leftN D exp m) from rfl)
        clear hAb hm hS hlh hhi hsr hlt hb
        generalize leftN D exp m = LN at *
        generalize rightN exp m = RN at *
        go_wp2_with fail
        refine HAb.out.mono ?_
        rintro e w2 ⟨rfl, hb2⟩
        have HB2 := Lib.hid (HB.out.trans (hb2.mono HB.out.size))
        clear hb2 HAb
        by_cases hc : RN < LN
        · have z1 : (0 : Int) < cmpI LN RN := by rw [cmpI_gt hc]; omega
          have HC := Lib.hid hc
          clear hc
          go_wp2_with fail
          go_roundw
          case rel =>
            obtain ⟨hm, hlt, hhi, hsr⟩ := HM.out
            exact ⟨m + 1, hi, by go_num, rfl, by omega, hhi, by rw [← hsr, srch_up hlt hm (by rw [HS.out, decide_eq_true HC.out])], HB2.out⟩
          case measure =>
            obtain ⟨hm, hlt, hhi, hsr⟩ := HM.out
            simp [intOf]; omega
        · have z1 : ¬ (0 : Int) < cmpI LN RN := by
            unfold cmpI
            by_cases q : LN < RN
            · rw [if_pos q]; omega
            · rw [if_neg q, if_neg hc]; omega
          have HC := Lib.hid hc
          clear hc
          go_wp2_with fail
          go_roundw
          case rel =>
            obtain ⟨hm, hlt, hhi, hsr⟩ := HM.out
            exact ⟨lo, m, rfl, rfl, by omega, by omega, by rw [← hsr, srch_dn hlt hm (by rw [HS.out, decide_eq_false HC.out])], HB2.out⟩
          case measure =>
            obtain ⟨hm, hlt, hhi, hsr⟩ := HM.out
            simp [intOf]; omega
      · obtain rfl : lo = hi := by omega
        rw [srch_end] at hsr
        subst hsr
        have i1 : ¬ (lo : Int) < (lo : Int) := by omega
        have hbw := HB1.out.trans (hb.mono HB1.out.size)
        have HBW := Lib.hid hbw
        have r1 : (lo : Int) ≤ 9218868437227405312 := by omega
        have r2 : (lo : Int).tmod 2 = ((lo % 2 : Nat) : Int) := (Int.ofNat_tmod lo 2).symm
        obtain ⟨t, ht⟩ : ∃ t, t = lo % 2 := ⟨_, rfl⟩
        have r3 : (lo : Int) % 2 = (t : Int) := by omega
        rw [← ht] at r2
        have hfr := rf_from (lo : Int)
        by_cases q1 : lo < 9218868437227405312
        · have j1 : (lo : Int) < 9218868437227405312 := by omega
          by_cases q2 : t = 1
          · have j2 : ((t : Int) == 1) = true := by rw [beq_iff_eq]; omega
            have hAb := above_any A c w1.heap.size D exp lo wr (HRw.out.below hb) hb.size HP.out h1 h2 (by omega)
            have HAb := Lib.hid hAb
            have HQ := Lib.hid (And.intro q1 (And.intro q2 ht))
            clear hAb hbw hb hlh hhi hlt i1 q2 ht q1
            generalize leftN D exp lo = LN at *
            generalize rightN exp lo = RN at *
            go_wp2_with fail
            refine HAb.out.mono ?_
            rintro e w2 ⟨rfl, hb2⟩
            have HB2 := Lib.hid (HBW.out.trans (hb2.mono HBW.out.size))
            clear hb2 HAb
            by_cases hc : LN = RN
            · have z1 : (cmpI LN RN == 0) = true := by rw [hc, cmpI_eq]; rfl
              have hfr2 := rf_from ((lo : Int) + 1)
              have HC := Lib.hid hc
              clear hc
              go_wp2_with fail
              go_ret2
              rw [HRH.out, if_pos ⟨HQ.out.1, by rw [← HQ.out.2.2]; exact HQ.out.2.1, HC.out⟩]
              refine ⟨?_, HB2.out⟩
              congr 3
            · have z1 : (cmpI LN RN == 0) = false := by
                rw [beq_eq_false_iff_ne]
                unfold cmpI
                by_cases q : LN < RN
                · rw [if_pos q]; omega
                · rw [if_neg q, if_pos (by omega)]; omega
              have HC := Lib.hid hc
              clear hc
              go_wp2_with fail
              go_ret2
              rw [HRH.out, if_neg (fun h => HC.out h.2.2)]
              exact ⟨rfl, HB2.out⟩
          · have j2 : ((t : Int) == 1) = false := by rw [beq_eq_false_iff_ne]; omega
            have HQ := Lib.hid (And.intro q2 ht)
            clear hbw hb hlh hhi hlt i1 q2 ht q1
            go_wp2_with fail
            go_ret2
            rw [HRH.out, if_neg (fun h => HQ.out.1 (by rw [HQ.out.2]; exact h.2.1))]
            exact ⟨rfl, HBW.out⟩
        · have j1 : ¬ (lo : Int) < 9218868437227405312 := by omega
          have HQ := Lib.hid q1
          clear hbw hb hlh hhi hlt i1 q1 ht
          go_wp2_with fail
          go_ret2
          rw [HRH.out, if_neg (fun h => HQ.out h.1)]
          exact ⟨rfl, HBW.out⟩
end Go.Proofs.Ytbpaiocbgbpiaaa
