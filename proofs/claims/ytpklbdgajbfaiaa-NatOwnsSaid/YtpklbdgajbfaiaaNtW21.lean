/- The program's long division, walked. -/
import Derived.Test.YtpklbdgajbfaiaaNtW20
namespace Go.Proofs.Ytpklbdgajbfaiaa
open Go.RowKit
set_option linter.unusedVariables false

theorem nbits_le {l : List Nat} (hlo : Lo 4294967296 l) : nbits l ≤ 32 * l.length := by
  unfold nbits
  split
  · omega
  · have hx := lo_getD (b := 4294967296) (by omega) hlo (l.length - 1)
    have := Lib.bitLen_le (l.getD (l.length - 1) 0) 32 (by omega) (by omega)
    omega
theorem nbits_lt {l : List Nat} (hlo : Lo 4294967296 l) : vb 4294967296 l < 2 ^ nbits l := by
  unfold nbits
  split
  · rename_i h
    have : l = [] := List.eq_nil_of_length_eq_zero h
    subst this; simp [vb]
  · rename_i h
    have hx := lo_getD (b := 4294967296) (by omega) hlo (l.length - 1)
    have ht := blen_lt 64 (l.getD (l.length - 1) 0) (by omega)
    have e := vb_take 4294967296 l (l.length - 1)
    rw [List.take_of_length_le (by omega)] at e
    have h2 := vb_lt 4294967296 (by omega) _ (lo_take hlo (l.length - 1))
    rw [List.length_take, Nat.min_eq_left (by omega)] at h2
    rw [e, Nat.pow_add, Nat.pow_mul, show (2 : Nat) ^ 32 = 4294967296 from rfl]
    have h3 : 4294967296 ^ (l.length - 1) * (l.getD (l.length - 1) 0 + 1) ≤ 4294967296 ^ (l.length - 1) * 2 ^ Lib.bitLen (l.getD (l.length - 1) 0) := Nat.mul_le_mul_left _ ht
    rw [Nat.mul_add, Nat.mul_one] at h3
    omega

theorem own_below {w w' : World} {b : Nat} {e : TypeId} {v : Value} {n : Nat} {xs : List Value} (h : w.ownsRow b e 1 v n xs) (hb : Below w.heap.size w w') : w'.ownsRow b e 1 v n xs :=
  h.kept (row := none) ⟨hb.os, hb.tape, hb.output, hb.size, fun k hk _ => hb.block k hk⟩ (by cases v.ownBlock <;> simp)
theorem qbit {qs : List Nat} (hlo : Lo 4294967296 qs) {Q kd km : Nat} (h : vb 4294967296 qs = Q * 2 ^ (32 * kd + km + 1)) (hkm : km < 32) : qs.getD kd 0 % 2 ^ (km + 1) = 0 := by
  rw [getD_div hlo, h, show 32 * kd + km + 1 = 32 * kd + (km + 1) by omega, Nat.pow_add, Nat.pow_mul, show (2 : Nat) ^ 32 = 4294967296 from rfl, ← Nat.mul_assoc, Nat.mul_comm Q, Nat.mul_assoc, Nat.mul_div_cancel_left _ (Nat.pow_pos (by omega))]
  have e : (4294967296 : Nat) = 2 ^ (km + 1) * 2 ^ (31 - km) := by rw [← Nat.pow_add, show km + 1 + (31 - km) = 32 by omega]
  rw [e, Nat.mod_mul_right_mod, Nat.mul_mod_left]
theorem qset {qs : List Nat} {Q kd km : Nat} (hk : kd < qs.length) (h : vb 4294967296 qs = Q * 2 ^ (32 * kd + km + 1)) : vb 4294967296 (qs.set kd (qs.getD kd 0 + 2 ^ km)) = (2 * Q + 1) * 2 ^ (32 * kd + km) := by
  have e := vb_set 4294967296 qs kd (qs.getD kd 0 + 2 ^ km) hk
  rw [Nat.mul_add, h] at e
  have e2 : 4294967296 ^ kd * 2 ^ km = 2 ^ (32 * kd + km) := by rw [Nat.pow_add, Nat.pow_mul]
  rw [e2, Nat.pow_succ, ← Nat.mul_assoc] at e
  rw [Nat.add_mul, Nat.one_mul, Nat.mul_assoc]
  omega
theorem qfit {x km : Nat} (hx : x < 4294967296) (hkm : km < 32) (h : x % 2 ^ (km + 1) = 0) : x + 2 ^ km < 4294967296 := by
  have e : (4294967296 : Nat) = 2 ^ (km + 1) * 2 ^ (31 - km) := by rw [← Nat.pow_add, show km + 1 + (31 - km) = 32 by omega]
  have h2 : x = 2 ^ (km + 1) * (x / 2 ^ (km + 1)) := by have := Nat.mod_add_div x (2 ^ (km + 1)); omega
  have h3 : x / 2 ^ (km + 1) < 2 ^ (31 - km) := Nat.div_lt_of_lt_mul (by rw [← e]; exact hx)
  have h4 : 2 ^ (km + 1) * (x / 2 ^ (km + 1) + 1) ≤ 2 ^ (km + 1) * 2 ^ (31 - km) := Nat.mul_le_mul_left _ h3
  rw [← e, Nat.mul_add, ← h2, Nat.pow_succ] at h4
  have := Nat.two_pow_pos km
  omega
theorem no_carry {R n bt P L y b : Nat} (hR : 2 ≤ R) (hbt : bt ≤ 1) (hyR : y < R ^ n) (hL : L < y) (hb : b ≤ 1) (hv : P + R ^ (n + 1) * bt = 2 * L + b) : P = 2 * L + b := by
  rcases Nat.eq_zero_or_pos bt with h | h
  · subst h; simpa using hv
  · have hbt1 : bt = 1 := by omega
    subst hbt1
    have hRR : R ^ n * 2 ≤ R ^ n * R := Nat.mul_le_mul_left _ hR
    rw [Nat.mul_one, Nat.pow_succ] at hv
    generalize R ^ n * R = Z at *
    omega

/-- Division's answer: a quotient and what is left, each in a block of its own. -/
def DivAns (w : World) (q r : Nat) (e : Ending) (w' : World) : Prop :=
  ∃ m A3 c3 A4 c4, e = .returned (.tuple #[.slice A3 (dg 4294967296 q).length c3, .slice A4 (dg 4294967296 r).length c4, .int .i64 0]) ∧
    Fr w.heap.size w' A3 c3 (dg 4294967296 q) ∧ Fr m w' A4 c4 (dg 4294967296 r) ∧ w.heap.size ≤ m ∧ (∀ p, A3 = some p → p.block < m) ∧ Below w.heap.size w w'

set_option maxRecDepth 100000 in
set_option maxHeartbeats 8000000 in
theorem ndiv_long (A : Option Addr) (c B x : Nat) (A2 : Option Addr) (c2 y : Nat) (w : World) (hr : Rw .u32 w B A (dg 4294967296 x)) (hr2 : Rw .u32 w B A2 (dg 4294967296 y)) (hB0 : B ≤ w.heap.size)
    (hxl : (dg 4294967296 x).length ≤ 256) (hyl : (dg 4294967296 y).length ≤ 256) (hy2 : 2 ≤ (dg 4294967296 y).length) :
    Calls Try.prog 13 #[.slice A (dg 4294967296 x).length c, .slice A2 (dg 4294967296 y).length c2] w (DivAns w (x / y) (x % y)) := by
  unfold DivAns
  have HV1 := valid_any A c B _ w hr (by unfold maxLen; omega)
  rw [okL_of hxl (dg_top (by omega) x)] at HV1
  have HV2 := valid_any A2 c2 B _ w hr2 (by unfold maxLen; omega)
  rw [okL_of hyl (dg_top (by omega) y)] at HV2
  have hlo1 := dg_lo (b := 4294967296) (by omega) x
  have hv1 := vb_dg (b := 4294967296) (by omega) x
  have hlo2 := dg_lo (b := 4294967296) (by omega) y
  have hv2 := vb_dg (b := 4294967296) (by omega) y
  generalize dg 4294967296 x = l1 at *
  generalize hl2 : dg 4294967296 y = l2 at *
  have HL2 := Lib.hid hl2
  clear hl2
  replace HV1 := Lib.hid HV1
  replace HV2 := Lib.hid HV2
  have y2 : ((l2.length : Int) == 0) = false := by rw [beq_eq_false_iff_ne]; omega
  have y3 : ((l2.length : Int) == 1) = false := by rw [beq_eq_false_iff_ne]; omega
  obtain ⟨i0, hi, hz0, hz1, hz2⟩ := info_parts uint_info
  go_enter Try.func13, Try.ntmps13
  go_wp2_with fail
  refine HV1.out.mono ?_
  rintro e w' ⟨he, hw⟩
  subst he
  subst hw
  dsimp only
  go_wp2_with fail
  refine HV2.out.mono ?_
  rintro e w' ⟨he, hw⟩
  subst he
  subst hw
  dsimp only
  go_wp2_with (first | (refine wpList_make_full _ rfl (.tmp 45) (.tmp 45) 22 rfl w.heap.size 24 i0 (.int .u32 0) 1 Try.underlying22 hi hz0 hz1 .i64 .i64 _ _ l1.length rfl rfl (by go_num) (by go_num) (by rw [hz2]; omega) (by unfold maxLen; omega) (Nat.le_refl _) ?_; intro w1 hq1 hg1) | (refine wpList_make_full _ rfl (.tmp 49) (.tmp 49) 22 rfl w1.heap.size 24 i0 (.int .u32 0) 1 Try.underlying22 hi hz0 hz1 .i64 .i64 _ _ (l2.length + 1) rfl rfl (by go_num) (by go_num) (by rw [hz2]; omega) (by unfold maxLen; omega) (Nat.le_refl _) ?_; intro w2 hl3 hg2))
  rw [made_zero32] at hq1
  have hB1 : Below w.heap.size w w1 := (Below.refl _ w).grown hg1 (Nat.le_refl _) (fun k e => by cases e)
  have hgq := (hq1.lt w.heap.size rfl).2
  rw [made_zero32] at hl3
  have hq2 := hq1.kept hg2 (.inr (by simp [Value.ownBlock]))
  have hB2 : Below w.heap.size w w2 := hB1.grown hg2 hB1.size (fun k e => by cases e)
  have hnb := nbits_le hlo1
  have hnl := nbits_lt hlo1
  have hBt := bits_any A c B l1 w2 (hr.below (hB2.mono hB0)) hlo1 (by omega)
  go_wp2_with fail
  refine hBt.mono ?_
  rintro e w' ⟨he, hw⟩
  subst he
  subst hw
  dsimp only
  clear hBt hq1 hg1 hg2 hB1
  go_wp2_with fail
  have hy0 : 0 < y := by
    rcases Nat.eq_zero_or_pos y with h | h
    · subst h; have := HL2.out; rw [dg_zero] at this; rw [← this] at hy2; simp at hy2
    · exact h
  go_loopw [11] (fun v11 wr => ∃ (k Q : Nat) (qs ls : List Nat), v11 = .int .i64 ((k : Int) - 1) ∧ k ≤ nbits l1 ∧ qs.length = l1.length ∧ ls.length = l2.length + 1 ∧ Lo 4294967296 qs ∧ Lo 4294967296 ls ∧ vb 4294967296 ls < y ∧ Q * y + vb 4294967296 ls = x / 2 ^ k ∧ vb 4294967296 qs = Q * 2 ^ k ∧
      wr.ownsRow w.heap.size 24 1 (.slice (some ⟨w.heap.size, 0, none⟩) l1.length l1.length) l1.length (cellsN .u32 qs) ∧ wr.ownsRow w1.heap.size 24 1 (.slice (some ⟨w1.heap.size, 0, none⟩) (l2.length + 1) (l2.length + 1)) (l2.length + 1) (cellsN .u32 ls) ∧ Below w.heap.size w wr ∧ w2.heap.size ≤ wr.heap.size)
    (fun v11 _ => (intOf v11 + 1).toNat)
  case atStart =>
    refine ⟨nbits l1, 0, _, _, by go_num, Nat.le_refl _, by simp, by simp, lo_zero (by omega) _, lo_zero (by omega) _, by rw [vb_zero]; exact hy0, ?_, by rw [vb_zero]; simp, hq2, hl3, hB2, Nat.le_refl _⟩
    rw [vb_zero, ← hv1, Nat.div_eq_of_lt hnl]; simp
  case round =>
    obtain ⟨k, Q, qs, ls, rfl, hk, hqn, hln, hqo, hlo, hlt, hQ, hqv, hoq, hol, hBr, hzr⟩ := hrel
    clear hq2 hl3 hB2
    cases k with
    | zero =>
      rw [Nat.pow_zero, Nat.div_one] at hQ
      rw [Nat.pow_zero, Nat.mul_one] at hqv
      have hqd : x / y = Q := by
        rw [← hQ, Nat.mul_comm, Nat.mul_add_div hy0, Nat.div_eq_of_lt hlt, Nat.add_zero]
      have hqr : x % y = vb 4294967296 ls := by
        rw [← hQ, Nat.mul_comm, Nat.mul_add_mod, Nat.mod_eq_of_lt hlt]
      have hfq : Fr w.heap.size wr _ _ _ := Fr.of_own hoq
      have hfl : Fr w1.heap.size wr _ _ _ := (Fr.of_own hol)
      have hT1 := trim_any (some ⟨w.heap.size, 0, none⟩) l1.length wr.heap.size qs wr hfq.rw (by omega) (by unfold maxLen; omega)
      have hT2 := trim_any (some ⟨w1.heap.size, 0, none⟩) (l2.length + 1) wr.heap.size ls wr hfl.rw (by omega) (by unfold maxLen; omega)
      rw [trimL_dg (b := 4294967296) (by omega) qs hqo, hqv, ← hqd, hqn] at hT1
      rw [trimL_dg (b := 4294967296) (by omega) ls hlo, ← hqr, hln] at hT2
      have hfq2 := hfq.trim
      have hfl2 := hfl.trim
      rw [trimL_dg (b := 4294967296) (by omega) qs hqo, hqv, ← hqd] at hfq2
      rw [trimL_dg (b := 4294967296) (by omega) ls hlo, ← hqr] at hfl2
      have hC1 := clip_any (some ⟨w.heap.size, 0, none⟩) _ l1.length wr hfq2.1 hfq2.2.1 (fun _ => ⟨_, rfl⟩)
      have hC2 := clip_any (some ⟨w1.heap.size, 0, none⟩) _ (l2.length + 1) wr hfl2.1 hfl2.2.1 (fun _ => ⟨_, rfl⟩)
      replace hT1 := Lib.hid hT1
      replace hT2 := Lib.hid hT2
      replace hC1 := Lib.hid hC1
      replace hC2 := Lib.hid hC2
      have HF := Lib.hid (And.intro hfq2.clip hfl2.clip)
      have hm := Lib.hid hgq
      clear hQ hqv hqd hqr hfq hfl hfq2 hfl2 hoq hol hnb hnl hlt hk hqn hln hgq hv1 hv2
      go_wp2_with fail
      refine hT1.out.mono ?_
      rintro e w' ⟨he, hw⟩
      subst he
      subst hw
      dsimp only
      go_wp2_with fail
      refine hC1.out.mono ?_
      rintro e w' ⟨he, hw⟩
      subst he
      subst hw
      dsimp only
      go_wp2_with fail
      refine hT2.out.mono ?_
      rintro e w' ⟨he, hw⟩
      subst he
      subst hw
      dsimp only
      go_wp2_with fail
      refine hC2.out.mono ?_
      rintro e w' ⟨he, hw⟩
      subst he
      subst hw
      dsimp only
      go_wp2_with fail
      go_ret3
      exact ⟨w1.heap.size, _, _, _, _, rfl, HF.out.1, HF.out.2, Nat.le_of_lt hm.out, fun p hp => by cases hp; exact hm.out, hBr⟩
    | succ k =>
      have hk1 : (((k + 1 : Nat) : Int) - 1) = (k : Int) := by omega
      rw [hk1]
      obtain ⟨b, off, rfl, _, hcd⟩ := (hr.below (hBr.mono hB0)).at_ (i := k / 32) (by omega)
      have hbit := bit_at hlo1 k
      have hdl := lo_getD (b := 4294967296) (by omega) hlo1 (k / 32)
      generalize l1.getD (k / 32) 0 = d at *
      have hk0 : (0 : Int) ≤ (k : Int) := by omega
      have hk8 : (k : Int) < 8192 := by omega
      have ek : (k : Int) / 32 = ((k / 32 : Nat) : Int) := by omega
      have er : (k : Int) % 32 = ((k % 32 : Nat) : Int) := by omega
      have ek1 : ((k / 32 : Nat) : Int) < (l1.length : Int) := by omega
      have ek0 : (0 : Int) ≤ ((k / 32 : Nat) : Int) := by omega
      have er1 : k % 32 < 32 := Nat.mod_lt _ (by omega)
      generalize k / 32 = kd at *
      generalize k % 32 = km at *
      have HX := Lib.hid (And.intro hQ (And.intro hqv (And.intro hoq (And.intro hol hbit))))
      have hd2 : d / 2 ^ km < 4294967296 := Nat.lt_of_le_of_lt (Nat.div_le_self _ _) hdl
      have hba : bits .and .u32 ((d : Int) / 2 ^ km) 1 = ((d / 2 ^ km % 2 : Nat) : Int) := by
        have e1 : ((d : Int) / 2 ^ km) = ((d / 2 ^ km : Nat) : Int) := by push_cast; rfl
        rw [e1]
        exact (u32_and_nat (d / 2 ^ km) 1 hd2 (by decide)).trans (by rw [Nat.and_one_is_mod])
      have hb1 : d / 2 ^ km % 2 ≤ 1 := by omega
      generalize d / 2 ^ km % 2 = bb at *
      clear hQ hqv hoq hol hbit hnl hd2
      obtain ⟨wo, rfl⟩ : ∃ wo : World, wo = wr := ⟨_, rfl⟩
      have HE := Lib.hid (And.intro ek er)
      go_wp2_with fail
      clear ek er hba
      go_loopw [12, 69] (fun v12 v69 wy => ∃ (j bt : Nat) (p : List Nat), v12 = .int .u32 (bt : Int) ∧ v69 = .int .i64 (j : Int) ∧ bt ≤ 1 ∧ j ≤ l2.length + 1 ∧ p.length = l2.length + 1 ∧ Lo 4294967296 p ∧ p.drop j = ls.drop j ∧
          vb 4294967296 (p.take j) + 4294967296 ^ j * bt = 2 * vb 4294967296 (ls.take j) + bb ∧
          wy.ownsRow w1.heap.size 24 1 (.slice (some ⟨w1.heap.size, 0, none⟩) (l2.length + 1) (l2.length + 1)) (l2.length + 1) (cellsN .u32 p) ∧ wo.grownBy wy (some w1.heap.size))
        (fun _ v69 _ => l2.length + 1 - (intOf v69).toNat)
      case atStart => exact ⟨0, bb, ls, rfl, rfl, hb1, by omega, hln, hlo, rfl, by simp [vb], HX.out.2.2.2.1, World.grownBy_refl' _ _⟩
      case round =>
        obtain ⟨j, bt, p, rfl, rfl, hbt, hj, hpl, hpo, hpd, hval, hop, hgy⟩ := hrel
        by_cases hjl : j < l2.length + 1
        · have hcp : wr.cell? ⟨w1.heap.size, j, none⟩ = some (.int .u32 ((p.getD j 0 : Nat) : Int)) := (hop.cellAt j (by omega)).trans (cellsN_at (by omega))
          have hfp : wr.frozen? ⟨w1.heap.size, j, none⟩ = false := hop.frozenAt j
          rw [getD_drop hpd] at hcp
          have hel := lo_getD (b := 4294967296) (by omega) hlo j
          have hst := fun v h => shl_step ls p j bt v bb (by omega) hval h
          have hpd2 := drop_more hpd
          generalize ls.getD j 0 = e at *
          obtain ⟨v, hv⟩ : ∃ v, v = e * 2 % 4294967296 + bt := ⟨_, rfl⟩
          have hvl : v < 4294967296 := by omega
          have hst2 := hst v (by omega)
          have hor : bits .or .u32 ((e : Int) * 2 % 4294967296) (bt : Int) = (v : Int) := by
            have h := u32_or_nat (e * 2 % 4294967296) bt (by omega) (by omega)
            rw [nat_join 1 (e * 2 % 4294967296) bt (by omega) (by omega), ← hv] at h
            rw [← h]; congr 1
          have ed : (e : Int) / 2147483648 = ((e / 2147483648 : Nat) : Int) := by omega
          have ed1 : e / 2147483648 ≤ 1 := by omega
          generalize e / 2147483648 = b2 at *
          have j1 : (j : Int) < (l2.length : Int) + 1 := by omega
          have j0 : (0 : Int) ≤ (j : Int) := by omega
          have HY := Lib.hid (And.intro hst2 (And.intro hpd2 (And.intro hop hpd)))
          clear hst hst2 hpd2 hop hpd hval hv
          go_wp2_with fail
          go_region_with (fail)
          all_goals
            obtain ⟨hst2, hpd2, hop, _⟩ := HY.out
            have hs := hop.stored j (.int .u32 (v : Int))
            rw [cellsN_set] at hs
            have hG := hgy.trans hs.2
            clear HY
            go_wp2_with fail
            rw [hor]
            go_roundw
            case rel => exact ⟨j + 1, b2, p.set j v, by go_num, by go_num, ed1, by omega, by rw [List.length_set]; exact hpl, lo_set hpo hvl j, by rw [set_drop]; exact hpd2, hst2, hs.1, ⟨hG.os, hG.tape, hG.output, hG.size, hG.block⟩⟩
            case measure => simp [intOf]; omega
        · have hjn : j = l2.length + 1 := by omega
          have j1 : ¬ (j : Int) < (l2.length : Int) + 1 := by omega
          rw [hjn, List.take_of_length_le (by omega), List.take_of_length_le (by omega)] at hval
          have hoq := HX.out.2.2.1.kept hgy (.inr (by simp [Value.ownBlock]; omega))
          obtain ⟨hQ, hqv, _, _, hbit⟩ := HX.out
          have hyl2 : vb 4294967296 l2 = y := hv2
          have hdr := div_round (x / 2 ^ (k + 1)) y (vb 4294967296 ls) Q bb hy0 hQ hlt hb1
          have hpv := vb_lt 4294967296 (by omega) p hpo
          have hyR := vb_lt 4294967296 (by omega) l2 hlo2
          have hpv2 : vb 4294967296 p = 2 * vb 4294967296 ls + bb := no_carry (by omega) hbt (by rw [hyl2] at hyR; exact hyR) hlt hb1 hval
          have hmb := more_bit x k
          rw [← hv1, ← hbit, hv1] at hmb
          have hTm := trim_any (some ⟨w1.heap.size, 0, none⟩) (l2.length + 1) wr.heap.size p wr (Rw.of_own hop) (by omega) (by unfold maxLen; omega)
          rw [trimL_dg (b := 4294967296) (by omega) p hpo, hpl, hpv2] at hTm
          replace hTm := Lib.hid hTm
          have hBy : Below w.heap.size w wr := hBr.grown hgy hBr.size (fun k e => by cases e; omega)
          have hRz := (Rw.of_own hop).trim
          have hlz := trimL_len p
          rw [trimL_dg (b := 4294967296) (by omega) p hpo, hpv2] at hRz hlz
          have hCm := ncmp_any (some ⟨w1.heap.size, 0, none⟩) (l2.length + 1) wr.heap.size (2 * vb 4294967296 ls + bb) A2 c2 y wr hRz (by rw [HL2.out]; exact (hr2.below (hBy.mono hB0)).more (Nat.le_trans hB0 hBy.size)) (Nat.le_refl _) (by omega) (by rw [HL2.out]; omega)
          rw [HL2.out] at hCm
          replace hCm := Lib.hid hCm
          have hzr2 : w2.heap.size ≤ wr.heap.size := Nat.le_trans hzr hgy.size
          clear hRz
          have HZ := Lib.hid (And.intro hop (And.intro hoq (And.intro hpv2 (And.intro hdr (And.intro hmb hqv)))))
          clear hop hoq hpv2 hdr hmb hqv hQ hbit hval hpd
          go_wp2_with fail
          refine hTm.out.mono ?_
          rintro e' w' ⟨he, hw⟩
          subst he
          subst hw
          dsimp only
          generalize hz : 2 * vb 4294967296 ls + bb = z at *
          go_wp2_with fail
          refine hCm.out.mono ?_
          rintro e' w3 ⟨rfl, hb3⟩
          obtain ⟨hop, hoq, hpv2, hdr, hmb, hqv⟩ := HZ.out
          have hop3 := own_below hop hb3
          have hoq3 := own_below hoq hb3
          have hBy3 : Below w.heap.size w w3 := hBy.trans (hb3.mono hBy.size)
          have hbs3 := hb3.size
          by_cases hzy : z < y
          · have hc : ¬ 0 ≤ cmpI z y := by rw [cmpI_lt hzy]; omega
            have HZ3 := Lib.hid (And.intro hop3 (And.intro hoq3 (And.intro hpv2 (And.intro hdr (And.intro hmb (And.intro hqv (And.intro hz hzy)))))))
            generalize cmpI z y = cv at *
            have hnn := Lib.hid (And.intro hy2 (And.intro hyl hxl))
            clear hop hoq hop3 hoq3 hpv2 hdr hmb hqv hb3 hz hyR hpv hlz hyl2 hzy hv1 hv2 hjn hln hlt hj
            go_wp2_with fail
            obtain ⟨hop3, hoq3, hpv2, hdr, hmb, hqv, hz, hzy⟩ := HZ3.out
            refine ⟨⟨k, 2 * Q, qs, p, by go_num, by omega, hqn, hpl, hqo, hpo, by rw [hpv2]; exact hzy, ?_, ?_, hoq3, hop3, hBy3, Nat.le_trans hzr2 hbs3⟩, by simp [intOf]⟩
            · rw [hpv2, hmb]; exact hdr.2.1 (by omega)
            · rw [hqv, Nat.pow_succ, Nat.mul_comm 2 Q, Nat.mul_assoc, Nat.mul_comm 2]
          · have hc : 0 ≤ cmpI z y := by
              rcases Nat.lt_or_ge y z with h | h
              · rw [cmpI_gt h]; omega
              · rw [show z = y by omega, cmpI_eq]; omega
            have hLs := less_any w1.heap.size (l2.length + 1) w1.heap.size B p A2 c2 l2 w3 (by rw [hpl]; exact hop3) (hr2.below (hBy3.mono hB0)) (Nat.le_trans hB0 (Nat.le_of_lt hgq)) (Nat.le_trans (Nat.le_of_lt (hop.lt w1.heap.size rfl).2) hbs3) hpo hlo2 (by omega) (by omega) (by rw [hpv2, hv2]; omega)
            rw [hpl] at hLs
            replace hLs := Lib.hid hLs
            have hkk : k = 32 * kd + km := by have := HE.out; omega
            have HZ3 := Lib.hid (And.intro hop3 (And.intro hoq3 (And.intro hpv2 (And.intro hdr (And.intro hmb (And.intro hqv (And.intro hz (And.intro hzy hkk))))))))
            generalize cmpI z y = cv at *
            clear hop hoq hop3 hoq3 hpv2 hdr hmb hqv hb3 hz hyR hpv hlz hyl2 hzy hjn hln hlt hj hkk
            go_wp2_with fail
            refine hLs.out.mono ?_
            rintro e' w4 ⟨rfl, p2, hp2l, hp2o, hp2v, hop4, hb4, hg4⟩
            obtain ⟨hop3, hoq3, hpv2, hdr, hmb, hqv, hz, hzy, hkk⟩ := HZ3.out
            have hoq4 := hoq3.kept hg4 (.inr (by simp [Value.ownBlock]; omega))
            have hcq : w4.cell? ⟨w.heap.size, kd, none⟩ = some (.int .u32 ((qs.getD kd 0 : Nat) : Int)) := (hoq4.cellAt kd (by omega)).trans (cellsN_at (by omega))
            have hfq : w4.frozen? ⟨w.heap.size, kd, none⟩ = false := hoq4.frozenAt kd
            rw [hkk] at hqv
            have hqb := qbit hqo hqv er1
            have hqs := qset (km := km) (show kd < qs.length by omega) hqv
            have hqd := lo_getD (b := 4294967296) (by omega) hqo kd
            have hqf := qfit hqd er1 hqb
            generalize qs.getD kd 0 = qd at *
            have HW := Lib.hid (And.intro hop4 (And.intro hoq4 (And.intro hp2v (And.intro hqs (And.intro hb4 (And.intro hg4 (And.intro hqb (And.intro hqf hkk))))))))
            obtain ⟨ek, er⟩ := HE.out
            have hkd : kd = k / 32 := by omega
            have hkm : km = k % 32 := by omega
            subst hkd
            subst hkm
            have ek5 : (k : Int) / 32 < (l1.length : Int) := by omega
            have ek6 : (0 : Int) ≤ (k : Int) / 32 := by omega
            have er5 : (0 : Int) ≤ (k : Int) % 32 := by omega
            have er6 : (k : Int) % 32 < 32 := by omega
            have ek7 : (k : Int).tdiv 32 = ((k / 32 : Nat) : Int) := (Int.ofNat_tdiv k 32).symm
            have er7 : (k : Int).tmod 32 = ((k % 32 : Nat) : Int) := (Int.ofNat_tmod k 32).symm
            have ek8 : (k : Int) / 32 = ((k / 32 : Nat) : Int) := by omega
            have er8 : (k : Int) % 32 = ((k % 32 : Nat) : Int) := by omega
            have hkl : k / 32 < l1.length := by omega
            generalize k / 32 = kd at *
            generalize k % 32 = km at *
            have ek9 : (kd : Int) < (l1.length : Int) := by omega
            have ek10 : (0 : Int) ≤ (kd : Int) := by omega
            clear ek er ek0 ek1 ek5 ek6 er5 er6
            clear hop3 hoq3 hpv2 hdr hmb hqv hz hzy hop4 hoq4 hp2v hqs hb4 hg4 hqb hqf hkk
            have ekw : IntKind.i64.wrap (kd : Int) = (kd : Int) := by rw [IntKind.wrap_i64]; omega
            have emw : IntKind.i64.wrap (km : Int) = (km : Int) := by rw [IntKind.wrap_i64]; omega
            go_wp2_with fail
            go_region_with (fail)
            obtain ⟨hop4, hoq4, hp2v, hqs, hb4, hg4, hqb, hqf, _⟩ := HW.out
            obtain ⟨hop3, hoq3, hpv2, hdr, hmb, hqv, hz, hzy, hkk⟩ := HZ3.out
            have hm1 : 2 ^ km < 2 ^ (km + 1) := by rw [Nat.pow_succ]; have := Nat.two_pow_pos km; omega
            have hor : bits .or .u32 ((qd : Nat) : Int) (IntKind.u32.wrap ((2 : Int) ^ km)) = ((qd + 2 ^ km : Nat) : Int) := by
              have h := u32_or_nat qd (2 ^ km) hqd (by omega)
              rw [nat_join (km + 1) qd (2 ^ km) hqb hm1] at h
              have e : IntKind.u32.wrap ((2 : Int) ^ km) = ((2 ^ km : Nat) : Int) := by
                rw [show ((2 : Int) ^ km) = ((2 ^ km : Nat) : Int) by push_cast; rfl]
                generalize 2 ^ km = t at *
                rw [IntKind.wrap_u32]; omega
              rw [e, h]
            rw [hor]
            obtain ⟨t, ht⟩ : ∃ t, t = qd + 2 ^ km := ⟨_, rfl⟩
            rw [← ht] at hqs hqf hor ⊢
            have hs := hoq4.stored kd (.int .u32 (t : Int))
            rw [cellsN_set] at hs
            have hopf := hop4.kept hs.2 (.inr (by simp [Value.ownBlock]; omega))
            have hB4 : Below w.heap.size w w4 := hBy3.grown hg4 hBy3.size (fun k e => by cases e; omega)
            have hBf := hB4.grown hs.2 hB4.size (fun k e => by cases e; omega)
            have hsf := hs.2.size
            have hs4 := hg4.size
            rw [← hkk] at hqs
            have hkw := Lib.hid hkk
            clear hop4 hoq4 hb4 hg4 hop3 hoq3 hkk ht hor
            go_wp2_with fail
            refine ⟨⟨k, 2 * Q + 1, qs.set kd t, p2, by go_num, by omega, by rw [List.length_set]; exact hqn, hp2l, lo_set hqo hqf kd, hp2o, ?_, ?_, hqs, hs.1, hopf, ⟨hBf.os, hBf.tape, hBf.output, hBf.size, hBf.block⟩, Nat.le_trans hzr2 (Nat.le_trans hbs3 (Nat.le_trans hs4 hsf))⟩, by have := hkw.out; simp [intOf]; omega⟩
            · rw [hp2v, hpv2, hv2]; exact (hdr.2.2 (by omega)).2
            · rw [hp2v, hpv2, hv2, hmb]; exact (hdr.2.2 (by omega)).1

end Go.Proofs.Ytpklbdgajbfaiaa
