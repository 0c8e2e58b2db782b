/- The document's sum, walked. -/
import Derived.Test.YtbpaiocbgbpiaaaNtW1
namespace Go.Proofs.Ytbpaiocbgbpiaaa
open Go.RowKit
set_option linter.unusedVariables false

set_option maxHeartbeats 4000000 in
theorem radd_any (A : Option Addr) (c B x : Nat) (A2 : Option Addr) (c2 y : Nat) (w : World) (hr : Rw .i64 w B A (dg 10000 x)) (hr2 : Rw .i64 w B A2 (dg 10000 y)) (hB0 : B ≤ w.heap.size)
    (hl : (dg 10000 x).length ≤ 1000000) (hl2 : (dg 10000 y).length ≤ 1000000) :
    Calls Try.prog 57 #[.slice A (dg 10000 x).length c, .slice A2 (dg 10000 y).length c2] w (NumIs (x + y) w) := by
  have hlo1 := dg_lo (b := 10000) (by omega) x
  have hv1' := vb_dg (b := 10000) (by omega) x
  have hlo2 := dg_lo (b := 10000) (by omega) y
  have hv2' := vb_dg (b := 10000) (by omega) y
  generalize dg 10000 x = l1 at *
  generalize dg 10000 y = l2 at *
  subst hv1' hv2'
  go_enter Try.func57, Try.ntmps57
  go_wp2_with fail
  go_loopw [5, 6, 7] (fun v5 v6 v7 wr => ∃ (pre : List Nat) (k : Nat), v6 = .int .i64 (k : Int) ∧ v7 = .int .i64 (pre.length : Int) ∧ k ≤ 1 ∧ pre.length + k ≤ max l1.length l2.length + 1 ∧ Lo 10000 pre ∧ vb 10000 pre + 10000 ^ pre.length * k = vb 10000 (l1.take pre.length) + vb 10000 (l2.take pre.length) ∧
      wr.ownsRow w.heap.size 3 1 v5 pre.length (cellsN .i64 pre) ∧ Below w.heap.size w wr)
    (fun _ v6 v7 _ => (max l1.length l2.length - (intOf v7).toNat) * 10 + (intOf v6).toNat)
  case atStart => exact ⟨[], 0, rfl, rfl, by omega, by simp, lo_nil _, by simp [vb], ⟨rfl, .inl ⟨rfl, rfl⟩⟩, Below.refl _ _⟩
  case round =>
    obtain ⟨pre, k, rfl, rfl, hk, hpk, hlp, hval, hown, hB⟩ := hrel
    have hgz := hB.size
    have hrw1 : Rw .i64 wr B A l1 := hr.below (hB.mono hB0)
    have hrw2 : Rw .i64 wr B A2 l2 := hr2.below (hB.mono hB0)
    have hd1 := lo_getD (b := 10000) (by omega) hlo1 pre.length
    have hd2 := lo_getD (b := 10000) (by omega) hlo2 pre.length
    have hv1 := vb_take 10000 l1 pre.length
    have hv2 := vb_take 10000 l2 pre.length
    by_cases ha : pre.length < l1.length
    all_goals by_cases hb' : pre.length < l2.length
    · obtain ⟨b1, o1, rfl, _, h1c⟩ := hrw1.at_ ha
      have i1 : (pre.length : Int) < (l1.length : Int) := by omega
      obtain ⟨b2, o2, rfl, _, h2c⟩ := hrw2.at_ hb'
      have i2 : (pre.length : Int) < (l2.length : Int) := by omega
      generalize l1.getD pre.length 0 = d1 at *
      generalize l2.getD pre.length 0 = d2 at *
      have hse := step_eq 10000 pre (k + d1 + d2) k _ (d1 + d2) hval (by omega)
      have HV := Lib.hid (And.intro hse (And.intro hv1 hv2))
      have HVal := Lib.hid hval
      clear hse hv1 hv2 hval hrw1 hrw2
      go_wp2_with (at_builtin; refine wpList_append1 113 3 (.tmp 44) (.tmp 47) rfl rfl w.heap.size Try.underlying113 int_info rfl rfl hown rfl rfl rfl (by unfold maxLen; omega) (by omega) hgz ?_; intro v' w' hown' hgrow _)
      obtain ⟨q, hq⟩ : ∃ q, q = k + d1 + d2 := ⟨_, rfl⟩
      obtain ⟨hse, hv1, hv2⟩ := HV.out
      rw [← hq] at hse
      have eq : (k : Int) + (d1 : Int) + (d2 : Int) = (q : Int) := by omega
      rw [eq, show ((q : Int) % 10000) = ((q % 10000 : Nat) : Int) by omega, ← cellsN_snoc] at hown'
      rw [eq]
      refine ⟨⟨pre ++ [q % 10000], q / 10000, by go_num, by simp, by omega, by simp; omega, lo_snoc hlp (by omega), ?_, by simpa using hown', hB.grown hgrow hgz (fun k hk => (hown.lt k hk).1)⟩, ?_⟩
      · rw [List.length_append, List.length_singleton, hse, hv1, hv2, Nat.mul_add]; omega
      · simp [intOf]; omega
    · obtain ⟨b1, o1, rfl, _, h1c⟩ := hrw1.at_ ha
      have i1 : (pre.length : Int) < (l1.length : Int) := by omega
      have z2 : l2.getD pre.length 0 = 0 := by rw [List.getD_eq_getElem?_getD, List.getElem?_eq_none (by omega)]; rfl
      have i2 : ¬ (pre.length : Int) < (l2.length : Int) := by omega
      generalize l1.getD pre.length 0 = d1 at *
      generalize l2.getD pre.length 0 = d2 at *
      have hse := step_eq 10000 pre (k + d1 + d2) k _ (d1 + d2) hval (by omega)
      have HV := Lib.hid (And.intro hse (And.intro hv1 hv2))
      have HVal := Lib.hid hval
      clear hse hv1 hv2 hval hrw1 hrw2
      go_wp2_with (at_builtin; refine wpList_append1 113 3 (.tmp 44) (.tmp 47) rfl rfl w.heap.size Try.underlying113 int_info rfl rfl hown rfl rfl rfl (by unfold maxLen; omega) (by omega) hgz ?_; intro v' w' hown' hgrow _)
      obtain ⟨q, hq⟩ : ∃ q, q = k + d1 + d2 := ⟨_, rfl⟩
      obtain ⟨hse, hv1, hv2⟩ := HV.out
      rw [← hq] at hse
      have eq : (k : Int) + (d1 : Int) = (q : Int) := by omega
      rw [eq, show ((q : Int) % 10000) = ((q % 10000 : Nat) : Int) by omega, ← cellsN_snoc] at hown'
      rw [eq]
      refine ⟨⟨pre ++ [q % 10000], q / 10000, by go_num, by simp, by omega, by simp; omega, lo_snoc hlp (by omega), ?_, by simpa using hown', hB.grown hgrow hgz (fun k hk => (hown.lt k hk).1)⟩, ?_⟩
      · rw [List.length_append, List.length_singleton, hse, hv1, hv2, Nat.mul_add]; omega
      · simp [intOf]; omega
    · have z1 : l1.getD pre.length 0 = 0 := by rw [List.getD_eq_getElem?_getD, List.getElem?_eq_none (by omega)]; rfl
      have i1 : ¬ (pre.length : Int) < (l1.length : Int) := by omega
      obtain ⟨b2, o2, rfl, _, h2c⟩ := hrw2.at_ hb'
      have i2 : (pre.length : Int) < (l2.length : Int) := by omega
      generalize l1.getD pre.length 0 = d1 at *
      generalize l2.getD pre.length 0 = d2 at *
      have hse := step_eq 10000 pre (k + d1 + d2) k _ (d1 + d2) hval (by omega)
      have HV := Lib.hid (And.intro hse (And.intro hv1 hv2))
      have HVal := Lib.hid hval
      clear hse hv1 hv2 hval hrw1 hrw2
      go_wp2_with (at_builtin; refine wpList_append1 113 3 (.tmp 44) (.tmp 47) rfl rfl w.heap.size Try.underlying113 int_info rfl rfl hown rfl rfl rfl (by unfold maxLen; omega) (by omega) hgz ?_; intro v' w' hown' hgrow _)
      obtain ⟨q, hq⟩ : ∃ q, q = k + d1 + d2 := ⟨_, rfl⟩
      obtain ⟨hse, hv1, hv2⟩ := HV.out
      rw [← hq] at hse
      have eq : (k : Int) + (d2 : Int) = (q : Int) := by omega
      rw [eq, show ((q : Int) % 10000) = ((q % 10000 : Nat) : Int) by omega, ← cellsN_snoc] at hown'
      rw [eq]
      refine ⟨⟨pre ++ [q % 10000], q / 10000, by go_num, by simp, by omega, by simp; omega, lo_snoc hlp (by omega), ?_, by simpa using hown', hB.grown hgrow hgz (fun k hk => (hown.lt k hk).1)⟩, ?_⟩
      · rw [List.length_append, List.length_singleton, hse, hv1, hv2, Nat.mul_add]; omega
      · simp [intOf]; omega
    · have z1 : l1.getD pre.length 0 = 0 := by rw [List.getD_eq_getElem?_getD, List.getElem?_eq_none (by omega)]; rfl
      have i1 : ¬ (pre.length : Int) < (l1.length : Int) := by omega
      have z2 : l2.getD pre.length 0 = 0 := by rw [List.getD_eq_getElem?_getD, List.getElem?_eq_none (by omega)]; rfl
      have i2 : ¬ (pre.length : Int) < (l2.length : Int) := by omega
      generalize l1.getD pre.length 0 = d1 at *
      generalize l2.getD pre.length 0 = d2 at *
      have hse := step_eq 10000 pre (k + d1 + d2) k _ (d1 + d2) hval (by omega)
      have HV := Lib.hid (And.intro hse (And.intro hv1 hv2))
      have HVal := Lib.hid hval
      clear hse hv1 hv2 hval hrw1 hrw2
      by_cases h0 : k = 0
      · subst h0
        obtain ⟨A', c', rfl, hc1, hc2, _⟩ := own_form hown
        have HR := Lib.hid (Rw.of_own hown)
        have HT := Lib.hid (fun w => rtrim_any A' c' w.heap.size pre w)
        clear hown
        go_wp2_with fail
        refine (HT.out wr HR.out hc1 hc2).mono ?_
        rintro e wx ⟨rfl, rfl⟩
        go_wp2_with fail
        go_ret
        have hv := HVal.out
        rw [Nat.mul_zero, Nat.add_zero, List.take_of_length_le (by omega), List.take_of_length_le (by omega)] at hv
        have ht := trimL_dg (b := 10000) (by omega) pre hlp
        rw [hv] at ht
        have hR := HR.out.trim
        have hle := trimL_len pre
        rw [ht] at hR hle ⊢
        exact ⟨_, _, rfl, by omega, hc2, hR, hB⟩
      · have k0 : (0 : Int) < (k : Int) := by omega
        go_wp2_with (at_builtin; refine wpList_append1 113 3 (.tmp 44) (.tmp 47) rfl rfl w.heap.size Try.underlying113 int_info rfl rfl hown rfl rfl rfl (by unfold maxLen; omega) (by omega) hgz ?_; intro v' w' hown' hgrow _)
        obtain ⟨q, hq⟩ : ∃ q, q = k + d1 + d2 := ⟨_, rfl⟩
        obtain ⟨hse, hv1, hv2⟩ := HV.out
        rw [← hq] at hse
        have eq : q = k := by omega
        subst eq
        rw [show ((q : Int) % 10000) = ((q % 10000 : Nat) : Int) by omega, ← cellsN_snoc] at hown'
        refine ⟨⟨pre ++ [q % 10000], q / 10000, by go_num, by simp, by omega, by simp; omega, lo_snoc hlp (by omega), ?_, by simpa using hown', hB.grown hgrow hgz (fun k hk => (hown.lt k hk).1)⟩, ?_⟩
        · rw [List.length_append, List.length_singleton, hse, hv1, hv2, Nat.mul_add]; omega
        · simp [intOf]; omega

end Go.Proofs.Ytbpaiocbgbpiaaa
