/- The program's sum, walked. -/
import Derived.Test.YtpklbdgajbfaiaaNtW7
namespace Go.Proofs.Ytpklbdgajbfaiaa
open Go.RowKit
set_option linter.unusedVariables false

theorem uint_info : (Try.prog.info? 24).map (fun i => (i.zero, i.size, i.bytes)) = some (some (.int .u32 0), 1, 4) := by kernel_rfl
/-- The answer is this natural, or it is too long. -/
def NatIs (x : Nat) (w : World) (e : Ending) (w' : World) : Prop :=
  ((x < 2 ^ 8192 ∧ ∃ A c, e = .returned (.tuple #[.slice A (dg 4294967296 x).length c, .int .i64 0]) ∧ Fr w.heap.size w' A c (dg 4294967296 x)) ∨
   (¬ x < 2 ^ 8192 ∧ e = .returned (.tuple #[.slice none 0 0, .int .i64 3]))) ∧ Below w.heap.size w w'

set_option maxHeartbeats 8000000 in
theorem nadd_any (A : Option Addr) (c B x : Nat) (A2 : Option Addr) (c2 y : Nat) (w : World) (hr : Rw .u32 w B A (dg 4294967296 x)) (hr2 : Rw .u32 w B A2 (dg 4294967296 y)) (hB0 : B ≤ w.heap.size)
    (hx : x < 2 ^ 8192) (hy : y < 2 ^ 8192) :
    Calls Try.prog 10 #[.slice A (dg 4294967296 x).length c, .slice A2 (dg 4294967296 y).length c2] w (NatIs (x + y) w) := by
  have hl1 := fit_len.2 hx
  have hl2 := fit_len.2 hy
  have HV1 := valid_any A c B _ w hr (by unfold maxLen; omega)
  rw [okL_dg hx] at HV1
  have HV2 := valid_any A2 c2 B _ w hr2 (by unfold maxLen; omega)
  rw [okL_dg hy] at HV2
  have hlo1 := dg_lo (b := 4294967296) (by omega) x
  have hv1' := vb_dg (b := 4294967296) (by omega) x
  have hlo2 := dg_lo (b := 4294967296) (by omega) y
  have hv2' := vb_dg (b := 4294967296) (by omega) y
  generalize dg 4294967296 x = l1 at *
  generalize dg 4294967296 y = l2 at *
  replace HV1 := Lib.hid HV1
  replace HV2 := Lib.hid HV2
  subst hv1' hv2'
  clear hx hy
  obtain ⟨i0, hi, hz0, hz1, hz2⟩ := info_parts uint_info
  by_cases hsw : l1.length < l2.length
  · have hswap : (l1.length : Int) < (l2.length : Int) := by omega
    have hrb := hr2
    have hrs := hr
    go_enter Try.func10, Try.ntmps10
    go_wp2_with fail
    refine HV1.out.mono ?_
    rintro e w' ⟨he, hw⟩
    subst he
    subst hw
    dsimp only
    go_wp2_with fail
    refine HV2.out.mono ?_
    rintro e w' ⟨he, hw⟩
    subst he
    subst hw
    dsimp only
    go_wp2_with (refine wpList_make_own _ rfl (.const (.int .i64 0)) (.tmp 27) 22 rfl w.heap.size 24 i0 (.int .u32 0) 1 Try.underlying22 hi hz0 hz1 .i64 .i64 _ (l2.length + 1) rfl rfl (by go_num) (by rw [hz2]; omega) (by unfold maxLen; omega) (Nat.le_refl _) ?_; intro w0 hown0 hgrow0)
    have hBz : Below w.heap.size w w0 := (Below.refl _ w).grown hgrow0 (Nat.le_refl _) (fun k e => by cases e)
    go_loopw [6, 7, 31] (fun v6 v7 v31 wr => ∃ (pre : List Nat) (k : Nat), v7 = .int .u64 (k : Int) ∧ v31 = .int .i64 (pre.length : Int) ∧ pre.length ≤ l2.length ∧ k ≤ 1 ∧ Lo 4294967296 pre ∧ vb 4294967296 pre + 4294967296 ^ pre.length * k = vb 4294967296 (l2.take pre.length) + vb 4294967296 (l1.take pre.length) ∧
        wr.ownsRow w.heap.size 24 1 v6 pre.length (cellsN .u32 pre) ∧ Below w.heap.size w wr)
      (fun _ _ v31 _ => l2.length - (intOf v31).toNat)
    case atStart => exact ⟨[], 0, rfl, rfl, Nat.zero_le _, by omega, lo_nil _, by simp [vb], hown0, hBz⟩
    case round =>
      clear hown0 hgrow0 hBz
      obtain ⟨pre, k, rfl, rfl, hpl, hk, hlp, hval, hown, hB⟩ := hrel
      have hgz := hB.size
      by_cases hlt : pre.length < l2.length
      · obtain ⟨b1, o1, rfl, _, hc1⟩ := (hrb.below (hB.mono hB0)).at_ hlt
        have hd1 := lo_getD (b := 4294967296) (by omega) hlo2 pre.length
        have hd2 := lo_getD (b := 4294967296) (by omega) hlo1 pre.length
        have hv1 := vb_take 4294967296 l2 pre.length
        have hv2 := vb_take 4294967296 l1 pre.length
        have hse := step_eq 4294967296 pre (k + l2.getD pre.length 0 + l1.getD pre.length 0) k _ (l2.getD pre.length 0 + l1.getD pre.length 0) hval (by omega)
        have i1 : (pre.length : Int) < (l2.length : Int) := by omega
        by_cases hlt2 : pre.length < l1.length
        · obtain ⟨b2, o2, rfl, _, hc2⟩ := (hrs.below (hB.mono hB0)).at_ hlt2
          generalize l2.getD pre.length 0 = d1 at *
          generalize l1.getD pre.length 0 = d2 at *
          have i2 : (pre.length : Int) < (l1.length : Int) := by omega
          have HV := Lib.hid (And.intro hse (And.intro hv1 hv2))
          clear hse hv1 hv2 hval
          go_wp2_with (at_builtin; refine wpList_append1 22 24 (.tmp 51) (.tmp 54) rfl rfl w.heap.size Try.underlying22 uint_info rfl rfl hown rfl rfl rfl (by unfold maxLen; omega) (by omega) hgz ?_; intro v' w' hown' hgrow _)
          obtain ⟨hse, hv1, hv2⟩ := HV.out
          obtain ⟨q, hq⟩ : ∃ q, q = k + d1 + d2 := ⟨_, rfl⟩
          rw [← hq] at hse
          have eq : (k : Int) + (d1 : Int) + (d2 : Int) = (q : Int) := by omega
          rw [eq, show ((q : Int) % 4294967296) = ((q % 4294967296 : Nat) : Int) by omega, ← cellsN_snoc] at hown'
          rw [eq]
          refine ⟨⟨pre ++ [q % 4294967296], q / 4294967296, by go_num, by simp, by simp; omega, by omega, lo_snoc hlp (by omega), ?_, by simpa using hown', hB.grown hgrow hgz (fun k hk => (hown.lt k hk).1)⟩, ?_⟩
          · rw [List.length_append, List.length_singleton, hse, hv1, hv2, Nat.mul_add]; omega
          · simp [intOf]; omega
        · have z2 : l1.getD pre.length 0 = 0 := by rw [List.getD_eq_getElem?_getD, List.getElem?_eq_none (by omega)]; rfl
          generalize l2.getD pre.length 0 = d1 at *
          generalize l1.getD pre.length 0 = d2 at *
          have i2 : ¬ (pre.length : Int) < (l1.length : Int) := by omega
          have HV := Lib.hid (And.intro hse (And.intro hv1 hv2))
          have HZ := Lib.hid z2
          clear hse hv1 hv2 hval z2
          go_wp2_with (at_builtin; refine wpList_append1 22 24 (.tmp 51) (.tmp 54) rfl rfl w.heap.size Try.underlying22 uint_info rfl rfl hown rfl rfl rfl (by unfold maxLen; omega) (by omega) hgz ?_; intro v' w' hown' hgrow _)
          obtain ⟨hse, hv1, hv2⟩ := HV.out
          have z2 := HZ.out
          obtain ⟨q, hq⟩ : ∃ q, q = k + d1 + d2 := ⟨_, rfl⟩
          rw [← hq] at hse
          have eq : (k : Int) + (d1 : Int) = (q : Int) := by omega
          rw [eq, show ((q : Int) % 4294967296) = ((q % 4294967296 : Nat) : Int) by omega, ← cellsN_snoc] at hown'
          rw [eq]
          refine ⟨⟨pre ++ [q % 4294967296], q / 4294967296, by go_num, by simp, by simp; omega, by omega, lo_snoc hlp (by omega), ?_, by simpa using hown', hB.grown hgrow hgz (fun k hk => (hown.lt k hk).1)⟩, ?_⟩
          · rw [List.length_append, List.length_singleton, hse, hv1, hv2, Nat.mul_add]; omega
          · simp [intOf]; omega
      · have i1 : ¬ (pre.length : Int) < (l2.length : Int) := by omega
        rw [List.take_of_length_le (by omega), List.take_of_length_le (by omega)] at hval
        have htot : vb 4294967296 (pre ++ [k]) = vb 4294967296 l1 + vb 4294967296 l2 := by rw [vb_snoc, hval]; omega
        have HV := Lib.hid htot
        clear hval htot
        go_wp2_with (at_builtin; refine wpList_append1 22 24 (.tmp 59) (.tmp 62) rfl rfl w.heap.size Try.underlying22 uint_info rfl rfl hown rfl rfl rfl (by unfold maxLen; omega) (by omega) hgz ?_; intro v' w' hown' hgrow _)
        rw [← cellsN_snoc] at hown'
        obtain ⟨A', c', rfl, _⟩ := own_form hown'
        have hf : Fr w.heap.size w' A' c' (pre ++ [k]) := Fr.of_own hown'
        have hBw := hB.grown hgrow hgz (fun k hk => (hown.lt k hk).1)
        have hlo := lo_snoc hlp (show k < 4294967296 by omega)
        have hlen : (pre ++ [k]).length = pre.length + 1 := by simp
        by_cases hx : vb 4294967296 (pre ++ [k]) < 2 ^ 8192
        · have HT := told_fit A' c' w.heap.size (pre ++ [k]) w' hf hlo hx
          rw [hlen] at HT
          have hft := hf.trim.clip
          rw [trimL_dg (b := 4294967296) (by omega) _ hlo] at hft
          rw [HV.out] at HT hft hx
          have HX := Lib.hid hx
          clear hx hf hown' hgrow hown
          refine HT.mono ?_
          rintro e wx ⟨he, hw⟩
          subst he
          subst hw
          dsimp only
          go_wp2_with fail
          go_ret2
          exact ⟨.inl ⟨HX.out, _, _, rfl, hft⟩, hBw⟩
        · have HT := told_long A' c' w.heap.size (pre ++ [k]) w' hf hlo hx
          rw [hlen] at HT
          rw [HV.out] at hx
          have HX := Lib.hid hx
          clear hx hf hown' hgrow hown
          refine HT.mono ?_
          rintro e wx ⟨he, hw⟩
          subst he
          subst hw
          dsimp only
          go_wp2_with fail
          go_ret2
          exact ⟨.inr ⟨HX.out, rfl⟩, hBw⟩
  · have hswap : ¬ (l1.length : Int) < (l2.length : Int) := by omega
    have hrb := hr
    have hrs := hr2
    go_enter Try.func10, Try.ntmps10
    go_wp2_with fail
    refine HV1.out.mono ?_
    rintro e w' ⟨he, hw⟩
    subst he
    subst hw
    dsimp only
    go_wp2_with fail
    refine HV2.out.mono ?_
    rintro e w' ⟨he, hw⟩
    subst he
    subst hw
    dsimp only
    go_wp2_with (refine wpList_make_own _ rfl (.const (.int .i64 0)) (.tmp 27) 22 rfl w.heap.size 24 i0 (.int .u32 0) 1 Try.underlying22 hi hz0 hz1 .i64 .i64 _ (l1.length + 1) rfl rfl (by go_num) (by rw [hz2]; omega) (by unfold maxLen; omega) (Nat.le_refl _) ?_; intro w0 hown0 hgrow0)
    have hBz : Below w.heap.size w w0 := (Below.refl _ w).grown hgrow0 (Nat.le_refl _) (fun k e => by cases e)
    go_loopw [6, 7, 31] (fun v6 v7 v31 wr => ∃ (pre : List Nat) (k : Nat), v7 = .int .u64 (k : Int) ∧ v31 = .int .i64 (pre.length : Int) ∧ pre.length ≤ l1.length ∧ k ≤ 1 ∧ Lo 4294967296 pre ∧ vb 4294967296 pre + 4294967296 ^ pre.length * k = vb 4294967296 (l1.take pre.length) + vb 4294967296 (l2.take pre.length) ∧
        wr.ownsRow w.heap.size 24 1 v6 pre.length (cellsN .u32 pre) ∧ Below w.heap.size w wr)
      (fun _ _ v31 _ => l1.length - (intOf v31).toNat)
    case atStart => exact ⟨[], 0, rfl, rfl, Nat.zero_le _, by omega, lo_nil _, by simp [vb], hown0, hBz⟩
    case round =>
      clear hown0 hgrow0 hBz
      obtain ⟨pre, k, rfl, rfl, hpl, hk, hlp, hval, hown, hB⟩ := hrel
      have hgz := hB.size
      by_cases hlt : pre.length < l1.length
      · obtain ⟨b1, o1, rfl, _, hc1⟩ := (hrb.below (hB.mono hB0)).at_ hlt
        have hd1 := lo_getD (b := 4294967296) (by omega) hlo1 pre.length
        have hd2 := lo_getD (b := 4294967296) (by omega) hlo2 pre.length
        have hv1 := vb_take 4294967296 l1 pre.length
        have hv2 := vb_take 4294967296 l2 pre.length
        have hse := step_eq 4294967296 pre (k + l1.getD pre.length 0 + l2.getD pre.length 0) k _ (l1.getD pre.length 0 + l2.getD pre.length 0) hval (by omega)
        have i1 : (pre.length : Int) < (l1.length : Int) := by omega
        by_cases hlt2 : pre.length < l2.length
        · obtain ⟨b2, o2, rfl, _, hc2⟩ := (hrs.below (hB.mono hB0)).at_ hlt2
          generalize l1.getD pre.length 0 = d1 at *
          generalize l2.getD pre.length 0 = d2 at *
          have i2 : (pre.length : Int) < (l2.length : Int) := by omega
          have HV := Lib.hid (And.intro hse (And.intro hv1 hv2))
          clear hse hv1 hv2 hval
          go_wp2_with (at_builtin; refine wpList_append1 22 24 (.tmp 51) (.tmp 54) rfl rfl w.heap.size Try.underlying22 uint_info rfl rfl hown rfl rfl rfl (by unfold maxLen; omega) (by omega) hgz ?_; intro v' w' hown' hgrow _)
          obtain ⟨hse, hv1, hv2⟩ := HV.out
          obtain ⟨q, hq⟩ : ∃ q, q = k + d1 + d2 := ⟨_, rfl⟩
          rw [← hq] at hse
          have eq : (k : Int) + (d1 : Int) + (d2 : Int) = (q : Int) := by omega
          rw [eq, show ((q : Int) % 4294967296) = ((q % 4294967296 : Nat) : Int) by omega, ← cellsN_snoc] at hown'
          rw [eq]
          refine ⟨⟨pre ++ [q % 4294967296], q / 4294967296, by go_num, by simp, by simp; omega, by omega, lo_snoc hlp (by omega), ?_, by simpa using hown', hB.grown hgrow hgz (fun k hk => (hown.lt k hk).1)⟩, ?_⟩
          · rw [List.length_append, List.length_singleton, hse, hv1, hv2, Nat.mul_add]; omega
          · simp [intOf]; omega
        · have z2 : l2.getD pre.length 0 = 0 := by rw [List.getD_eq_getElem?_getD, List.getElem?_eq_none (by omega)]; rfl
          generalize l1.getD pre.length 0 = d1 at *
          generalize l2.getD pre.length 0 = d2 at *
          have i2 : ¬ (pre.length : Int) < (l2.length : Int) := by omega
          have HV := Lib.hid (And.intro hse (And.intro hv1 hv2))
          have HZ := Lib.hid z2
          clear hse hv1 hv2 hval z2
          go_wp2_with (at_builtin; refine wpList_append1 22 24 (.tmp 51) (.tmp 54) rfl rfl w.heap.size Try.underlying22 uint_info rfl rfl hown rfl rfl rfl (by unfold maxLen; omega) (by omega) hgz ?_; intro v' w' hown' hgrow _)
          obtain ⟨hse, hv1, hv2⟩ := HV.out
          have z2 := HZ.out
          obtain ⟨q, hq⟩ : ∃ q, q = k + d1 + d2 := ⟨_, rfl⟩
          rw [← hq] at hse
          have eq : (k : Int) + (d1 : Int) = (q : Int) := by omega
          rw [eq, show ((q : Int) % 4294967296) = ((q % 4294967296 : Nat) : Int) by omega, ← cellsN_snoc] at hown'
          rw [eq]
          refine ⟨⟨pre ++ [q % 4294967296], q / 4294967296, by go_num, by simp, by simp; omega, by omega, lo_snoc hlp (by omega), ?_, by simpa using hown', hB.grown hgrow hgz (fun k hk => (hown.lt k hk).1)⟩, ?_⟩
          · rw [List.length_append, List.length_singleton, hse, hv1, hv2, Nat.mul_add]; omega
          · simp [intOf]; omega
      · have i1 : ¬ (pre.length : Int) < (l1.length : Int) := by omega
        rw [List.take_of_length_le (by omega), List.take_of_length_le (by omega)] at hval
        have htot : vb 4294967296 (pre ++ [k]) = vb 4294967296 l1 + vb 4294967296 l2 := by rw [vb_snoc, hval]
        have HV := Lib.hid htot
        clear hval htot
        go_wp2_with (at_builtin; refine wpList_append1 22 24 (.tmp 59) (.tmp 62) rfl rfl w.heap.size Try.underlying22 uint_info rfl rfl hown rfl rfl rfl (by unfold maxLen; omega) (by omega) hgz ?_; intro v' w' hown' hgrow _)
        rw [← cellsN_snoc] at hown'
        obtain ⟨A', c', rfl, _⟩ := own_form hown'
        have hf : Fr w.heap.size w' A' c' (pre ++ [k]) := Fr.of_own hown'
        have hBw := hB.grown hgrow hgz (fun k hk => (hown.lt k hk).1)
        have hlo := lo_snoc hlp (show k < 4294967296 by omega)
        have hlen : (pre ++ [k]).length = pre.length + 1 := by simp
        by_cases hx : vb 4294967296 (pre ++ [k]) < 2 ^ 8192
        · have HT := told_fit A' c' w.heap.size (pre ++ [k]) w' hf hlo hx
          rw [hlen] at HT
          have hft := hf.trim.clip
          rw [trimL_dg (b := 4294967296) (by omega) _ hlo] at hft
          rw [HV.out] at HT hft hx
          have HX := Lib.hid hx
          clear hx hf hown' hgrow hown
          refine HT.mono ?_
          rintro e wx ⟨he, hw⟩
          subst he
          subst hw
          dsimp only
          go_wp2_with fail
          go_ret2
          exact ⟨.inl ⟨HX.out, _, _, rfl, hft⟩, hBw⟩
        · have HT := told_long A' c' w.heap.size (pre ++ [k]) w' hf hlo hx
          rw [hlen] at HT
          rw [HV.out] at hx
          have HX := Lib.hid hx
          clear hx hf hown' hgrow hown
          refine HT.mono ?_
          rintro e wx ⟨he, hw⟩
          subst he
          subst hw
          dsimp only
          go_wp2_with fail
          go_ret2
          exact ⟨.inr ⟨HX.out, rfl⟩, hBw⟩

end Go.Proofs.Ytpklbdgajbfaiaa
