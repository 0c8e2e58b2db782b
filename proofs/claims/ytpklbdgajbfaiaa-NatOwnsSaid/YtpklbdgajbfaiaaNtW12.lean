/- The program's product, walked. -/
import Derived.Test.YtpklbdgajbfaiaaNtW11
namespace Go.Proofs.Ytpklbdgajbfaiaa
open Go.RowKit
set_option linter.unusedVariables false

theorem made_zero32 (n : Nat) : (madeCells (Value.int .u32 0).cells (n * 1)).toList = cellsN .u32 (List.replicate n 0) := by
  rw [Nat.mul_one, show (Value.int .u32 0).cells = #[Value.int .u32 0] from rfl, toList_madeCells_one]
  simp [cellsN]
theorem getD_set_ne (l : List Nat) {i j : Nat} (x : Nat) (h : i ≠ j) : (l.set i x).getD j 0 = l.getD j 0 := by
  rw [List.getD_eq_getElem?_getD, List.getD_eq_getElem?_getD, List.getElem?_set_ne h]

set_option maxHeartbeats 8000000 in
theorem nmul_any (A : Option Addr) (c B x : Nat) (A2 : Option Addr) (c2 y : Nat) (w : World) (hr : Rw .u32 w B A (dg 4294967296 x)) (hr2 : Rw .u32 w B A2 (dg 4294967296 y)) (hB0 : B ≤ w.heap.size)
    (hx : x < 2 ^ 8192) (hy : y < 2 ^ 8192) :
    Calls Try.prog 12 #[.slice A (dg 4294967296 x).length c, .slice A2 (dg 4294967296 y).length c2] w (NatIs (x * y) w) := by
  have hl1 := fit_len.2 hx
  have hl2 := fit_len.2 hy
  have HV1 := valid_any A c B _ w hr (by unfold maxLen; omega)
  rw [okL_dg hx] at HV1
  have HV2 := valid_any A2 c2 B _ w hr2 (by unfold maxLen; omega)
  rw [okL_dg hy] at HV2
  have hlo1 := dg_lo (b := 4294967296) (by omega) x
  have hv1' := vb_dg (b := 4294967296) (by omega) x
  have hlo2 := dg_lo (b := 4294967296) (by omega) y
  have hv2' := vb_dg (b := 4294967296) (by omega) y
  generalize dg 4294967296 x = l1 at *
  generalize dg 4294967296 y = l2 at *
  replace HV1 := Lib.hid HV1
  replace HV2 := Lib.hid HV2
  subst hv1' hv2'
  clear hx hy
  obtain ⟨i0, hi, hz0, hz1, hz2⟩ := info_parts uint_info
  go_enter Try.func12, Try.ntmps12
  go_wp2_with fail
  refine HV1.out.mono ?_
  rintro e w' ⟨he, hw⟩
  subst he
  subst hw
  dsimp only
  go_wp2_with fail
  refine HV2.out.mono ?_
  rintro e w' ⟨he, hw⟩
  subst he
  subst hw
  dsimp only
  go_wp2_with (refine wpList_make_full _ rfl (.tmp 24) (.tmp 24) 22 rfl w.heap.size 24 i0 (.int .u32 0) 1 Try.underlying22 hi hz0 hz1 .i64 .i64 _ _ (l1.length + l2.length) rfl rfl (by go_num) (by go_num) (by rw [hz2]; omega) (by unfold maxLen; omega) (Nat.le_refl _) ?_; intro w0 hown0 hgrow0)
  rw [made_zero32] at hown0
  have hB0' : Below w.heap.size w w0 := (Below.refl _ w).grown hgrow0 (Nat.le_refl _) (fun k e => by cases e)
  generalize hN : l1.length + l2.length = N at *
  have hg := (hown0.lt w.heap.size rfl).1
  go_loopw [28] (fun v28 wr => ∃ (i : Nat) (o : List Nat), v28 = .int .i64 (i : Int) ∧ i ≤ l1.length ∧ o.length = N ∧ Lo 4294967296 o ∧ (∀ q, i + l2.length ≤ q → o.getD q 0 = 0) ∧ vb 4294967296 o = vb 4294967296 (l1.take i) * vb 4294967296 l2 ∧
      wr.ownsRow w.heap.size 24 1 (.slice (some ⟨w.heap.size, 0, none⟩) N N) N (cellsN .u32 o) ∧ Below w.heap.size w wr)
    (fun v28 _ => l1.length - (intOf v28).toNat)
  case atStart =>
    refine ⟨0, _, rfl, Nat.zero_le _, by simp, lo_zero (by omega) _, fun q _ => ?_, by rw [vb_zero]; simp [vb], hown0, hB0'⟩
    rcases Nat.lt_or_ge q N with h | h
    · rw [List.getD_eq_getElem?_getD, List.getElem?_replicate, if_pos h]; rfl
    · rw [List.getD_eq_getElem?_getD, List.getElem?_eq_none (by simpa using h)]; rfl
  case round =>
    obtain ⟨i, o, rfl, hi1, hol, hoo, hoz, hov, hown, hBr⟩ := hrel
    by_cases hlt : i < l1.length
    · obtain ⟨b, off, rfl, _, hai⟩ := (hr.below (hBr.mono hB0)).at_ hlt
      have hda := lo_getD (b := 4294967296) (by omega) hlo1 i
      have hta := vb_take 4294967296 l1 i
      have i1 : (i : Int) < (l1.length : Int) := by omega
      obtain ⟨wo, rfl⟩ : ∃ wo : World, wo = wr := ⟨_, rfl⟩
      generalize hda0 : l1.getD i 0 = a at *
      go_wp2_with fail
      go_loopw [9, 35] (fun v9 v35 wi => ∃ (k j : Nat) (p : List Nat), v9 = .int .u64 (k : Int) ∧ v35 = .int .i64 (j : Int) ∧ k < 4294967296 ∧ j ≤ l2.length ∧ p.length = N ∧ Lo 4294967296 p ∧ (∀ q, i + l2.length ≤ q → p.getD q 0 = 0) ∧
          vb 4294967296 p + 4294967296 ^ (i + j) * k = vb 4294967296 (l1.take i) * vb 4294967296 l2 + 4294967296 ^ i * (a * vb 4294967296 (l2.take j)) ∧
          wi.ownsRow w.heap.size 24 1 (.slice (some ⟨w.heap.size, 0, none⟩) N N) N (cellsN .u32 p) ∧ Below w.heap.size w wi)
        (fun _ v35 _ => l2.length - (intOf v35).toNat)
      case atStart => exact ⟨0, 0, o, rfl, rfl, by omega, by omega, hol, hoo, hoz, by rw [hov]; simp [vb], hown, hBr⟩
      case round =>
        obtain ⟨k, j, p, rfl, rfl, hk, hj, hpn, hpo, hpz, hval, hown2, hBi⟩ := hrel
        have hrb : Rw .u32 wr B A2 l2 := hr2.below (hBi.mono hB0)
        by_cases hj2 : j < l2.length
        · obtain ⟨b2, off2, rfl, _, hbj⟩ := hrb.at_ hj2
          have hbl := lo_getD (b := 4294967296) (by omega) hlo2 j
          have htb := vb_take 4294967296 l2 j
          generalize l2.getD j 0 = bj at *
          have hab : a * bj ≤ 4294967295 * 4294967295 := Nat.mul_le_mul (by omega) (by omega)
          have hab0 : (0 : Int) ≤ (a : Int) * (bj : Int) := by rw [← Int.natCast_mul]; omega
          have hab1 : (a : Int) * (bj : Int) ≤ 18446744065119617025 := by rw [← Int.natCast_mul]; omega
          have j1 : (j : Int) < (l2.length : Int) := by omega
          obtain ⟨r, hrr⟩ : ∃ r, i + j = r := ⟨_, rfl⟩
          rw [hrr] at hval
          have hpl : r < p.length := by omega
          have hst := mul_step 4294967296 p r (k + p.getD r 0 + a * bj) k _ (a * bj) hpl hval rfl
          have hcp : wr.cell? ⟨w.heap.size, r, none⟩ = some (.int .u32 ((p.getD r 0 : Nat) : Int)) := (hown2.cellAt r (by omega)).trans (cellsN_at hpl)
          have hfp : wr.frozen? ⟨w.heap.size, r, none⟩ = false := hown2.frozenAt r
          have hdl : p.getD r 0 < 4294967296 := lo_getD (by omega) hpo _
          generalize p.getD r 0 = d at *
          obtain ⟨q, hq⟩ : ∃ q, q = k + d + a * bj := ⟨_, rfl⟩
          rw [← hq] at hst
          have eq : (k : Int) + ((a : Int) * (bj : Int) + (d : Int)) = (q : Int) := by rw [hq]; push_cast; omega
          have hq4 : q / 4294967296 < 4294967296 := by omega
          have HQ := Lib.hid (And.intro hst (And.intro hq (And.intro eq (And.intro hpl (And.intro hval (And.intro hown2 hq4))))))
          have ij : (i : Int) + (j : Int) = (r : Int) := by omega
          have ij1 : (r : Int) < (N : Int) := by omega
          have ij0 : (0 : Int) ≤ (r : Int) := by omega
          have hb0 := Lib.hid hrr
          clear hst hval hq eq hpl hown2 hq4 hrr hN
          go_wp2_with fail
          obtain ⟨hst, hq, eq, hpl, hval, hown2, hq4⟩ := HQ.out
          rw [eq, show ((q : Int) % 4294967296) = ((q % 4294967296 : Nat) : Int) by omega]
          have hs := hown2.stored r (.int .u32 ((q % 4294967296 : Nat) : Int))
          rw [cellsN_set] at hs
          have hrr := hb0.out
          refine ⟨⟨q / 4294967296, j + 1, p.set r (q % 4294967296), by go_num, by go_num, hq4, by omega, by rw [List.length_set]; exact hpn, lo_set hpo (by omega) r, fun z hz => by rw [getD_set_ne _ _ (by omega)]; exact hpz z hz, ?_, hs.1, hBi.setCell (p := ⟨w.heap.size, r, none⟩) (Nat.le_refl _) _⟩, by simp [intOf]; omega⟩
          have e1 : 4294967296 ^ i * (a * (4294967296 ^ j * bj)) = 4294967296 ^ r * (a * bj) := by rw [← hrr, Nat.pow_add]; ac_rfl
          rw [htb, Nat.mul_add a, Nat.mul_add (4294967296 ^ i), e1, show i + (j + 1) = r + 1 by omega, hst]; omega
        · have j1 : ¬ (j : Int) < (l2.length : Int) := by omega
          obtain rfl : j = l2.length := by omega
          obtain ⟨r, hrr⟩ : ∃ r, i + l2.length = r := ⟨_, rfl⟩
          rw [hrr] at hval
          have hpl : r < p.length := by omega
          have hfp : wr.frozen? ⟨w.heap.size, r, none⟩ = false := hown2.frozenAt r
          have hcp : wr.cell? ⟨w.heap.size, r, none⟩ = some (.int .u32 ((p.getD r 0 : Nat) : Int)) := (hown2.cellAt r (by omega)).trans (cellsN_at hpl)
          have hvs := vb_set 4294967296 p r k hpl
          have hz := hpz r (by omega)
          have HQ := Lib.hid (And.intro hvs (And.intro hz (And.intro hval (And.intro hown2 (And.intro hpz hrr)))))
          have ij : (i : Int) + (l2.length : Int) = (r : Int) := by omega
          have ij1 : (r : Int) < (N : Int) := by omega
          have ij0 : (0 : Int) ≤ (r : Int) := by omega
          have hkm : (k : Int) % 4294967296 = (k : Int) := by omega
          clear hvs hz hval hown2 hrr hpz hN
          go_wp2_with fail
          obtain ⟨hvs, hz, hval, hown2, hpz, hrr⟩ := HQ.out
          have hs := hown2.stored r (.int .u32 (k : Int))
          rw [cellsN_set] at hs
          refine ⟨⟨i + 1, p.set r k, by go_num, by omega, by rw [List.length_set]; exact hpn, lo_set hpo hk r, fun z hz' => by rw [getD_set_ne _ _ (by omega)]; exact hpz z (by omega), ?_, hs.1, hBi.setCell (p := ⟨w.heap.size, r, none⟩) (Nat.le_refl _) _⟩, by simp [intOf]; omega⟩
          rw [hz, Nat.mul_zero, Nat.add_zero] at hvs
          rw [List.take_of_length_le (Nat.le_refl _)] at hval
          rw [hvs, hval, hta, Nat.add_mul, Nat.mul_assoc]
    · have i1 : ¬ (i : Int) < (l1.length : Int) := by omega
      rw [List.take_of_length_le (by omega)] at hov
      have hf : Fr w.heap.size wr (some ⟨w.heap.size, 0, none⟩) N o := Fr.of_own hown
      by_cases hx : vb 4294967296 o < 2 ^ 8192
      · have HT := told_fit (some ⟨w.heap.size, 0, none⟩) N w.heap.size o wr hf hoo hx
        rw [hol] at HT
        have hft := hf.trim.clip
        rw [trimL_dg (b := 4294967296) (by omega) _ hoo] at hft
        rw [hov] at HT hft hx
        have HX := Lib.hid hx
        replace HT := Lib.hid HT
        clear hx hf hown hown0 hgrow0
        go_wp2_with fail
        refine HT.out.mono ?_
        rintro e wx ⟨he, hw⟩
        subst he
        subst hw
        dsimp only
        go_wp2_with fail
        go_ret2
        exact ⟨.inl ⟨HX.out, _, _, rfl, hft⟩, hBr⟩
      · have HT := told_long (some ⟨w.heap.size, 0, none⟩) N w.heap.size o wr hf hoo hx
        rw [hol] at HT
        rw [hov] at hx
        have HX := Lib.hid hx
        replace HT := Lib.hid HT
        clear hx hf hown hown0 hgrow0
        go_wp2_with fail
        refine HT.out.mono ?_
        rintro e wx ⟨he, hw⟩
        subst he
        subst hw
        dsimp only
        go_wp2_with fail
        go_ret2
        exact ⟨.inr ⟨HX.out, rfl⟩, hBr⟩

end Go.Proofs.Ytpklbdgajbfaiaa
