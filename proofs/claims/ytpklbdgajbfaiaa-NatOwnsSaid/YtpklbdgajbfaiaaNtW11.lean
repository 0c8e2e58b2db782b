/- The program's difference, walked. -/
import Derived.Test.YtpklbdgajbfaiaaNtW10
namespace Go.Proofs.Ytpklbdgajbfaiaa
open Go.RowKit
set_option linter.unusedVariables false

theorem nil_no (a : Addr) (n c : Nat) (w : World) : (binOp .eql 22 (.slice (some a) n c) (.slice none 0 0)).run Try.prog w = .ok (.bool false) w := by kernel_rfl
theorem nil_yes (w : World) : (binOp .eql 22 (.slice none 0 0) (.slice none 0 0)).run Try.prog w = .ok (.bool true) w := by kernel_rfl

set_option maxHeartbeats 1000000 in
theorem clone_any (A : Option Addr) (c B : Nat) (l : List Nat) (w : World) (hr : Rw .u32 w B A l) (hB0 : B ≤ w.heap.size) (hl : l.length ≤ 1000000) (hA : A = none → l.length = 0 ∧ c = 0) :
    Calls Try.prog 33 #[.slice A l.length c] w fun e w' => ∃ v, e = .returned v ∧ w'.ownsRow w.heap.size 24 1 v l.length (cellsN .u32 l) ∧ Below w.heap.size w w' := by
  cases A with
  | none =>
    obtain ⟨h1, rfl⟩ := hA rfl
    have hle : l = [] := List.eq_nil_of_length_eq_zero h1
    subst hle
    have hn := nil_yes w
    go_enter Try.func33, Try.ntmps33
    go_wp2_with fail
    go_ret
    exact ⟨_, rfl, ⟨rfl, .inl ⟨rfl, rfl⟩⟩, Below.refl _ _⟩
  | some a =>
    clear hA
    have hn := nil_no a l.length c w
    obtain ⟨i0, hi, hz0, hz1, hz2⟩ := info_parts uint_info
    have hsrc : ∀ j u, (cellsN .u32 l)[j]? = some u → w.cell? (a.add j) = some u := fun j u h => by
      have hj : j < l.length := by
        rcases Nat.lt_or_ge j l.length with h2 | h2
        · exact h2
        · rw [List.getElem?_eq_none (by rw [cellsN_len]; exact h2)] at h; cases h
      obtain ⟨b, off, e, _, hc⟩ := hr.at_ hj
      cases e
      rw [cellsN_at hj] at h
      rw [← h]
      rcases Nat.eq_zero_or_pos j with rfl | hj0
      · simpa [Addr.add] using hc
      · have : (⟨b, off, none⟩ : Addr).add j = ⟨b, off + j, none⟩ := by simp [Addr.add]; omega
        rw [this]; exact hc
    have hsrc' : ∀ j u, (cellsN .u32 l)[j]? = some u → (w.alloc (.cells #[] 24)).cell? (a.add j) = some u := fun j u h => by
      have h2 := hsrc j u h
      exact (Below.cell ((Below.refl _ w).alloc (Nat.le_refl _) _) (lt_of_cell h2)).trans h2
    have hone : ∀ u ∈ cellsN .u32 l, u.oneCell' = true := fun u hu => by
      obtain ⟨z, _, rfl⟩ := List.mem_map.1 hu; rfl
    go_enter Try.func33, Try.ntmps33
    go_wp2_with (at_builtin; refine wpList_append_own_at _ rfl (.tmp 5) (.tmp 6) 22 rfl w.heap.size 24 i0 (.int .u32 0) 1 4 Try.underlying22 hi hz0 hz1 hz2 rfl (by omega) (.slice (some ⟨w.heap.size, 0, none⟩) 0 0) 0 [] rfl (World.ownsRow_lit w #[] 0 (Nat.le_refl _) (by unfold maxLen; omega) rfl) a l.length c (cellsN .u32 l) rfl (by rw [cellsN_len]; omega) hsrc' hone (by unfold maxLen; omega) (by omega) (by simp) ?_; intro v' w' hown' hgrow _ _)
    have hBw : Below w.heap.size w w' := ((Below.refl _ w).alloc (Nat.le_refl _) (.cells #[] 24)).grown hgrow (by simp) (fun k e => by cases e; exact Nat.le_refl _)
    rw [Nat.zero_add, List.nil_append] at hown'
    clear hgrow
    go_wp2_with fail
    go_ret
    exact ⟨_, rfl, hown', hBw⟩

theorem dg_mono {b : Nat} (hb : 2 ≤ b) {x y : Nat} (h : x ≤ y) : (dg b x).length ≤ (dg b y).length :=
  (dg_len hb _ _).2 (Nat.lt_of_le_of_lt h ((dg_len hb _ _).1 (Nat.le_refl _)))
theorem told_len (A : Option Addr) (c base : Nat) (l : List Nat) (w : World) (hf : Fr base w A c l) (hlo : Lo 4294967296 l) (hx : (dg 4294967296 (vb 4294967296 l)).length ≤ 256) :
    Calls Try.prog 32 #[.slice A l.length c] w fun e w' => e = .returned (.tuple #[.slice A (dg 4294967296 (vb 4294967296 l)).length (dg 4294967296 (vb 4294967296 l)).length, .int .i64 0]) ∧ w = w' :=
  told_fit A c base l w hf hlo (fit_len.1 hx)
theorem less_nil (A : Option Addr) (c : Nat) (A2 : Option Addr) (n c2 : Nat) (w : World) :
    Calls Try.prog 34 #[.slice A 0 c, .slice A2 n c2] w fun e w' => e = .returned (.tuple #[]) ∧ w = w' := by
  go_enter Try.func34, Try.ntmps34
  go_wp2_with fail
  go_loopw [4, 9] (fun v4 v9 wr => v4 = .int .u32 0 ∧ v9 = .int .i64 0 ∧ wr = w) (fun _ _ _ => 0)
  case atStart => exact ⟨rfl, rfl, rfl⟩
  case round =>
    obtain ⟨rfl, rfl, rfl⟩ := hrel
    go_wp2_with fail
    go_end0
    exact ⟨rfl, rfl⟩
/-- This natural, in memory of its own. -/
def NatOk (x : Nat) (w : World) (e : Ending) (w' : World) : Prop :=
  (∃ A c, e = .returned (.tuple #[.slice A (dg 4294967296 x).length c, .int .i64 0]) ∧ Fr w.heap.size w' A c (dg 4294967296 x)) ∧ Below w.heap.size w w'

set_option maxHeartbeats 4000000 in
theorem nsub_ok (A : Option Addr) (c B x : Nat) (A2 : Option Addr) (c2 y : Nat) (w : World) (hr : Rw .u32 w B A (dg 4294967296 x)) (hr2 : Rw .u32 w B A2 (dg 4294967296 y)) (hB0 : B ≤ w.heap.size)
    (hx : x < 2 ^ 8192) (hyx : y ≤ x) (hA : A = none → (dg 4294967296 x).length = 0 ∧ c = 0) :
    Calls Try.prog 11 #[.slice A (dg 4294967296 x).length c, .slice A2 (dg 4294967296 y).length c2] w (NatOk (x - y) w) := by
  have hy : y < 2 ^ 8192 := Nat.lt_of_le_of_lt hyx hx
  have hl1 := fit_len.2 hx
  have hl2 := fit_len.2 hy
  have hl21 : (dg 4294967296 y).length ≤ (dg 4294967296 x).length := by
    refine (dg_len (by omega) _ _).2 (Nat.lt_of_le_of_lt hyx ?_)
    exact (dg_len (by omega) _ _).1 (Nat.le_refl _)
  have HV1 := valid_any A c B _ w hr (by unfold maxLen; omega)
  rw [okL_dg hx] at HV1
  have HV2 := valid_any A2 c2 B _ w hr2 (by unfold maxLen; omega)
  rw [okL_dg hy] at HV2
  have HC := ncmp_any A c B x A2 c2 y w hr hr2 hB0 (by omega) (by omega)
  have HD := fun (w1 : World) (hb : Below w.heap.size w w1) => clone_any A c B (dg 4294967296 x) w1 (hr.below (hb.mono hB0)) (Nat.le_trans hB0 hb.size) (by omega) hA
  have hlo1 := dg_lo (b := 4294967296) (by omega) x
  have hv1' := vb_dg (b := 4294967296) (by omega) x
  have hlo2 := dg_lo (b := 4294967296) (by omega) y
  have hv2' := vb_dg (b := 4294967296) (by omega) y
  have hcv : cmpI x y = 0 ∨ cmpI x y = 1 := by
    rcases Nat.lt_or_ge y x with h | h
    · exact .inr (cmpI_gt h)
    · exact .inl (by rw [show x = y by omega, cmpI_eq])
  have HD2 := Lib.hid (And.intro hyx (Nat.le_trans (dg_mono (b := 4294967296) (by omega) (Nat.sub_le x y)) hl1))
  generalize dg 4294967296 x = l1 at *
  generalize dg 4294967296 y = l2 at *
  replace HV1 := Lib.hid HV1
  replace HV2 := Lib.hid HV2
  replace HC := Lib.hid HC
  replace HD := Lib.hid HD
  have hcv0 : ¬ cmpI x y < 0 := by omega
  clear hx hy hyx hcv
  go_enter Try.func11, Try.ntmps11
  go_wp2_with fail
  refine HV1.out.mono ?_
  rintro e w' ⟨he, hw⟩
  subst he
  subst hw
  dsimp only
  go_wp2_with fail
  refine HV2.out.mono ?_
  rintro e w' ⟨he, hw⟩
  subst he
  subst hw
  dsimp only
  go_wp2_with fail
  refine HC.out.mono ?_
  rintro e w1 ⟨rfl, hb1⟩
  go_wp2_with fail
  refine (HD.out w1 hb1).mono ?_
  rintro e w2 ⟨v, rfl, hown, hb2⟩
  have hB2 : Below w.heap.size w w2 := hb1.trans (hb2.mono hb1.size)
  have hr2' := hr2.below (hB2.mono hB0)
  have hsz := hb1.size
  rcases Nat.eq_zero_or_pos l1.length with h0 | hp
  · have hle1 : l1 = [] := List.eq_nil_of_length_eq_zero h0
    have hle2 : l2 = [] := List.eq_nil_of_length_eq_zero (by omega)
    have hx0 : x = 0 := by rw [← hv1', hle1]; rfl
    obtain ⟨A', c', rfl, hc', hm', _⟩ := own_form hown
    have hf : Fr w1.heap.size w2 A' c' l1 := Fr.of_own hown
    subst hle1
    subst hle2
    have HT := told_len A' c' w1.heap.size [] w2 hf hlo1 (by simp [vb, dg_zero])
    have HLe := Lib.hid (less_nil A' c' A2 0 c2 w2)
    replace HT := Lib.hid HT
    have hft := hf.clip
    have hsub : x - y = 0 := by omega
    clear hown hf hv1' hv2'
    go_wp2_with fail
    refine HLe.out.mono ?_
    rintro e wx ⟨he, hw⟩
    subst he
    subst hw
    dsimp only
    go_wp2_with fail
    refine HT.out.mono ?_
    rintro e wx ⟨he, hw⟩
    subst he
    subst hw
    dsimp only
    go_wp2_with fail
    go_ret2
    rw [hsub]
    exact ⟨⟨_, _, rfl, hft.more hsz⟩, hB2⟩
  · obtain ⟨g, cap, cur, rfl, hg, _⟩ : ∃ g cap cur, v = .slice (some ⟨g, 0, none⟩) l1.length cap ∧ w1.heap.size ≤ g ∧ w2.heap[g]? = some (.cells cur 24 (0, 0)) := by
      rcases hown.2 with ⟨_, h⟩ | ⟨g, cap, cur, h1, h2, h3, _⟩
      · omega
      · exact ⟨g, cap, cur, h1, h2, h3⟩
    have HL := Lib.hid (less_any g cap w1.heap.size B l1 A2 c2 l2 w2 hown hr2' (Nat.le_trans hB0 hsz) hb2.size hlo1 hlo2 hl21 (by omega) (by rw [hv1', hv2']; exact HD2.out.1))
    clear hown hr2'
    go_wp2_with fail
    refine HL.out.mono ?_
    rintro e w3 ⟨rfl, p, hpl, hpo, hpv, hown3, hb3, _⟩
    have hf : Fr w1.heap.size w3 (some ⟨g, 0, none⟩) cap p := Fr.of_own hown3
    have hD := HD2.out.2
    rw [hv1', hv2'] at hpv
    have HT := told_len (some ⟨g, 0, none⟩) cap w1.heap.size p w3 hf hpo (by rw [hpv]; exact hD)
    rw [hpl] at HT
    have hft := (Fr.trim hf).clip
    rw [trimL_dg (b := 4294967296) (by omega) p hpo] at hft
    rw [hpv] at HT hft
    have hBf : Below w.heap.size w w3 := hB2.trans (hb3.mono hsz)
    replace HT := Lib.hid HT
    clear hown3 hf hpv hD
    go_wp2_with fail
    refine HT.out.mono ?_
    rintro e wx ⟨he, hw⟩
    subst he
    subst hw
    dsimp only
    go_wp2_with fail
    go_ret2
    exact ⟨⟨_, _, rfl, hft.more hsz⟩, hBf⟩

end Go.Proofs.Ytpklbdgajbfaiaa
