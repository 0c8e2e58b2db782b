/- The program's division by nothing and by one limb, walked. -/
import Derived.Test.YtpklbdgajbfaiaaNtW21
namespace Go.Proofs.Ytpklbdgajbfaiaa
open Go.RowKit
set_option linter.unusedVariables false

theorem ndiv_none (A : Option Addr) (c B x : Nat) (A2 : Option Addr) (c2 : Nat) (w : World) (hr : Rw .u32 w B A (dg 4294967296 x)) (hxl : (dg 4294967296 x).length ≤ 256) :
    Calls Try.prog 13 #[.slice A (dg 4294967296 x).length c, .slice A2 0 c2] w fun e w' => e = .returned (.tuple #[.slice none 0 0, .slice none 0 0, .int .i64 1]) ∧ w = w' := by
  have HV1 := valid_any A c B _ w hr (by unfold maxLen; omega)
  rw [okL_of hxl (dg_top (by omega) x)] at HV1
  have HV2 := valid_any A2 c2 B [] w (Rw.nil _ _ _ _) (by unfold maxLen; decide)
  have ho : okL [] = true := by decide
  rw [ho] at HV2
  generalize dg 4294967296 x = l1 at *
  replace HV1 := Lib.hid HV1
  replace HV2 := Lib.hid HV2
  clear hr
  go_enter Try.func13, Try.ntmps13
  go_wp2_with fail
  refine HV1.out.mono ?_
  rintro e w' ⟨he, hw⟩
  subst he
  subst hw
  dsimp only
  go_wp2_with fail
  refine HV2.out.mono ?_
  rintro e w' ⟨he, hw⟩
  subst he
  subst hw
  dsimp only
  go_wp2_with fail
  go_ret3
  exact ⟨rfl, rfl⟩

theorem small_nil (A : Option Addr) (c d : Nat) (w : World) :
    Calls Try.prog 35 #[.slice A 0 c, .int .u32 (d : Int)] w fun e w' => e = .returned (.int .u32 0) ∧ w = w' := by
  go_enter Try.func35, Try.ntmps35
  go_wp2_with fail
  go_loopw [5, 6] (fun v5 v6 wr => v5 = .int .u32 0 ∧ v6 = .int .i64 (-1) ∧ wr = w) (fun _ _ _ => 0)
  case atStart => exact ⟨rfl, rfl, rfl⟩
  case round =>
    obtain ⟨rfl, rfl, rfl⟩ := hrel
    go_wp2_with fail
    go_ret
    exact ⟨rfl, rfl⟩

theorem nsmall_any (A : Option Addr) (c base : Nat) (l : List Nat) (d : Nat) (w : World) (hown : w.ownsRow base 24 1 (.slice A l.length c) l.length (cellsN .u32 l))
    (hbw : base ≤ w.heap.size) (hlo : Lo 4294967296 l) (hl : l.length ≤ 1000000) (hd0 : 0 < d) (hd : d < 4294967296) :
    Calls Try.prog 35 #[.slice A l.length c, .int .u32 (d : Int)] w fun e w' => e = .returned (.int .u32 ((vb 4294967296 l % d : Nat) : Int)) ∧
      ∃ p : List Nat, p.length = l.length ∧ Lo 4294967296 p ∧ vb 4294967296 p = vb 4294967296 l / d ∧ w'.ownsRow base 24 1 (.slice A l.length c) l.length (cellsN .u32 p) ∧ Below base w w' := by
  rcases Nat.eq_zero_or_pos l.length with h0 | hp
  · have hle1 : l = [] := List.eq_nil_of_length_eq_zero h0
    subst hle1
    refine (small_nil A c d w).mono ?_
    rintro e w' ⟨rfl, rfl⟩
    exact ⟨by simp [vb], [], rfl, hlo, by simp [vb], hown, Below.refl _ _⟩
  · obtain ⟨g, rfl⟩ : ∃ g, A = some ⟨g, 0, none⟩ := by
      rcases hown.2 with ⟨_, h⟩ | ⟨g, cap, cur, h1, h2, h3, _⟩
      · omega
      · cases h1; exact ⟨g, rfl⟩
    refine (small_div g c base l d w hown hbw hlo hl hd0 hd).mono ?_
    rintro e w' ⟨rfl, p, h1, h2, h3, h4, h5, _⟩
    exact ⟨rfl, p, h1, h2, h3, h4, h5⟩

theorem one_limb {l : List Nat} (h : l.length = 1) : l = [vb 4294967296 l] := by
  obtain ⟨d, rfl⟩ := List.length_eq_one_iff.1 h
  simp [vb]

set_option maxRecDepth 100000 in
set_option maxHeartbeats 8000000 in
theorem ndiv_short (A : Option Addr) (c B x : Nat) (A2 : Option Addr) (c2 y : Nat) (w : World) (hr : Rw .u32 w B A (dg 4294967296 x)) (hr2 : Rw .u32 w B A2 (dg 4294967296 y)) (hB0 : B ≤ w.heap.size)
    (hxl : (dg 4294967296 x).length ≤ 256) (hy1 : (dg 4294967296 y).length = 1) (hA : A = none → (dg 4294967296 x).length = 0 ∧ c = 0) :
    Calls Try.prog 13 #[.slice A (dg 4294967296 x).length c, .slice A2 (dg 4294967296 y).length c2] w (DivAns w (x / y) (x % y)) := by
  unfold DivAns
  have HV1 := valid_any A c B _ w hr (by unfold maxLen; omega)
  rw [okL_of hxl (dg_top (by omega) x)] at HV1
  have HV2 := valid_any A2 c2 B _ w hr2 (by unfold maxLen; omega)
  rw [okL_of (by omega) (dg_top (by omega) y)] at HV2
  have hlo1 := dg_lo (b := 4294967296) (by omega) x
  have hv1 := vb_dg (b := 4294967296) (by omega) x
  have hlo2 := dg_lo (b := 4294967296) (by omega) y
  have hv2 := vb_dg (b := 4294967296) (by omega) y
  have htop := dg_top (b := 4294967296) (by omega) y
  have HD := clone_any A c B (dg 4294967296 x) w hr hB0 (by omega) hA
  have e2 := one_limb hy1
  rw [hv2] at e2
  rw [e2] at HV2 hr2 hlo2 htop ⊢
  have hy : y < 4294967296 := hlo2 y (by simp)
  have hy0 : 0 < y := by
    rcases Nat.eq_zero_or_pos y with h | h
    · subst h; rw [dg_zero] at e2; cases e2
    · exact h
  clear e2 hy1 hv2 hlo2 htop
  generalize dg 4294967296 x = l1 at *
  simp only [List.length_singleton] at HV2 ⊢
  replace HV1 := Lib.hid HV1
  replace HV2 := Lib.hid HV2
  replace HD := Lib.hid HD
  obtain ⟨b2, o2, rfl, hb2, hc2⟩ := hr2.at_ (i := 0) (by simp)
  have hr2' : ∀ w', Below w.heap.size w w' → w'.cell? ⟨b2, o2, none⟩ = some (.int .u32 (y : Int)) := fun w' hb => by
    have := (hb.cell (p := ⟨b2, o2, none⟩) (by show b2 < _; omega)).trans hc2
    simpa using this
  go_enter Try.func13, Try.ntmps13
  go_wp2_with fail
  refine HV1.out.mono ?_
  rintro e w' ⟨he, hw⟩
  subst he
  subst hw
  dsimp only
  go_wp2_with fail
  refine HV2.out.mono ?_
  rintro e w' ⟨he, hw⟩
  subst he
  subst hw
  dsimp only
  go_wp2_with fail
  refine HD.out.mono ?_
  rintro e w1 ⟨v, rfl, hown, hB1⟩
  have hcy := hr2' w1 hB1
  clear hr2' hc2
  have hs1 := hB1.size
  obtain ⟨A', c', rfl, hc', hm', hA'⟩ := own_form hown
  have HS := Lib.hid (nsmall_any A' c' w.heap.size l1 y w1 hown hs1 hlo1 (by omega) hy0 hy)
  clear hown
  go_wp2_with fail
  refine HS.out.mono ?_
  rintro e w2 ⟨rfl, p, hpl, hpo, hpv, hown2, hB2⟩
  rw [hv1] at hpv ⊢
  have hf : Fr w.heap.size w2 A' c' p := Fr.of_own hown2
  have hs2 := (hB1.trans hB2).size
  have HT := trim_any A' c' w2.heap.size p w2 hf.rw hf.1 hf.2.1
  have hft := hf.trim
  rw [trimL_dg (b := 4294967296) (by omega) p hpo, hpv] at HT hft
  rw [hpl] at HT
  have HC := clip_any A' _ c' w2 hft.1 hft.2.1 (fun h => by obtain ⟨g, cur, e, _⟩ := hft.2.2 h; exact ⟨g, e⟩)
  have HN := from_any (x % y) w2 (by have := Nat.mod_lt x hy0; omega)
  have hml : x % y < 4294967296 := Nat.lt_trans (Nat.mod_lt x hy0) hy
  replace HT := Lib.hid HT
  replace HC := Lib.hid HC
  replace HN := Lib.hid HN
  have hfc := hft.clip
  have HB := Lib.hid (And.intro (hB1.trans hB2) (And.intro hfc hown2))
  obtain ⟨r, hxr⟩ : ∃ r, r = x % y := ⟨_, rfl⟩
  rw [← hxr] at HN hml ⊢
  have emw : (r : Int) % 18446744073709551616 = (r : Int) := by omega
  have hhr := Lib.hid hxr
  clear hf hft hfc hown2 hB1 hB2 hpv hs1 hs2 hpl hxr hv1
  go_wp2_with fail
  refine HT.out.mono ?_
  rintro e w' ⟨he, hw⟩
  subst he
  subst hw
  dsimp only
  go_wp2_with fail
  refine HC.out.mono ?_
  rintro e w' ⟨he, hw⟩
  subst he
  subst hw
  dsimp only
  go_wp2_with fail
  refine HN.out.mono ?_
  rintro e w3 ⟨A4, c4, rfl, hf4, hB3⟩
  have hx := hhr.out
  subst hx
  go_wp2_with fail
  go_ret3
  obtain ⟨hB, hfc, hown2⟩ := HB.out
  refine ⟨w2.heap.size, _, _, _, _, rfl, hfc.below hB3, hf4, hB.size, fun q hq => ?_, hB.trans (hB3.mono hB.size)⟩
  subst hq
  rcases hown2.2 with ⟨h, _⟩ | ⟨g, cap, cur, h1, h2, h3, _⟩
  · cases h
  · cases h1; exact (Array.getElem?_eq_some_iff.1 h3).1

end Go.Proofs.Ytpklbdgajbfaiaa
