/- 'Sums and products don't ask for the order, products go over sums, and a difference takes a sum back', walked. Printed by wip/tools/nlaws.py. -/
import Derived.Test.YtpklbdgajbfaiaaNtW27
namespace Go.Proofs.Ytpklbdgajbfaiaa
open Go.RowKit
set_option linter.unusedVariables false

theorem sum_limbs {N x y : Nat} (h1 : (dg 4294967296 x).length ≤ N) (h2 : (dg 4294967296 y).length ≤ N) : (dg 4294967296 (x + y)).length ≤ N + 1 := by
  have a1 := (dg_len (b := 4294967296) (by omega) N x).1 h1
  have a2 := (dg_len (b := 4294967296) (by omega) N y).1 h2
  refine (dg_len (b := 4294967296) (by omega) (N + 1) (x + y)).2 ?_
  rw [Nat.pow_succ]
  generalize 4294967296 ^ N = R at *
  omega
theorem prod_limbs {N M x y : Nat} (h1 : (dg 4294967296 x).length ≤ N) (h2 : (dg 4294967296 y).length ≤ M) : (dg 4294967296 (x * y)).length ≤ N + M := by
  have a1 := (dg_len (b := 4294967296) (by omega) N x).1 h1
  have a2 := (dg_len (b := 4294967296) (by omega) M y).1 h2
  refine (dg_len (b := 4294967296) (by omega) (N + M) (x * y)).2 ?_
  rw [Nat.pow_add]
  exact Nat.mul_lt_mul'' a1 a2
theorem is_ok {x : Nat} {w : World} {e : Ending} {w' : World} (h : NatIs x w e w') (hx : x < 2 ^ 8192) : NatOk x w e w' := by
  obtain ⟨⟨_, h1⟩ | ⟨h1, _⟩, hb⟩ := h
  · exact ⟨h1, hb⟩
  · exact absurd hx h1
theorem nadd_ok (A : Option Addr) (c x : Nat) (A2 : Option Addr) (c2 y s : Nat) (w : World) (hr : Rw .u32 w w.heap.size A (dg 4294967296 x)) (hr2 : Rw .u32 w w.heap.size A2 (dg 4294967296 y)) (hs : x + y = s) (h8 : s < 2 ^ 8192) :
    Calls Try.prog 10 #[.slice A (dg 4294967296 x).length c, .slice A2 (dg 4294967296 y).length c2] w (NatOk s w) := by
  subst hs
  exact (nadd_any A c w.heap.size x A2 c2 y w hr hr2 (Nat.le_refl _) (Nat.lt_of_le_of_lt (Nat.le_add_right _ _) h8) (Nat.lt_of_le_of_lt (Nat.le_add_left _ _) h8)).mono fun e w' h => is_ok h h8
theorem nmul_ok (A : Option Addr) (c x : Nat) (A2 : Option Addr) (c2 y s : Nat) (w : World) (hr : Rw .u32 w w.heap.size A (dg 4294967296 x)) (hr2 : Rw .u32 w w.heap.size A2 (dg 4294967296 y)) (hx : x < 2 ^ 8192) (hy : y < 2 ^ 8192) (hs : x * y = s) (h8 : s < 2 ^ 8192) :
    Calls Try.prog 12 #[.slice A (dg 4294967296 x).length c, .slice A2 (dg 4294967296 y).length c2] w (NatOk s w) := by
  subst hs
  exact (nmul_any A c w.heap.size x A2 c2 y w hr hr2 (Nat.le_refl _) hx hy).mono fun e w' h => is_ok h h8
theorem fr_none {base c : Nat} {w : World} {A : Option Addr} {l : List Nat} (hf : Fr base w A c l) : A = none → l.length = 0 ∧ c = 0 := by
  intro ha
  have h1 := hf.1
  rcases Nat.eq_zero_or_pos c with h | h
  · omega
  · obtain ⟨_, _, h2, _⟩ := hf.2.2 h; rw [ha] at h2; cases h2
theorem nsub_sum (A : Option Addr) (c s : Nat) (A2 : Option Addr) (c2 y x : Nat) (w : World) (hr : Rw .u32 w w.heap.size A (dg 4294967296 s)) (hA : A = none → (dg 4294967296 s).length = 0 ∧ c = 0) (hr2 : Rw .u32 w w.heap.size A2 (dg 4294967296 y)) (hs : x + y = s) (h8 : s < 2 ^ 8192) :
    Calls Try.prog 11 #[.slice A (dg 4294967296 s).length c, .slice A2 (dg 4294967296 y).length c2] w (NatOk x w) := by
  have h := nsub_ok A c w.heap.size s A2 c2 y w hr hr2 (Nat.le_refl _) h8 (by omega) hA
  rw [show s - y = x by omega] at h
  exact h
theorem nshl_one (A : Option Addr) (c x d : Nat) (w : World) (hr : Rw .u32 w w.heap.size A (dg 4294967296 x)) (hd : x + x = d) (h8 : d < 2 ^ 8192) :
    Calls Try.prog 14 #[.slice A (dg 4294967296 x).length c, .int .i64 1] w fun e w' => ∃ A' c', e = .returned (.tuple #[.slice A' (dg 4294967296 d).length c', .int .i64 0]) ∧ Rw .u32 w' w'.heap.size A' (dg 4294967296 d) ∧ Below w.heap.size w w' := by
  have h := nshl_told A c x 1 w hr (Nat.lt_of_le_of_lt (Nat.le_add_right _ _) (hd ▸ h8))
  rw [show x * 2 ^ 1 = d by omega] at h
  refine h.mono ?_
  rintro e w' ⟨A', n', c', v', rfl, ha, hb⟩
  rcases ha with ⟨h1, _⟩ | ⟨_, ⟨_, rfl, rfl, h4⟩ | ⟨h1, _⟩⟩
  · cases h1
  · exact ⟨A', c', rfl, h4, hb⟩
  · exact absurd h8 h1
theorem nlen_max (n : Nat) (h : n < 2 ^ 8192) : (dg 4294967296 n).length ≤ maxLen := by
  have := fit_len.2 h
  unfold maxLen; omega
theorem laws_fit {x y z : Nat} (h : (dg 4294967296 x).length + (dg 4294967296 y).length + (dg 4294967296 z).length ≤ 100) :
    (x < 2 ^ 8192 ∧ y < 2 ^ 8192 ∧ z < 2 ^ 8192) ∧ x + y < 2 ^ 8192 ∧ x * y < 2 ^ 8192 ∧ (x + y) * z < 2 ^ 8192 ∧ x * z < 2 ^ 8192 ∧ y * z < 2 ^ 8192 ∧ x + x < 2 ^ 8192 := by
  have a : (dg 4294967296 x).length ≤ 100 := by omega
  have b : (dg 4294967296 y).length ≤ 100 := by omega
  have c : (dg 4294967296 z).length ≤ 100 := by omega
  refine ⟨⟨fit_len.1 (by omega), fit_len.1 (by omega), fit_len.1 (by omega)⟩, fit_len.1 (Nat.le_trans (sum_limbs a b) (by omega)), fit_len.1 (Nat.le_trans (prod_limbs a b) (by omega)), fit_len.1 (Nat.le_trans (prod_limbs (sum_limbs a b) c) (by omega)),
    fit_len.1 (Nat.le_trans (prod_limbs a c) (by omega)), fit_len.1 (Nat.le_trans (prod_limbs b c) (by omega)), fit_len.1 (Nat.le_trans (sum_limbs a a) (by omega))⟩

set_option maxRecDepth 100000 in
set_option maxHeartbeats 4000000 in
theorem laws_far (A : Option Addr) (n c : Nat) (A2 : Option Addr) (n2 c2 : Nat) (A3 : Option Addr) (n3 c3 : Nat) (w : World) (h : 100 < n + n2 + n3) (h1 : n ≤ 256) (h2 : n2 ≤ 256) (h3 : n3 ≤ 256) :
    Calls Try.prog 4 #[.slice A n c, .slice A2 n2 c2, .slice A3 n3 c3] w (Yes w) := by
  unfold Yes
  have HF := Lib.hid (fixed_any w)
  have hn' : (100 : Int) < (n : Int) + (n2 : Int) + (n3 : Int) := by omega
  clear h
  go_enter Try.func4, Try.ntmps4
  go_wp2_with fail
  refine HF.out.mono ?_
  rintro e w1 ⟨rfl, hb⟩
  go_wp2_with fail
  go_ret
  exact ⟨rfl, hb⟩


set_option maxRecDepth 100000 in
set_option maxHeartbeats 4000000 in
theorem laws_bad1 (A : Option Addr) (c : Nat) (l1 : List Nat) (A2 : Option Addr) (c2 : Nat) (l2 : List Nat) (A3 : Option Addr) (c3 : Nat) (l3 : List Nat) (w : World) (hr : Rw .u32 w w.heap.size A l1) (hr2 : Rw .u32 w w.heap.size A2 l2) (hr3 : Rw .u32 w w.heap.size A3 l3) (hm1 : l1.length ≤ maxLen) (hm2 : l2.length ≤ maxLen) (hm3 : l3.length ≤ maxLen) (k1 : okL l1 = false) :
    Calls Try.prog 4 #[.slice A l1.length c, .slice A2 l2.length c2, .slice A3 l3.length c3] w (Yes w) := by
  unfold Yes
  have HF := Lib.hid (fixed_any w)
  have HV1 := fun (w' : World) (hb : Below w.heap.size w w') => rvalid_any A c w'.heap.size l1 w' (hr.go hb) hm1
  rw [k1] at HV1
  clear hr hr2 hr3 k1
  generalize l1.length = n1 at *
  generalize l2.length = n2 at *
  generalize l3.length = n3 at *
  replace HV1 := Lib.hid HV1
  clear hm1 hm2 hm3
  obtain ⟨S1, hS1⟩ : ∃ S1, wrap64 ((n1 : Int) + (n2 : Int)) = S1 := ⟨_, rfl⟩
  obtain ⟨S2, hS2⟩ : ∃ S2, wrap64 (S1 + (n3 : Int)) = S2 := ⟨_, rfl⟩
  by_cases hS : 100 < S2
  · go_enter Try.func4, Try.ntmps4
    go_wp2_with fail
    refine HF.out.mono ?_
    rintro e w1 ⟨rfl, hb⟩
    go_wp2_with fail
    go_ret
    exact ⟨rfl, hb⟩
  · go_enter Try.func4, Try.ntmps4
    go_wp2_with fail
    refine HF.out.mono ?_
    rintro e w1 ⟨rfl, hb⟩
    go_wp2_with fail
    refine (HV1.out w1 hb).mono ?_
    rintro e w' ⟨he, hw⟩
    subst he
    subst hw
    dsimp only
    go_wp2_with fail
    go_ret
    exact ⟨rfl, hb⟩

set_option maxRecDepth 100000 in
set_option maxHeartbeats 4000000 in
theorem laws_bad2 (A : Option Addr) (c : Nat) (l1 : List Nat) (A2 : Option Addr) (c2 : Nat) (l2 : List Nat) (A3 : Option Addr) (c3 : Nat) (l3 : List Nat) (w : World) (hr : Rw .u32 w w.heap.size A l1) (hr2 : Rw .u32 w w.heap.size A2 l2) (hr3 : Rw .u32 w w.heap.size A3 l3) (hm1 : l1.length ≤ maxLen) (hm2 : l2.length ≤ maxLen) (hm3 : l3.length ≤ maxLen) (k1 : okL l1 = true) (k2 : okL l2 = false) :
    Calls Try.prog 4 #[.slice A l1.length c, .slice A2 l2.length c2, .slice A3 l3.length c3] w (Yes w) := by
  unfold Yes
  have HF := Lib.hid (fixed_any w)
  have HV1 := fun (w' : World) (hb : Below w.heap.size w w') => rvalid_any A c w'.heap.size l1 w' (hr.go hb) hm1
  rw [k1] at HV1
  have HV2 := fun (w' : World) (hb : Below w.heap.size w w') => rvalid_any A2 c2 w'.heap.size l2 w' (hr2.go hb) hm2
  rw [k2] at HV2
  clear hr hr2 hr3 k1 k2
  generalize l1.length = n1 at *
  generalize l2.length = n2 at *
  generalize l3.length = n3 at *
  replace HV1 := Lib.hid HV1
  replace HV2 := Lib.hid HV2
  clear hm1 hm2 hm3
  obtain ⟨S1, hS1⟩ : ∃ S1, wrap64 ((n1 : Int) + (n2 : Int)) = S1 := ⟨_, rfl⟩
  obtain ⟨S2, hS2⟩ : ∃ S2, wrap64 (S1 + (n3 : Int)) = S2 := ⟨_, rfl⟩
  by_cases hS : 100 < S2
  · go_enter Try.func4, Try.ntmps4
    go_wp2_with fail
    refine HF.out.mono ?_
    rintro e w1 ⟨rfl, hb⟩
    go_wp2_with fail
    go_ret
    exact ⟨rfl, hb⟩
  · go_enter Try.func4, Try.ntmps4
    go_wp2_with fail
    refine HF.out.mono ?_
    rintro e w1 ⟨rfl, hb⟩
    go_wp2_with fail
    refine (HV1.out w1 hb).mono ?_
    rintro e w' ⟨he, hw⟩
    subst he
    subst hw
    dsimp only
    go_wp2_with fail
    refine (HV2.out w1 hb).mono ?_
    rintro e w' ⟨he, hw⟩
    subst he
    subst hw
    dsimp only
    go_wp2_with fail
    go_ret
    exact ⟨rfl, hb⟩

set_option maxRecDepth 100000 in
set_option maxHeartbeats 4000000 in
theorem laws_bad3 (A : Option Addr) (c : Nat) (l1 : List Nat) (A2 : Option Addr) (c2 : Nat) (l2 : List Nat) (A3 : Option Addr) (c3 : Nat) (l3 : List Nat) (w : World) (hr : Rw .u32 w w.heap.size A l1) (hr2 : Rw .u32 w w.heap.size A2 l2) (hr3 : Rw .u32 w w.heap.size A3 l3) (hm1 : l1.length ≤ maxLen) (hm2 : l2.length ≤ maxLen) (hm3 : l3.length ≤ maxLen) (k1 : okL l1 = true) (k2 : okL l2 = true) (k3 : okL l3 = false) :
    Calls Try.prog 4 #[.slice A l1.length c, .slice A2 l2.length c2, .slice A3 l3.length c3] w (Yes w) := by
  unfold Yes
  have HF := Lib.hid (fixed_any w)
  have HV1 := fun (w' : World) (hb : Below w.heap.size w w') => rvalid_any A c w'.heap.size l1 w' (hr.go hb) hm1
  rw [k1] at HV1
  have HV2 := fun (w' : World) (hb : Below w.heap.size w w') => rvalid_any A2 c2 w'.heap.size l2 w' (hr2.go hb) hm2
  rw [k2] at HV2
  have HV3 := fun (w' : World) (hb : Below w.heap.size w w') => rvalid_any A3 c3 w'.heap.size l3 w' (hr3.go hb) hm3
  rw [k3] at HV3
  clear hr hr2 hr3 k1 k2 k3
  generalize l1.length = n1 at *
  generalize l2.length = n2 at *
  generalize l3.length = n3 at *
  replace HV1 := Lib.hid HV1
  replace HV2 := Lib.hid HV2
  replace HV3 := Lib.hid HV3
  clear hm1 hm2 hm3
  obtain ⟨S1, hS1⟩ : ∃ S1, wrap64 ((n1 : Int) + (n2 : Int)) = S1 := ⟨_, rfl⟩
  obtain ⟨S2, hS2⟩ : ∃ S2, wrap64 (S1 + (n3 : Int)) = S2 := ⟨_, rfl⟩
  by_cases hS : 100 < S2
  · go_enter Try.func4, Try.ntmps4
    go_wp2_with fail
    refine HF.out.mono ?_
    rintro e w1 ⟨rfl, hb⟩
    go_wp2_with fail
    go_ret
    exact ⟨rfl, hb⟩
  · go_enter Try.func4, Try.ntmps4
    go_wp2_with fail
    refine HF.out.mono ?_
    rintro e w1 ⟨rfl, hb⟩
    go_wp2_with fail
    refine (HV1.out w1 hb).mono ?_
    rintro e w' ⟨he, hw⟩
    subst he
    subst hw
    dsimp only
    go_wp2_with fail
    refine (HV2.out w1 hb).mono ?_
    rintro e w' ⟨he, hw⟩
    subst he
    subst hw
    dsimp only
    go_wp2_with fail
    refine (HV3.out w1 hb).mono ?_
    rintro e w' ⟨he, hw⟩
    subst he
    subst hw
    dsimp only
    go_wp2_with fail
    go_ret
    exact ⟨rfl, hb⟩

set_option maxRecDepth 100000 in
set_option maxHeartbeats 8000000 in
theorem laws_ok (A : Option Addr) (c x : Nat) (A2 : Option Addr) (c2 y : Nat) (A3 : Option Addr) (c3 z : Nat) (w : World) (hr : Rw .u32 w w.heap.size A (dg 4294967296 x)) (hr2 : Rw .u32 w w.heap.size A2 (dg 4294967296 y)) (hr3 : Rw .u32 w w.heap.size A3 (dg 4294967296 z))
    (hl : (dg 4294967296 x).length + (dg 4294967296 y).length + (dg 4294967296 z).length ≤ 100) :
    Calls Try.prog 4 #[.slice A (dg 4294967296 x).length c, .slice A2 (dg 4294967296 y).length c2, .slice A3 (dg 4294967296 z).length c3] w (Yes w) := by
  unfold Yes
  have HF := Lib.hid (fixed_any w)
  obtain ⟨⟨fx, fy, fz⟩, fs, fp, fu, fv, ft, fd⟩ := laws_fit hl
  have HV1 := fun (w' : World) (hb : Below w.heap.size w w') => rvalid_dg A c x w' (hr.go hb) (by omega)
  have HV2 := fun (w' : World) (hb : Below w.heap.size w w') => rvalid_dg A2 c2 y w' (hr2.go hb) (by omega)
  have HV3 := fun (w' : World) (hb : Below w.heap.size w w') => rvalid_dg A3 c3 z w' (hr3.go hb) (by omega)
  have hn : ¬ (100 : Int) < ((dg 4294967296 x).length : Int) + ((dg 4294967296 y).length : Int) + ((dg 4294967296 z).length : Int) := by omega
  have hm : ((dg 4294967296 x).length : Int) + ((dg 4294967296 y).length : Int) + ((dg 4294967296 z).length : Int) ≤ 100 := by omega
  have hu := Nat.add_mul x y z
  have hp2 := Nat.mul_comm y x
  have ht2 := Nat.add_comm y x
  obtain ⟨s, hs⟩ : ∃ s, x + y = s := ⟨_, rfl⟩
  obtain ⟨d, hd⟩ : ∃ d, x + x = d := ⟨_, rfl⟩
  obtain ⟨p, hp⟩ : ∃ p, x * y = p := ⟨_, rfl⟩
  obtain ⟨v, hv⟩ : ∃ v, x * z = v := ⟨_, rfl⟩
  obtain ⟨t, ht⟩ : ∃ t, y * z = t := ⟨_, rfl⟩
  rw [hs, hv, ht] at hu
  rw [hp] at hp2 fp
  rw [hs] at ht2 fs fu
  rw [hd] at fd
  rw [hv] at fv
  rw [ht] at ft
  obtain ⟨u, hu1⟩ : ∃ u, s * z = u := ⟨_, rfl⟩
  rw [hu1] at hu fu
  have hlx : (dg 4294967296 x).length ≤ maxLen := by unfold maxLen; omega
  have H := Lib.hid (And.intro fx (And.intro fy (And.intro fz (And.intro fs (And.intro fp (And.intro fu (And.intro fv (And.intro ft fd))))))))
  have HE := Lib.hid (And.intro hs (And.intro ht2 (And.intro hp (And.intro hp2 (And.intro hu1 (And.intro hv (And.intro ht (And.intro hu.symm hd))))))))
  clear fx fy fz fs fp fu fv ft fd hs ht2 hp hp2 hu1 hv ht hu hd hl hlx
  replace HV1 := Lib.hid HV1
  replace HV2 := Lib.hid HV2
  replace HV3 := Lib.hid HV3
  go_enter Try.func4, Try.ntmps4
  go_wp2_with fail
  refine HF.out.mono ?_
  rintro e w1 ⟨rfl, hb1⟩
  have hB1 := hb1
  replace hr := hr.go hb1
  replace hr2 := hr2.go hb1
  replace hr3 := hr3.go hb1
  go_wp2_with fail
  refine (HV1.out w1 hB1).mono ?_
  rintro e w' ⟨he, hw⟩
  subst he
  subst hw
  dsimp only
  go_wp2_with fail
  refine (HV2.out w1 hB1).mono ?_
  rintro e w' ⟨he, hw⟩
  subst he
  subst hw
  dsimp only
  go_wp2_with fail
  refine (HV3.out w1 hB1).mono ?_
  rintro e w' ⟨he, hw⟩
  subst he
  subst hw
  dsimp only
  go_wp2_with fail
  refine (nadd_ok A c x A2 c2 y s w1 hr hr2 (HE.out.1) (H.out.2.2.2.1)).mono ?_
  rintro e w2 ⟨⟨As, cs, rfl, fs⟩, hb2⟩
  have hB2 := hB1.trans (hb2.mono hB1.size)
  replace hr := hr.go hb2
  replace hr2 := hr2.go hb2
  replace hr3 := hr3.go hb2
  clear hB1 hb2
  have rs := fs.rw
  have nos := Lib.hid (fr_none fs)
  clear fs
  go_wp2_with fail
  refine (nadd_ok A2 c2 y A c x s w2 hr2 hr (HE.out.2.1) (H.out.2.2.2.1)).mono ?_
  rintro e w3 ⟨⟨At, ct, rfl, ft⟩, hb3⟩
  have hB3 := hB2.trans (hb3.mono hB2.size)
  replace hr := hr.go hb3
  replace hr2 := hr2.go hb3
  replace hr3 := hr3.go hb3
  replace rs := rs.go hb3
  clear hB2 hb3
  have rt := ft.rw
  clear ft
  go_wp2_with fail
  refine (nmul_ok A c x A2 c2 y p w3 hr hr2 (H.out.1) (H.out.2.1) (HE.out.2.2.1) (H.out.2.2.2.2.1)).mono ?_
  rintro e w4 ⟨⟨Ap, cp, rfl, fp⟩, hb4⟩
  have hB4 := hB3.trans (hb4.mono hB3.size)
  replace hr := hr.go hb4
  replace hr2 := hr2.go hb4
  replace hr3 := hr3.go hb4
  replace rs := rs.go hb4
  replace rt := rt.go hb4
  clear hB3 hb4
  have rp := fp.rw
  clear fp
  go_wp2_with fail
  refine (nmul_ok A2 c2 y A c x p w4 hr2 hr (H.out.2.1) (H.out.1) (HE.out.2.2.2.1) (H.out.2.2.2.2.1)).mono ?_
  rintro e w5 ⟨⟨Aq, cq, rfl, fq⟩, hb5⟩
  have hB5 := hB4.trans (hb5.mono hB4.size)
  replace hr := hr.go hb5
  replace hr2 := hr2.go hb5
  replace hr3 := hr3.go hb5
  replace rs := rs.go hb5
  replace rt := rt.go hb5
  replace rp := rp.go hb5
  clear hB4 hb5
  have rq := fq.rw
  clear fq
  go_wp2_with fail
  refine (nmul_ok As cs s A3 c3 z u w5 rs hr3 (H.out.2.2.2.1) (H.out.2.2.1) (HE.out.2.2.2.2.1) (H.out.2.2.2.2.2.1)).mono ?_
  rintro e w6 ⟨⟨Au, cu, rfl, fu⟩, hb6⟩
  have hB6 := hB5.trans (hb6.mono hB5.size)
  replace hr := hr.go hb6
  replace hr2 := hr2.go hb6
  replace hr3 := hr3.go hb6
  replace rs := rs.go hb6
  replace rt := rt.go hb6
  replace rp := rp.go hb6
  replace rq := rq.go hb6
  clear hB5 hb6
  have ru := fu.rw
  clear fu
  go_wp2_with fail
  refine (nmul_ok A c x A3 c3 z v w6 hr hr3 (H.out.1) (H.out.2.2.1) (HE.out.2.2.2.2.2.1) (H.out.2.2.2.2.2.2.1)).mono ?_
  rintro e w7 ⟨⟨Av, cv, rfl, fv⟩, hb7⟩
  have hB7 := hB6.trans (hb7.mono hB6.size)
  replace hr := hr.go hb7
  replace hr2 := hr2.go hb7
  replace hr3 := hr3.go hb7
  replace rs := rs.go hb7
  replace rt := rt.go hb7
  replace rp := rp.go hb7
  replace rq := rq.go hb7
  replace ru := ru.go hb7
  clear hB6 hb7
  have rv := fv.rw
  clear fv
  go_wp2_with fail
  refine (nmul_ok A2 c2 y A3 c3 z t w7 hr2 hr3 (H.out.2.1) (H.out.2.2.1) (HE.out.2.2.2.2.2.2.1) (H.out.2.2.2.2.2.2.2.1)).mono ?_
  rintro e w8 ⟨⟨Aw, cw, rfl, fw⟩, hb8⟩
  have hB8 := hB7.trans (hb8.mono hB7.size)
  replace hr := hr.go hb8
  replace hr2 := hr2.go hb8
  replace hr3 := hr3.go hb8
  replace rs := rs.go hb8
  replace rt := rt.go hb8
  replace rp := rp.go hb8
  replace rq := rq.go hb8
  replace ru := ru.go hb8
  replace rv := rv.go hb8
  clear hB7 hb8
  have r_w := fw.rw
  clear fw
  go_wp2_with fail
  refine (nadd_ok Av cv v Aw cw t u w8 rv r_w (HE.out.2.2.2.2.2.2.2.1) (H.out.2.2.2.2.2.1)).mono ?_
  rintro e w9 ⟨⟨Ax, cx, rfl, fx⟩, hb9⟩
  have hB9 := hB8.trans (hb9.mono hB8.size)
  replace hr := hr.go hb9
  replace hr2 := hr2.go hb9
  replace hr3 := hr3.go hb9
  replace rs := rs.go hb9
  replace rt := rt.go hb9
  replace rp := rp.go hb9
  replace rq := rq.go hb9
  replace ru := ru.go hb9
  replace rv := rv.go hb9
  replace r_w := r_w.go hb9
  clear hB8 hb9
  have rx := fx.rw
  clear fx
  go_wp2_with fail
  refine (nsub_sum As cs s A2 c2 y x w9 rs nos.out hr2 (HE.out.1) (H.out.2.2.2.1)).mono ?_
  rintro e w10 ⟨⟨Ay, cy, rfl, fy⟩, hb10⟩
  have hB10 := hB9.trans (hb10.mono hB9.size)
  replace hr := hr.go hb10
  replace hr2 := hr2.go hb10
  replace hr3 := hr3.go hb10
  replace rs := rs.go hb10
  replace rt := rt.go hb10
  replace rp := rp.go hb10
  replace rq := rq.go hb10
  replace ru := ru.go hb10
  replace rv := rv.go hb10
  replace r_w := r_w.go hb10
  replace rx := rx.go hb10
  clear hB9 hb10
  have ry := fy.rw
  clear fy
  go_wp2_with fail
  refine (nshl_one A c x d w10 hr (HE.out.2.2.2.2.2.2.2.2) (H.out.2.2.2.2.2.2.2.2)).mono ?_
  rintro e w11 ⟨Az, cz, rfl, rz, hb11⟩
  have hB11 := hB10.trans (hb11.mono hB10.size)
  replace hr := hr.go hb11
  replace hr2 := hr2.go hb11
  replace hr3 := hr3.go hb11
  replace rs := rs.go hb11
  replace rt := rt.go hb11
  replace rp := rp.go hb11
  replace rq := rq.go hb11
  replace ru := ru.go hb11
  replace rv := rv.go hb11
  replace r_w := r_w.go hb11
  replace rx := rx.go hb11
  replace ry := ry.go hb11
  clear hB10 hb11
  go_wp2_with fail
  refine (nadd_ok A c x A c x d w11 hr hr (HE.out.2.2.2.2.2.2.2.2) (H.out.2.2.2.2.2.2.2.2)).mono ?_
  rintro e w12 ⟨⟨Ad, cd, rfl, fd⟩, hb12⟩
  have hB12 := hB11.trans (hb12.mono hB11.size)
  replace hr := hr.go hb12
  replace hr2 := hr2.go hb12
  replace hr3 := hr3.go hb12
  replace rs := rs.go hb12
  replace rt := rt.go hb12
  replace rp := rp.go hb12
  replace rq := rq.go hb12
  replace ru := ru.go hb12
  replace rv := rv.go hb12
  replace r_w := r_w.go hb12
  replace rx := rx.go hb12
  replace ry := ry.go hb12
  replace rz := rz.go hb12
  clear hB11 hb12
  have rd := fd.rw
  clear fd
  go_wp2_with fail
  refine (same_yes As cs At ct (dg 4294967296 s) w12 rs rt (nlen_max _ (H.out.2.2.2.1))).mono ?_
  rintro e w13 ⟨rfl, hb13⟩
  have hB13 := hB12.trans (hb13.mono hB12.size)
  replace hr := hr.go hb13
  replace hr2 := hr2.go hb13
  replace hr3 := hr3.go hb13
  replace rs := rs.go hb13
  replace rt := rt.go hb13
  replace rp := rp.go hb13
  replace rq := rq.go hb13
  replace ru := ru.go hb13
  replace rv := rv.go hb13
  replace r_w := r_w.go hb13
  replace rx := rx.go hb13
  replace ry := ry.go hb13
  replace rz := rz.go hb13
  replace rd := rd.go hb13
  clear hB12 hb13
  go_wp2_with fail
  refine (same_yes Ap cp Aq cq (dg 4294967296 p) w13 rp rq (nlen_max _ (H.out.2.2.2.2.1))).mono ?_
  rintro e w14 ⟨rfl, hb14⟩
  have hB14 := hB13.trans (hb14.mono hB13.size)
  replace hr := hr.go hb14
  replace hr2 := hr2.go hb14
  replace hr3 := hr3.go hb14
  replace rs := rs.go hb14
  replace rt := rt.go hb14
  replace rp := rp.go hb14
  replace rq := rq.go hb14
  replace ru := ru.go hb14
  replace rv := rv.go hb14
  replace r_w := r_w.go hb14
  replace rx := rx.go hb14
  replace ry := ry.go hb14
  replace rz := rz.go hb14
  replace rd := rd.go hb14
  clear hB13 hb14
  go_wp2_with fail
  refine (same_yes Au cu Ax cx (dg 4294967296 u) w14 ru rx (nlen_max _ (H.out.2.2.2.2.2.1))).mono ?_
  rintro e w15 ⟨rfl, hb15⟩
  have hB15 := hB14.trans (hb15.mono hB14.size)
  replace hr := hr.go hb15
  replace hr2 := hr2.go hb15
  replace hr3 := hr3.go hb15
  replace rs := rs.go hb15
  replace rt := rt.go hb15
  replace rp := rp.go hb15
  replace rq := rq.go hb15
  replace ru := ru.go hb15
  replace rv := rv.go hb15
  replace r_w := r_w.go hb15
  replace rx := rx.go hb15
  replace ry := ry.go hb15
  replace rz := rz.go hb15
  replace rd := rd.go hb15
  clear hB14 hb15
  go_wp2_with fail
  refine (same_yes Ay cy A c (dg 4294967296 x) w15 ry hr (nlen_max _ (H.out.1))).mono ?_
  rintro e w16 ⟨rfl, hb16⟩
  have hB16 := hB15.trans (hb16.mono hB15.size)
  replace hr := hr.go hb16
  replace hr2 := hr2.go hb16
  replace hr3 := hr3.go hb16
  replace rs := rs.go hb16
  replace rt := rt.go hb16
  replace rp := rp.go hb16
  replace rq := rq.go hb16
  replace ru := ru.go hb16
  replace rv := rv.go hb16
  replace r_w := r_w.go hb16
  replace rx := rx.go hb16
  replace ry := ry.go hb16
  replace rz := rz.go hb16
  replace rd := rd.go hb16
  clear hB15 hb16
  go_wp2_with fail
  refine (same_yes Az cz Ad cd (dg 4294967296 d) w16 rz rd (nlen_max _ (H.out.2.2.2.2.2.2.2.2))).mono ?_
  rintro e w17 ⟨rfl, hb17⟩
  have hB17 := hB16.trans (hb17.mono hB16.size)
  replace hr := hr.go hb17
  replace hr2 := hr2.go hb17
  replace hr3 := hr3.go hb17
  replace rs := rs.go hb17
  replace rt := rt.go hb17
  replace rp := rp.go hb17
  replace rq := rq.go hb17
  replace ru := ru.go hb17
  replace rv := rv.go hb17
  replace r_w := r_w.go hb17
  replace rx := rx.go hb17
  replace ry := ry.go hb17
  replace rz := rz.go hb17
  replace rd := rd.go hb17
  clear hB16 hb17
  go_wp2_with fail
  go_ret
  exact ⟨rfl, hB17⟩

theorem laws_walk (A : Option Addr) (n c : Nat) (A2 : Option Addr) (n2 c2 : Nat) (A3 : Option Addr) (n3 c3 : Nat) (z1 z2 z3 : List Int) (w : World) (h1 : IsRow .u32 w A n c z1) (h2 : IsRow .u32 w A2 n2 c2 z2) (h3 : IsRow .u32 w A3 n3 c3 z3) :
    Calls Try.prog 4 #[.slice A n c, .slice A2 n2 c2, .slice A3 n3 c3] w (Yes w) := by
  obtain ⟨l1, rfl, hlo1, hr1, hA1, hc1, hm1⟩ := row_limbs h1
  obtain ⟨l2, rfl, hlo2, hr2, hA2, hc2, hm2⟩ := row_limbs h2
  obtain ⟨l3, rfl, hlo3, hr3, hA3, hc3, hm3⟩ := row_limbs h3
  have m1 := Nat.le_trans hc1 hm1
  have m2 := Nat.le_trans hc2 hm2
  have m3 := Nat.le_trans hc3 hm3
  cases k1 : okL l1
  · exact laws_bad1 A c l1 A2 c2 l2 A3 c3 l3 w hr1 hr2 hr3 m1 m2 m3 k1
  cases k2 : okL l2
  · exact laws_bad2 A c l1 A2 c2 l2 A3 c3 l3 w hr1 hr2 hr3 m1 m2 m3 k1 k2
  cases k3 : okL l3
  · exact laws_bad3 A c l1 A2 c2 l2 A3 c3 l3 w hr1 hr2 hr3 m1 m2 m3 k1 k2 k3
  by_cases hf : 100 < l1.length + l2.length + l3.length
  · exact laws_far A _ c A2 _ c2 A3 _ c3 w hf (okL_top k1).1 (okL_top k2).1 (okL_top k3).1
  have hl : l1.length + l2.length + l3.length ≤ 100 := by omega
  have e1 := top_dg (b := 4294967296) (by omega) l1 hlo1 (okL_top k1).2
  have e2 := top_dg (b := 4294967296) (by omega) l2 hlo2 (okL_top k2).2
  have e3 := top_dg (b := 4294967296) (by omega) l3 hlo3 (okL_top k3).2
  have h := laws_ok A c (vb 4294967296 l1) A2 c2 (vb 4294967296 l2) A3 c3 (vb 4294967296 l3) w (by rw [e1]; exact hr1) (by rw [e2]; exact hr2) (by rw [e3]; exact hr3) (by rw [e1, e2, e3]; exact hl)
  rw [e1, e2, e3] at h
  exact h

end Go.Proofs.Ytpklbdgajbfaiaa
