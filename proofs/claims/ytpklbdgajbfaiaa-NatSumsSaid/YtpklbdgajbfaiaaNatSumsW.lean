/- 'Sum, product, comparison and difference of any two lists of limbs are right, or refused as the document says', walked. Printed by wip/tools/nsums.py. -/
import Derived.Test.YtpklbdgajbfaiaaNtW25
namespace Go.Proofs.Ytpklbdgajbfaiaa
open Go.RowKit
set_option linter.unusedVariables false

theorem ncmp_list (A : Option Addr) (c : Nat) (l1 : List Nat) (A2 : Option Addr) (c2 : Nat) (l2 : List Nat) (w : World) (hr : Rw .u32 w w.heap.size A l1) (hr2 : Rw .u32 w w.heap.size A2 l2) (e1 : dg 4294967296 (vb 4294967296 l1) = l1) (e2 : dg 4294967296 (vb 4294967296 l2) = l2) (hl1 : l1.length ≤ 400) (hl2 : l2.length ≤ 400) :
    Calls Try.prog 31 #[.slice A l1.length c, .slice A2 l2.length c2] w fun e w' => e = .returned (.int .i64 (cmpI (vb 4294967296 l1) (vb 4294967296 l2))) ∧ Below w.heap.size w w' := by
  have h := ncmp_any A c w.heap.size (vb 4294967296 l1) A2 c2 (vb 4294967296 l2) w (by rw [e1]; exact hr) (by rw [e2]; exact hr2) (Nat.le_refl _) (by rw [e1]; omega) (by rw [e2]; omega)
  rw [e1, e2] at h
  exact h
theorem sum_len' {N x y : Nat} (h1 : (dg 10000 x).length ≤ N) (h2 : (dg 10000 y).length ≤ N) : (dg 10000 (x + y)).length ≤ N + 1 := by
  have a1 := (dg_len (b := 10000) (by omega) N x).1 h1
  have a2 := (dg_len (b := 10000) (by omega) N y).1 h2
  refine (dg_len (b := 10000) (by omega) (N + 1) (x + y)).2 ?_
  rw [Nat.pow_succ]
  generalize 10000 ^ N = R at *
  omega
theorem prod_len' {N x y : Nat} (h1 : (dg 10000 x).length ≤ N) (h2 : (dg 10000 y).length ≤ N) : (dg 10000 (x * y)).length ≤ N + N := by
  have a1 := (dg_len (b := 10000) (by omega) N x).1 h1
  have a2 := (dg_len (b := 10000) (by omega) N y).1 h2
  refine (dg_len (b := 10000) (by omega) (N + N) (x * y)).2 ?_
  rw [Nat.pow_add]
  exact Nat.mul_lt_mul'' a1 a2
theorem sum_len {x y : Nat} (h1 : (dg 10000 x).length ≤ 3 * 400) (h2 : (dg 10000 y).length ≤ 3 * 400) : (dg 10000 (x + y)).length ≤ 1000000 :=
  Nat.le_trans (sum_len' h1 h2) (by omega)
theorem prod_len {x y : Nat} (h1 : (dg 10000 x).length ≤ 3 * 400) (h2 : (dg 10000 y).length ≤ 3 * 400) : (dg 10000 (x * y)).length ≤ 1000000 :=
  Nat.le_trans (prod_len' h1 h2) (by omega)

set_option maxRecDepth 100000 in
set_option maxHeartbeats 4000000 in
theorem sums_far (A : Option Addr) (n c : Nat) (A2 : Option Addr) (n2 c2 : Nat) (w : World) (h : 400 < n ∨ 400 < n2) (h1 : n ≤ maxLen) (h2 : n2 ≤ maxLen) :
    Calls Try.prog 8 #[.slice A n c, .slice A2 n2 c2] w (Yes w) := by
  unfold Yes
  have HF := Lib.hid (fixed_any w)
  unfold maxLen at h1 h2
  by_cases hn : 400 < n
  · have hn' : (400 : Int) < (n : Int) := by omega
    clear h h1 h2 hn
    go_enter Try.func8, Try.ntmps8
    go_wp2_with fail
    refine HF.out.mono ?_
    rintro e w1 ⟨rfl, hb⟩
    go_wp2_with fail
    go_ret
    exact ⟨rfl, hb⟩
  · have hn' : ¬ (400 : Int) < (n : Int) := by omega
    have hn2 : (400 : Int) < (n2 : Int) := by omega
    clear h h1 h2 hn
    go_enter Try.func8, Try.ntmps8
    go_wp2_with fail
    refine HF.out.mono ?_
    rintro e w1 ⟨rfl, hb⟩
    go_wp2_with fail
    go_ret
    exact ⟨rfl, hb⟩

set_option maxRecDepth 100000 in
set_option maxHeartbeats 8000000 in
theorem sums_bad1 (A : Option Addr) (c : Nat) (l1 : List Nat) (A2 : Option Addr) (c2 : Nat) (l2 : List Nat) (w : World) (hr : Rw .u32 w w.heap.size A l1) (hr2 : Rw .u32 w w.heap.size A2 l2) (hlo1 : Lo 4294967296 l1) (hlo2 : Lo 4294967296 l2) (hl1 : l1.length ≤ 400) (hl2 : l2.length ≤ 400) (hA : A = none → l1.length = 0 ∧ c = 0) (k1 : okL l1 = false) :
    Calls Try.prog 8 #[.slice A l1.length c, .slice A2 l2.length c2] w (Yes w) := by
  unfold Yes
  have HF := Lib.hid (fixed_any w)
  have d1 := Nat.le_trans (dec_len hlo1) (Nat.mul_le_mul_left 3 hl1)
  have d2 := Nat.le_trans (dec_len hlo2) (Nat.mul_le_mul_left 3 hl2)
  have t1 : ¬ (400 : Int) < (l1.length : Int) := by omega
  have t2 : ¬ (400 : Int) < (l2.length : Int) := by omega
  have HAdd := fun (w' : World) (hb : Below w.heap.size w w') => nadd_told A c l1 A2 c2 l2 w' (hr.go hb) (hr2.go hb) hlo1 hlo2 hl1 hl2
  have HMul := fun (w' : World) (hb : Below w.heap.size w w') => nmul_told A c l1 A2 c2 l2 w' (hr.go hb) (hr2.go hb) hlo1 hlo2 hl1 hl2
  have HSub := fun (w' : World) (hb : Below w.heap.size w w') => nsub_told A c l1 A2 c2 l2 w' (hr.go hb) (hr2.go hb) hlo1 hlo2 hl1 hl2 hA
  have HO1 := fun (w' : World) (hb : Below w.heap.size w w') => of_any A c w'.heap.size l1 w' (hr.go hb) (Nat.le_refl _) hlo1 (by omega)
  have HO2 := fun (w' : World) (hb : Below w.heap.size w w') => of_any A2 c2 w'.heap.size l2 w' (hr2.go hb) (Nat.le_refl _) hlo2 (by omega)
  have HV1 := fun (w' : World) (hb : Below w.heap.size w w') => rvalid_any A c w'.heap.size l1 w' (hr.go hb) (by unfold maxLen; omega)
  have HV2 := fun (w' : World) (hb : Below w.heap.size w w') => rvalid_any A2 c2 w'.heap.size l2 w' (hr2.go hb) (by unfold maxLen; omega)
  have HN1 := fun (w' : World) (hb : Below w.heap.size w w') => valid_any A c w'.heap.size l1 w' (hr.go hb) (by unfold maxLen; omega)
  rw [k1] at HV1 HN1 HAdd HMul HSub
  rw [Bool.false_and] at HAdd HMul HSub
  generalize vb 4294967296 l1 = x at *
  generalize vb 4294967296 l2 = y at *
  clear hr hr2 hlo1 hlo2 hA k1
  generalize l1.length = n1 at *
  generalize l2.length = n2 at *
  have HL := Lib.hid (And.intro d1 d2)
  clear d1 d2 hl1 hl2
  replace HAdd := Lib.hid HAdd
  replace HMul := Lib.hid HMul
  replace HSub := Lib.hid HSub
  replace HO1 := Lib.hid HO1
  replace HO2 := Lib.hid HO2
  replace HV1 := Lib.hid HV1
  replace HV2 := Lib.hid HV2
  replace HN1 := Lib.hid HN1
  go_enter Try.func8, Try.ntmps8
  go_wp2_with fail
  refine (HF.out).mono ?_
  rintro e w1 ⟨rfl, hb1⟩
  have hB1 := hb1
  go_wp2_with fail
  refine (HO1.out w1 hB1).mono ?_
  rintro e w2 ⟨Ax, cx, rfl, _, _, nx, hb2⟩
  have hB2 := hB1.trans (hb2.mono hB1.size)
  clear hB1 hb2
  go_wp2_with fail
  refine (HO2.out w2 hB2).mono ?_
  rintro e w3 ⟨Ay, cy, rfl, _, _, ny, hb3⟩
  have hB3 := hB2.trans (hb3.mono hB2.size)
  replace nx := nx.go hb3
  clear hB2 hb3
  go_wp2_with fail
  refine (HV1.out w3 hB3).mono ?_
  rintro e w' ⟨he, hw⟩
  subst he
  subst hw
  dsimp only
  go_wp2_with fail
  refine (HAdd.out w3 hB3).mono ?_
  rintro e w4 ⟨As, ns, cs, vs, rfl, hs, hb4⟩
  have hB4 := hB3.trans (hb4.mono hB3.size)
  replace nx := nx.go hb4
  replace ny := ny.go hb4
  clear hB3 hb4
  go_wp2_with fail
  refine (HMul.out w4 hB4).mono ?_
  rintro e w5 ⟨Ap, np, cp, vp, rfl, hp, hb5⟩
  have hB5 := hB4.trans (hb5.mono hB4.size)
  replace nx := nx.go hb5
  replace ny := ny.go hb5
  replace hs := hs.go hb5
  clear hB4 hb5
  go_wp2_with fail
  refine (HSub.out w5 hB5).mono ?_
  rintro e w6 ⟨Ad, nd, cd, vd, rfl, hd, hb6⟩
  have hB6 := hB5.trans (hb6.mono hB5.size)
  replace nx := nx.go hb6
  replace ny := ny.go hb6
  replace hs := hs.go hb6
  replace hp := hp.go hb6
  clear hB5 hb6
  obtain ⟨rfl, rfl⟩ : nd = 0 ∧ vd = 30 := by
    rcases hd with ⟨_, h1, h2⟩ | ⟨h, _⟩
    · exact ⟨h1, h2⟩
    · cases h
  clear hd
  go_wp2_with fail
  refine (HN1.out w6 hB6).mono ?_
  rintro e w' ⟨he, hw⟩
  subst he
  subst hw
  dsimp only
  go_wp2_with fail
  refine (HV1.out w6 hB6).mono ?_
  rintro e w' ⟨he, hw⟩
  subst he
  subst hw
  dsimp only
  go_wp2_with fail
  refine (radd_any Ax cx w6.heap.size x Ay cy y w6 nx ny (Nat.le_refl _) (Nat.le_trans HL.out.1 (by omega)) (Nat.le_trans HL.out.2 (by omega))).mono ?_
  rintro e w7 ⟨Aq, cq, rfl, _, _, nq, hb7⟩
  have hB7 := hB6.trans (hb7.mono hB6.size)
  replace nx := nx.go hb7
  replace ny := ny.go hb7
  replace hs := hs.go hb7
  replace hp := hp.go hb7
  clear hB6 hb7
  go_wp2_with fail
  refine (answered_any As ns cs vs (x + y) Aq cq false w7 hs nq (sum_len HL.out.1 HL.out.2)).mono ?_
  rintro e w8 ⟨rfl, hb8⟩
  have hB8 := hB7.trans (hb8.mono hB7.size)
  replace nx := nx.go hb8
  replace ny := ny.go hb8
  replace hs := hs.go hb8
  replace hp := hp.go hb8
  clear hB7 hb8
  go_wp2_with fail
  refine (rmul_any Ax cx w8.heap.size x Ay cy y w8 nx ny (Nat.le_refl _) (Nat.le_trans HL.out.1 (by omega)) (Nat.le_trans HL.out.2 (by omega))).mono ?_
  rintro e w9 ⟨Am, cm, rfl, _, _, nm, hb9⟩
  have hB9 := hB8.trans (hb9.mono hB8.size)
  replace nx := nx.go hb9
  replace ny := ny.go hb9
  replace hs := hs.go hb9
  replace hp := hp.go hb9
  clear hB8 hb9
  go_wp2_with fail
  refine (answered_any Ap np cp vp (x * y) Am cm false w9 hp nm (prod_len HL.out.1 HL.out.2)).mono ?_
  rintro e w10 ⟨rfl, hb10⟩
  have hB10 := hB9.trans (hb10.mono hB9.size)
  replace nx := nx.go hb10
  replace ny := ny.go hb10
  replace hs := hs.go hb10
  replace hp := hp.go hb10
  clear hB9 hb10
  go_wp2_with fail
  go_ret
  exact ⟨rfl, hB10⟩

set_option maxRecDepth 100000 in
set_option maxHeartbeats 8000000 in
theorem sums_bad2 (A : Option Addr) (c : Nat) (l1 : List Nat) (A2 : Option Addr) (c2 : Nat) (l2 : List Nat) (w : World) (hr : Rw .u32 w w.heap.size A l1) (hr2 : Rw .u32 w w.heap.size A2 l2) (hlo1 : Lo 4294967296 l1) (hlo2 : Lo 4294967296 l2) (hl1 : l1.length ≤ 400) (hl2 : l2.length ≤ 400) (hA : A = none → l1.length = 0 ∧ c = 0) (k1 : okL l1 = true) (k2 : okL l2 = false) :
    Calls Try.prog 8 #[.slice A l1.length c, .slice A2 l2.length c2] w (Yes w) := by
  unfold Yes
  have HF := Lib.hid (fixed_any w)
  have d1 := Nat.le_trans (dec_len hlo1) (Nat.mul_le_mul_left 3 hl1)
  have d2 := Nat.le_trans (dec_len hlo2) (Nat.mul_le_mul_left 3 hl2)
  have t1 : ¬ (400 : Int) < (l1.length : Int) := by omega
  have t2 : ¬ (400 : Int) < (l2.length : Int) := by omega
  have HAdd := fun (w' : World) (hb : Below w.heap.size w w') => nadd_told A c l1 A2 c2 l2 w' (hr.go hb) (hr2.go hb) hlo1 hlo2 hl1 hl2
  have HMul := fun (w' : World) (hb : Below w.heap.size w w') => nmul_told A c l1 A2 c2 l2 w' (hr.go hb) (hr2.go hb) hlo1 hlo2 hl1 hl2
  have HSub := fun (w' : World) (hb : Below w.heap.size w w') => nsub_told A c l1 A2 c2 l2 w' (hr.go hb) (hr2.go hb) hlo1 hlo2 hl1 hl2 hA
  have HO1 := fun (w' : World) (hb : Below w.heap.size w w') => of_any A c w'.heap.size l1 w' (hr.go hb) (Nat.le_refl _) hlo1 (by omega)
  have HO2 := fun (w' : World) (hb : Below w.heap.size w w') => of_any A2 c2 w'.heap.size l2 w' (hr2.go hb) (Nat.le_refl _) hlo2 (by omega)
  have HV1 := fun (w' : World) (hb : Below w.heap.size w w') => rvalid_any A c w'.heap.size l1 w' (hr.go hb) (by unfold maxLen; omega)
  have HV2 := fun (w' : World) (hb : Below w.heap.size w w') => rvalid_any A2 c2 w'.heap.size l2 w' (hr2.go hb) (by unfold maxLen; omega)
  have HN1 := fun (w' : World) (hb : Below w.heap.size w w') => valid_any A c w'.heap.size l1 w' (hr.go hb) (by unfold maxLen; omega)
  rw [k1] at HV1 HN1 HAdd HMul HSub
  rw [k2] at HV2 HAdd HMul HSub
  rw [Bool.true_and] at HAdd HMul HSub
  generalize vb 4294967296 l1 = x at *
  generalize vb 4294967296 l2 = y at *
  clear hr hr2 hlo1 hlo2 hA k1 k2
  generalize l1.length = n1 at *
  generalize l2.length = n2 at *
  have HL := Lib.hid (And.intro d1 d2)
  clear d1 d2 hl1 hl2
  replace HAdd := Lib.hid HAdd
  replace HMul := Lib.hid HMul
  replace HSub := Lib.hid HSub
  replace HO1 := Lib.hid HO1
  replace HO2 := Lib.hid HO2
  replace HV1 := Lib.hid HV1
  replace HV2 := Lib.hid HV2
  replace HN1 := Lib.hid HN1
  go_enter Try.func8, Try.ntmps8
  go_wp2_with fail
  refine (HF.out).mono ?_
  rintro e w1 ⟨rfl, hb1⟩
  have hB1 := hb1
  go_wp2_with fail
  refine (HO1.out w1 hB1).mono ?_
  rintro e w2 ⟨Ax, cx, rfl, _, _, nx, hb2⟩
  have hB2 := hB1.trans (hb2.mono hB1.size)
  clear hB1 hb2
  go_wp2_with fail
  refine (HO2.out w2 hB2).mono ?_
  rintro e w3 ⟨Ay, cy, rfl, _, _, ny, hb3⟩
  have hB3 := hB2.trans (hb3.mono hB2.size)
  replace nx := nx.go hb3
  clear hB2 hb3
  go_wp2_with fail
  refine (HV1.out w3 hB3).mono ?_
  rintro e w' ⟨he, hw⟩
  subst he
  subst hw
  dsimp only
  go_wp2_with fail
  refine (HV2.out w3 hB3).mono ?_
  rintro e w' ⟨he, hw⟩
  subst he
  subst hw
  dsimp only
  go_wp2_with fail
  refine (HAdd.out w3 hB3).mono ?_
  rintro e w4 ⟨As, ns, cs, vs, rfl, hs, hb4⟩
  have hB4 := hB3.trans (hb4.mono hB3.size)
  replace nx := nx.go hb4
  replace ny := ny.go hb4
  clear hB3 hb4
  go_wp2_with fail
  refine (HMul.out w4 hB4).mono ?_
  rintro e w5 ⟨Ap, np, cp, vp, rfl, hp, hb5⟩
  have hB5 := hB4.trans (hb5.mono hB4.size)
  replace nx := nx.go hb5
  replace ny := ny.go hb5
  replace hs := hs.go hb5
  clear hB4 hb5
  go_wp2_with fail
  refine (HSub.out w5 hB5).mono ?_
  rintro e w6 ⟨Ad, nd, cd, vd, rfl, hd, hb6⟩
  have hB6 := hB5.trans (hb6.mono hB5.size)
  replace nx := nx.go hb6
  replace ny := ny.go hb6
  replace hs := hs.go hb6
  replace hp := hp.go hb6
  clear hB5 hb6
  obtain ⟨rfl, rfl⟩ : nd = 0 ∧ vd = 30 := by
    rcases hd with ⟨_, h1, h2⟩ | ⟨h, _⟩
    · exact ⟨h1, h2⟩
    · cases h
  clear hd
  go_wp2_with fail
  refine (HN1.out w6 hB6).mono ?_
  rintro e w' ⟨he, hw⟩
  subst he
  subst hw
  dsimp only
  go_wp2_with fail
  refine (HV1.out w6 hB6).mono ?_
  rintro e w' ⟨he, hw⟩
  subst he
  subst hw
  dsimp only
  go_wp2_with fail
  refine (radd_any Ax cx w6.heap.size x Ay cy y w6 nx ny (Nat.le_refl _) (Nat.le_trans HL.out.1 (by omega)) (Nat.le_trans HL.out.2 (by omega))).mono ?_
  rintro e w7 ⟨Aq, cq, rfl, _, _, nq, hb7⟩
  have hB7 := hB6.trans (hb7.mono hB6.size)
  replace nx := nx.go hb7
  replace ny := ny.go hb7
  replace hs := hs.go hb7
  replace hp := hp.go hb7
  clear hB6 hb7
  go_wp2_with fail
  refine (answered_any As ns cs vs (x + y) Aq cq false w7 hs nq (sum_len HL.out.1 HL.out.2)).mono ?_
  rintro e w8 ⟨rfl, hb8⟩
  have hB8 := hB7.trans (hb8.mono hB7.size)
  replace nx := nx.go hb8
  replace ny := ny.go hb8
  replace hs := hs.go hb8
  replace hp := hp.go hb8
  clear hB7 hb8
  go_wp2_with fail
  refine (rmul_any Ax cx w8.heap.size x Ay cy y w8 nx ny (Nat.le_refl _) (Nat.le_trans HL.out.1 (by omega)) (Nat.le_trans HL.out.2 (by omega))).mono ?_
  rintro e w9 ⟨Am, cm, rfl, _, _, nm, hb9⟩
  have hB9 := hB8.trans (hb9.mono hB8.size)
  replace nx := nx.go hb9
  replace ny := ny.go hb9
  replace hs := hs.go hb9
  replace hp := hp.go hb9
  clear hB8 hb9
  go_wp2_with fail
  refine (answered_any Ap np cp vp (x * y) Am cm false w9 hp nm (prod_len HL.out.1 HL.out.2)).mono ?_
  rintro e w10 ⟨rfl, hb10⟩
  have hB10 := hB9.trans (hb10.mono hB9.size)
  replace nx := nx.go hb10
  replace ny := ny.go hb10
  replace hs := hs.go hb10
  replace hp := hp.go hb10
  clear hB9 hb10
  go_wp2_with fail
  go_ret
  exact ⟨rfl, hB10⟩

set_option maxRecDepth 100000 in
set_option maxHeartbeats 8000000 in
theorem sums_lt (A : Option Addr) (c : Nat) (l1 : List Nat) (A2 : Option Addr) (c2 : Nat) (l2 : List Nat) (w : World) (hr : Rw .u32 w w.heap.size A l1) (hr2 : Rw .u32 w w.heap.size A2 l2) (hlo1 : Lo 4294967296 l1) (hlo2 : Lo 4294967296 l2) (hl1 : l1.length ≤ 400) (hl2 : l2.length ≤ 400) (hA : A = none → l1.length = 0 ∧ c = 0) (k1 : okL l1 = true) (k2 : okL l2 = true) (hc : vb 4294967296 l1 < vb 4294967296 l2) (e1 : dg 4294967296 (vb 4294967296 l1) = l1) (e2 : dg 4294967296 (vb 4294967296 l2) = l2) :
    Calls Try.prog 8 #[.slice A l1.length c, .slice A2 l2.length c2] w (Yes w) := by
  unfold Yes
  have HF := Lib.hid (fixed_any w)
  have d1 := Nat.le_trans (dec_len hlo1) (Nat.mul_le_mul_left 3 hl1)
  have d2 := Nat.le_trans (dec_len hlo2) (Nat.mul_le_mul_left 3 hl2)
  have t1 : ¬ (400 : Int) < (l1.length : Int) := by omega
  have t2 : ¬ (400 : Int) < (l2.length : Int) := by omega
  have HAdd := fun (w' : World) (hb : Below w.heap.size w w') => nadd_told A c l1 A2 c2 l2 w' (hr.go hb) (hr2.go hb) hlo1 hlo2 hl1 hl2
  have HMul := fun (w' : World) (hb : Below w.heap.size w w') => nmul_told A c l1 A2 c2 l2 w' (hr.go hb) (hr2.go hb) hlo1 hlo2 hl1 hl2
  have HSub := fun (w' : World) (hb : Below w.heap.size w w') => nsub_told A c l1 A2 c2 l2 w' (hr.go hb) (hr2.go hb) hlo1 hlo2 hl1 hl2 hA
  have HO1 := fun (w' : World) (hb : Below w.heap.size w w') => of_any A c w'.heap.size l1 w' (hr.go hb) (Nat.le_refl _) hlo1 (by omega)
  have HO2 := fun (w' : World) (hb : Below w.heap.size w w') => of_any A2 c2 w'.heap.size l2 w' (hr2.go hb) (Nat.le_refl _) hlo2 (by omega)
  have HV1 := fun (w' : World) (hb : Below w.heap.size w w') => rvalid_any A c w'.heap.size l1 w' (hr.go hb) (by unfold maxLen; omega)
  have HV2 := fun (w' : World) (hb : Below w.heap.size w w') => rvalid_any A2 c2 w'.heap.size l2 w' (hr2.go hb) (by unfold maxLen; omega)
  have HN1 := fun (w' : World) (hb : Below w.heap.size w w') => valid_any A c w'.heap.size l1 w' (hr.go hb) (by unfold maxLen; omega)
  have HC := fun (w' : World) (hb : Below w.heap.size w w') => ncmp_list A c l1 A2 c2 l2 w' (hr.go hb) (hr2.go hb) e1 e2 hl1 hl2
  rw [k1] at HV1 HN1 HAdd HMul HSub
  rw [k2] at HV2 HAdd HMul HSub
  rw [Bool.true_and] at HAdd HMul HSub
  have hb1 := (okL_top k1).1
  have hfx := @fit_len (vb 4294967296 l1)
  rw [e1] at hfx
  replace hfx := Lib.hid (hfx.1 hb1)
  generalize vb 4294967296 l1 = x at *
  generalize vb 4294967296 l2 = y at *
  clear e1 e2 hb1
  clear hr hr2 hlo1 hlo2 hA k1 k2
  generalize l1.length = n1 at *
  generalize l2.length = n2 at *
  have HL := Lib.hid (And.intro d1 d2)
  clear d1 d2 hl1 hl2
  have HX := Lib.hid hc
  clear hc
  replace HAdd := Lib.hid HAdd
  replace HMul := Lib.hid HMul
  replace HSub := Lib.hid HSub
  replace HO1 := Lib.hid HO1
  replace HO2 := Lib.hid HO2
  replace HV1 := Lib.hid HV1
  replace HV2 := Lib.hid HV2
  replace HN1 := Lib.hid HN1
  replace HC := Lib.hid HC
  go_enter Try.func8, Try.ntmps8
  go_wp2_with fail
  refine (HF.out).mono ?_
  rintro e w1 ⟨rfl, hb1⟩
  have hB1 := hb1
  go_wp2_with fail
  refine (HO1.out w1 hB1).mono ?_
  rintro e w2 ⟨Ax, cx, rfl, _, _, nx, hb2⟩
  have hB2 := hB1.trans (hb2.mono hB1.size)
  clear hB1 hb2
  go_wp2_with fail
  refine (HO2.out w2 hB2).mono ?_
  rintro e w3 ⟨Ay, cy, rfl, _, _, ny, hb3⟩
  have hB3 := hB2.trans (hb3.mono hB2.size)
  replace nx := nx.go hb3
  clear hB2 hb3
  go_wp2_with fail
  refine (HV1.out w3 hB3).mono ?_
  rintro e w' ⟨he, hw⟩
  subst he
  subst hw
  dsimp only
  go_wp2_with fail
  refine (HV2.out w3 hB3).mono ?_
  rintro e w' ⟨he, hw⟩
  subst he
  subst hw
  dsimp only
  go_wp2_with fail
  refine (HAdd.out w3 hB3).mono ?_
  rintro e w4 ⟨As, ns, cs, vs, rfl, hs, hb4⟩
  have hB4 := hB3.trans (hb4.mono hB3.size)
  replace nx := nx.go hb4
  replace ny := ny.go hb4
  clear hB3 hb4
  go_wp2_with fail
  refine (HMul.out w4 hB4).mono ?_
  rintro e w5 ⟨Ap, np, cp, vp, rfl, hp, hb5⟩
  have hB5 := hB4.trans (hb5.mono hB4.size)
  replace nx := nx.go hb5
  replace ny := ny.go hb5
  replace hs := hs.go hb5
  clear hB4 hb5
  go_wp2_with fail
  refine (HSub.out w5 hB5).mono ?_
  rintro e w6 ⟨Ad, nd, cd, vd, rfl, hd, hb6⟩
  have hB6 := hB5.trans (hb6.mono hB5.size)
  replace nx := nx.go hb6
  replace ny := ny.go hb6
  replace hs := hs.go hb6
  replace hp := hp.go hb6
  clear hB5 hb6
  obtain ⟨rfl, rfl⟩ : nd = 0 ∧ vd = 1 := by
    rcases hd with ⟨h, _⟩ | ⟨_, ⟨h, _⟩ | ⟨_, h1, h2⟩⟩
    · cases h
    · exact absurd HX.out (by omega)
    · exact ⟨h1, h2⟩
  clear hd
  go_wp2_with fail
  refine (HN1.out w6 hB6).mono ?_
  rintro e w' ⟨he, hw⟩
  subst he
  subst hw
  dsimp only
  go_wp2_with fail
  refine (HV1.out w6 hB6).mono ?_
  rintro e w' ⟨he, hw⟩
  subst he
  subst hw
  dsimp only
  go_wp2_with fail
  refine (radd_any Ax cx w6.heap.size x Ay cy y w6 nx ny (Nat.le_refl _) (Nat.le_trans HL.out.1 (by omega)) (Nat.le_trans HL.out.2 (by omega))).mono ?_
  rintro e w7 ⟨Aq, cq, rfl, _, _, nq, hb7⟩
  have hB7 := hB6.trans (hb7.mono hB6.size)
  replace nx := nx.go hb7
  replace ny := ny.go hb7
  replace hs := hs.go hb7
  replace hp := hp.go hb7
  clear hB6 hb7
  go_wp2_with fail
  refine (answered_any As ns cs vs (x + y) Aq cq true w7 hs nq (sum_len HL.out.1 HL.out.2)).mono ?_
  rintro e w8 ⟨rfl, hb8⟩
  have hB8 := hB7.trans (hb8.mono hB7.size)
  replace nx := nx.go hb8
  replace ny := ny.go hb8
  replace hs := hs.go hb8
  replace hp := hp.go hb8
  clear hB7 hb8
  go_wp2_with fail
  refine (rmul_any Ax cx w8.heap.size x Ay cy y w8 nx ny (Nat.le_refl _) (Nat.le_trans HL.out.1 (by omega)) (Nat.le_trans HL.out.2 (by omega))).mono ?_
  rintro e w9 ⟨Am, cm, rfl, _, _, nm, hb9⟩
  have hB9 := hB8.trans (hb9.mono hB8.size)
  replace nx := nx.go hb9
  replace ny := ny.go hb9
  replace hs := hs.go hb9
  replace hp := hp.go hb9
  clear hB8 hb9
  go_wp2_with fail
  refine (answered_any Ap np cp vp (x * y) Am cm true w9 hp nm (prod_len HL.out.1 HL.out.2)).mono ?_
  rintro e w10 ⟨rfl, hb10⟩
  have hB10 := hB9.trans (hb10.mono hB9.size)
  replace nx := nx.go hb10
  replace ny := ny.go hb10
  replace hs := hs.go hb10
  replace hp := hp.go hb10
  clear hB9 hb10
  go_wp2_with fail
  refine (rcmp_any Ax cx w10.heap.size x Ay cy y w10 nx ny (Nat.le_refl _) (Nat.le_trans HL.out.1 (by omega)) (Nat.le_trans HL.out.2 (by omega))).mono ?_
  rintro e w11 ⟨rfl, hb11⟩
  have hB11 := hB10.trans (hb11.mono hB10.size)
  replace nx := nx.go hb11
  replace ny := ny.go hb11
  replace hs := hs.go hb11
  replace hp := hp.go hb11
  clear hB10 hb11
  rw [cmpI_lt HX.out]
  go_wp2_with fail
  refine (HC.out w11 hB11).mono ?_
  rintro e w12 ⟨rfl, hb12⟩
  have hB12 := hB11.trans (hb12.mono hB11.size)
  replace nx := nx.go hb12
  replace ny := ny.go hb12
  replace hs := hs.go hb12
  replace hp := hp.go hb12
  clear hB11 hb12
  rw [cmpI_lt HX.out]
  go_wp2_with fail
  go_ret
  exact ⟨rfl, hB12⟩

set_option maxRecDepth 100000 in
set_option maxHeartbeats 8000000 in
theorem sums_ge (A : Option Addr) (c : Nat) (l1 : List Nat) (A2 : Option Addr) (c2 : Nat) (l2 : List Nat) (w : World) (hr : Rw .u32 w w.heap.size A l1) (hr2 : Rw .u32 w w.heap.size A2 l2) (hlo1 : Lo 4294967296 l1) (hlo2 : Lo 4294967296 l2) (hl1 : l1.length ≤ 400) (hl2 : l2.length ≤ 400) (hA : A = none → l1.length = 0 ∧ c = 0) (k1 : okL l1 = true) (k2 : okL l2 = true) (hc : vb 4294967296 l2 ≤ vb 4294967296 l1) (e1 : dg 4294967296 (vb 4294967296 l1) = l1) (e2 : dg 4294967296 (vb 4294967296 l2) = l2) :
    Calls Try.prog 8 #[.slice A l1.length c, .slice A2 l2.length c2] w (Yes w) := by
  unfold Yes
  have HF := Lib.hid (fixed_any w)
  have d1 := Nat.le_trans (dec_len hlo1) (Nat.mul_le_mul_left 3 hl1)
  have d2 := Nat.le_trans (dec_len hlo2) (Nat.mul_le_mul_left 3 hl2)
  have t1 : ¬ (400 : Int) < (l1.length : Int) := by omega
  have t2 : ¬ (400 : Int) < (l2.length : Int) := by omega
  have HAdd := fun (w' : World) (hb : Below w.heap.size w w') => nadd_told A c l1 A2 c2 l2 w' (hr.go hb) (hr2.go hb) hlo1 hlo2 hl1 hl2
  have HMul := fun (w' : World) (hb : Below w.heap.size w w') => nmul_told A c l1 A2 c2 l2 w' (hr.go hb) (hr2.go hb) hlo1 hlo2 hl1 hl2
  have HSub := fun (w' : World) (hb : Below w.heap.size w w') => nsub_told A c l1 A2 c2 l2 w' (hr.go hb) (hr2.go hb) hlo1 hlo2 hl1 hl2 hA
  have HO1 := fun (w' : World) (hb : Below w.heap.size w w') => of_any A c w'.heap.size l1 w' (hr.go hb) (Nat.le_refl _) hlo1 (by omega)
  have HO2 := fun (w' : World) (hb : Below w.heap.size w w') => of_any A2 c2 w'.heap.size l2 w' (hr2.go hb) (Nat.le_refl _) hlo2 (by omega)
  have HV1 := fun (w' : World) (hb : Below w.heap.size w w') => rvalid_any A c w'.heap.size l1 w' (hr.go hb) (by unfold maxLen; omega)
  have HV2 := fun (w' : World) (hb : Below w.heap.size w w') => rvalid_any A2 c2 w'.heap.size l2 w' (hr2.go hb) (by unfold maxLen; omega)
  have HN1 := fun (w' : World) (hb : Below w.heap.size w w') => valid_any A c w'.heap.size l1 w' (hr.go hb) (by unfold maxLen; omega)
  have HC := fun (w' : World) (hb : Below w.heap.size w w') => ncmp_list A c l1 A2 c2 l2 w' (hr.go hb) (hr2.go hb) e1 e2 hl1 hl2
  rw [k1] at HV1 HN1 HAdd HMul HSub
  rw [k2] at HV2 HAdd HMul HSub
  rw [Bool.true_and] at HAdd HMul HSub
  have hb1 := (okL_top k1).1
  have hfx := @fit_len (vb 4294967296 l1)
  rw [e1] at hfx
  replace hfx := Lib.hid (hfx.1 hb1)
  generalize vb 4294967296 l1 = x at *
  generalize vb 4294967296 l2 = y at *
  clear e1 e2 hb1
  clear hr hr2 hlo1 hlo2 hA k1 k2
  generalize l1.length = n1 at *
  generalize l2.length = n2 at *
  have HL := Lib.hid (And.intro d1 d2)
  clear d1 d2 hl1 hl2
  have HX := Lib.hid hc
  clear hc
  replace HAdd := Lib.hid HAdd
  replace HMul := Lib.hid HMul
  replace HSub := Lib.hid HSub
  replace HO1 := Lib.hid HO1
  replace HO2 := Lib.hid HO2
  replace HV1 := Lib.hid HV1
  replace HV2 := Lib.hid HV2
  replace HN1 := Lib.hid HN1
  replace HC := Lib.hid HC
  go_enter Try.func8, Try.ntmps8
  go_wp2_with fail
  refine (HF.out).mono ?_
  rintro e w1 ⟨rfl, hb1⟩
  have hB1 := hb1
  go_wp2_with fail
  refine (HO1.out w1 hB1).mono ?_
  rintro e w2 ⟨Ax, cx, rfl, _, _, nx, hb2⟩
  have hB2 := hB1.trans (hb2.mono hB1.size)
  clear hB1 hb2
  go_wp2_with fail
  refine (HO2.out w2 hB2).mono ?_
  rintro e w3 ⟨Ay, cy, rfl, _, _, ny, hb3⟩
  have hB3 := hB2.trans (hb3.mono hB2.size)
  replace nx := nx.go hb3
  clear hB2 hb3
  go_wp2_with fail
  refine (HV1.out w3 hB3).mono ?_
  rintro e w' ⟨he, hw⟩
  subst he
  subst hw
  dsimp only
  go_wp2_with fail
  refine (HV2.out w3 hB3).mono ?_
  rintro e w' ⟨he, hw⟩
  subst he
  subst hw
  dsimp only
  go_wp2_with fail
  refine (HAdd.out w3 hB3).mono ?_
  rintro e w4 ⟨As, ns, cs, vs, rfl, hs, hb4⟩
  have hB4 := hB3.trans (hb4.mono hB3.size)
  replace nx := nx.go hb4
  replace ny := ny.go hb4
  clear hB3 hb4
  go_wp2_with fail
  refine (HMul.out w4 hB4).mono ?_
  rintro e w5 ⟨Ap, np, cp, vp, rfl, hp, hb5⟩
  have hB5 := hB4.trans (hb5.mono hB4.size)
  replace nx := nx.go hb5
  replace ny := ny.go hb5
  replace hs := hs.go hb5
  clear hB4 hb5
  go_wp2_with fail
  refine (HSub.out w5 hB5).mono ?_
  rintro e w6 ⟨Ad, nd, cd, vd, rfl, hd, hb6⟩
  have hB6 := hB5.trans (hb6.mono hB5.size)
  replace nx := nx.go hb6
  replace ny := ny.go hb6
  replace hs := hs.go hb6
  replace hp := hp.go hb6
  clear hB5 hb6
  obtain ⟨rfl, rfl, rd⟩ : nd = (dg 4294967296 (x - y)).length ∧ vd = 0 ∧ Rw .u32 w6 w6.heap.size Ad (dg 4294967296 (x - y)) := by
    rcases hd with ⟨h, _⟩ | ⟨_, ⟨_, h1, h2, h3⟩ | ⟨h, _⟩⟩
    · cases h
    · exact ⟨h1, h2, h3⟩
    · exact absurd HX.out (by omega)
  clear hd
  go_wp2_with fail
  refine (HN1.out w6 hB6).mono ?_
  rintro e w' ⟨he, hw⟩
  subst he
  subst hw
  dsimp only
  go_wp2_with fail
  refine (HV1.out w6 hB6).mono ?_
  rintro e w' ⟨he, hw⟩
  subst he
  subst hw
  dsimp only
  go_wp2_with fail
  refine (radd_any Ax cx w6.heap.size x Ay cy y w6 nx ny (Nat.le_refl _) (Nat.le_trans HL.out.1 (by omega)) (Nat.le_trans HL.out.2 (by omega))).mono ?_
  rintro e w7 ⟨Aq, cq, rfl, _, _, nq, hb7⟩
  have hB7 := hB6.trans (hb7.mono hB6.size)
  replace nx := nx.go hb7
  replace ny := ny.go hb7
  replace hs := hs.go hb7
  replace hp := hp.go hb7
  replace rd := rd.go hb7
  clear hB6 hb7
  go_wp2_with fail
  refine (answered_any As ns cs vs (x + y) Aq cq true w7 hs nq (sum_len HL.out.1 HL.out.2)).mono ?_
  rintro e w8 ⟨rfl, hb8⟩
  have hB8 := hB7.trans (hb8.mono hB7.size)
  replace nx := nx.go hb8
  replace ny := ny.go hb8
  replace hs := hs.go hb8
  replace hp := hp.go hb8
  replace rd := rd.go hb8
  clear hB7 hb8
  go_wp2_with fail
  refine (rmul_any Ax cx w8.heap.size x Ay cy y w8 nx ny (Nat.le_refl _) (Nat.le_trans HL.out.1 (by omega)) (Nat.le_trans HL.out.2 (by omega))).mono ?_
  rintro e w9 ⟨Am, cm, rfl, _, _, nm, hb9⟩
  have hB9 := hB8.trans (hb9.mono hB8.size)
  replace nx := nx.go hb9
  replace ny := ny.go hb9
  replace hs := hs.go hb9
  replace hp := hp.go hb9
  replace rd := rd.go hb9
  clear hB8 hb9
  go_wp2_with fail
  refine (answered_any Ap np cp vp (x * y) Am cm true w9 hp nm (prod_len HL.out.1 HL.out.2)).mono ?_
  rintro e w10 ⟨rfl, hb10⟩
  have hB10 := hB9.trans (hb10.mono hB9.size)
  replace nx := nx.go hb10
  replace ny := ny.go hb10
  replace hs := hs.go hb10
  replace hp := hp.go hb10
  replace rd := rd.go hb10
  clear hB9 hb10
  go_wp2_with fail
  refine (rcmp_any Ax cx w10.heap.size x Ay cy y w10 nx ny (Nat.le_refl _) (Nat.le_trans HL.out.1 (by omega)) (Nat.le_trans HL.out.2 (by omega))).mono ?_
  rintro e w11 ⟨rfl, hb11⟩
  have hB11 := hB10.trans (hb11.mono hB10.size)
  replace nx := nx.go hb11
  replace ny := ny.go hb11
  replace hs := hs.go hb11
  replace hp := hp.go hb11
  replace rd := rd.go hb11
  clear hB10 hb11
  have hcp : ¬ cmpI x y < 0 := by
    have := HX.out
    rcases Nat.lt_or_ge y x with h | h
    · rw [cmpI_gt h]; omega
    · rw [show x = y by omega, cmpI_eq]; omega
  generalize hcv : cmpI x y = cv at *
  replace hcv := Lib.hid hcv
  have hdl : (dg 4294967296 (x - y)).length ≤ 256 := Nat.le_trans (dg_mono (by omega) (Nat.sub_le x y)) (fit_len.2 hfx.out)
  have hdd := dec_fit hdl
  have HM := Lib.hid (And.intro hdl hdd)
  clear hdl hdd
  go_wp2_with fail
  refine (rvalid_dg Ad cd (x - y) w11 rd HM.out.1).mono ?_
  rintro e w' ⟨he, hw⟩
  subst he
  subst hw
  dsimp only
  go_wp2_with fail
  refine (of_dg Ad cd (x - y) w11 rd (Nat.le_trans HM.out.1 (by omega))).mono ?_
  rintro e w12 ⟨Az, cz, rfl, _, _, nz, hb12⟩
  have hB12 := hB11.trans (hb12.mono hB11.size)
  replace nx := nx.go hb12
  replace ny := ny.go hb12
  replace hs := hs.go hb12
  replace hp := hp.go hb12
  replace rd := rd.go hb12
  clear hB11 hb12
  go_wp2_with fail
  refine (radd_any Az cz w12.heap.size (x - y) Ay cy y w12 nz ny (Nat.le_refl _) (Nat.le_trans HM.out.2 (by omega)) (Nat.le_trans HL.out.2 (by omega))).mono ?_
  rw [Nat.sub_add_cancel HX.out]
  rintro e w13 ⟨At, ct, rfl, _, _, nt, hb13⟩
  have hB13 := hB12.trans (hb13.mono hB12.size)
  replace nx := nx.go hb13
  replace ny := ny.go hb13
  replace hs := hs.go hb13
  replace hp := hp.go hb13
  replace rd := rd.go hb13
  replace nz := nz.go hb13
  clear hB12 hb13
  go_wp2_with fail
  refine (rcmp_any At ct w13.heap.size x Ax cx x w13 nt nx (Nat.le_refl _) (Nat.le_trans HL.out.1 (by omega)) (Nat.le_trans HL.out.1 (by omega))).mono ?_
  rintro e w14 ⟨rfl, hb14⟩
  have hB14 := hB13.trans (hb14.mono hB13.size)
  replace nx := nx.go hb14
  replace ny := ny.go hb14
  replace hs := hs.go hb14
  replace hp := hp.go hb14
  replace rd := rd.go hb14
  replace nz := nz.go hb14
  replace nt := nt.go hb14
  clear hB13 hb14
  rw [cmpI_eq]
  go_wp2_with fail
  refine (HC.out w14 hB14).mono ?_
  rintro e w15 ⟨rfl, hb15⟩
  have hB15 := hB14.trans (hb15.mono hB14.size)
  replace nx := nx.go hb15
  replace ny := ny.go hb15
  replace hs := hs.go hb15
  replace hp := hp.go hb15
  replace rd := rd.go hb15
  replace nz := nz.go hb15
  replace nt := nt.go hb15
  clear hB14 hb15
  go_wp2_with fail
  go_ret
  exact ⟨rfl, hB15⟩

theorem sums_walk (A : Option Addr) (n c : Nat) (A2 : Option Addr) (n2 c2 : Nat) (z1 z2 : List Int) (w : World) (h1 : IsRow .u32 w A n c z1) (h2 : IsRow .u32 w A2 n2 c2 z2) :
    Calls Try.prog 8 #[.slice A n c, .slice A2 n2 c2] w (Yes w) := by
  obtain ⟨l1, rfl, hlo1, hr1, hA1, hc1, hm1⟩ := row_limbs h1
  obtain ⟨l2, rfl, hlo2, hr2, hA2, hc2, hm2⟩ := row_limbs h2
  by_cases hf : 400 < l1.length ∨ 400 < l2.length
  · exact sums_far A _ c A2 _ c2 w hf (Nat.le_trans hc1 hm1) (Nat.le_trans hc2 hm2)
  · rcases ok_cases hlo1 hlo2 with ⟨_, h⟩ | ⟨_, k1, k2, e1, e2, _⟩
    · by_cases k1 : okL l1 = true
      · have k2 : okL l2 = false := by
          rcases h with h | h
          · rw [k1] at h; cases h
          · exact h
        exact sums_bad2 A c l1 A2 c2 l2 w hr1 hr2 hlo1 hlo2 (by omega) (by omega) hA1 k1 k2
      · exact sums_bad1 A c l1 A2 c2 l2 w hr1 hr2 hlo1 hlo2 (by omega) (by omega) hA1 (by simpa using k1)
    · by_cases hc : vb 4294967296 l1 < vb 4294967296 l2
      · exact sums_lt A c l1 A2 c2 l2 w hr1 hr2 hlo1 hlo2 (by omega) (by omega) hA1 k1 k2 hc e1 e2
      · exact sums_ge A c l1 A2 c2 l2 w hr1 hr2 hlo1 hlo2 (by omega) (by omega) hA1 k1 k2 (by omega) e1 e2

end Go.Proofs.Ytpklbdgajbfaiaa
