/- 'The quotient times the divisor and what is left are the dividend, and what is left is less than the divisor', walked. -/
import Derived.Test.YtpklbdgajbfaiaaNtW24
namespace Go.Proofs.Ytpklbdgajbfaiaa
open Go.RowKit
set_option linter.unusedVariables false

def Yes (w : World) (e : Ending) (w' : World) : Prop := e = .returned (.bool true) ∧ Below w.heap.size w w'

set_option maxRecDepth 100000 in
set_option maxHeartbeats 4000000 in
theorem divides_far (A : Option Addr) (n c : Nat) (A2 : Option Addr) (n2 c2 : Nat) (w : World) (h : 400 < n ∨ 400 < n2) (h1 : n ≤ maxLen) (h2 : n2 ≤ maxLen) :
    Calls Try.prog 5 #[.slice A n c, .slice A2 n2 c2] w (Yes w) := by
  unfold Yes
  have HF := Lib.hid (fixed_any w)
  unfold maxLen at h1 h2
  by_cases hn : 400 < n
  · have hn' : (400 : Int) < (n : Int) := by omega
    clear h h1 h2 hn
    go_enter Try.func5, Try.ntmps5
    go_wp2_with fail
    refine HF.out.mono ?_
    rintro e w1 ⟨rfl, hb⟩
    go_wp2_with fail
    go_ret
    exact ⟨rfl, hb⟩
  · have hn' : ¬ (400 : Int) < (n : Int) := by omega
    have hn2 : (400 : Int) < (n2 : Int) := by omega
    clear h h1 h2 hn
    go_enter Try.func5, Try.ntmps5
    go_wp2_with fail
    refine HF.out.mono ?_
    rintro e w1 ⟨rfl, hb⟩
    go_wp2_with fail
    go_ret
    exact ⟨rfl, hb⟩

set_option maxRecDepth 100000 in
set_option maxHeartbeats 4000000 in
theorem divides_bad (A : Option Addr) (c : Nat) (l1 : List Nat) (A2 : Option Addr) (c2 : Nat) (l2 : List Nat) (w : World) (hr : Rw .u32 w w.heap.size A l1) (hr2 : Rw .u32 w w.heap.size A2 l2) (hl1 : l1.length ≤ 400) (hl2 : l2.length ≤ 400)
    (h : okL l1 = false ∨ okL l2 = false) :
    Calls Try.prog 5 #[.slice A l1.length c, .slice A2 l2.length c2] w (Yes w) := by
  unfold Yes
  have HF := Lib.hid (fixed_any w)
  have HD := fun (w' : World) (hb : Below w.heap.size w w') => ndiv_bad A c w'.heap.size l1 A2 c2 l2 w' (hr.go hb) (hr2.go hb) (by omega) (by omega) h
  have HV1 := fun (w' : World) (hb : Below w.heap.size w w') => rvalid_any A c w'.heap.size l1 w' (hr.go hb) (by unfold maxLen; omega)
  have HV2 := fun (w' : World) (hb : Below w.heap.size w w') => rvalid_any A2 c2 w'.heap.size l2 w' (hr2.go hb) (by unfold maxLen; omega)
  clear hr hr2
  have t1 : ¬ (400 : Int) < (l1.length : Int) := by omega
  have t2 : ¬ (400 : Int) < (l2.length : Int) := by omega
  generalize l1.length = n1 at *
  generalize l2.length = n2 at *
  replace HD := Lib.hid HD
  by_cases h1 : okL l1 = true
  · have h2 : okL l2 = false := by
      rcases h with h | h
      · rw [h1] at h; cases h
      · exact h
    rw [h1] at HV1
    rw [h2] at HV2
    replace HV1 := Lib.hid HV1
    replace HV2 := Lib.hid HV2
    clear h h1 h2 hl1 hl2
    go_enter Try.func5, Try.ntmps5
    go_wp2_with fail
    refine HF.out.mono ?_
    rintro e w1 ⟨rfl, hb⟩
    go_wp2_with fail
    refine (HD.out w1 hb).mono ?_
    rintro e w' ⟨he, hw⟩
    subst he
    subst hw
    dsimp only
    go_wp2_with fail
    refine (HV1.out w1 hb).mono ?_
    rintro e w' ⟨he, hw⟩
    subst he
    subst hw
    dsimp only
    go_wp2_with fail
    refine (HV2.out w1 hb).mono ?_
    rintro e w' ⟨he, hw⟩
    subst he
    subst hw
    dsimp only
    go_wp2_with fail
    go_ret
    exact ⟨rfl, hb⟩
  · have h1 : okL l1 = false := by simpa using h1
    rw [h1] at HV1
    replace HV1 := Lib.hid HV1
    clear h h1 HV2 hl1 hl2
    go_enter Try.func5, Try.ntmps5
    go_wp2_with fail
    refine HF.out.mono ?_
    rintro e w1 ⟨rfl, hb⟩
    go_wp2_with fail
    refine (HD.out w1 hb).mono ?_
    rintro e w' ⟨he, hw⟩
    subst he
    subst hw
    dsimp only
    go_wp2_with fail
    refine (HV1.out w1 hb).mono ?_
    rintro e w' ⟨he, hw⟩
    subst he
    subst hw
    dsimp only
    go_wp2_with fail
    go_ret
    exact ⟨rfl, hb⟩

set_option maxRecDepth 100000 in
set_option maxHeartbeats 4000000 in
theorem divides_none (A : Option Addr) (c x : Nat) (A2 : Option Addr) (c2 : Nat) (w : World) (hr : Rw .u32 w w.heap.size A (dg 4294967296 x)) (hl1 : (dg 4294967296 x).length ≤ 256) :
    Calls Try.prog 5 #[.slice A (dg 4294967296 x).length c, .slice A2 0 c2] w (Yes w) := by
  unfold Yes
  have HF := Lib.hid (fixed_any w)
  have HD := fun (w' : World) (hb : Below w.heap.size w w') => ndiv_none A c w'.heap.size x A2 c2 w' (hr.go hb) hl1
  have HV1 := fun (w' : World) (hb : Below w.heap.size w w') => rvalid_any A c w'.heap.size _ w' (hr.go hb) (by unfold maxLen; omega)
  have HV2 := fun (w' : World) => rvalid_any A2 c2 0 [] w' (Rw.nil _ _ _ _) (by unfold maxLen; decide)
  have ho : okL [] = true := by decide
  rw [ho] at HV2
  rw [okL_of hl1 (dg_top (by omega) x)] at HV1
  have t1 : ¬ (400 : Int) < ((dg 4294967296 x).length : Int) := by omega
  clear hr hl1
  generalize (dg 4294967296 x).length = n1 at *
  replace HD := Lib.hid HD
  replace HV1 := Lib.hid HV1
  replace HV2 := Lib.hid HV2
  go_enter Try.func5, Try.ntmps5
  go_wp2_with fail
  refine HF.out.mono ?_
  rintro e w1 ⟨rfl, hb⟩
  go_wp2_with fail
  refine (HD.out w1 hb).mono ?_
  rintro e w' ⟨he, hw⟩
  subst he
  subst hw
  dsimp only
  go_wp2_with fail
  refine (HV1.out w1 hb).mono ?_
  rintro e w' ⟨he, hw⟩
  subst he
  subst hw
  dsimp only
  go_wp2_with fail
  refine (HV2.out w1).mono ?_
  rintro e w' ⟨he, hw⟩
  subst he
  subst hw
  dsimp only
  go_wp2_with fail
  go_ret
  exact ⟨rfl, hb⟩

set_option maxRecDepth 100000 in
set_option maxHeartbeats 8000000 in
theorem divides_ok (A : Option Addr) (c x : Nat) (A2 : Option Addr) (c2 y : Nat) (w : World) (hr : Rw .u32 w w.heap.size A (dg 4294967296 x)) (hr2 : Rw .u32 w w.heap.size A2 (dg 4294967296 y))
    (hl1 : (dg 4294967296 x).length ≤ 256) (hl2 : (dg 4294967296 y).length ≤ 256) (hy : (dg 4294967296 y).length ≠ 0) (hA : A = none → (dg 4294967296 x).length = 0 ∧ c = 0) :
    Calls Try.prog 5 #[.slice A (dg 4294967296 x).length c, .slice A2 (dg 4294967296 y).length c2] w (Yes w) := by
  unfold Yes
  have HF := Lib.hid (fixed_any w)
  have hy0 : 0 < y := by
    rcases Nat.eq_zero_or_pos y with h | h
    · subst h; rw [dg_zero] at hy; exact absurd rfl hy
    · exact h
  have hq1 : (dg 4294967296 (x / y)).length ≤ 256 := Nat.le_trans (dg_mono (by omega) (Nat.div_le_self x y)) hl1
  have hr1 : (dg 4294967296 (x % y)).length ≤ 256 := Nat.le_trans (dg_mono (by omega) (Nat.mod_le x y)) hl1
  have hry := Nat.mod_lt x hy0
  have hqm : x / y * y + x % y = x := by rw [Nat.mul_comm]; exact Nat.div_add_mod x y
  have HD := fun (w' : World) (hb : Below w.heap.size w w') => ndiv_any A c w'.heap.size x A2 c2 y w' (hr.go hb) (hr2.go hb) (Nat.le_refl _) hl1 hl2 hy hA
  unfold DivAns at HD
  generalize x / y = q at *
  generalize x % y = r at *
  have hqyx : q * y ≤ x := by omega
  have dx := dec_fit hl1
  have dy := dec_fit hl2
  have dq := dec_fit hq1
  have dr := dec_fit hr1
  have dp : (dg 10000 (q * y)).length ≤ 768 := Nat.le_trans (dg_mono (by omega) hqyx) dx
  have t1 : ¬ (400 : Int) < ((dg 4294967296 x).length : Int) := by omega
  have t2 : ¬ (400 : Int) < ((dg 4294967296 y).length : Int) := by omega
  have t3 : (((dg 4294967296 y).length : Int) == 0) = false := by rw [beq_eq_false_iff_ne]; omega
  replace HD := Lib.hid HD
  have HE := Lib.hid hqm
  have HL := Lib.hid (And.intro hry (And.intro dx (And.intro dy (And.intro dq (And.intro dr dp)))))
  have HM := Lib.hid (And.intro hl1 (And.intro hl2 (And.intro hq1 hr1)))
  clear hqm hqyx hry dx dy dq dr dp hl1 hl2 hq1 hr1 hy
  go_enter Try.func5, Try.ntmps5
  go_wp2_with fail
  refine HF.out.mono ?_
  rintro e w1 ⟨rfl, hb1⟩
  go_wp2_with fail
  refine (HD.out w1 hb1).mono ?_
  rintro e w2 ⟨m, A3, c3, A4, c4, rfl, hfq, hfr, _, _, hb2⟩
  have rq := hfq.rw
  have rr := hfr.rw
  have hB2 : Below w.heap.size w w2 := hb1.trans (hb2.mono hb1.size)
  clear hfq hfr hb1 hb2 HD
  go_wp2_with fail
  refine (rvalid_dg A c x w2 (hr.go hB2) HM.out.1).mono ?_
  rintro e w' ⟨he, hw⟩
  subst he
  subst hw
  dsimp only
  go_wp2_with fail
  refine (rvalid_dg A2 c2 y w2 (hr2.go hB2) HM.out.2.1).mono ?_
  rintro e w' ⟨he, hw⟩
  subst he
  subst hw
  dsimp only
  go_wp2_with fail
  refine (of_dg A2 c2 y w2 (hr2.go hB2) (Nat.le_trans HM.out.2.1 (by omega))).mono ?_
  rintro e w3 ⟨Ay, cy, rfl, _, _, ny, hb3⟩
  have hB3 := hB2.trans (hb3.mono hB2.size)
  replace rq := rq.go hb3
  replace rr := rr.go hb3
  clear hB2 hb3
  go_wp2_with fail
  refine (of_dg A4 c4 r w3 rr (Nat.le_trans HM.out.2.2.2 (by omega))).mono ?_
  rintro e w4 ⟨Ar, cr, rfl, _, _, nr, hb4⟩
  have hB4 := hB3.trans (hb4.mono hB3.size)
  replace rq := rq.go hb4
  replace rr := rr.go hb4
  replace ny := ny.go hb4
  clear hB3 hb4
  go_wp2_with fail
  refine (rvalid_dg A3 c3 q w4 rq HM.out.2.2.1).mono ?_
  rintro e w' ⟨he, hw⟩
  subst he
  subst hw
  dsimp only
  go_wp2_with fail
  refine (rvalid_dg A4 c4 r w4 rr HM.out.2.2.2).mono ?_
  rintro e w' ⟨he, hw⟩
  subst he
  subst hw
  dsimp only
  go_wp2_with fail
  refine (rcmp_any Ar cr w4.heap.size r Ay cy y w4 nr ny (Nat.le_refl _) (Nat.le_trans HL.out.2.2.2.2.1 (by omega)) (Nat.le_trans HL.out.2.2.1 (by omega))).mono ?_
  rintro e w5 ⟨rfl, hb5⟩
  rw [cmpI_lt HL.out.1]
  have hB5 := hB4.trans (hb5.mono hB4.size)
  replace rq := rq.go hb5
  replace ny := ny.go hb5
  replace nr := nr.go hb5
  clear hB4 hb5
  go_wp2_with fail
  refine (of_dg A3 c3 q w5 rq (Nat.le_trans HM.out.2.2.1 (by omega))).mono ?_
  rintro e w6 ⟨Aq, cq, rfl, _, _, nq, hb6⟩
  have hB6 := hB5.trans (hb6.mono hB5.size)
  replace ny := ny.go hb6
  replace nr := nr.go hb6
  clear hB5 hb6
  go_wp2_with fail
  refine (rmul_any Aq cq w6.heap.size q Ay cy y w6 nq ny (Nat.le_refl _) (Nat.le_trans HL.out.2.2.2.1 (by omega)) (Nat.le_trans HL.out.2.2.1 (by omega))).mono ?_
  rintro e w7 ⟨Ap, cp, rfl, _, _, np, hb7⟩
  have hB7 := hB6.trans (hb7.mono hB6.size)
  replace nr := nr.go hb7
  clear hB6 hb7
  go_wp2_with fail
  refine (radd_any Ap cp w7.heap.size (q * y) Ar cr r w7 np nr (Nat.le_refl _) (Nat.le_trans HL.out.2.2.2.2.2 (by omega)) (Nat.le_trans HL.out.2.2.2.2.1 (by omega))).mono ?_
  rw [HE.out]
  rintro e w8 ⟨As, cs, rfl, _, _, ns, hb8⟩
  have hB8 := hB7.trans (hb8.mono hB7.size)
  clear hB7 hb8
  go_wp2_with fail
  refine (of_dg A c x w8 (hr.go hB8) (Nat.le_trans HM.out.1 (by omega))).mono ?_
  rintro e w9 ⟨Ax, cx, rfl, _, _, nx, hb9⟩
  have hB9 := hB8.trans (hb9.mono hB8.size)
  replace ns := ns.go hb9
  clear hB8 hb9
  go_wp2_with fail
  refine (rcmp_any As cs w9.heap.size x Ax cx x w9 ns nx (Nat.le_refl _) (Nat.le_trans HL.out.2.1 (by omega)) (Nat.le_trans HL.out.2.1 (by omega))).mono ?_
  rintro e w10 ⟨rfl, hb10⟩
  rw [cmpI_eq]
  have hB10 := hB9.trans (hb10.mono hB9.size)
  go_wp2_with fail
  go_ret
  exact ⟨rfl, hB10⟩

theorem divides_walk (A : Option Addr) (n c : Nat) (A2 : Option Addr) (n2 c2 : Nat) (z1 z2 : List Int) (w : World) (h1 : IsRow .u32 w A n c z1) (h2 : IsRow .u32 w A2 n2 c2 z2) :
    Calls Try.prog 5 #[.slice A n c, .slice A2 n2 c2] w (Yes w) := by
  obtain ⟨l1, rfl, hlo1, hr1, hA1, hc1, hm1⟩ := row_limbs h1
  obtain ⟨l2, rfl, hlo2, hr2, hA2, hc2, hm2⟩ := row_limbs h2
  by_cases hf : 400 < l1.length ∨ 400 < l2.length
  · exact divides_far A _ c A2 _ c2 w hf (Nat.le_trans hc1 hm1) (Nat.le_trans hc2 hm2)
  · by_cases hk : okL l1 = false ∨ okL l2 = false
    · exact divides_bad A c l1 A2 c2 l2 w hr1 hr2 (by omega) (by omega) hk
    · have k1 : okL l1 = true := by cases h : okL l1 <;> simp_all
      have k2 : okL l2 = true := by cases h : okL l2 <;> simp_all
      have e1 := top_dg (by omega) l1 hlo1 (okL_top k1).2
      have e2 := top_dg (by omega) l2 hlo2 (okL_top k2).2
      have b1 := (okL_top k1).1
      have b2 := (okL_top k2).1
      rw [← e1] at hr1 hA1 b1 ⊢
      by_cases h0 : l2.length = 0
      · rw [h0]
        exact divides_none A c _ A2 c2 w hr1 b1
      · rw [← e2] at hr2 hA2 b2 h0 ⊢
        exact divides_ok A c _ A2 c2 _ w hr1 hr2 b1 b2 h0 hA1

end Go.Proofs.Ytpklbdgajbfaiaa
