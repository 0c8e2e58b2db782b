/- 'What is handed in stays as it is, and each answer is memory of its own', walked. -/
import Derived.Test.YtpklbdgajbfaiaaNoD
import Derived.Lib.MinMax
namespace Go.Proofs.Ytpklbdgajbfaiaa
open Go.RowKit
set_option linter.unusedVariables false

set_option maxRecDepth 100000 in
set_option maxHeartbeats 4000000 in
theorem owns_far (A : Option Addr) (n c : Nat) (A2 : Option Addr) (n2 c2 : Nat) (k : Int) (w : World) (h : 400 < n ∨ 400 < n2) (h1 : n ≤ maxLen) (h2 : n2 ≤ maxLen) :
    Calls Try.prog 3 #[.slice A n c, .slice A2 n2 c2, .int .i64 k] w (Yes w) := by
  unfold Yes
  have HF := Lib.hid (fixed_any w)
  unfold maxLen at h1 h2
  by_cases hn : 400 < n
  · have hn' : (400 : Int) < (n : Int) := by omega
    clear h h1 h2 hn
    go_enter Try.func3, Try.ntmps3
    go_wp2_with fail
    refine HF.out.mono ?_
    rintro e w1 ⟨rfl, hb⟩
    go_wp2_with fail
    go_ret
    exact ⟨rfl, hb⟩
  · have hn' : ¬ (400 : Int) < (n : Int) := by omega
    have hn2 : (400 : Int) < (n2 : Int) := by omega
    clear h h1 h2 hn
    go_enter Try.func3, Try.ntmps3
    go_wp2_with fail
    refine HF.out.mono ?_
    rintro e w1 ⟨rfl, hb⟩
    go_wp2_with fail
    go_ret
    exact ⟨rfl, hb⟩

set_option maxRecDepth 100000 in
set_option maxHeartbeats 8000000 in
theorem owns_near (A : Option Addr) (c : Nat) (l1 : List Nat) (A2 : Option Addr) (c2 : Nat) (l2 : List Nat) (k : Int) (w : World) (hr : Rw .u32 w w.heap.size A l1) (hr2 : Rw .u32 w w.heap.size A2 l2) (hlo1 : Lo 4294967296 l1) (hlo2 : Lo 4294967296 l2) (hl1 : l1.length ≤ 400) (hl2 : l2.length ≤ 400)
    (hA : A = none → l1.length = 0 ∧ c = 0) (hA2 : A2 = none → l2.length = 0 ∧ c2 = 0) (hc : l1.length ≤ c) (hc2 : l2.length ≤ c2) :
    Calls Try.prog 3 #[.slice A l1.length c, .slice A2 l2.length c2, .int .i64 k] w (Yes w) := by
  unfold Yes
  have HF := Lib.hid (fixed_any w)
  have t1 : ¬ (400 : Int) < (l1.length : Int) := by omega
  have t2 : ¬ (400 : Int) < (l2.length : Int) := by omega
  obtain ⟨kk, hkk, ekk⟩ : ∃ kk : Nat, kk ≤ 99 ∧ min (max k 0) 99 = (kk : Int) := ⟨(min (max k 0) 99).toNat, by omega, by omega⟩
  have HR := Lib.hid (fun (w' : World) (hb : Below w.heap.size w w') => And.intro (hr.go hb) (hr2.go hb))
  have HAgain := Lib.hid (fun (w' : World) (hb : Below w.heap.size w w') => nadd_mine A c l1 A2 c2 l2 w' (hr.go hb) (hr2.go hb) hlo1 hlo2 hl1 hl2)
  have HP := Lib.hid (fun (gx cx gy cy : Nat) (w' : World) (hx : Rw .u32 w' w'.heap.size (some ⟨gx, 0, none⟩) l1) (hy : Rw .u32 w' w'.heap.size (some ⟨gy, 0, none⟩) l2) =>
    And.intro (nadd_mine (some ⟨gx, 0, none⟩) cx l1 (some ⟨gy, 0, none⟩) cy l2 w' hx hy hlo1 hlo2 hl1 hl2)
      (And.intro (nsub_mine (some ⟨gx, 0, none⟩) cx l1 (some ⟨gy, 0, none⟩) cy l2 w' hx hy hlo1 hlo2 hl1 hl2 (fun e => by cases e))
        (And.intro (nmul_mine (some ⟨gx, 0, none⟩) cx l1 (some ⟨gy, 0, none⟩) cy l2 w' hx hy hlo1 hlo2 hl1 hl2)
          (And.intro (ndiv_mine (some ⟨gx, 0, none⟩) cx l1 (some ⟨gy, 0, none⟩) cy l2 w' hx hy hlo1 hlo2 hl1 hl2 (fun e => by cases e))
            (nshl_mine (some ⟨gx, 0, none⟩) cx l1 w' hx hlo1 hl1 kk hkk)))))
  rw [← ekk] at HP
  generalize hn1 : l1.length = n1 at *
  generalize hn2 : l2.length = n2 at *
  have hm1 : n1 ≤ 1000 := by omega
  have hm2 : n2 ≤ 1000 := by omega
  have HN := Lib.hid (And.intro hl1 hl2)
  clear hr hr2 hlo1 hlo2 ekk hkk
  go_enter Try.func3, Try.ntmps3
  go_wp2_with fail
  refine (HF.out).mono ?_
  rintro e w1 ⟨rfl, hb1⟩
  have hr1 := (HR.out w1 hb1).1
  have hs1 := Lib.hid hn1.symm
  have hs2 := Lib.hid hn2.symm
  clear hn1 hn2 hl1 hl2
  go_wp2_with (at_builtin; go_loud (first
    | (refine wpList_law1 (.tmp 44) (.tmp 45) rfl rfl rfl rfl rfl hs1.out hr1 hA hc hm1 ?_; intro Ax0 cx0 w2 hx0 hb2)
    | (refine wpList_law2 (.tmp 46) (.tmp 47) rfl rfl 7 8 rfl hx0 hb2.size rfl rfl hm1 ?_; intro gx cx w3 hx hb3)
    | (refine wpList_law1 (.tmp 49) (.tmp 50) rfl rfl rfl rfl rfl hs2.out (HR.out w3 (hb1.trans ((hb2.trans hb3).mono hb1.size))).2 hA2 hc2 hm2 ?_; intro Ay0 cy0 w4 hy0 hb4)
    | (refine wpList_law2 (.tmp 51) (.tmp 52) rfl rfl 7 8 rfl hy0 hb4.size rfl rfl hm2 ?_; intro gy cy w5 hy hb5)))
  have h13 := hb2.trans hb3
  have h35 := hb4.trans hb5
  have hB5 : Below w.heap.size w w5 := hb1.trans ((h13.mono hb1.size).trans (h35.mono (Nat.le_trans hb1.size h13.size)))
  have fx := (Fr.of_own hx).below h35
  have fy := Fr.of_own hy
  have hxc : n1 + 2 ≤ cx := by have := fx.1; rw [List.length_append, ← hs1.out] at this; exact this
  have hyc : n2 + 2 ≤ cy := by have := fy.1; rw [List.length_append, ← hs2.out] at this; exact this
  have px : Rw .u32 w5 w5.heap.size (some ⟨gx, 0, none⟩) l1 := by have := fx.rw.take l1.length; rwa [List.take_left' rfl] at this
  have py : Rw .u32 w5 w5.heap.size (some ⟨gy, 0, none⟩) l2 := by have := fy.rw.take l2.length; rwa [List.take_left' rfl] at this
  have HC := Lib.hid (fun (w' : World) (hb : Below w5.heap.size w5 w') => HP.out gx cx gy cy w' (px.go hb) (py.go hb))
  generalize hN1 : n1 + 2 = N1 at *
  generalize hN2 : n2 + 2 = N2 at *
  have HNN := Lib.hid (And.intro hN1 hN2)
  have ix1 : (n1 : Int) ≤ (cx : Int) := by omega
  have ix0 : (0 : Int) ≤ (n1 : Int) := by omega
  have iy1 : (n2 : Int) ≤ (cy : Int) := by omega
  have iy0 : (0 : Int) ≤ (n2 : Int) := by omega
  have HX := Lib.hid (And.intro fx.rw (And.intro fy.rw hB5))
  clear hN1 hN2 hb2 hb3 hb4 hb5 h13 h35 hB5 fx fy px py HP hxc hyc hx hy hx0 hy0 hr1 hb1 hm1 hm2 hA hA2 hc hc2
  go_quiet (fail)
  go_wp2_with fail
  generalize hw6 : w5.drewN nq = w6
  have hB56 : Below w5.heap.size w5 w6 := by rw [← hw6]; exact below_drewN (Below.refl _ _) _
  have hsz : w6.heap.size = w5.heap.size := by rw [← hw6]; rfl
  have HZ := Lib.hid (And.intro hsz hB56)
  clear hw6 hsz
  refine (HC.out w6 hB56).1.mono ?_
  rintro e w7 ⟨As, cs, vs, ls, rfl, ns, fs, hls, hb7⟩
  have hB57 := hB56.trans (hb7.mono hB56.size)
  have HS := Lib.hid (And.intro ns (And.intro fs (And.intro hls hb7)))
  clear ns fs hls hb7 hB56
  go_wp2_with fail
  refine (HC.out w7 hB57).2.1.mono ?_
  rintro e w8 ⟨At, ct, vt, lt, rfl, nt, ft, _, hb8⟩
  have hB58 := hB57.trans (hb8.mono hB57.size)
  have HT := Lib.hid (And.intro nt (And.intro ft hb8))
  clear nt ft hb8 hB57
  go_wp2_with fail
  refine (HC.out w8 hB58).2.2.1.mono ?_
  rintro e w9 ⟨Au, cu, vu, lu, rfl, nu, fu, _, hb9⟩
  have hB59 := hB58.trans (hb9.mono hB58.size)
  have HU := Lib.hid (And.intro nu (And.intro fu hb9))
  clear nu fu hb9 hB58
  go_wp2_with fail
  refine (HC.out w9 hB59).2.2.2.1.mono ?_
  rintro e w10 ⟨Av, cv, Aw, cw, vv, lv, lw, m, rfl, nv, nw, fv, fw, hm0, hm1, hvm, hb10⟩
  have hB510 := hB59.trans (hb10.mono hB59.size)
  have HV := Lib.hid (And.intro nv (And.intro nw (And.intro fv (And.intro fw (And.intro hm0 (And.intro hm1 (And.intro hvm hb10)))))))
  clear nv nw fv fw hm0 hm1 hvm hb10 hB59
  go_wp2_with fail
  refine (HC.out w10 hB510).2.2.2.2.mono ?_
  rintro e w11 ⟨Az, cz, vz, lz, rfl, nz, fz, _, hb11⟩
  have hB511 := hB510.trans (hb11.mono hB510.size)
  obtain ⟨ns, fs, hls, hb7⟩ := HS.out
  obtain ⟨nt, ft, hb8⟩ := HT.out
  obtain ⟨nu, fu, hb9⟩ := HU.out
  obtain ⟨nv, nw, fv, fw, hm0, hm1, hvm, hb10⟩ := HV.out
  obtain ⟨hsz, hB56⟩ := HZ.out
  have gs := (((fs.go hb8).go hb9).go hb10).go hb11
  have gt := ((ft.go hb9).go hb10).go hb11
  have gu := (fu.go hb10).go hb11
  have gv := fv.go hb11
  have gw := fw.go hb11
  have hsrc : ∀ o, Rw .u32 (w11.alloc o) (w11.alloc o).heap.size As ls := fun o => gs.rw.go ((Below.refl _ w11).alloc (Nat.le_refl _) o)
  have hAs : As = none → ls.length = 0 ∧ cs = 0 := fun e => by
    rcases Nat.eq_zero_or_pos cs with e0 | e0
    · have := gs.1; omega
    · obtain ⟨g, cur, e1, _⟩ := gs.2.2 e0; rw [e] at e1; cases e1
  have hcs := gs.1
  have hns : ls.length ≤ 1000 := by omega
  obtain ⟨col, FA, Fn, Fc, FL, HSix, hcol7, hrow⟩ := six_of gs gt gu gv gw fz (fun p e c => (fs.lt e c).2.1) (fun p e c => (ft.lt e c).2.1) (fun p e c => (fu.lt e c).2.1) hvm (fun p e c => (fw.lt e c).2.1) (fun p e c => (fz.lt e c).2.1) hb7.size hb8.size hb9.size hm0 hm1 hb11.size ns nt nu nv nw nz
  have hB611 : Below w6.heap.size w6 w11 := (((hb7.trans (hb8.mono hb7.size)).trans (hb9.mono (Nat.le_trans hb7.size hb8.size))).trans (hb10.mono (Nat.le_trans hb7.size (Nat.le_trans hb8.size hb9.size)))).trans (hb11.mono (Nat.le_trans hb7.size (Nat.le_trans hb8.size (Nat.le_trans hb9.size hb10.size))))
  have HQ := Lib.hid (And.intro hls (And.intro HSix (And.intro hcol7 (And.intro hrow hB611))))
  clear ns fs hls hb7 nt ft hb8 nu fu hb9 nv nw fv fw hm0 hm1 hvm hb10 hsz hB56 gs gt gu gv gw fz nz hb11 hB511 hB510 HSix hcol7 hrow hB611 HS HT HU HV
  go_wp2_with (at_builtin; refine wpList_law1 (.tmp 102) (.tmp 103) rfl rfl rfl (by simp) rfl rfl (hsrc _) hAs hcs hns ?_; intro Ak ck w12 hkp hb12)
  obtain ⟨hls, HSix, hcol7, hrow, hB611⟩ := HQ.out
  have HS1 := S1.make HSix hcol7 hrow hB611 hb12 hkp
  have HK := Lib.hid (And.intro hls hcs)
  clear HQ HSix hcol7 hrow hB611 hb12 hkp hls hsrc hAs hcs hns
  generalize w11.heap.size = gl at *
  go_loopw [107] (fun v107 wr => ∃ (i : Nat) (L : Nat → List Nat), v107 = .int .i64 (i : Int) ∧ i ≤ 6 ∧ S1 w6 gl FA Fn Fc Ak ck ls col wr L ∧ ∀ q, q < i → L q = List.replicate (Fn q) (q + 100)) (fun v107 _ => 6 - (intOf v107).toNat)
  case atStart => exact ⟨0, FL, rfl, by omega, HS1, fun q hq => absurd hq (by omega)⟩
  case round =>
    clear HS1
    obtain ⟨i, L, rfl, hi, hS, hL⟩ := hrel
    by_cases hlt : i < 6
    · have i1 : (i : Int) < 6 := by omega
      have i0 : (0 : Int) ≤ (i : Int) := by omega
      have hcell := hS.row i hlt
      have HH := Lib.hid (And.intro hlt (And.intro hS hL))
      clear hi hlt hS hL
      go_wp2_with fail
      obtain ⟨hlt, hS, hL⟩ := HH.out
      clear HH hcell
      go_loopw [115] (fun v115 wi => ∃ (j : Nat) (L : Nat → List Nat), v115 = .int .i64 (j : Int) ∧ j ≤ Fn i ∧ S1 w6 gl FA Fn Fc Ak ck ls col wi L ∧ (∀ q, q < i → L q = List.replicate (Fn q) (q + 100)) ∧ (L i).take j = List.replicate j (i + 100)) (fun v115 _ => Fn i - (intOf v115).toNat)
      case atStart => exact ⟨0, L, rfl, by omega, hS, hL, by simp⟩
      case round =>
        clear hS hL
        obtain ⟨j, L2, rfl, hj, hS, hL, hT⟩ := hrel
        by_cases hj2 : j < Fn i
        · have j1 : (j : Int) < (Fn i : Int) := by omega
          have j0 : (0 : Int) ≤ (j : Int) := by omega
          obtain ⟨g, hAg, hcell, ⟨v, hv⟩, hfr, hS2⟩ := hS.store hlt hj2 (i + 100)
          have hlen : j < (L2 i).length := by have := (hS.six i hlt).2.1; omega
          have jb : (j : Int) ≤ 256 := by have := (hS.six i hlt).2.2; omega
          obtain ⟨r, hrr⟩ : ∃ r, i + 100 = r := ⟨_, rfl⟩
          rw [hrr] at hS2 hT
          have er : (i : Int) + 100 = (r : Int) := by omega
          have er0 : (r : Int) % 4294967296 = (r : Int) := by omega
          have er1 : (r : Int) ≤ 200 := by omega
          have er2 : (0 : Int) ≤ (r : Int) := by omega
          have HH := Lib.hid (And.intro hlt (And.intro hS2 (And.intro hL (And.intro hT (And.intro hlen (And.intro hj2 hrr))))))
          clear hlt hS hS2 hL hT hlen hj2 hrr hj hAg
          go_wp2_with fail
          obtain ⟨hlt, hS2, hL, hT, hlen, hj2, hrr⟩ := HH.out
          have hsm := (hS2.six i hlt).2.2
          refine ⟨⟨j + 1, _, by go_num, by omega, hS2, fun q hq => ?_, ?_⟩, by simp [intOf]; omega⟩
          · show (if q = i then _ else _) = _
            rw [if_neg (by omega)]
            exact hL q hq
          · show (if i = i then _ else _ : List Nat).take (j + 1) = _
            rw [if_pos rfl, hrr]
            exact take_set_succ hT hlen
        · have j1 : ¬ (j : Int) < (Fn i : Int) := by omega
          have HH := Lib.hid (And.intro hlt (And.intro hS (And.intro hL (And.intro hT (And.intro hj hj2)))))
          clear hlt hS hL hT hj hj2
          go_wp2_with fail
          obtain ⟨hlt, hS, hL, hT, hj, hj2⟩ := HH.out
          refine ⟨⟨i + 1, L2, by go_num, by omega, hS, fun q hq => ?_⟩, by simp [intOf]; omega⟩
          by_cases e : q = i
          · subst e
            have hlen := (hS.six q hlt).2.1
            rw [List.take_of_length_le (by omega)] at hT
            rw [hT, show j = Fn q by omega]
          · exact hL q (by omega)
    · have i1 : ¬ (i : Int) < 6 := by omega
      have HS2 := Lib.hid (S2.of hS (fun q hq => hL q (by omega)))
      clear hi hlt hS hL
      go_wp2_with fail
      go_loopw [26, 131] (fun v26 v131 wr => ∃ (i : Nat) (A' : Nat → Option Addr) (c' : Nat → Nat) (col : Nat → Nat), v131 = .int .i64 (i : Int) ∧ i ≤ 6 ∧ S2 w6 gl FA Fn Fc Ak ck ls i i A' c' col wr ∧ wr.ownsRow w6.heap.size 22 1 v26 i (growRow Fn A' c' i) ∧ ∀ g, v26.ownBlock = some g → col g = 6) (fun _ v131 _ => 6 - (intOf v131).toNat)
      case atStart => exact ⟨0, _, _, col, rfl, by omega, HS2.out, own_none _ _ _, fun g e => by cases e⟩
      case round =>
        clear HS2
        obtain ⟨i, A', c', col2, rfl, hi, hS, hrow, hrc⟩ := hrel
        by_cases hlt : i < 6
        · have i1 : (i : Int) < 6 := by omega
          have i0 : (0 : Int) ≤ (i : Int) := by omega
          have hcell := hS.row i hlt
          have HH := Lib.hid (And.intro hlt (And.intro hS (And.intro hrow hrc)))
          clear hi hlt hS hrow hrc
          go_wp2_with fail
          obtain ⟨hlt, hS, hrow, hrc⟩ := HH.out
          clear HH hcell
          go_loopw [28, 29] (fun v28 v29 wi => ∃ (j : Nat) (Ag : Option Addr) (ng cg : Nat) (col : Nat → Nat), v29 = .int .i64 (j : Int) ∧ v28 = .slice Ag ng cg ∧ ng = Fn i + j ∧ j ≤ 20 ∧ S2 w6 gl FA Fn Fc Ak ck ls i (i + 1) A' c' col wi ∧ Col i w6.heap.size col wi Ag cg (Lg (Fn i) i j) ∧ wi.ownsRow w6.heap.size 22 1 u26 i (growRow Fn A' c' i) ∧ ∀ g, u26.ownBlock = some g → col g = 6) (fun _ v29 _ => 20 - (intOf v29).toNat)
          case atStart => exact ⟨0, FA i, Fn i, Fc i, col2, rfl, rfl, rfl, by omega, hS.less, hS.six i (Nat.le_refl _) hlt, hrow, hrc⟩
          case round =>
            clear hS hrow hrc
            obtain ⟨j, Ag, ng, cg, col3, rfl, rfl, hng, hj, hS, hG, hrow, hrc⟩ := hrel
            by_cases hj2 : j < 20
            · have j1 : (j : Int) < 20 := by omega
              have j0 : (0 : Int) ≤ (j : Int) := by omega
              obtain ⟨r, hrr⟩ : ∃ r, i + 200 = r := ⟨_, rfl⟩
              have er : (i : Int) + 200 = (r : Int) := by omega
              have er0 : (r : Int) % 4294967296 = (r : Int) := by omega
              have er1 : (r : Int) ≤ 300 := by omega
              have er2 : (0 : Int) ≤ (r : Int) := by omega
              have HH := Lib.hid (And.intro hng (And.intro hj2 (And.intro hS (And.intro hG (And.intro hrow (And.intro hrc (And.intro hlt (congrArg (fun x : Nat => (x : Int)) hrr.symm))))))))
              clear hng hj hj2 hS hG hrow hrc hrr hlt
              go_wp2_with (at_builtin; refine wpList_appendFr (.tmp 142) (.tmp 146) rfl rfl rfl HH.out.1 HH.out.2.2.2.2.2.2.2 rfl rfl HH.out.2.2.1 HH.out.2.2.2.1 HH.out.2.2.2.2.2.2.1 HH.out.2.1 HH.out.2.2.2.2.1 HH.out.2.2.2.2.2.1 ?_; intro Ag2 cg2 w2a col4 k1 k2 k3 k4)
              obtain ⟨hng, hj2, hS, hG, hrow, hrc, hlt, hrr⟩ := HH.out
              refine ⟨⟨j + 1, Ag2, ng + 1, cg2, col4, by go_num, rfl, by omega, by omega, k1, k2, k3, k4⟩, by simp [intOf]; omega⟩
            · have j1 : ¬ (j : Int) < 20 := by omega
              obtain rfl : j = 20 := by omega
              have HH := Lib.hid (And.intro hng (And.intro hS (And.intro hG (And.intro hrow (And.intro hrc hlt)))))
              clear hng hj hj2 hS hG hrow hrc hlt
              go_wp2_with (at_builtin; refine wpList_appendRow (.tmp 148) (.tmp 150) rfl rfl rfl HH.out.1 rfl rfl HH.out.2.1 HH.out.2.2.1 HH.out.2.2.2.2.2 HH.out.2.2.2.1 HH.out.2.2.2.2.1 ?_; intro A3 c3 g3 k3 w3a col4 q1 q2 q3)
              obtain ⟨hng, hS, hG, hrow, hrc, hlt⟩ := HH.out
              refine ⟨⟨i + 1, A3, c3, col4, by go_num, by omega, q1, q2, fun g e => by cases e; exact q3⟩, by simp [intOf]; omega⟩
        · have i1 : ¬ (i : Int) < 6 := by omega
          obtain rfl : i = 6 := by omega
          obtain ⟨g3, k3, rfl, _, hg3⟩ := hrow.form (by omega)
          have HS3 := Lib.hid (And.intro hS hrow)
          clear hi hlt hS hrow hrc hg3
          go_wp2_with fail
          obtain ⟨wo, rfl⟩ : ∃ wo : World, wo = wr := ⟨_, rfl⟩
          have HG := Lib.hid (fun (i : Nat) (hi : i < 6) (wi : World) (hb : Below wo.heap.size wo wi) =>
            And.intro (let h := (HS3.out.2.cellAt i (by omega)).trans (growRow_at hi); (hb.cell (lt_of_cell h)).trans h)
              (let h := HS3.out.1.row i hi; (hb.cell (lt_of_cell h)).trans h))
          go_loopw [155] (fun v155 wi => ∃ i : Nat, v155 = .int .i64 (i : Int) ∧ i ≤ 6 ∧ Below wo.heap.size wo wi) (fun v155 _ => 6 - (intOf v155).toNat)
          case atStart => exact ⟨0, rfl, by omega, Below.refl _ _⟩
          case round =>
            obtain ⟨i, rfl, hi, hb⟩ := hrel
            by_cases hlt : i < 6
            · have i1 : (i : Int) < 6 := by omega
              have i0 : (0 : Int) ≤ (i : Int) := by omega
              obtain ⟨hcG, hcL⟩ := HG.out i hlt wr hb
              obtain ⟨N, hN⟩ : ∃ N, Fn i + 20 = N := ⟨_, rfl⟩
              rw [hN] at hcG
              have HH := Lib.hid (And.intro hlt (And.intro hb hN))
              clear hi hlt hb hN hcL
              go_wp2_with fail
              obtain ⟨hlt, hb, hN⟩ := HH.out
              clear HH hcG
              go_loopw [163] (fun v163 wi => ∃ j : Nat, v163 = .int .i64 (j : Int) ∧ j ≤ N ∧ Below wo.heap.size wo wi) (fun v163 _ => N - (intOf v163).toNat)
              case atStart => exact ⟨0, rfl, by omega, hb⟩
              case round =>
                clear hb
                obtain ⟨j, rfl, hj, hb⟩ := hrel
                have hsm := HS3.out.1.small i hlt
                by_cases hj2 : j < N
                · obtain ⟨hcG, hcL⟩ := HG.out i hlt wr hb
                  rw [hN] at hcG
                  obtain ⟨b, off, hA', hbl, hcE⟩ := (HS3.out.1.gr i hlt).1.rw.at_ (i := j) (by rw [Lg_len]; omega)
                  rw [Lg_getD (by omega)] at hcE
                  rw [hA'] at hcG
                  replace hcE := (hb.cell (lt_of_cell hcE)).trans hcE
                  have j1 : (j : Int) < (N : Int) := by omega
                  have j0 : (0 : Int) ≤ (j : Int) := by omega
                  have jb : (j : Int) ≤ 300 := by omega
                  by_cases hjn : j < Fn i
                  · rw [if_pos hjn] at hcE
                    have jn : (j : Int) < (Fn i : Int) := by omega
                    obtain ⟨r, hrr⟩ : ∃ r, i + 100 = r := ⟨_, rfl⟩
                    rw [hrr] at hcE
                    have er : (i : Int) + 100 = (r : Int) := by omega
                    have er0 : (r : Int) % 4294967296 = (r : Int) := by omega
                    have er1 : (r : Int) ≤ 300 := by omega
                    have er2 : (0 : Int) ≤ (r : Int) := by omega
                    have HH := Lib.hid (And.intro hlt (And.intro hb (And.intro hN hj2)))
                    clear hlt hb hN hj hj2 hjn hsm hA' hbl hrr
                    go_wp2_with fail
                    obtain ⟨hlt, hb, hN, hj2⟩ := HH.out
                    exact ⟨⟨j + 1, by go_num, by omega, hb⟩, by simp [intOf]; omega⟩
                  · rw [if_neg hjn] at hcE
                    have jn : ¬ (j : Int) < (Fn i : Int) := by omega
                    obtain ⟨r, hrr⟩ : ∃ r, i + 200 = r := ⟨_, rfl⟩
                    rw [hrr] at hcE
                    have er : (i : Int) + 200 = (r : Int) := by omega
                    have er0 : (r : Int) % 4294967296 = (r : Int) := by omega
                    have er1 : (r : Int) ≤ 300 := by omega
                    have er2 : (0 : Int) ≤ (r : Int) := by omega
                    have HH := Lib.hid (And.intro hlt (And.intro hb (And.intro hN hj2)))
                    clear hlt hb hN hj hj2 hjn hsm hA' hbl hrr
                    go_wp2_with fail
                    obtain ⟨hlt, hb, hN, hj2⟩ := HH.out
                    exact ⟨⟨j + 1, by go_num, by omega, hb⟩, by simp [intOf]; omega⟩
                · have j1 : ¬ (j : Int) < (N : Int) := by omega
                  have HH := Lib.hid (And.intro hlt hb)
                  clear hlt hb hN hj hj2 hsm
                  go_wp2_with fail
                  obtain ⟨hlt, hb⟩ := HH.out
                  exact ⟨⟨i + 1, by go_num, by omega, hb⟩, by simp [intOf]; omega⟩
            · have i1 : ¬ (i : Int) < 6 := by omega
              have HB := Lib.hid hb
              clear hi hlt hb
              go_wp2_with fail
              have hB5r : Below w5.heap.size w5 wr := (HZ.out.2.trans (HS3.out.1.below.mono HZ.out.2.size)).trans (HB.out.mono (Nat.le_trans HZ.out.2.size HS3.out.1.below.size))
              have hBf : Below w.heap.size w wr := HX.out.2.2.trans (hB5r.mono HX.out.2.2.size)
              refine (HAgain.out wr hBf).mono ?_
              rintro e w13 ⟨Aa, ca, va, la, rfl, na, fa, hla, hb13⟩
              obtain rfl : la = ls := Eq.trans hla (Eq.symm HK.out.1)
              have h513 : Below w5.heap.size w5 w13 := hB5r.trans (hb13.mono hB5r.size)
              have hB13 : Below w.heap.size w w13 := hBf.trans (hb13.mono hBf.size)
              have fk : Fr w6.heap.size w13 Ak ck la := (HS3.out.1.keep.1.go HB.out).go hb13
              have HKA := Lib.hid (fun (w' : World) (hb : Below w13.heap.size w13 w') => same_yes Aa ca Ak ck la w' (fa.go hb).rw (fk.go hb).rw (by unfold maxLen; omega))
              have HSx := Lib.hid (fun (w' : World) (hb : Below w13.heap.size w13 w') => same_yes (some ⟨gx, 0, none⟩) cx A c l1 w' (by have h := (HX.out.1.go (h513.trans (hb.mono h513.size))).take l1.length; rwa [List.take_left' rfl] at h) (HR.out w' (hB13.trans (hb.mono hB13.size))).1 (by have := HN.out.1; have := hs1.out; unfold maxLen; omega))
              have HSy := Lib.hid (fun (w' : World) (hb : Below w13.heap.size w13 w') => same_yes (some ⟨gy, 0, none⟩) cy A2 c2 l2 w' (by have h := (HX.out.2.1.go (h513.trans (hb.mono h513.size))).take l2.length; rwa [List.take_left' rfl] at h) (HR.out w' (hB13.trans (hb.mono hB13.size))).2 (by have := HN.out.2; have := hs2.out; unfold maxLen; omega))
              have HTx := Lib.hid (fun (w' : World) (hb : Below w13.heap.size w13 w') => (HX.out.1.go (h513.trans (hb.mono h513.size))).tail78)
              have HTy := Lib.hid (fun (w' : World) (hb : Below w13.heap.size w13 w') => (HX.out.2.1.go (h513.trans (hb.mono h513.size))).tail78)
              rw [← hs1.out] at HSx HTx
              rw [← hs2.out] at HSy HTy
              obtain ⟨e1, e2⟩ := HNN.out
              obtain ⟨b1, b2⟩ := HN.out
              obtain ⟨r1, hr1⟩ : ∃ r, n1 + 1 = r := ⟨_, rfl⟩
              obtain ⟨r2, hr2⟩ : ∃ r, n2 + 1 = r := ⟨_, rfl⟩
              rw [hr1] at HTx
              rw [hr2] at HTy
              have x1 : (n1 : Int) + 1 = (r1 : Int) := by omega
              have y1 : (n2 : Int) + 1 = (r2 : Int) := by omega
              have x2 : (r1 : Int) < (N1 : Int) := by omega
              have y2 : (r2 : Int) < (N2 : Int) := by omega
              have x3 : (n1 : Int) < (N1 : Int) := by omega
              have y3 : (n2 : Int) < (N2 : Int) := by omega
              have x4 : (r1 : Int) ≤ 500 := by omega
              have y4 : (r2 : Int) ≤ 500 := by omega
              have x5 : (0 : Int) ≤ (r1 : Int) := by omega
              have y5 : (0 : Int) ≤ (r2 : Int) := by omega
              have HB13 := Lib.hid hB13
              clear hB5r hBf na fa hla hb13 h513 hB13 fk e1 e2 b1 b2 hr1 hr2 HC HX HZ HK HS3 HG HB HNN HR HN HAgain HF
              go_wp2_with fail
              refine (HSx.out w13 (Below.refl _ _)).mono ?_
              rintro e w14 ⟨rfl, hb14⟩
              have HB14 := Lib.hid hb14
              clear hb14
              go_wp2_with fail
              refine (HSy.out w14 HB14.out).mono ?_
              rintro e w15 ⟨rfl, hb15⟩
              have hb15' := HB14.out.trans (hb15.mono HB14.out.size)
              obtain ⟨cx7, cx8⟩ := HTx.out w15 hb15'
              obtain ⟨cy7, cy8⟩ := HTy.out w15 hb15'
              have HB15 := Lib.hid hb15'
              clear hb15 hb15'
              go_wp2_with fail
              refine (HKA.out w15 HB15.out).mono ?_
              rintro e w16 ⟨rfl, hb16⟩
              have hB16 := (HB13.out.trans (HB15.out.mono HB13.out.size)).trans (hb16.mono (Nat.le_trans HB13.out.size HB15.out.size))
              clear hb16
              go_wp2_with fail
              go_ret
              exact ⟨rfl, hB16⟩

theorem owns_walk (A : Option Addr) (n c : Nat) (A2 : Option Addr) (n2 c2 : Nat) (z1 z2 : List Int) (k : Int) (w : World) (h1 : IsRow .u32 w A n c z1) (h2 : IsRow .u32 w A2 n2 c2 z2) :
    Calls Try.prog 3 #[.slice A n c, .slice A2 n2 c2, .int .i64 k] w (Yes w) := by
  obtain ⟨l1, rfl, hlo1, hr1, hA1, hc1, hm1⟩ := row_limbs h1
  obtain ⟨l2, rfl, hlo2, hr2, hA2, hc2, hm2⟩ := row_limbs h2
  by_cases hf : 400 < l1.length ∨ 400 < l2.length
  · exact owns_far A _ c A2 _ c2 k w hf (Nat.le_trans hc1 hm1) (Nat.le_trans hc2 hm2)
  · exact owns_near A c l1 A2 c2 l2 k w hr1 hr2 hlo1 hlo2 (by omega) (by omega) hA1 hA2 hc1 hc2
end Go.Proofs.Ytpklbdgajbfaiaa
