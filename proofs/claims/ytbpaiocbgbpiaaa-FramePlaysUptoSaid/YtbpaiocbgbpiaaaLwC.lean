/- Both frames play a script: walked. -/
import Derived.Test.YtbpaiocbgbpiaaaLwD0
import Derived.Test.YtbpaiocbgbpiaaaLwD3
import Derived.Test.YtbpaiocbgbpiaaaLwD4
namespace Go.Proofs.Ytbpaiocbgbpiaaa
open Go.RowKit
set_option linter.unusedVariables false
set_option linter.unusedSimpArgs false

set_option maxRecDepth 20000 in
set_option maxHeartbeats 100000000 in
theorem plays_any (A : Option Addr) (c : Nat) (l : List OpD) (W : World) (hr : RowA W 5 (.slice A l.length c) l.length (l.flatMap opC)) (hq : ∀ o ∈ l, OpOk W o) :
    Calls Try.prog 6 #[.slice A l.length c] W fun e w' => e = .returned (.bool true) ∧ Below W.heap.size W w' := by
  have HF := Lib.hid (fixed_any W)
  by_cases hlen : 150 < l.length
  · have l1 : (150 : Int) < (l.length : Int) := by omega
    clear hr hq hlen
    go_enter Try.func6, Try.ntmps6
    go_wp2_with fail
    refine HF.out.mono ?_
    rintro e w1 ⟨rfl, hb1⟩
    have HB1 := Lib.hid hb1
    clear hb1 HF
    go_wp2_with fail
    go_ret
    exact ⟨rfl, HB1.out⟩
  · have l1 : ¬ (150 : Int) < (l.length : Int) := by omega
    have HR := Lib.hid (And.intro hr (And.intro hq hlen))
    clear hr hq hlen
    go_enter Try.func6, Try.ntmps6
    go_wp2_with fail
    refine HF.out.mono ?_
    rintro e w1 ⟨rfl, hb1⟩
    have HB1 := Lib.hid hb1
    clear hb1 HF
    go_wp2_with fail
    refine (new_any w1).mono ?_
    rintro e w2 ⟨G0, rfl, hL, _⟩
    have H0 := Lib.hid (lb_start HB1.out hL rfl)
    clear hL
    generalize G0.F = F at *
    go_wp2_with fail
    generalize hmm : w2.heap.size = m at *
    go_loopg [36, 5] l.length (fun g v36 v5 wr => ∃ i : Nat, v36 = .int .i64 (i : Int) ∧ i ≤ l.length ∧ g = l.length - i ∧ LI W m F i v5 wr)
    case atStart => exact ⟨0, rfl, Nat.zero_le _, by omega, H0.out⟩
    case round =>
      obtain ⟨i, rfl, hi, rfl, G, st, hB, hn, hl, hca⟩ := hrel
      by_cases hlt : i < l.length
      · have i1 : (i : Int) < (l.length : Int) := by omega
        have i0 : (0 : Int) ≤ (i : Int) := by omega
        have i3 : i < 150 := by have := HR.out.2.2; omega
        have i4 : (l.length : Int) ≤ 150 := by have := HR.out.2.2; omega
        obtain ⟨b0, off0, hA', d0, d1, d2, d3, d4⟩ := op_lies HR.out.1 hlt
        have hO := HR.out.2.1 l[i] (List.getElem_mem hlt)
        subst hA'
        generalize l[i] = o at *
        obtain ⟨kd, nm, tx, pv, ps, av, ag⟩ := o
        dsimp only at d0 d1 d2 d3 d4
        obtain ⟨Ap, cp, hpv⟩ := hO.ps.shape
        obtain ⟨Ag, cg, hav⟩ := hO.ag.shape
        dsimp only at hpv hav
        subst hpv hav
        have hbl := hB.l.bl
        have e0 := (hbl.cell (lt_of_cell d0)).trans d0
        have e1 := (hbl.cell (lt_of_cell d1)).trans d1
        have e2 := (hbl.cell (lt_of_cell d2)).trans d2
        have e3 := (hbl.cell (lt_of_cell d3)).trans d3
        have e4 := (hbl.cell (lt_of_cell d4)).trans d4
        have HO := Lib.hid hO
        have HB := Lib.hid (And.intro hB (And.intro hn (And.intro hl hca)))
        have HLT := Lib.hid (And.intro hlt i3)
        clear d0 d1 d2 d3 d4 hbl hO hn hl hca hlt i3
        go_upto_block 2 with fail
        have hbA : Below wr.heap.size wr (wr.alloc (.cells #[.int .i64 kd, .string nm, .string tx, .slice Ap ps.length cp, .slice Ag ag.length cg] 64)) := (Below.refl _ wr).alloc (Nat.le_refl _) _
        have hbx : (wr.alloc (.cells #[.int .i64 kd, .string nm, .string tx, .slice Ap ps.length cp, .slice Ag ag.length cg] 64)).heap[wr.heap.size]? = some (.cells #[.int .i64 kd, .string nm, .string tx, .slice Ap ps.length cp, .slice Ag ag.length cg] 64 (0, 0)) := at_new rfl
        have hBA := hB.below hbA
        generalize wr.alloc (.cells #[.int .i64 kd, .string nm, .string tx, .slice Ap ps.length cp, .slice Ag ag.length cg] 64) = wA at *
        generalize hBo : wr.heap.size = Bo at *
        have HBA := Lib.hid (And.intro hBA hbx)
        have c0 : wA.cell? ⟨Bo, 0, none⟩ = some (.int .i64 kd) := cell_of_row wA _ 0 _ _ _ hbx
        have c1 : wA.cell? ⟨Bo, 1, none⟩ = some (.string nm) := cell_of_row wA _ 1 _ _ _ hbx
        have c2 : wA.cell? ⟨Bo, 2, none⟩ = some (.string tx) := cell_of_row wA _ 2 _ _ _ hbx
        have c3 : wA.cell? ⟨Bo, 3, none⟩ = some (.slice Ap ps.length cp) := cell_of_row wA _ 3 _ _ _ hbx
        have c4 : wA.cell? ⟨Bo, 4, none⟩ = some (.slice Ag ag.length cg) := cell_of_row wA _ 4 _ _ _ hbx
        clear hB hbA hBA hbx hBo e0 e1 e2 e3 e4 hi
        go_cut [5] (fun v5 wx => LJ W m F i Bo (opA kd nm tx (.slice Ap ps.length cp) (.slice Ag ag.length cg)) v5 wx)
        case first =>
          rename_i J K0 hJ hK
          have HB' := Lib.hid (show True ∧ st.n ≤ i ∧ st.sl.length ≤ i * 2097154 ∧ st.ca.length ≤ 24 from ⟨trivial, HB.out.2⟩)
          have HLT' := Lib.hid (show True ∧ i < 150 from ⟨trivial, HLT.out.2⟩)
          clear c0 c1 c2 c3 c4
          by_cases k1 : kd = 1
          · subst k1
            refine sw1_any HBA HO HB' HLT' ?_ hJ hK
            exact rfl
          · by_cases k2 : kd = 2
            · subst k2
              refine sw2_any HBA HO HB' HLT' ?_ hJ hK
              exact rfl
            · by_cases k3 : kd = 3
              · subst k3
                refine sw3_any HBA HO HB' HLT' ?_ hJ hK
                exact rfl
              · by_cases k4 : kd = 4
                · subst k4
                  refine sw4_any HBA HO HB' HLT' ?_ hJ hK
                  exact rfl
                · by_cases k5 : kd = 5
                  · subst k5
                    refine sw5_any HBA HO HB' HLT' ?_ hJ hK
                    exact rfl
                  · refine sw0_any kd (by simp [k1]) (by simp [k2]) (by simp [k3]) (by simp [k4]) (by simp [k5]) HBA HO HB' HLT' ?_ hJ hK
                    exact rfl
        case rest =>
          obtain ⟨G1, st1, hB1, hn1, hl1, hca1, hbx1⟩ := hcut
          have hok1 := hB1.l.ok
          have hs1 := li_small HLT.out.2 hl1
          have hdr : Below wc.heap.size wc wc.drew := (Below.refl _ _).drew
          have hbx1' := (hdr.block _ (Array.getElem?_eq_some_iff.1 hbx1).1).trans hbx1
          obtain ⟨vS, vGN, vGS, vC, pz, gp, cp, hDF⟩ := hB1.d
          obtain ⟨A3, c3, rfl⟩ := hDF.cr.shape
          have hK1 := lb_kindT (hB1.below hdr) nm HO.out.nm (by omega) (hDF.below hdr)
          have q1 : wc.cell? ⟨Bo, 1, none⟩ = some (.string nm) := cell_of_row wc _ 1 _ _ _ hbx1
          have q3 := hDF.cells.2.2.2.1
          have hkf := kindS_facts st1 hok1 nm
          have HS0 := Lib.hid (show wc.drew.cell? ⟨Bo, 1, none⟩ = some (.string nm) ∧ wc.drew.cell? ⟨m, 3, none⟩ = some (.slice A3 st1.ca.length c3) from ⟨q1, q3⟩)
          have HK := Lib.hid (fun w5 (h : (∃ G', LB W m F G' (kindS st1 nm).1 st1 (st1.n + 1) u5 w5) ∧ Keep wc.drew w5 ∧ DF m vS vGN vGS (.slice A3 st1.ca.length c3) pz gp cp st1 w5) => show (w5.cell? ⟨Bo, 1, none⟩ = some (.string nm) ∧ w5.cell? ⟨m, 3, none⟩ = some (.slice A3 st1.ca.length c3)) ∧ Calls Try.prog 26 #[.pointer (some ⟨m, 0, none⟩), .string nm] w5 (fun e w' => e = .returned (.int .i64 ((kindS st1 nm).2 : Int)) ∧ (∃ G', LB W m F G' (kindS st1 nm).1 (kindS st1 nm).1 (st1.n + 1) u5 w') ∧ w'.cell? ⟨Bo, 1, none⟩ = some (.string nm) ∧ w'.cell? ⟨m, 3, none⟩ = some (.slice A3 st1.ca.length c3)) from by
            obtain ⟨⟨G', hB⟩, hk, hDF5⟩ := h
            refine ⟨⟨cell_of_row w5 _ 1 _ _ _ (hk.stay _ _ _ (by decide) hbx1'), hDF5.cells.2.2.2.1⟩, (lb_kind24T hB hok1 nm (by omega) (by omega) hDF5).mono ?_⟩
            rintro e w' ⟨he, hB', hk', hq⟩
            exact ⟨he, ⟨G', hB'⟩, cell_of_row w' _ 1 _ _ _ (hk'.stay _ _ _ (by decide) (hk.stay _ _ _ (by decide) hbx1')), hq⟩)
          have HD := Lib.hid (fun w6 (h : ∃ G', LB W m F G' (kindS st1 nm).1 (kindS st1 nm).1 (st1.n + 1) u5 w6) => show Calls Try.prog 15 #[.pointer (some ⟨F, 0, none⟩)] w6 (fun e w' => e = .returned (.int .i64 (st1.ca.length : Int)) ∧ w6 = w') from by
            obtain ⟨G', hB⟩ := h
            have := lb_depth hB
            rw [hkf.1] at this
            exact this)
          have HK1 := Lib.hid hK1
          have HN := Lib.hid (And.intro hn1 (And.intro hl1 (And.intro hca1 hkf)))
          clear hB1 hn1 hl1 hca1 hbx1 hok1 hs1 hdr hbx1' hK1 hkf hDF q1 q3
          go_upto_region 53 with fail
          go_region_held3 (fun W => W.cell? ⟨Bo, 1, none⟩ = some (.string nm) ∧ W.cell? ⟨m, 3, none⟩ = some (.slice A3 st1.ca.length c3))
            (first | exact HS0.out | exact hS5 | exact hS6)
            (first
              | (refine step_call2 10 (.tmp 207) (.tmp 209) #[23, 9] en_kind rfl rfl rfl rfl HK1.out ?_; intro w5 hR5; obtain ⟨hS5, HC5⟩ := HK.out w5 hR5; have HK5 := Lib.hid HC5; clear HC5 hR5)
              | (refine step_call2 26 (.tmp 211) (.tmp 213) #[53, 9] en_kind24 rfl rfl rfl rfl HK5.out ?_; intro w6 hR6; obtain ⟨hR6, hS6⟩ := hR6; have HD6 := Lib.hid (HD.out w6 hR6); have HB6 := Lib.hid hR6; clear hR6)
              | (refine step_call1g 15 (.tmp 217) #[23] en_depth rfl rfl rfl HD6.out ?_; rintro w7 rfl))
          all_goals
            go_wp2_with fail
            go_roundg (l.length - (i + 1))
            case measure => have := HLT.out.1; omega
            case rel =>
              obtain ⟨G6, hB6⟩ := HB6.out
              obtain ⟨hn1, hl1, hca1, f1, f2, f3⟩ := HN.out
              exact ⟨i + 1, by go_num, HLT.out.1, rfl, G6, _, by rw [f2]; exact hB6, by rw [f2]; exact hn1, li_next hl1 f3, by rw [f1]; exact hca1⟩
      · obtain rfl : i = l.length := by omega
        have HE := Lib.hid hB.l.bl
        clear hB hn hl hca hlt hi
        go_wp2_with fail
        go_ret
        exact ⟨rfl, HE.out⟩
end Go.Proofs.Ytbpaiocbgbpiaaa
