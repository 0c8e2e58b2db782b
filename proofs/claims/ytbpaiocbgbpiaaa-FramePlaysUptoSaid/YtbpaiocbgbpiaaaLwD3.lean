/- Both frames play a script: a call's part, walked. -/
import Derived.Test.YtbpaiocbgbpiaaaLwI
namespace Go.Proofs.Ytbpaiocbgbpiaaa
open Go.RowKit
set_option linter.unusedVariables false
set_option linter.unusedSimpArgs false

set_option maxRecDepth 20000 in
set_option maxHeartbeats 60000000 in
theorem sw3_any {W wA : World} {m F i Bo : Nat} {G : GH} {st : FS} {u5 : Value} {nm tx : ByteArray} {Ap Ag : Option Addr} {cp cg : Nat} {ps : List ByteArray} {ag : List AD} (HBA : Hid (LB W m F G st st (st.n + 1) u5 wA ∧ wA.heap[Bo]? = some (.cells #[.int .i64 3, .string nm, .string tx, .slice Ap ps.length cp, .slice Ag ag.length cg] 64 (0, 0))))
    (HO : Hid (OpOk W ⟨3, nm, tx, .slice Ap ps.length cp, ps, .slice Ag ag.length cg, ag⟩)) (HB : Hid (True ∧ st.n ≤ i ∧ st.sl.length ≤ i * 2097154 ∧ st.ca.length ≤ 24)) (HLT : Hid (True ∧ i < 150))
    {v0 v1 v2 v6 v8 v9 v10 v11 v12 v13 v14 v15 v16 v17 v18 v19 v20 v21 v22 v23 v24 v25 v26 v27 v28 v29 v30 v31 v32 v33 v34 v35 v36 v37 v38 v39 v40 v42 v43 v44 v45 v46 v47 v48 v49 v50 v51 v52 v53 v54 v55 v56 v57 v58 v59 v60 v61 v62 v63 v64 v65 v66 v67 v68 v69 v70 v71 v72 v73 v74 v75 v76 v77 v78 v79 v80 v81 v82 v83 v84 v85 v86 v87 v88 v89 v90 v91 v92 v93 v94 v95 v96 v97 v98 v99 v100 v101 v102 v103 v104 v105 v106 v107 v108 v109 v110 v111 v112 v113 v114 v115 v116 v117 v118 v119 v120 v121 v122 v123 v124 v125 v126 v127 v128 v129 v130 v131 v132 v133 v134 v135 v136 v137 v138 v139 v140 v141 v142 v143 v144 v145 v146 v147 v148 v149 v150 v151 v152 v153 v154 v155 v156 v157 v158 v159 v160 v161 v162 v163 v164 v165 v166 v167 v168 v169 v170 v171 v172 v173 v174 v175 v176 v177 v178 v179 v180 v181 v182 v183 v184 v185 v186 v187 v188 v189 v190 v191 v192 v193 v194 v195 v196 v197 v198 v199 v200 v201 v202 v203 v204 v205 v206 v207 v208 v209 v210 v211 v212 v213 v214 v215 v216 v217 v218 v219 v220 v221 v222 v223 v224 v225 v226 : Value} {c : Code} (hc : IsSw c) {J K0 K1 K2 K3 : Act → World → Prop} {POST : Ending → World → Prop}
    (hJ : ∀ (a' : Act) (w' : World), (∃ u2 u5 u8 u9 u10 u11 u12 u13 u14 u15 u16 u17 u18 u20 u21 u37 u38 u39 u40 u42 u43 u44 u45 u46 u47 u48 u49 u50 u51 u52 u53 u54 u55 u56 u57 u58 u59 u60 u61 u62 u63 u64 u65 u66 u67 u68 u69 u70 u71 u72 u73 u74 u75 u76 u77 u78 u79 u80 u81 u82 u83 u84 u85 u86 u87 u88 u89 u90 u91 u92 u93 u94 u95 u96 u97 u98 u99 u100 u101 u102 u103 u104 u105 u106 u107 u108 u109 u110 u111 u112 u113 u114 u115 u116 u117 u118 u119 u120 u121 u122 u123 u124 u125 u126 u127 u128 u129 u130 u131 u132 u133 u134 u135 u136 u137 u138 u139 u140 u141 u142 u143 u144 u145 u146 u147 u148 u149 u150 u151 u152 u153 u154 u155 u156 u157 u158 u159 u160 u161 u162 u163 u164 u165 u166 u167 u168 u169 u170 u171 u172 u173 u174 u175 u176 u177 u178 u179 u180 u181 u182 u183 u184 u185 u186 u187 u188 u189 u190 u191 u192 u193 u194 u195 u196 u197 u198 u199 u200 u201 u202 u203 u204 u205 u206 u207 u208 u209 u210 u211 u212 u213 u214 u215 u216 u217 u218 u219 u220 u221 u222 u223 u224 u225 u226, LJ W m F i Bo (opA (3) nm tx (.slice Ap ps.length cp) (.slice Ag ag.length cg)) u5 w' ∧ a' = { tmps := #[v0, v1, u2, .pointer (some ⟨F, 0, none⟩), .pointer (some ⟨m, 0, none⟩), u5, v6, .pointer (some ⟨Bo, 0, none⟩), u8, u9, u10, u11, u12, u13, u14, u15, u16, u17, u18, v19, u20, u21, v22, v23, v24, v25, v26, v27, v28, v29, v30, v31, v32, v33, v34, v35, v36, u37, u38, u39, u40, .int .i64 3, u42, u43, u44, u45, u46, u47, u48, u49, u50, u51, u52, u53, u54, u55, u56, u57, u58, u59, u60, u61, u62, u63, u64, u65, u66, u67, u68, u69, u70, u71, u72, u73, u74, u75, u76, u77, u78, u79, u80, u81, u82, u83, u84, u85, u86, u87, u88, u89, u90, u91, u92, u93, u94, u95, u96, u97, u98, u99, u100, u101, u102, u103, u104, u105, u106, u107, u108, u109, u110, u111, u112, u113, u114, u115, u116, u117, u118, u119, u120, u121, u122, u123, u124, u125, u126, u127, u128, u129, u130, u131, u132, u133, u134, u135, u136, u137, u138, u139, u140, u141, u142, u143, u144, u145, u146, u147, u148, u149, u150, u151, u152, u153, u154, u155, u156, u157, u158, u159, u160, u161, u162, u163, u164, u165, u166, u167, u168, u169, u170, u171, u172, u173, u174, u175, u176, u177, u178, u179, u180, u181, u182, u183, u184, u185, u186, u187, u188, u189, u190, u191, u192, u193, u194, u195, u196, u197, u198, u199, u200, u201, u202, u203, u204, u205, u206, u207, u208, u209, u210, u211, u212, u213, u214, u215, u216, u217, u218, u219, u220, u221, u222, u223, u224, u225, u226], defers := [] }) → J a' w')
    (hK : ∀ (a' : Act) (w' : World), Met J a' w' → K0 a' w') :
    Code.wp Try.prog c (Exit.then K0 (Exit.inBlock 1 (Exit.then K1 (Exit.then K2 (Exit.inBlock 0 (Exit.then K3 (bodyPost Try.prog Try.f6 POST))))))) { tmps := #[v0, v1, v2, .pointer (some ⟨F, 0, none⟩), .pointer (some ⟨m, 0, none⟩), u5, v6, .pointer (some ⟨Bo, 0, none⟩), v8, v9, v10, v11, v12, v13, v14, v15, v16, v17, v18, v19, v20, v21, v22, v23, v24, v25, v26, v27, v28, v29, v30, v31, v32, v33, v34, v35, v36, v37, v38, v39, v40, .int .i64 3, v42, v43, v44, v45, v46, v47, v48, v49, v50, v51, v52, v53, v54, v55, v56, v57, v58, v59, v60, v61, v62, v63, v64, v65, v66, v67, v68, v69, v70, v71, v72, v73, v74, v75, v76, v77, v78, v79, v80, v81, v82, v83, v84, v85, v86, v87, v88, v89, v90, v91, v92, v93, v94, v95, v96, v97, v98, v99, v100, v101, v102, v103, v104, v105, v106, v107, v108, v109, v110, v111, v112, v113, v114, v115, v116, v117, v118, v119, v120, v121, v122, v123, v124, v125, v126, v127, v128, v129, v130, v131, v132, v133, v134, v135, v136, v137, v138, v139, v140, v141, v142, v143, v144, v145, v146, v147, v148, v149, v150, v151, v152, v153, v154, v155, v156, v157, v158, v159, v160, v161, v162, v163, v164, v165, v166, v167, v168, v169, v170, v171, v172, v173, v174, v175, v176, v177, v178, v179, v180, v181, v182, v183, v184, v185, v186, v187, v188, v189, v190, v191, v192, v193, v194, v195, v196, v197, v198, v199, v200, v201, v202, v203, v204, v205, v206, v207, v208, v209, v210, v211, v212, v213, v214, v215, v216, v217, v218, v219, v220, v221, v222, v223, v224, v225, v226], defers := [] } wA := by
  have c0 : wA.cell? ⟨Bo, 0, none⟩ = some (.int .i64 3) := cell_of_row wA _ 0 _ _ _ HBA.out.2
  have c1 : wA.cell? ⟨Bo, 1, none⟩ = some (.string nm) := cell_of_row wA _ 1 _ _ _ HBA.out.2
  have c2 : wA.cell? ⟨Bo, 2, none⟩ = some (.string tx) := cell_of_row wA _ 2 _ _ _ HBA.out.2
  have c3 : wA.cell? ⟨Bo, 3, none⟩ = some (.slice Ap ps.length cp) := cell_of_row wA _ 3 _ _ _ HBA.out.2
  have c4 : wA.cell? ⟨Bo, 4, none⟩ = some (.slice Ag ag.length cg) := cell_of_row wA _ 4 _ _ _ HBA.out.2
  unfold IsSw at hc
  subst hc
  conv => arg 2; whnf
  simp only [List.size_toArray]
  have hok := HBA.out.1.l.ok
  have hs1 := li_small0 HLT.out.2 HB.out.2.2.1
  have hn150 : st.n ≤ 150 := Nat.le_trans HB.out.2.1 (Nat.le_of_lt HLT.out.2)
  have f := arrS_facts st hok nm
  have hG := lb_arr HBA.out.1 nm HO.out.nm (by omega)
  obtain ⟨gM, cM, hu5, _, _⟩ := HBA.out.1.r.form (by omega)
  subst hu5
  cases hg : arrS st nm with
  | mk s1 ar =>
  obtain ⟨a, r⟩ := ar
  rw [hg] at f hG
  dsimp only at f hG
  have HG := Lib.hid hG
  have HM := Lib.hid (fun (G1 : GH) (w6 : World) (h : LB W m F G1 s1 st (st.n + 1) (.slice (some ⟨gM, 0, none⟩) (st.n + 1) cM) w6) => show Calls Try.prog 23 #[.pointer (some ⟨m, 0, none⟩), .string nm] w6 (fun e w' => e = .returned (.tuple #[.int .i64 (a : Int), .int .i64 (r : Int)]) ∧ LB W m F G1 s1 s1 (st.n + 1) (.slice (some ⟨gM, 0, none⟩) (st.n + 1) cM) w' ∧ Keep w6 w') from by
    have := lb_arr24 h hok nm (by omega) (by have := HB.out.2.2.2; omega) (by omega)
    rw [hg] at this
    exact this)
  have HFA := Lib.hid f
  have f3 := arr_split f.2.2
  have hN0 : 1 ≤ st.n + 1 := by omega
  have hNn : s1.n + 1 = st.n + 1 ∨ s1.n + 1 = st.n + 1 + 1 := by omega
  clear hok hs1 hG hg f
  generalize hN : st.n + 1 = N at *
  have HN := Lib.hid hN
  clear hN
  rcases f3 with ⟨g1, rfl, rfl⟩ | ⟨rfl, g1, g2, g3⟩
  · have HG1 := Lib.hid g1
    clear g1 hn150 hNn
    go_wp2_with fail
    refine HG.out.mono ?_
    rintro e w5 ⟨G1, rfl, hB1, hk1⟩
    dsimp only
    have q1 : w5.cell? ⟨Bo, 1, none⟩ = some (.string nm) := cell_of_row w5 _ 1 _ _ _ (hk1.stay _ _ _ (by decide) HBA.out.2)
    have HM5 := Lib.hid (HM.out G1 w5 hB1)
    have HX := Lib.hid hk1
    clear hB1 hk1
    dsimp only [arP]
    go_wp2_with fail
    refine HM5.out.mono ?_
    rintro e w6 ⟨rfl, hB2, hk2⟩
    dsimp only
    have z0 : w6.cell? ⟨gM, 0, none⟩ = some (.pointer none) := hB2.met (j := 0) (by omega)
    have hl0 : (0 : Int) < (N : Int) := by omega
    have HX2 := Lib.hid (And.intro hB2 (HX.out.trans hk2))
    clear hB2 hk2
    go_wp2_with fail
    go_loopg [5] 0 (fun g v5 wx => v5 = .slice (some ⟨gM, 0, none⟩) N cM ∧ w6 = wx)
    case atStart => exact ⟨rfl, rfl⟩
    case round =>
      obtain ⟨rfl, rfl⟩ := hrel
      go_wp2_with fail
      go_loopg [16] 0 (fun g v16 wx => v16 = .int .i64 1 ∧ w6 = wx)
      case atStart => exact ⟨rfl, rfl⟩
      case round =>
        obtain ⟨rfl, rfl⟩ := hrel
        go_wp2_with fail
        all_goals
          go_meet
          obtain ⟨hB2, hk⟩ := HX2.out
          obtain ⟨f1, f2, _⟩ := HFA.out
          exact ⟨G1, s1, by rw [HG1.out, HN.out]; exact hB2, by rw [HG1.out]; exact Nat.le_succ_of_le HB.out.2.1, lj_of HB.out.2.2.1 f2 (by decide), by rw [f1]; exact HB.out.2.2.2, hk.stay _ _ _ (by decide) HBA.out.2⟩
  · obtain ⟨a', rfl⟩ : ∃ a', a = a' + 1 := ⟨a - 1, by omega⟩
    have HAA := Lib.hid (And.intro g1 (And.intro g2 (And.intro g3 hNn)))
    clear g1 g2 g3 hNn hN0
    go_wp2_with fail
    refine HG.out.mono ?_
    rintro e w5 ⟨G1, rfl, hB1, hk1⟩
    dsimp only
    obtain ⟨b, mb, ks, a1, _, _, a4, a5⟩ := hB1.l.arr (k := a') (by have := HAA.out.2.1; omega)
    rw [a4]
    have q1 : w5.cell? ⟨Bo, 1, none⟩ = some (.string nm) := cell_of_row w5 _ 1 _ _ _ (hk1.stay _ _ _ (by decide) HBA.out.2)
    have HM5 := Lib.hid (HM.out G1 w5 hB1)
    have HX := Lib.hid (And.intro hk1 (And.intro a1 a4))
    clear hB1 hk1 a1 a4 a5
    go_wp2_with fail
    refine HM5.out.mono ?_
    rintro e w6 ⟨rfl, hB2, hk2⟩
    dsimp only
    have HX2 := Lib.hid (And.intro hB2 (HX.out.1.trans hk2))
    clear hB2 hk2
    generalize hav : a' + 1 = a at *
    have HAV := Lib.hid hav
    clear hav
    go_upto_block 3 with fail
    go_cut [5] (fun v5 wx => LB W m F G1 s1 s1 (s1.n + 1) v5 wx ∧ Keep w6 wx)
    case first =>
      go_wp2_with fail
      go_loopg [5] (s1.n + 1 - N) (fun g v5 wx => ∃ k', LB W m F G1 s1 s1 k' v5 wx ∧ Keep w6 wx ∧ N ≤ k' ∧ k' ≤ s1.n + 1 ∧ g = s1.n + 1 - k')
      case atStart => exact ⟨N, HX2.out.1, Keep.refl _, Nat.le_refl _, by have := HAA.out.2.2.2; omega, rfl⟩
      case round =>
        obtain ⟨k', hBk, hkk, p1, p2, rfl⟩ := hrel
        obtain ⟨g', c', hv, _, _⟩ := hBk.r.form (by have := HN.out; omega)
        subst hv
        by_cases hak : k' ≤ a
        · obtain rfl : k' = a := by
            have := HAA.out
            have := HN.out
            omega
          have ia : (k' : Int) ≤ (k' : Int) := Int.le_refl _
          have hr9 := hBk.r
          have hlw := hBk.l.le
          have hk9 : k' ≤ 1000 := by have := HAA.out.2.1; have := HAA.out.2.2.2; have := HN.out; omega
          have HBK := Lib.hid (And.intro hBk (And.intro hkk (And.intro p1 p2)))
          clear hBk hkk p1 p2 hak
          go_wp2_with (at_builtin; refine wpList_app_el 61 28 (.tmp 114) (.tmp 116) rfl rfl W.heap.size Try.underlying61 ptr_info rfl (by decide) rfl ((OwnZ.below (.inl hr9) ((Below.refl _ _).alloc (Nat.le_refl _) _))) rfl (news := [.pointer (some ⟨b, 0, none⟩)]) rfl (cell_news _ #[.pointer (some ⟨b, 0, none⟩)] _) (by omega) (by intro u hu; simp at hu; subst hu; rfl) (by unfold maxLen; omega) (by omega) (by simp <;> omega) ?_; intro g6 c6 w7 hown hgr hloc)
          go_roundg (s1.n + 1 - (k' + 1))
          case measure => have := HBK.out.2.2.2; have := HAA.out.2.1; omega
          case rel =>
            obtain ⟨hBk, hkk, p1, p2⟩ := HBK.out
            have hba : Below wr.heap.size wr (wr.alloc (.cells #[.pointer (some ⟨b, 0, none⟩)] 28)) := (Below.refl _ _).alloc (Nat.le_refl _) _
            have hBw := hBk.below hba
            have hT := (Turn.of_grown hgr).mono (Y := fun j => (Value.slice (some ⟨g', 0, none⟩) k' c').ownBlock = some j) (fun j e => e)
            have hrow : w7.ownsRow W.heap.size 28 1 (.slice (some ⟨g6, 0, none⟩) (k' + 1) c6) (k' + 1) (metV G1 (k' + 1)) := by
              rw [metV_snoc, HX.out.2.2]
              exact hown
            refine ⟨k' + 1, hBw.row hT hrow (by have := HAA.out.2.1; omega), hkk.trans ((Keep.below hba).trans ⟨hT.size, fun j cs T hS hj => (hT.block j (Array.getElem?_eq_some_iff.1 hj).1 fun e => ?_).trans hj⟩), by omega, by have := HAA.out.2.1; omega, rfl⟩
            obtain ⟨cx, hcx⟩ := own_obj hBw.r e
            rw [hcx] at hj
            simp at hj
            obtain ⟨_, rfl⟩ := hj
            revert hS
            decide
        · obtain rfl : k' = s1.n + 1 := by
            have := HAA.out
            have := HN.out
            omega
          have ia : ¬ ((s1.n + 1 : Nat) : Int) ≤ (a : Int) := by omega
          have HBK := Lib.hid (And.intro hBk hkk)
          clear hBk hkk p1 p2 hak
          generalize s1.n + 1 = N2 at *
          go_wp2_with fail
          go_meet
          exact HBK.out
    case rest =>
      obtain ⟨hB3, hk3⟩ := hcut
      obtain ⟨g3, c3', hv, _, _⟩ := hB3.r.form (by omega)
      subst hv
      have ka := hB3.met (j := a) (by have := HAA.out.2.1; omega)
      rw [HX.out.2.2] at ka
      have pn := ptr_not b
      have ia0 : (0 : Int) < (a : Int) := by have := HAA.out.1; omega
      have ia1 : (a : Int) < ((s1.n + 1 : Nat) : Int) := by have := HAA.out.2.1; omega
      have HB3 := Lib.hid (And.intro hB3 hk3)
      have hn9 : s1.n + 1 ≤ 1000 := by have := HAA.out.2.2.2; have := HN.out; omega
      clear hB3 hk3
      generalize hN2 : s1.n + 1 = N2 at *
      have HN2 := Lib.hid hN2
      clear hN2
      go_wp2_with fail
      go_loopg [16] (N2 - 1) (fun g v16 wx => wc = wx ∧ ∃ j : Nat, v16 = .int .i64 (j : Int) ∧ 1 ≤ j ∧ j ≤ N2 ∧ g = N2 - j)
      case atStart => exact ⟨rfl, 1, rfl, Nat.le_refl _, by have := HN2.out; omega, rfl⟩
      case round =>
        obtain ⟨rfl, j, rfl, j1, j2, rfl⟩ := hrel
        by_cases hj : j < N2
        · have ij : (j : Int) < (N2 : Int) := by omega
          have ij0 : (0 : Int) ≤ (j : Int) := by omega
          have ij3 : (N2 : Int) ≤ 1000 := by omega
          obtain ⟨j', rfl⟩ : ∃ j', j = j' + 1 := ⟨j - 1, by omega⟩
          obtain ⟨bj, _, _, e1, _, _, e4, e5⟩ := HB3.out.1.l.arr (k := j') (by have := HN2.out; omega)
          have kj := HB3.out.1.met (j := j' + 1) hj
          rw [e4] at kj
          obtain ⟨b', _, _, e1', _, _, e4', e5'⟩ := HB3.out.1.l.arr (k := a') (by have := HAA.out.2.1; have := HAV.out; omega)
          have hbb : b' = b := by
            have h1 := HX.out.2.1
            rw [e1'] at h1
            exact Option.some.inj h1
          subst hbb
          have HJ := Lib.hid (And.intro hj j1)
          by_cases hja : j' + 1 = a
          · subst hja
            obtain rfl : bj = b' := by
              have h1 := HAV.out
              have : j' = a' := by omega
              subst this
              rw [e1] at e1'
              exact Option.some.inj e1'
            have pe := ptr_same bj
            clear e1 e4 e5 e1' e4' e5' hj j1 j2
            go_wp2_with fail
            go_roundg (N2 - (j' + 1 + 1))
            case measure => have := HJ.out.1; omega
            case rel => exact ⟨rfl, j' + 1 + 1, by go_num, by omega, HJ.out.1, rfl⟩
          · have hne : bj ≠ b' := fun e => by
              subst e
              have hnd := HB3.out.1.l.fr.nd.2.1
              have := (List.getElem_inj (h₀ := (List.getElem?_eq_some_iff.1 e1).1) (h₁ := (List.getElem?_eq_some_iff.1 e1').1) hnd).1 ((List.getElem?_eq_some_iff.1 e1).2.trans (List.getElem?_eq_some_iff.1 e1').2.symm)
              have := HAV.out
              omega
            have pe := ptr_other hne e5.objs.1 e5'.objs.1
            have bja : (((j' + 1 : Nat) : Int) == (a : Int)) = false := by rw [beq_eq_false_iff_ne]; omega
            clear e1 e4 e5 e1' e4' e5' hj j1 j2 hja hne
            go_wp2_with fail
            go_roundg (N2 - (j' + 1 + 1))
            case measure => have := HJ.out.1; omega
            case rel => exact ⟨rfl, j' + 1 + 1, by go_num, by omega, HJ.out.1, rfl⟩
        · obtain rfl : j = N2 := by omega
          have ij : ¬ ((j : Int) < (j : Int)) := by omega
          clear hj j1 j2
          go_wp2_with fail
          go_meet
          obtain ⟨hB3, hk3⟩ := HB3.out
          obtain ⟨f1, f2, _⟩ := HFA.out
          exact ⟨G1, s1, by rw [HN2.out]; exact hB3, by have := HAA.out.2.2.2; have := HN.out; have := HN2.out; have := HB.out.2.1; omega, lj_of HB.out.2.2.1 f2 (by decide), by rw [f1]; exact HB.out.2.2.2, (HX2.out.2.trans hk3).stay _ _ _ (by decide) HBA.out.2⟩
end Go.Proofs.Ytbpaiocbgbpiaaa
