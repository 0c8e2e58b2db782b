/- Both frames play a script: a call's part, walked. -/
import Derived.Test.YtbpaiocbgbpiaaaLwI
namespace Go.Proofs.Ytbpaiocbgbpiaaa
open Go.RowKit
set_option linter.unusedVariables false
set_option linter.unusedSimpArgs false

set_option maxRecDepth 20000 in
set_option maxHeartbeats 60000000 in
theorem sw4_any {W wA : World} {m F i Bo : Nat} {G : GH} {st : FS} {u5 : Value} {nm tx : ByteArray} {Ap Ag : Option Addr} {cp cg : Nat} {ps : List ByteArray} {ag : List AD} (HBA : Hid (LB W m F G st st (st.n + 1) u5 wA ∧ wA.heap[Bo]? = some (.cells #[.int .i64 4, .string nm, .string tx, .slice Ap ps.length cp, .slice Ag ag.length cg] 64 (0, 0))))
    (HO : Hid (OpOk W ⟨4, nm, tx, .slice Ap ps.length cp, ps, .slice Ag ag.length cg, ag⟩)) (HB : Hid (True ∧ st.n ≤ i ∧ st.sl.length ≤ i * 2097154 ∧ st.ca.length ≤ 24)) (HLT : Hid (True ∧ i < 150))
    {v0 v1 v2 v6 v8 v9 v10 v11 v12 v13 v14 v15 v16 v17 v18 v19 v20 v21 v22 v23 v24 v25 v26 v27 v28 v29 v30 v31 v32 v33 v34 v35 v36 v37 v38 v39 v40 v42 v43 v44 v45 v46 v47 v48 v49 v50 v51 v52 v53 v54 v55 v56 v57 v58 v59 v60 v61 v62 v63 v64 v65 v66 v67 v68 v69 v70 v71 v72 v73 v74 v75 v76 v77 v78 v79 v80 v81 v82 v83 v84 v85 v86 v87 v88 v89 v90 v91 v92 v93 v94 v95 v96 v97 v98 v99 v100 v101 v102 v103 v104 v105 v106 v107 v108 v109 v110 v111 v112 v113 v114 v115 v116 v117 v118 v119 v120 v121 v122 v123 v124 v125 v126 v127 v128 v129 v130 v131 v132 v133 v134 v135 v136 v137 v138 v139 v140 v141 v142 v143 v144 v145 v146 v147 v148 v149 v150 v151 v152 v153 v154 v155 v156 v157 v158 v159 v160 v161 v162 v163 v164 v165 v166 v167 v168 v169 v170 v171 v172 v173 v174 v175 v176 v177 v178 v179 v180 v181 v182 v183 v184 v185 v186 v187 v188 v189 v190 v191 v192 v193 v194 v195 v196 v197 v198 v199 v200 v201 v202 v203 v204 v205 v206 v207 v208 v209 v210 v211 v212 v213 v214 v215 v216 v217 v218 v219 v220 v221 v222 v223 v224 v225 v226 : Value} {c : Code} (hc : IsSw c) {J K0 K1 K2 K3 : Act → World → Prop} {POST : Ending → World → Prop}
    (hJ : ∀ (a' : Act) (w' : World), (∃ u2 u5 u8 u9 u10 u11 u12 u13 u14 u15 u16 u17 u18 u20 u21 u37 u38 u39 u40 u42 u43 u44 u45 u46 u47 u48 u49 u50 u51 u52 u53 u54 u55 u56 u57 u58 u59 u60 u61 u62 u63 u64 u65 u66 u67 u68 u69 u70 u71 u72 u73 u74 u75 u76 u77 u78 u79 u80 u81 u82 u83 u84 u85 u86 u87 u88 u89 u90 u91 u92 u93 u94 u95 u96 u97 u98 u99 u100 u101 u102 u103 u104 u105 u106 u107 u108 u109 u110 u111 u112 u113 u114 u115 u116 u117 u118 u119 u120 u121 u122 u123 u124 u125 u126 u127 u128 u129 u130 u131 u132 u133 u134 u135 u136 u137 u138 u139 u140 u141 u142 u143 u144 u145 u146 u147 u148 u149 u150 u151 u152 u153 u154 u155 u156 u157 u158 u159 u160 u161 u162 u163 u164 u165 u166 u167 u168 u169 u170 u171 u172 u173 u174 u175 u176 u177 u178 u179 u180 u181 u182 u183 u184 u185 u186 u187 u188 u189 u190 u191 u192 u193 u194 u195 u196 u197 u198 u199 u200 u201 u202 u203 u204 u205 u206 u207 u208 u209 u210 u211 u212 u213 u214 u215 u216 u217 u218 u219 u220 u221 u222 u223 u224 u225 u226, LJ W m F i Bo (opA (4) nm tx (.slice Ap ps.length cp) (.slice Ag ag.length cg)) u5 w' ∧ a' = { tmps := #[v0, v1, u2, .pointer (some ⟨F, 0, none⟩), .pointer (some ⟨m, 0, none⟩), u5, v6, .pointer (some ⟨Bo, 0, none⟩), u8, u9, u10, u11, u12, u13, u14, u15, u16, u17, u18, v19, u20, u21, v22, v23, v24, v25, v26, v27, v28, v29, v30, v31, v32, v33, v34, v35, v36, u37, u38, u39, u40, .int .i64 4, u42, u43, u44, u45, u46, u47, u48, u49, u50, u51, u52, u53, u54, u55, u56, u57, u58, u59, u60, u61, u62, u63, u64, u65, u66, u67, u68, u69, u70, u71, u72, u73, u74, u75, u76, u77, u78, u79, u80, u81, u82, u83, u84, u85, u86, u87, u88, u89, u90, u91, u92, u93, u94, u95, u96, u97, u98, u99, u100, u101, u102, u103, u104, u105, u106, u107, u108, u109, u110, u111, u112, u113, u114, u115, u116, u117, u118, u119, u120, u121, u122, u123, u124, u125, u126, u127, u128, u129, u130, u131, u132, u133, u134, u135, u136, u137, u138, u139, u140, u141, u142, u143, u144, u145, u146, u147, u148, u149, u150, u151, u152, u153, u154, u155, u156, u157, u158, u159, u160, u161, u162, u163, u164, u165, u166, u167, u168, u169, u170, u171, u172, u173, u174, u175, u176, u177, u178, u179, u180, u181, u182, u183, u184, u185, u186, u187, u188, u189, u190, u191, u192, u193, u194, u195, u196, u197, u198, u199, u200, u201, u202, u203, u204, u205, u206, u207, u208, u209, u210, u211, u212, u213, u214, u215, u216, u217, u218, u219, u220, u221, u222, u223, u224, u225, u226], defers := [] }) → J a' w')
    (hK : ∀ (a' : Act) (w' : World), Met J a' w' → K0 a' w') :
    Code.wp Try.prog c (Exit.then K0 (Exit.inBlock 1 (Exit.then K1 (Exit.then K2 (Exit.inBlock 0 (Exit.then K3 (bodyPost Try.prog Try.f6 POST))))))) { tmps := #[v0, v1, v2, .pointer (some ⟨F, 0, none⟩), .pointer (some ⟨m, 0, none⟩), u5, v6, .pointer (some ⟨Bo, 0, none⟩), v8, v9, v10, v11, v12, v13, v14, v15, v16, v17, v18, v19, v20, v21, v22, v23, v24, v25, v26, v27, v28, v29, v30, v31, v32, v33, v34, v35, v36, v37, v38, v39, v40, .int .i64 4, v42, v43, v44, v45, v46, v47, v48, v49, v50, v51, v52, v53, v54, v55, v56, v57, v58, v59, v60, v61, v62, v63, v64, v65, v66, v67, v68, v69, v70, v71, v72, v73, v74, v75, v76, v77, v78, v79, v80, v81, v82, v83, v84, v85, v86, v87, v88, v89, v90, v91, v92, v93, v94, v95, v96, v97, v98, v99, v100, v101, v102, v103, v104, v105, v106, v107, v108, v109, v110, v111, v112, v113, v114, v115, v116, v117, v118, v119, v120, v121, v122, v123, v124, v125, v126, v127, v128, v129, v130, v131, v132, v133, v134, v135, v136, v137, v138, v139, v140, v141, v142, v143, v144, v145, v146, v147, v148, v149, v150, v151, v152, v153, v154, v155, v156, v157, v158, v159, v160, v161, v162, v163, v164, v165, v166, v167, v168, v169, v170, v171, v172, v173, v174, v175, v176, v177, v178, v179, v180, v181, v182, v183, v184, v185, v186, v187, v188, v189, v190, v191, v192, v193, v194, v195, v196, v197, v198, v199, v200, v201, v202, v203, v204, v205, v206, v207, v208, v209, v210, v211, v212, v213, v214, v215, v216, v217, v218, v219, v220, v221, v222, v223, v224, v225, v226], defers := [] } wA := by
  have c0 : wA.cell? ⟨Bo, 0, none⟩ = some (.int .i64 4) := cell_of_row wA _ 0 _ _ _ HBA.out.2
  have c1 : wA.cell? ⟨Bo, 1, none⟩ = some (.string nm) := cell_of_row wA _ 1 _ _ _ HBA.out.2
  have c2 : wA.cell? ⟨Bo, 2, none⟩ = some (.string tx) := cell_of_row wA _ 2 _ _ _ HBA.out.2
  have c3 : wA.cell? ⟨Bo, 3, none⟩ = some (.slice Ap ps.length cp) := cell_of_row wA _ 3 _ _ _ HBA.out.2
  have c4 : wA.cell? ⟨Bo, 4, none⟩ = some (.slice Ag ag.length cg) := cell_of_row wA _ 4 _ _ _ HBA.out.2
  unfold IsSw at hc
  subst hc
  conv => arg 2; whnf
  simp only [List.size_toArray]
  obtain ⟨gM, cM, hu5, _, _⟩ := HBA.out.1.r.form (by omega)
  subst hu5
  have hn150 : st.n ≤ 150 := Nat.le_trans HB.out.2.1 (Nat.le_of_lt HLT.out.2)
  have hag : ag.length ≤ 1048576 := HO.out.an
  have iag : (ag.length : Int) ≤ 1048576 := by omega
  have H00 := Lib.hid (show LP W m F G st (st.n + 1) (.slice (some ⟨gM, 0, none⟩) (st.n + 1) cM) wA ag 0 (.slice none 0 0) (.slice none 0 0) wA from ⟨HBA.out.1, Keep.refl _, own_none _ _ _, own_none _ _ _⟩)
  have hNi : ((st.n + 1 : Nat) : Int) ≤ 151 := by omega
  have hN0 : 0 < st.n + 1 := Nat.succ_pos _
  generalize hN : st.n + 1 = N at *
  have HN := Lib.hid hN
  clear hN
  go_wp2_with fail
  go_loopg [149, 17, 18] ag.length (fun g v149 v17 v18 wx => ∃ j : Nat, v149 = .int .i64 (j : Int) ∧ j ≤ ag.length ∧ g = ag.length - j ∧ LP W m F G st N (.slice (some ⟨gM, 0, none⟩) N cM) wA ag j v17 v18 wx)
  case atStart => exact ⟨0, rfl, Nat.zero_le _, rfl, H00.out⟩
  case round =>
    obtain ⟨j, rfl, hj0, rfl, hP⟩ := hrel
    obtain ⟨A17, d17, hv17⟩ := own_shape hP.p
    obtain ⟨A18, d18, hv18⟩ := own_shape hP.q
    subst hv17 hv18
    by_cases hj : j < ag.length
    · have ij : (j : Int) < (ag.length : Int) := by omega
      have ij0 : (0 : Int) ≤ (j : Int) := by omega
      obtain ⟨bg, og, hAg, t0, t1, t2⟩ := ad_lies HO.out.ag hj
      obtain ⟨za1, za2⟩ := HO.out.az _ (List.getElem_mem hj)
      have htk : ag.take (j + 1) = ag.take j ++ [ag[j]] := List.take_succ_eq_append_getElem hj
      try dsimp only at t0 t1 t2 hAg
      subst hAg
      generalize ag[j] = aj at *
      obtain ⟨ar, an, atx⟩ := aj
      try dsimp only at t0 t1 t2 za1 za2
      have hbl := hP.b.l.bl
      replace t0 := (hbl.cell (lt_of_cell t0)).trans t0
      replace t1 := (hbl.cell (lt_of_cell t1)).trans t1
      replace t2 := (hbl.cell (lt_of_cell t2)).trans t2
      have HJ := Lib.hid (And.intro hj (And.intro htk (And.intro za1 za2)))
      have HPP := Lib.hid hP
      clear hbl hj htk za1 za2 hP hj0
      go_upto_region 43 with fail
      have hba : Below wr.heap.size wr (wr.alloc (.cells #[.int .i64 ar, .string an, .string atx] 72)) := (Below.refl _ _).alloc (Nat.le_refl _) _
      have hbx2 : (wr.alloc (.cells #[.int .i64 ar, .string an, .string atx] 72)).heap[wr.heap.size]? = some (.cells #[.int .i64 ar, .string an, .string atx] 72 (0, 0)) := at_new rfl
      have hP := HPP.out
      have hQ : LQ W m F G st N (.slice (some ⟨gM, 0, none⟩) N cM) wA wr.heap.size #[.int .i64 ar, .string an, .string atx] j _ j _ (.slice A17 j d17) (.slice A18 j d18) (wr.alloc (.cells #[.int .i64 ar, .string an, .string atx] 72)) := ⟨hP.b.below hba, hP.k.trans (Keep.below hba), hbx2, own_same hP.p fun j hj => hba.block j (hP.p.lt j hj).2, own_same hP.q fun j hj => hba.block j (hP.q.lt j hj).2⟩
      generalize wr.alloc (.cells #[.int .i64 ar, .string an, .string atx] 72) = wB at *
      generalize wr.heap.size = Ba at *
      have x0 : wB.cell? ⟨Ba, 0, none⟩ = some (.int .i64 ar) := cell_of_row wB _ 0 _ _ _ hbx2
      have HQ := Lib.hid hQ
      clear hba hbx2 hP hQ t0 t1 t2
      go_cut [162] (fun v wz => wB = wz ∧ ∃ bb : Bool, v = .bool bb ∧ bb = decide (0 < ar ∧ ar < (N : Int)))
      case first =>
        by_cases p1 : 0 < ar
        · by_cases p2 : ar < (N : Int)
          · go_wp2_with fail
            go_meet
            exact ⟨rfl, _, rfl, by first | exact (decide_eq_true ⟨p1, p2⟩).symm | (simp [p1, p2]; done) | (simp [p1]; done)⟩
          · go_wp2_with fail
            go_meet
            exact ⟨rfl, _, rfl, by first | exact (decide_eq_false fun h => p2 h.2).symm | (simp [p1, p2]; done) | (simp [p1]; done)⟩
        · go_wp2_with fail
          go_meet
          exact ⟨rfl, _, rfl, by first | exact (decide_eq_false fun h => p1 h.1).symm | (simp [p1]; done)⟩
      case rest =>
        obtain ⟨rfl, bb, rfl, hbb⟩ := hcut
        have HBB := Lib.hid hbb
        clear hbb
        go_upto_if 162 with fail
        go_cut [21] (fun v wz => wB = wz ∧ v = .int .i64 ((argOf N (ar, an, atx)).1 : Int))
        case first =>
          cases bb with
          | true =>
            have hh := of_decide_eq_true HBB.out.symm
            have hv : ((argOf N (ar, an, atx)).1 : Int) = ar := by
              unfold argOf
              rw [if_pos hh]
              dsimp only
              omega
            have HV := Lib.hid hv
            clear hh hv
            go_wp2_with fail
            go_meet
            rw [HV.out]
            exact ⟨rfl, rfl⟩
          | false =>
            have hh := of_decide_eq_false HBB.out.symm
            have hv : ((argOf N (ar, an, atx)).1 : Int) = 0 := by
              unfold argOf
              rw [if_neg hh]
              rfl
            have HV := Lib.hid hv
            clear hh hv
            go_wp2_with fail
            go_meet
            rw [HV.out]
            exact ⟨rfl, rfl⟩
        case rest =>
          obtain ⟨rfl, hv21⟩ := hcut
          subst hv21
          have hke := argOf_lt hN0 (ar, an, atx)
          obtain ⟨pp, hpp⟩ := arP_ptr G.ab (argOf N (ar, an, atx)).1
          have hmet := HQ.out.b.met (j := (argOf N (ar, an, atx)).1) hke
          rw [hpp] at hmet
          cases hvr : valR atx with
          | mk vx vyz =>
          obtain ⟨vy, vz⟩ := vyz
          have hargs : argOf N (ar, an, atx) = ((argOf N (ar, an, atx)).1, an, (vx, vy, vz)) := by
            have : (argOf N (ar, an, atx)).2 = (an, (vx, vy, vz)) := by unfold argOf; dsimp only; rw [hvr]
            exact Prod.ext rfl this
          have HARG := Lib.hid (And.intro hargs hpp)
          have ik0 : (0 : Int) ≤ ((argOf N (ar, an, atx)).1 : Int) := by omega
          have ik1 : ((argOf N (ar, an, atx)).1 : Int) < (N : Int) := by omega
          clear hke hargs hpp
          generalize hkx : (argOf N (ar, an, atx)).1 = kx at *
          have HKX := Lib.hid hkx
          clear hkx
          have HVAL := Lib.hid (fun (w' : World) => show Calls Try.prog 21 #[.string atx] w' (fun e w'' => e = .returned (.agg #[.int .i64 vx, .float .f64 vy, .string vz]) ∧ Below w'.heap.size w' w'') from by
            have := val_any atx w' HJ.out.2.2.2
            rw [hvr] at this
            exact this)
          clear hvr
          have HS := Lib.hid (fun (w' : World) (xs ys : List Value) (n1 n2 : Nat) (v1 v2 : Value) (h : LQ W m F G st N (.slice (some ⟨gM, 0, none⟩) N cM) wA Ba #[.int .i64 ar, .string an, .string atx] n1 xs n2 ys v1 v2 w') => show w'.cell? ⟨gM, kx, none⟩ = some (.pointer pp) ∧ w'.cell? ⟨Ba, 1, none⟩ = some (.string an) ∧ w'.cell? ⟨Ba, 2, none⟩ = some (.string atx) from
            ⟨by have h1 := h.b.met (j := kx) (by omega); rw [HARG.out.2] at h1; exact h1, cell_of_row w' _ 1 _ _ _ h.x, cell_of_row w' _ 2 _ _ _ h.x⟩)
          have hdr : Below wB.heap.size wB wB.drew := (Below.refl _ _).drew
          have hQ0 := HQ.out.below hdr
          have hj9 : j ≤ 1048576 := by have := HJ.out.1; omega
          have HS0 := Lib.hid (HS.out _ _ _ _ _ _ _ hQ0)
          have HQ0 := Lib.hid hQ0
          clear hdr hQ0 hmet
          go_upto_region 45 with fail
          go_region_held3 (fun w' => w'.cell? ⟨gM, kx, none⟩ = some (.pointer pp) ∧ w'.cell? ⟨Ba, 1, none⟩ = some (.string an) ∧ w'.cell? ⟨Ba, 2, none⟩ = some (.string atx))
            (first | exact HS0.out | exact HS.out _ _ _ _ _ _ _ hQ6 | exact HS.out _ _ _ _ _ _ _ (HQ5.out.below ((Below.refl _ _).alloc (Nat.le_refl _) _)) | exact HS.out _ _ _ _ _ _ _ HQ5.out)
            (first
              | (refine step_call1 21 (.tmp 173) #[9] en_val rfl rfl rfl (HVAL.out _) ?_; intro w5 hR5; have HQ5 := Lib.hid (HQ0.out.below hR5); clear hR5)
              | (refine step_app_el 35 34 (.tmp 165) (.tmp 176) rfl rfl W.heap.size Try.underlying35 farg_info rfl (by decide) rfl (.inl (HQ5.out.below ((Below.refl _ _).alloc (Nat.le_refl _) _)).p) rfl (news := [.pointer pp, .string an, .int .i64 vx, .float .f64 vy, .string vz]) rfl (cell_news _ #[.pointer pp, .string an, .int .i64 vx, .float .f64 vy, .string vz] _) (by omega) (by intro u hu; simp at hu; rcases hu with rfl | rfl | rfl | rfl | rfl <;> rfl) (by unfold maxLen; omega) (by omega) (HQ5.out.below ((Below.refl _ _).alloc (Nat.le_refl _) _)).b.l.le ?_; intro g6 c6 w6 hown6 hgr6 hloc6; have hQ6 := (HQ5.out.below ((Below.refl _ _).alloc (Nat.le_refl _) _)).one hgr6 hown6; clear hown6 hgr6 hloc6))
          have HQ6 := Lib.hid hQ6
          have hdr6 : Below w6.heap.size w6 w6.drew := (Below.refl _ _).drew
          have HQ7 := Lib.hid (hQ6.below hdr6)
          have HS7 := Lib.hid (HS.out _ _ _ _ _ _ _ HQ7.out)
          clear hQ6 hdr6
          go_upto_region 46 with fail
          go_region_held3 (fun w' => w'.cell? ⟨gM, kx, none⟩ = some (.pointer pp) ∧ w'.cell? ⟨Ba, 1, none⟩ = some (.string an) ∧ w'.cell? ⟨Ba, 2, none⟩ = some (.string atx))
            (first | exact HS7.out | exact HS.out _ _ _ _ _ _ _ hQ9 | exact HS.out _ _ _ _ _ _ _ (HQ8.out.below ((Below.refl _ _).alloc (Nat.le_refl _) _)) | exact HS.out _ _ _ _ _ _ _ HQ8.out)
            (first
              | (refine step_call1 21 (.tmp 183) #[9] en_val rfl rfl rfl (HVAL.out _) ?_; intro w8 hR8; have HQ8 := Lib.hid (HQ7.out.below hR8); clear hR8)
              | (refine step_app_el 70 74 (.tmp 178) (.tmp 186) rfl rfl W.heap.size Try.underlying70 rarg_info rfl (by decide) rfl (.inl (HQ8.out.below ((Below.refl _ _).alloc (Nat.le_refl _) _)).q) rfl (news := [.int .i64 (kx : Int), .string an, .int .i64 vx, .float .f64 vy, .string vz]) rfl (cell_news _ #[.int .i64 (kx : Int), .string an, .int .i64 vx, .float .f64 vy, .string vz] _) (by omega) (by intro u hu; simp at hu; rcases hu with rfl | rfl | rfl | rfl | rfl <;> rfl) (by unfold maxLen; omega) (by omega) (HQ8.out.below ((Below.refl _ _).alloc (Nat.le_refl _) _)).b.l.le ?_; intro g9 c9 w9 hown9 hgr9 hloc9; have hQ9 := (HQ8.out.below ((Below.refl _ _).alloc (Nat.le_refl _) _)).two hgr9 hown9; clear hown9 hgr9 hloc9))
          have HQ9 := Lib.hid hQ9
          clear hQ9
          go_wp2_with fail
          go_roundg (ag.length - (j + 1))
          case measure => have := HJ.out.1; omega
          case rel =>
            obtain ⟨h1, h2⟩ := HARG.out
            obtain ⟨hb9, hk9, _, hp9, hq9⟩ := HQ9.out
            refine ⟨j + 1, by go_num, HJ.out.1, rfl, hb9, hk9, ?_, ?_⟩
            · rw [HJ.out.2.1, List.map_append, List.flatMap_append]
              simp only [List.map_cons, List.map_nil, List.flatMap_cons, List.flatMap_nil, List.append_nil]
              rw [h1]
              simp only [argC, h2]
              exact hp9
            · rw [HJ.out.2.1, List.map_append, List.flatMap_append]
              simp only [List.map_cons, List.map_nil, List.flatMap_cons, List.flatMap_nil, List.append_nil]
              rw [h1]
              simp only [arg24C]
              exact hq9
    · obtain rfl : j = ag.length := by omega
      have hok := hP.b.l.ok
      have hpn : st.sl.length + 2 * ps.length ≤ 399999999 := lj_push HLT.out.2 HB.out.2.2.1 HO.out.pn
      have ij : ¬ ((ag.length : Int) < (ag.length : Int)) := by omega
      have hpp := hP.p
      have hqq := hP.q
      rw [List.take_length] at hpp hqq
      have hal : (ag.map (argOf N)).length = ag.length := by simp
      have hargs : ∀ a ∈ ag.map (argOf N), a.1 ≤ st.n ∧ a.2.1.size ≤ maxLen := fun a ha => by
        obtain ⟨y, hy, rfl⟩ := List.mem_map.1 ha
        exact ⟨by have := argOf_lt hN0 y; have := HN.out; omega, (HO.out.az y hy).1⟩
      have f := pushS_facts st hok ps (ag.map (argOf N)) (fun a ha => (hargs a ha).1) HB.out.2.2.2
      have hdr : Below wr.heap.size wr wr.drew := (Below.refl _ _).drew
      have HS := Lib.hid (fun w' (hk : Keep wA w') => show w'.cell? ⟨Bo, 3, none⟩ = some (.slice Ap ps.length cp) from cell_of_row w' _ 3 _ _ _ (hk.stay _ _ _ (by decide) HBA.out.2))
      have HS0 := Lib.hid (HS.out _ (hP.k.trans (Keep.below hdr)))
      have HA1 := Lib.hid (show Calls Try.prog 9 #[.pointer (some ⟨F, 0, none⟩), .slice Ap ps.length cp, .slice A17 ag.length d17] wr.drew (fun e w' => e = .returned (.int .i64 ((pushS st ps (ag.map (argOf N))).2 : Int)) ∧ (∃ G', LB W m F G' (pushS st ps (ag.map (argOf N))).1 st N (.slice (some ⟨gM, 0, none⟩) N cM) w') ∧ Keep wA w' ∧ w'.ownsRow W.heap.size 74 5 (.slice A18 ag.length d18) ag.length ((ag.map (argOf N)).flatMap arg24C)) from by
        have := lb_push (hP.b.below hdr) ps (ag.map (argOf N)) (A := Ap) (B := A17) (c := cp) (d := d17) (by omega) HO.out.ps (by rw [hal]; exact own_same hpp fun _ _ => rfl) HO.out.pz hargs
        rw [hal] at this
        refine this.mono ?_
        rintro e w' ⟨he, hB, hk, hrr⟩
        exact ⟨he, hB, (hP.k.trans (Keep.below hdr)).trans hk, own_same hqq fun j hj => by obtain ⟨c, hc⟩ := own_obj hqq hj; exact hrr j c hc⟩)
      have HA2 := Lib.hid (fun w5 (h : (∃ G', LB W m F G' (pushS st ps (ag.map (argOf N))).1 st N (.slice (some ⟨gM, 0, none⟩) N cM) w5) ∧ Keep wA w5 ∧ w5.ownsRow W.heap.size 74 5 (.slice A18 ag.length d18) ag.length ((ag.map (argOf N)).flatMap arg24C)) => show Calls Try.prog 24 #[.pointer (some ⟨m, 0, none⟩), .slice Ap ps.length cp, .slice A18 ag.length d18] w5 (fun e w' => e = .returned (.int .i64 ((pushS st ps (ag.map (argOf N))).2 : Int)) ∧ (∃ G', LB W m F G' (pushS st ps (ag.map (argOf N))).1 (pushS st ps (ag.map (argOf N))).1 N (.slice (some ⟨gM, 0, none⟩) N cM) w') ∧ Keep wA w') from by
        obtain ⟨⟨G', hB⟩, hk, hr⟩ := h
        have := lb_push24 hB hok ps (ag.map (argOf N)) (A := Ap) (B := A18) (c := cp) (d := d18) hpn HO.out.ps (by rw [hal]; exact hr) (fun a ha => (hargs a ha).1)
        rw [hal] at this
        refine this.mono ?_
        rintro e w' ⟨he, hB', hk'⟩
        exact ⟨he, ⟨G', hB'⟩, hk.trans hk'⟩)
      have HFA := Lib.hid f
      clear hok hpn hpp hqq hal hargs f hdr hP hj
      generalize pushS st ps (ag.map (argOf N)) = pr at *
      go_upto_region 48 with fail
      go_region_held3 (fun w' => w'.cell? ⟨Bo, 3, none⟩ = some (.slice Ap ps.length cp))
        (first | exact HS0.out | exact hS5 | exact hS6)
        (first
          | (refine step_call3 9 (.tmp 189) (.tmp 191) (.tmp 192) #[23, 27, 35] en_push rfl rfl rfl rfl rfl HA1.out ?_; intro w5 hR5; have hS5 := HS.out w5 hR5.2.1; have HC5 := Lib.hid (HA2.out w5 hR5); clear hR5)
          | (refine step_call3 24 (.tmp 194) (.tmp 196) (.tmp 197) #[53, 27, 70] en_push24 rfl rfl rfl rfl rfl HC5.out ?_; intro w6 hR6; have hS6 := HS.out w6 hR6.2; have HR6 := Lib.hid hR6; clear hR6))
      all_goals
        go_wp2_with fail
        go_meet
        obtain ⟨⟨G8, hB8⟩, hk8⟩ := HR6.out
        obtain ⟨f1, f2, f3⟩ := HFA.out
        exact ⟨G8, _, by rw [f2, HN.out]; exact hB8, by rw [f2]; exact Nat.le_succ_of_le HB.out.2.1, lj_of HB.out.2.2.1 f3 (by have := HO.out.pn; dsimp only at this; omega), f1, hk8.stay _ _ _ (by decide) HBA.out.2⟩
end Go.Proofs.Ytbpaiocbgbpiaaa
