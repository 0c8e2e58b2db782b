/- Both frames play a script: a call's part, walked. -/
import Derived.Test.YtbpaiocbgbpiaaaLwI
namespace Go.Proofs.Ytbpaiocbgbpiaaa
open Go.RowKit
set_option linter.unusedVariables false
set_option linter.unusedSimpArgs false

set_option maxRecDepth 20000 in
set_option maxHeartbeats 60000000 in
theorem sw0_any {W wA : World} {m F i Bo : Nat} {G : GH} {st : FS} {u5 : Value} {nm tx : ByteArray} {Ap Ag : Option Addr} {cp cg : Nat} {ps : List ByteArray} {ag : List AD} (kd : Int) (b1 : (kd == 1) = false) (b2 : (kd == 2) = false) (b3 : (kd == 3) = false) (b4 : (kd == 4) = false) (b5 : (kd == 5) = false) (HBA : Hid (LB W m F G st st (st.n + 1) u5 wA ∧ wA.heap[Bo]? = some (.cells #[.int .i64 kd, .string nm, .string tx, .slice Ap ps.length cp, .slice Ag ag.length cg] 64 (0, 0))))
    (HO : Hid (OpOk W ⟨kd, nm, tx, .slice Ap ps.length cp, ps, .slice Ag ag.length cg, ag⟩)) (HB : Hid (True ∧ st.n ≤ i ∧ st.sl.length ≤ i * 2097154 ∧ st.ca.length ≤ 24)) (HLT : Hid (True ∧ i < 150))
    {v0 v1 v2 v6 v8 v9 v10 v11 v12 v13 v14 v15 v16 v17 v18 v19 v20 v21 v22 v23 v24 v25 v26 v27 v28 v29 v30 v31 v32 v33 v34 v35 v36 v37 v38 v39 v40 v42 v43 v44 v45 v46 v47 v48 v49 v50 v51 v52 v53 v54 v55 v56 v57 v58 v59 v60 v61 v62 v63 v64 v65 v66 v67 v68 v69 v70 v71 v72 v73 v74 v75 v76 v77 v78 v79 v80 v81 v82 v83 v84 v85 v86 v87 v88 v89 v90 v91 v92 v93 v94 v95 v96 v97 v98 v99 v100 v101 v102 v103 v104 v105 v106 v107 v108 v109 v110 v111 v112 v113 v114 v115 v116 v117 v118 v119 v120 v121 v122 v123 v124 v125 v126 v127 v128 v129 v130 v131 v132 v133 v134 v135 v136 v137 v138 v139 v140 v141 v142 v143 v144 v145 v146 v147 v148 v149 v150 v151 v152 v153 v154 v155 v156 v157 v158 v159 v160 v161 v162 v163 v164 v165 v166 v167 v168 v169 v170 v171 v172 v173 v174 v175 v176 v177 v178 v179 v180 v181 v182 v183 v184 v185 v186 v187 v188 v189 v190 v191 v192 v193 v194 v195 v196 v197 v198 v199 v200 v201 v202 v203 v204 v205 v206 v207 v208 v209 v210 v211 v212 v213 v214 v215 v216 v217 v218 v219 v220 v221 v222 v223 v224 v225 v226 : Value} {c : Code} (hc : IsSw c) {J K0 K1 K2 K3 : Act → World → Prop} {POST : Ending → World → Prop}
    (hJ : ∀ (a' : Act) (w' : World), (∃ u2 u5 u8 u9 u10 u11 u12 u13 u14 u15 u16 u17 u18 u20 u21 u37 u38 u39 u40 u42 u43 u44 u45 u46 u47 u48 u49 u50 u51 u52 u53 u54 u55 u56 u57 u58 u59 u60 u61 u62 u63 u64 u65 u66 u67 u68 u69 u70 u71 u72 u73 u74 u75 u76 u77 u78 u79 u80 u81 u82 u83 u84 u85 u86 u87 u88 u89 u90 u91 u92 u93 u94 u95 u96 u97 u98 u99 u100 u101 u102 u103 u104 u105 u106 u107 u108 u109 u110 u111 u112 u113 u114 u115 u116 u117 u118 u119 u120 u121 u122 u123 u124 u125 u126 u127 u128 u129 u130 u131 u132 u133 u134 u135 u136 u137 u138 u139 u140 u141 u142 u143 u144 u145 u146 u147 u148 u149 u150 u151 u152 u153 u154 u155 u156 u157 u158 u159 u160 u161 u162 u163 u164 u165 u166 u167 u168 u169 u170 u171 u172 u173 u174 u175 u176 u177 u178 u179 u180 u181 u182 u183 u184 u185 u186 u187 u188 u189 u190 u191 u192 u193 u194 u195 u196 u197 u198 u199 u200 u201 u202 u203 u204 u205 u206 u207 u208 u209 u210 u211 u212 u213 u214 u215 u216 u217 u218 u219 u220 u221 u222 u223 u224 u225 u226, LJ W m F i Bo (opA (kd) nm tx (.slice Ap ps.length cp) (.slice Ag ag.length cg)) u5 w' ∧ a' = { tmps := #[v0, v1, u2, .pointer (some ⟨F, 0, none⟩), .pointer (some ⟨m, 0, none⟩), u5, v6, .pointer (some ⟨Bo, 0, none⟩), u8, u9, u10, u11, u12, u13, u14, u15, u16, u17, u18, v19, u20, u21, v22, v23, v24, v25, v26, v27, v28, v29, v30, v31, v32, v33, v34, v35, v36, u37, u38, u39, u40, .int .i64 kd, u42, u43, u44, u45, u46, u47, u48, u49, u50, u51, u52, u53, u54, u55, u56, u57, u58, u59, u60, u61, u62, u63, u64, u65, u66, u67, u68, u69, u70, u71, u72, u73, u74, u75, u76, u77, u78, u79, u80, u81, u82, u83, u84, u85, u86, u87, u88, u89, u90, u91, u92, u93, u94, u95, u96, u97, u98, u99, u100, u101, u102, u103, u104, u105, u106, u107, u108, u109, u110, u111, u112, u113, u114, u115, u116, u117, u118, u119, u120, u121, u122, u123, u124, u125, u126, u127, u128, u129, u130, u131, u132, u133, u134, u135, u136, u137, u138, u139, u140, u141, u142, u143, u144, u145, u146, u147, u148, u149, u150, u151, u152, u153, u154, u155, u156, u157, u158, u159, u160, u161, u162, u163, u164, u165, u166, u167, u168, u169, u170, u171, u172, u173, u174, u175, u176, u177, u178, u179, u180, u181, u182, u183, u184, u185, u186, u187, u188, u189, u190, u191, u192, u193, u194, u195, u196, u197, u198, u199, u200, u201, u202, u203, u204, u205, u206, u207, u208, u209, u210, u211, u212, u213, u214, u215, u216, u217, u218, u219, u220, u221, u222, u223, u224, u225, u226], defers := [] }) → J a' w')
    (hK : ∀ (a' : Act) (w' : World), Met J a' w' → K0 a' w') :
    Code.wp Try.prog c (Exit.then K0 (Exit.inBlock 1 (Exit.then K1 (Exit.then K2 (Exit.inBlock 0 (Exit.then K3 (bodyPost Try.prog Try.f6 POST))))))) { tmps := #[v0, v1, v2, .pointer (some ⟨F, 0, none⟩), .pointer (some ⟨m, 0, none⟩), u5, v6, .pointer (some ⟨Bo, 0, none⟩), v8, v9, v10, v11, v12, v13, v14, v15, v16, v17, v18, v19, v20, v21, v22, v23, v24, v25, v26, v27, v28, v29, v30, v31, v32, v33, v34, v35, v36, v37, v38, v39, v40, .int .i64 kd, v42, v43, v44, v45, v46, v47, v48, v49, v50, v51, v52, v53, v54, v55, v56, v57, v58, v59, v60, v61, v62, v63, v64, v65, v66, v67, v68, v69, v70, v71, v72, v73, v74, v75, v76, v77, v78, v79, v80, v81, v82, v83, v84, v85, v86, v87, v88, v89, v90, v91, v92, v93, v94, v95, v96, v97, v98, v99, v100, v101, v102, v103, v104, v105, v106, v107, v108, v109, v110, v111, v112, v113, v114, v115, v116, v117, v118, v119, v120, v121, v122, v123, v124, v125, v126, v127, v128, v129, v130, v131, v132, v133, v134, v135, v136, v137, v138, v139, v140, v141, v142, v143, v144, v145, v146, v147, v148, v149, v150, v151, v152, v153, v154, v155, v156, v157, v158, v159, v160, v161, v162, v163, v164, v165, v166, v167, v168, v169, v170, v171, v172, v173, v174, v175, v176, v177, v178, v179, v180, v181, v182, v183, v184, v185, v186, v187, v188, v189, v190, v191, v192, v193, v194, v195, v196, v197, v198, v199, v200, v201, v202, v203, v204, v205, v206, v207, v208, v209, v210, v211, v212, v213, v214, v215, v216, v217, v218, v219, v220, v221, v222, v223, v224, v225, v226], defers := [] } wA := by
  have c0 : wA.cell? ⟨Bo, 0, none⟩ = some (.int .i64 kd) := cell_of_row wA _ 0 _ _ _ HBA.out.2
  have c1 : wA.cell? ⟨Bo, 1, none⟩ = some (.string nm) := cell_of_row wA _ 1 _ _ _ HBA.out.2
  have c2 : wA.cell? ⟨Bo, 2, none⟩ = some (.string tx) := cell_of_row wA _ 2 _ _ _ HBA.out.2
  have c3 : wA.cell? ⟨Bo, 3, none⟩ = some (.slice Ap ps.length cp) := cell_of_row wA _ 3 _ _ _ HBA.out.2
  have c4 : wA.cell? ⟨Bo, 4, none⟩ = some (.slice Ag ag.length cg) := cell_of_row wA _ 4 _ _ _ HBA.out.2
  unfold IsSw at hc
  subst hc
  conv => arg 2; whnf
  simp only [List.size_toArray]
  go_wp2_with fail
  go_meet
  exact ⟨_, _, HBA.out.1, Nat.le_succ_of_le HB.out.2.1, Nat.le_trans HB.out.2.2.1 (Nat.le_add_right _ _), HB.out.2.2.2, HBA.out.2⟩
end Go.Proofs.Ytbpaiocbgbpiaaa

namespace Go.Proofs.Ytbpaiocbgbpiaaa
open Go.RowKit
set_option linter.unusedVariables false
set_option linter.unusedSimpArgs false

set_option maxRecDepth 20000 in
set_option maxHeartbeats 60000000 in
theorem sw1_any {W wA : World} {m F i Bo : Nat} {G : GH} {st : FS} {u5 : Value} {nm tx : ByteArray} {Ap Ag : Option Addr} {cp cg : Nat} {ps : List ByteArray} {ag : List AD} (HBA : Hid (LB W m F G st st (st.n + 1) u5 wA ∧ wA.heap[Bo]? = some (.cells #[.int .i64 1, .string nm, .string tx, .slice Ap ps.length cp, .slice Ag ag.length cg] 64 (0, 0))))
    (HO : Hid (OpOk W ⟨1, nm, tx, .slice Ap ps.length cp, ps, .slice Ag ag.length cg, ag⟩)) (HB : Hid (True ∧ st.n ≤ i ∧ st.sl.length ≤ i * 2097154 ∧ st.ca.length ≤ 24)) (HLT : Hid (True ∧ i < 150))
    {v0 v1 v2 v6 v8 v9 v10 v11 v12 v13 v14 v15 v16 v17 v18 v19 v20 v21 v22 v23 v24 v25 v26 v27 v28 v29 v30 v31 v32 v33 v34 v35 v36 v37 v38 v39 v40 v42 v43 v44 v45 v46 v47 v48 v49 v50 v51 v52 v53 v54 v55 v56 v57 v58 v59 v60 v61 v62 v63 v64 v65 v66 v67 v68 v69 v70 v71 v72 v73 v74 v75 v76 v77 v78 v79 v80 v81 v82 v83 v84 v85 v86 v87 v88 v89 v90 v91 v92 v93 v94 v95 v96 v97 v98 v99 v100 v101 v102 v103 v104 v105 v106 v107 v108 v109 v110 v111 v112 v113 v114 v115 v116 v117 v118 v119 v120 v121 v122 v123 v124 v125 v126 v127 v128 v129 v130 v131 v132 v133 v134 v135 v136 v137 v138 v139 v140 v141 v142 v143 v144 v145 v146 v147 v148 v149 v150 v151 v152 v153 v154 v155 v156 v157 v158 v159 v160 v161 v162 v163 v164 v165 v166 v167 v168 v169 v170 v171 v172 v173 v174 v175 v176 v177 v178 v179 v180 v181 v182 v183 v184 v185 v186 v187 v188 v189 v190 v191 v192 v193 v194 v195 v196 v197 v198 v199 v200 v201 v202 v203 v204 v205 v206 v207 v208 v209 v210 v211 v212 v213 v214 v215 v216 v217 v218 v219 v220 v221 v222 v223 v224 v225 v226 : Value} {c : Code} (hc : IsSw c) {J K0 K1 K2 K3 : Act → World → Prop} {POST : Ending → World → Prop}
    (hJ : ∀ (a' : Act) (w' : World), (∃ u2 u5 u8 u9 u10 u11 u12 u13 u14 u15 u16 u17 u18 u20 u21 u37 u38 u39 u40 u42 u43 u44 u45 u46 u47 u48 u49 u50 u51 u52 u53 u54 u55 u56 u57 u58 u59 u60 u61 u62 u63 u64 u65 u66 u67 u68 u69 u70 u71 u72 u73 u74 u75 u76 u77 u78 u79 u80 u81 u82 u83 u84 u85 u86 u87 u88 u89 u90 u91 u92 u93 u94 u95 u96 u97 u98 u99 u100 u101 u102 u103 u104 u105 u106 u107 u108 u109 u110 u111 u112 u113 u114 u115 u116 u117 u118 u119 u120 u121 u122 u123 u124 u125 u126 u127 u128 u129 u130 u131 u132 u133 u134 u135 u136 u137 u138 u139 u140 u141 u142 u143 u144 u145 u146 u147 u148 u149 u150 u151 u152 u153 u154 u155 u156 u157 u158 u159 u160 u161 u162 u163 u164 u165 u166 u167 u168 u169 u170 u171 u172 u173 u174 u175 u176 u177 u178 u179 u180 u181 u182 u183 u184 u185 u186 u187 u188 u189 u190 u191 u192 u193 u194 u195 u196 u197 u198 u199 u200 u201 u202 u203 u204 u205 u206 u207 u208 u209 u210 u211 u212 u213 u214 u215 u216 u217 u218 u219 u220 u221 u222 u223 u224 u225 u226, LJ W m F i Bo (opA (1) nm tx (.slice Ap ps.length cp) (.slice Ag ag.length cg)) u5 w' ∧ a' = { tmps := #[v0, v1, u2, .pointer (some ⟨F, 0, none⟩), .pointer (some ⟨m, 0, none⟩), u5, v6, .pointer (some ⟨Bo, 0, none⟩), u8, u9, u10, u11, u12, u13, u14, u15, u16, u17, u18, v19, u20, u21, v22, v23, v24, v25, v26, v27, v28, v29, v30, v31, v32, v33, v34, v35, v36, u37, u38, u39, u40, .int .i64 1, u42, u43, u44, u45, u46, u47, u48, u49, u50, u51, u52, u53, u54, u55, u56, u57, u58, u59, u60, u61, u62, u63, u64, u65, u66, u67, u68, u69, u70, u71, u72, u73, u74, u75, u76, u77, u78, u79, u80, u81, u82, u83, u84, u85, u86, u87, u88, u89, u90, u91, u92, u93, u94, u95, u96, u97, u98, u99, u100, u101, u102, u103, u104, u105, u106, u107, u108, u109, u110, u111, u112, u113, u114, u115, u116, u117, u118, u119, u120, u121, u122, u123, u124, u125, u126, u127, u128, u129, u130, u131, u132, u133, u134, u135, u136, u137, u138, u139, u140, u141, u142, u143, u144, u145, u146, u147, u148, u149, u150, u151, u152, u153, u154, u155, u156, u157, u158, u159, u160, u161, u162, u163, u164, u165, u166, u167, u168, u169, u170, u171, u172, u173, u174, u175, u176, u177, u178, u179, u180, u181, u182, u183, u184, u185, u186, u187, u188, u189, u190, u191, u192, u193, u194, u195, u196, u197, u198, u199, u200, u201, u202, u203, u204, u205, u206, u207, u208, u209, u210, u211, u212, u213, u214, u215, u216, u217, u218, u219, u220, u221, u222, u223, u224, u225, u226], defers := [] }) → J a' w')
    (hK : ∀ (a' : Act) (w' : World), Met J a' w' → K0 a' w') :
    Code.wp Try.prog c (Exit.then K0 (Exit.inBlock 1 (Exit.then K1 (Exit.then K2 (Exit.inBlock 0 (Exit.then K3 (bodyPost Try.prog Try.f6 POST))))))) { tmps := #[v0, v1, v2, .pointer (some ⟨F, 0, none⟩), .pointer (some ⟨m, 0, none⟩), u5, v6, .pointer (some ⟨Bo, 0, none⟩), v8, v9, v10, v11, v12, v13, v14, v15, v16, v17, v18, v19, v20, v21, v22, v23, v24, v25, v26, v27, v28, v29, v30, v31, v32, v33, v34, v35, v36, v37, v38, v39, v40, .int .i64 1, v42, v43, v44, v45, v46, v47, v48, v49, v50, v51, v52, v53, v54, v55, v56, v57, v58, v59, v60, v61, v62, v63, v64, v65, v66, v67, v68, v69, v70, v71, v72, v73, v74, v75, v76, v77, v78, v79, v80, v81, v82, v83, v84, v85, v86, v87, v88, v89, v90, v91, v92, v93, v94, v95, v96, v97, v98, v99, v100, v101, v102, v103, v104, v105, v106, v107, v108, v109, v110, v111, v112, v113, v114, v115, v116, v117, v118, v119, v120, v121, v122, v123, v124, v125, v126, v127, v128, v129, v130, v131, v132, v133, v134, v135, v136, v137, v138, v139, v140, v141, v142, v143, v144, v145, v146, v147, v148, v149, v150, v151, v152, v153, v154, v155, v156, v157, v158, v159, v160, v161, v162, v163, v164, v165, v166, v167, v168, v169, v170, v171, v172, v173, v174, v175, v176, v177, v178, v179, v180, v181, v182, v183, v184, v185, v186, v187, v188, v189, v190, v191, v192, v193, v194, v195, v196, v197, v198, v199, v200, v201, v202, v203, v204, v205, v206, v207, v208, v209, v210, v211, v212, v213, v214, v215, v216, v217, v218, v219, v220, v221, v222, v223, v224, v225, v226], defers := [] } wA := by
  have c0 : wA.cell? ⟨Bo, 0, none⟩ = some (.int .i64 1) := cell_of_row wA _ 0 _ _ _ HBA.out.2
  have c1 : wA.cell? ⟨Bo, 1, none⟩ = some (.string nm) := cell_of_row wA _ 1 _ _ _ HBA.out.2
  have c2 : wA.cell? ⟨Bo, 2, none⟩ = some (.string tx) := cell_of_row wA _ 2 _ _ _ HBA.out.2
  have c3 : wA.cell? ⟨Bo, 3, none⟩ = some (.slice Ap ps.length cp) := cell_of_row wA _ 3 _ _ _ HBA.out.2
  have c4 : wA.cell? ⟨Bo, 4, none⟩ = some (.slice Ag ag.length cg) := cell_of_row wA _ 4 _ _ _ HBA.out.2
  unfold IsSw at hc
  subst hc
  conv => arg 2; whnf
  simp only [List.size_toArray]
  have hok := HBA.out.1.l.ok
  have hs1 := li_small0 HLT.out.2 HB.out.2.2.1
  have f := getS_facts st hok nm
  have hG := lb_get HBA.out.1 nm HO.out.nm (by omega)
  cases hg : getS st nm with
  | mk s1 cr =>
  obtain ⟨⟨x, y, z⟩, r⟩ := cr
  rw [hg] at f hG
  dsimp only [cellV] at f hG
  have HG := Lib.hid hG
  have HM := Lib.hid (fun (G1 : GH) (w6 : World) (h : LB W m F G1 s1 st (st.n + 1) u5 w6) => show Calls Try.prog 20 #[.pointer (some ⟨m, 0, none⟩), .string nm] w6 (fun e w' => e = .returned (.tuple #[.agg #[.int .i64 x, .float .f64 y, .string z], .int .i64 (r : Int)]) ∧ LB W m F G1 s1 s1 (st.n + 1) u5 w' ∧ Keep w6 w') from by
    have := lb_get24 h hok nm (by omega) (by have := HB.out.2.2.2; omega)
    rw [hg] at this
    exact this)
  have HFA := Lib.hid f
  clear hok hs1 f hG hg
  go_wp2_with fail
  refine HG.out.mono ?_
  rintro e w5 ⟨rfl, ⟨G1, hB1⟩, hk1⟩
  dsimp only
  have hb5 : Below w5.heap.size w5 (w5.alloc (.cells #[.int .i64 x, .float .f64 y, .string z] 32)) := (Below.refl _ w5).alloc (Nat.le_refl _) _
  have hx5 : (w5.alloc (.cells #[.int .i64 x, .float .f64 y, .string z] 32)).heap[w5.heap.size]? = some (.cells #[.int .i64 x, .float .f64 y, .string z] 32 (0, 0)) := at_new rfl
  have hB5 := hB1.below hb5
  have hk5 := hk1.trans (Keep.below hb5)
  clear hB1 hk1
  go_upto_region 16 with fail
  generalize w5.alloc (.cells #[.int .i64 x, .float .f64 y, .string z] 32) = w6 at *
  have q1 : w6.cell? ⟨Bo, 1, none⟩ = some (.string nm) := cell_of_row w6 _ 1 _ _ _ (hk5.stay _ _ _ (by decide) HBA.out.2)
  have HM6 := Lib.hid (HM.out G1 w6 hB5)
  have HX := Lib.hid (And.intro hk5 hx5)
  clear hb5 hx5 hB5 hk5
  go_wp2_with fail
  refine HM6.out.mono ?_
  rintro e w7 ⟨rfl, hB2, hk2⟩
  dsimp only
  have hb7 : Below w7.heap.size w7 (w7.alloc (.cells #[.int .i64 x, .float .f64 y, .string z] 32)) := (Below.refl _ w7).alloc (Nat.le_refl _) _
  have hx7 : (w7.alloc (.cells #[.int .i64 x, .float .f64 y, .string z] 32)).heap[w7.heap.size]? = some (.cells #[.int .i64 x, .float .f64 y, .string z] 32 (0, 0)) := at_new rfl
  have hx8 := (hk2.trans (Keep.below hb7)).stay _ _ _ (by decide) HX.out.2
  have HB7 := Lib.hid (And.intro (hB2.below hb7) (HX.out.1.trans (hk2.trans (Keep.below hb7))))
  clear hB2 hk2 hb7
  go_upto_region 17 with fail
  generalize w7.alloc (.cells #[.int .i64 x, .float .f64 y, .string z] 32) = w8 at *
  have x0 : w8.cell? ⟨w5.heap.size, 0, none⟩ = some (.int .i64 x) := cell_of_row w8 _ 0 _ _ _ hx8
  have x1 : w8.cell? ⟨w5.heap.size, 1, none⟩ = some (.float .f64 y) := cell_of_row w8 _ 1 _ _ _ hx8
  have x2 : w8.cell? ⟨w5.heap.size, 2, none⟩ = some (.string z) := cell_of_row w8 _ 2 _ _ _ hx8
  have y0 : w8.cell? ⟨w7.heap.size, 0, none⟩ = some (.int .i64 x) := cell_of_row w8 _ 0 _ _ _ hx7
  have y1 : w8.cell? ⟨w7.heap.size, 1, none⟩ = some (.float .f64 y) := cell_of_row w8 _ 1 _ _ _ hx7
  have y2 : w8.cell? ⟨w7.heap.size, 2, none⟩ = some (.string z) := cell_of_row w8 _ 2 _ _ _ hx7
  clear hx7 hx8
  go_wp2_with fail
  refine (csame_self x y z _).mono ?_
  rintro e w9 ⟨rfl, hb9⟩
  dsimp only
  have HX9 := Lib.hid hb9
  clear hb9
  go_wp2_with fail
  go_meet
  obtain ⟨hB8, hk8⟩ := HB7.out
  obtain ⟨f1, f2, f3⟩ := HFA.out
  exact ⟨G1, s1, by rw [f2]; exact hB8.below HX9.out, by rw [f2]; exact Nat.le_succ_of_le HB.out.2.1, lj_of HB.out.2.2.1 f3 (by decide), by rw [f1]; exact HB.out.2.2.2, (hk8.trans (Keep.below HX9.out)).stay _ _ _ (by decide) HBA.out.2⟩
end Go.Proofs.Ytbpaiocbgbpiaaa

namespace Go.Proofs.Ytbpaiocbgbpiaaa
open Go.RowKit
set_option linter.unusedVariables false
set_option linter.unusedSimpArgs false

set_option maxRecDepth 20000 in
set_option maxHeartbeats 60000000 in
theorem sw2_any {W wA : World} {m F i Bo : Nat} {G : GH} {st : FS} {u5 : Value} {nm tx : ByteArray} {Ap Ag : Option Addr} {cp cg : Nat} {ps : List ByteArray} {ag : List AD} (HBA : Hid (LB W m F G st st (st.n + 1) u5 wA ∧ wA.heap[Bo]? = some (.cells #[.int .i64 2, .string nm, .string tx, .slice Ap ps.length cp, .slice Ag ag.length cg] 64 (0, 0))))
    (HO : Hid (OpOk W ⟨2, nm, tx, .slice Ap ps.length cp, ps, .slice Ag ag.length cg, ag⟩)) (HB : Hid (True ∧ st.n ≤ i ∧ st.sl.length ≤ i * 2097154 ∧ st.ca.length ≤ 24)) (HLT : Hid (True ∧ i < 150))
    {v0 v1 v2 v6 v8 v9 v10 v11 v12 v13 v14 v15 v16 v17 v18 v19 v20 v21 v22 v23 v24 v25 v26 v27 v28 v29 v30 v31 v32 v33 v34 v35 v36 v37 v38 v39 v40 v42 v43 v44 v45 v46 v47 v48 v49 v50 v51 v52 v53 v54 v55 v56 v57 v58 v59 v60 v61 v62 v63 v64 v65 v66 v67 v68 v69 v70 v71 v72 v73 v74 v75 v76 v77 v78 v79 v80 v81 v82 v83 v84 v85 v86 v87 v88 v89 v90 v91 v92 v93 v94 v95 v96 v97 v98 v99 v100 v101 v102 v103 v104 v105 v106 v107 v108 v109 v110 v111 v112 v113 v114 v115 v116 v117 v118 v119 v120 v121 v122 v123 v124 v125 v126 v127 v128 v129 v130 v131 v132 v133 v134 v135 v136 v137 v138 v139 v140 v141 v142 v143 v144 v145 v146 v147 v148 v149 v150 v151 v152 v153 v154 v155 v156 v157 v158 v159 v160 v161 v162 v163 v164 v165 v166 v167 v168 v169 v170 v171 v172 v173 v174 v175 v176 v177 v178 v179 v180 v181 v182 v183 v184 v185 v186 v187 v188 v189 v190 v191 v192 v193 v194 v195 v196 v197 v198 v199 v200 v201 v202 v203 v204 v205 v206 v207 v208 v209 v210 v211 v212 v213 v214 v215 v216 v217 v218 v219 v220 v221 v222 v223 v224 v225 v226 : Value} {c : Code} (hc : IsSw c) {J K0 K1 K2 K3 : Act → World → Prop} {POST : Ending → World → Prop}
    (hJ : ∀ (a' : Act) (w' : World), (∃ u2 u5 u8 u9 u10 u11 u12 u13 u14 u15 u16 u17 u18 u20 u21 u37 u38 u39 u40 u42 u43 u44 u45 u46 u47 u48 u49 u50 u51 u52 u53 u54 u55 u56 u57 u58 u59 u60 u61 u62 u63 u64 u65 u66 u67 u68 u69 u70 u71 u72 u73 u74 u75 u76 u77 u78 u79 u80 u81 u82 u83 u84 u85 u86 u87 u88 u89 u90 u91 u92 u93 u94 u95 u96 u97 u98 u99 u100 u101 u102 u103 u104 u105 u106 u107 u108 u109 u110 u111 u112 u113 u114 u115 u116 u117 u118 u119 u120 u121 u122 u123 u124 u125 u126 u127 u128 u129 u130 u131 u132 u133 u134 u135 u136 u137 u138 u139 u140 u141 u142 u143 u144 u145 u146 u147 u148 u149 u150 u151 u152 u153 u154 u155 u156 u157 u158 u159 u160 u161 u162 u163 u164 u165 u166 u167 u168 u169 u170 u171 u172 u173 u174 u175 u176 u177 u178 u179 u180 u181 u182 u183 u184 u185 u186 u187 u188 u189 u190 u191 u192 u193 u194 u195 u196 u197 u198 u199 u200 u201 u202 u203 u204 u205 u206 u207 u208 u209 u210 u211 u212 u213 u214 u215 u216 u217 u218 u219 u220 u221 u222 u223 u224 u225 u226, LJ W m F i Bo (opA (2) nm tx (.slice Ap ps.length cp) (.slice Ag ag.length cg)) u5 w' ∧ a' = { tmps := #[v0, v1, u2, .pointer (some ⟨F, 0, none⟩), .pointer (some ⟨m, 0, none⟩), u5, v6, .pointer (some ⟨Bo, 0, none⟩), u8, u9, u10, u11, u12, u13, u14, u15, u16, u17, u18, v19, u20, u21, v22, v23, v24, v25, v26, v27, v28, v29, v30, v31, v32, v33, v34, v35, v36, u37, u38, u39, u40, .int .i64 2, u42, u43, u44, u45, u46, u47, u48, u49, u50, u51, u52, u53, u54, u55, u56, u57, u58, u59, u60, u61, u62, u63, u64, u65, u66, u67, u68, u69, u70, u71, u72, u73, u74, u75, u76, u77, u78, u79, u80, u81, u82, u83, u84, u85, u86, u87, u88, u89, u90, u91, u92, u93, u94, u95, u96, u97, u98, u99, u100, u101, u102, u103, u104, u105, u106, u107, u108, u109, u110, u111, u112, u113, u114, u115, u116, u117, u118, u119, u120, u121, u122, u123, u124, u125, u126, u127, u128, u129, u130, u131, u132, u133, u134, u135, u136, u137, u138, u139, u140, u141, u142, u143, u144, u145, u146, u147, u148, u149, u150, u151, u152, u153, u154, u155, u156, u157, u158, u159, u160, u161, u162, u163, u164, u165, u166, u167, u168, u169, u170, u171, u172, u173, u174, u175, u176, u177, u178, u179, u180, u181, u182, u183, u184, u185, u186, u187, u188, u189, u190, u191, u192, u193, u194, u195, u196, u197, u198, u199, u200, u201, u202, u203, u204, u205, u206, u207, u208, u209, u210, u211, u212, u213, u214, u215, u216, u217, u218, u219, u220, u221, u222, u223, u224, u225, u226], defers := [] }) → J a' w')
    (hK : ∀ (a' : Act) (w' : World), Met J a' w' → K0 a' w') :
    Code.wp Try.prog c (Exit.then K0 (Exit.inBlock 1 (Exit.then K1 (Exit.then K2 (Exit.inBlock 0 (Exit.then K3 (bodyPost Try.prog Try.f6 POST))))))) { tmps := #[v0, v1, v2, .pointer (some ⟨F, 0, none⟩), .pointer (some ⟨m, 0, none⟩), u5, v6, .pointer (some ⟨Bo, 0, none⟩), v8, v9, v10, v11, v12, v13, v14, v15, v16, v17, v18, v19, v20, v21, v22, v23, v24, v25, v26, v27, v28, v29, v30, v31, v32, v33, v34, v35, v36, v37, v38, v39, v40, .int .i64 2, v42, v43, v44, v45, v46, v47, v48, v49, v50, v51, v52, v53, v54, v55, v56, v57, v58, v59, v60, v61, v62, v63, v64, v65, v66, v67, v68, v69, v70, v71, v72, v73, v74, v75, v76, v77, v78, v79, v80, v81, v82, v83, v84, v85, v86, v87, v88, v89, v90, v91, v92, v93, v94, v95, v96, v97, v98, v99, v100, v101, v102, v103, v104, v105, v106, v107, v108, v109, v110, v111, v112, v113, v114, v115, v116, v117, v118, v119, v120, v121, v122, v123, v124, v125, v126, v127, v128, v129, v130, v131, v132, v133, v134, v135, v136, v137, v138, v139, v140, v141, v142, v143, v144, v145, v146, v147, v148, v149, v150, v151, v152, v153, v154, v155, v156, v157, v158, v159, v160, v161, v162, v163, v164, v165, v166, v167, v168, v169, v170, v171, v172, v173, v174, v175, v176, v177, v178, v179, v180, v181, v182, v183, v184, v185, v186, v187, v188, v189, v190, v191, v192, v193, v194, v195, v196, v197, v198, v199, v200, v201, v202, v203, v204, v205, v206, v207, v208, v209, v210, v211, v212, v213, v214, v215, v216, v217, v218, v219, v220, v221, v222, v223, v224, v225, v226], defers := [] } wA := by
  have c0 : wA.cell? ⟨Bo, 0, none⟩ = some (.int .i64 2) := cell_of_row wA _ 0 _ _ _ HBA.out.2
  have c1 : wA.cell? ⟨Bo, 1, none⟩ = some (.string nm) := cell_of_row wA _ 1 _ _ _ HBA.out.2
  have c2 : wA.cell? ⟨Bo, 2, none⟩ = some (.string tx) := cell_of_row wA _ 2 _ _ _ HBA.out.2
  have c3 : wA.cell? ⟨Bo, 3, none⟩ = some (.slice Ap ps.length cp) := cell_of_row wA _ 3 _ _ _ HBA.out.2
  have c4 : wA.cell? ⟨Bo, 4, none⟩ = some (.slice Ag ag.length cg) := cell_of_row wA _ 4 _ _ _ HBA.out.2
  unfold IsSw at hc
  subst hc
  conv => arg 2; whnf
  simp only [List.size_toArray]
  have hok := HBA.out.1.l.ok
  have hs1 := li_small0 HLT.out.2 HB.out.2.2.1
  have f := setS_facts st hok nm (valR tx)
  have hdr : Below wA.heap.size wA wA.drew := (Below.refl _ _).drew
  have HS := Lib.hid (fun w' (hk : Keep wA w') => show w'.cell? ⟨Bo, 1, none⟩ = some (.string nm) ∧ w'.cell? ⟨Bo, 2, none⟩ = some (.string tx) from ⟨cell_of_row w' _ 1 _ _ _ (hk.stay _ _ _ (by decide) HBA.out.2), cell_of_row w' _ 2 _ _ _ (hk.stay _ _ _ (by decide) HBA.out.2)⟩)
  have HS0 := Lib.hid (HS.out _ (Keep.below hdr))
  have HA1 := Lib.hid (show Calls Try.prog 21 #[.string tx] wA.drew (fun e w' => e = .returned (cellV (valR tx)) ∧ LB W m F G st st (st.n + 1) u5 w' ∧ Keep wA w') from by
    refine (lb_val (HBA.out.1.below hdr) tx HO.out.tx).mono ?_
    rintro e w' ⟨he, hB, hb⟩
    exact ⟨he, hB, (Keep.below hdr).trans (Keep.below hb)⟩)
  have HA2 := Lib.hid (fun w5 (h : LB W m F G st st (st.n + 1) u5 w5 ∧ Keep wA w5) => show Calls Try.prog 11 #[.pointer (some ⟨F, 0, none⟩), .string nm, cellV (valR tx)] w5 (fun e w' => e = .returned (.int .i64 ((setS st nm (valR tx)).2 : Int)) ∧ (∃ G', LB W m F G' (setS st nm (valR tx)).1 st (st.n + 1) u5 w') ∧ Keep wA w') from by
    refine (lb_set h.1 nm HO.out.nm (by omega) _).mono ?_
    rintro e w' ⟨he, hB, hk⟩
    exact ⟨he, hB, h.2.trans hk⟩)
  have HA3 := Lib.hid (fun w5 (h : (∃ G', LB W m F G' (setS st nm (valR tx)).1 st (st.n + 1) u5 w5) ∧ Keep wA w5) => show Calls Try.prog 21 #[.string tx] w5 (fun e w' => e = .returned (cellV (valR tx)) ∧ (∃ G', LB W m F G' (setS st nm (valR tx)).1 st (st.n + 1) u5 w') ∧ Keep wA w') from by
    obtain ⟨⟨G', hB⟩, hk⟩ := h
    refine (lb_val hB tx HO.out.tx).mono ?_
    rintro e w' ⟨he, hB', hb⟩
    exact ⟨he, ⟨G', hB'⟩, hk.trans (Keep.below hb)⟩)
  have HA4 := Lib.hid (fun w5 (h : (∃ G', LB W m F G' (setS st nm (valR tx)).1 st (st.n + 1) u5 w5) ∧ Keep wA w5) => show Calls Try.prog 22 #[.pointer (some ⟨m, 0, none⟩), .string nm, cellV (valR tx)] w5 (fun e w' => e = .returned (.int .i64 ((setS st nm (valR tx)).2 : Int)) ∧ (∃ G', LB W m F G' (setS st nm (valR tx)).1 (setS st nm (valR tx)).1 (st.n + 1) u5 w') ∧ Keep wA w') from by
    obtain ⟨⟨G', hB⟩, hk⟩ := h
    refine (lb_set24 hB hok nm (by omega) (by have := HB.out.2.2.2; omega) _).mono ?_
    rintro e w' ⟨he, hB', hk'⟩
    exact ⟨he, ⟨G', hB'⟩, hk.trans hk'⟩)
  have HFA := Lib.hid f
  clear hok hs1 f hdr
  generalize setS st nm (valR tx) = ss at *
  generalize valR tx = cv at *
  go_upto_region 20 with fail
  go_region_held3 (fun W => W.cell? ⟨Bo, 1, none⟩ = some (.string nm) ∧ W.cell? ⟨Bo, 2, none⟩ = some (.string tx))
    (first | exact HS0.out | exact hS5 | exact hS6 | exact hS7 | exact hS8)
    (first
      | (refine step_call1 21 (.tmp 73) #[9] en_val rfl rfl rfl HA1.out ?_; intro w5 hR5; have hS5 := HS.out w5 hR5.2; have HC5 := Lib.hid (HA2.out w5 hR5); clear hR5)
      | (refine step_call3 11 (.tmp 69) (.tmp 71) (.tmp 74) #[23, 9, 32] en_set rfl rfl rfl rfl rfl HC5.out ?_; intro w6 hR6; have hS6 := HS.out w6 hR6.2; have HC6 := Lib.hid (HA3.out w6 hR6); clear hR6)
      | (refine step_call1 21 (.tmp 80) #[9] en_val rfl rfl rfl HC6.out ?_; intro w7 hR7; have hS7 := HS.out w7 hR7.2; have HC7 := Lib.hid (HA4.out w7 hR7); clear hR7)
      | (refine step_call3 22 (.tmp 76) (.tmp 78) (.tmp 81) #[53, 9, 32] en_set24 rfl rfl rfl rfl rfl HC7.out ?_; intro w8 hR8; have hS8 := HS.out w8 hR8.2; have HR8 := Lib.hid hR8; clear hR8))
  all_goals
    go_wp2_with fail
    go_meet
    obtain ⟨⟨G8, hB8⟩, hk8⟩ := HR8.out
    obtain ⟨f1, f2, f3⟩ := HFA.out
    exact ⟨G8, _, by rw [f2]; exact hB8, by rw [f2]; exact Nat.le_succ_of_le HB.out.2.1, lj_of HB.out.2.2.1 f3 (by decide), by rw [f1]; exact HB.out.2.2.2, hk8.stay _ _ _ (by decide) HBA.out.2⟩
end Go.Proofs.Ytbpaiocbgbpiaaa

namespace Go.Proofs.Ytbpaiocbgbpiaaa
open Go.RowKit
set_option linter.unusedVariables false
set_option linter.unusedSimpArgs false

set_option maxRecDepth 20000 in
set_option maxHeartbeats 60000000 in
theorem sw5_any {W wA : World} {m F i Bo : Nat} {G : GH} {st : FS} {u5 : Value} {nm tx : ByteArray} {Ap Ag : Option Addr} {cp cg : Nat} {ps : List ByteArray} {ag : List AD} (HBA : Hid (LB W m F G st st (st.n + 1) u5 wA ∧ wA.heap[Bo]? = some (.cells #[.int .i64 5, .string nm, .string tx, .slice Ap ps.length cp, .slice Ag ag.length cg] 64 (0, 0))))
    (HO : Hid (OpOk W ⟨5, nm, tx, .slice Ap ps.length cp, ps, .slice Ag ag.length cg, ag⟩)) (HB : Hid (True ∧ st.n ≤ i ∧ st.sl.length ≤ i * 2097154 ∧ st.ca.length ≤ 24)) (HLT : Hid (True ∧ i < 150))
    {v0 v1 v2 v6 v8 v9 v10 v11 v12 v13 v14 v15 v16 v17 v18 v19 v20 v21 v22 v23 v24 v25 v26 v27 v28 v29 v30 v31 v32 v33 v34 v35 v36 v37 v38 v39 v40 v42 v43 v44 v45 v46 v47 v48 v49 v50 v51 v52 v53 v54 v55 v56 v57 v58 v59 v60 v61 v62 v63 v64 v65 v66 v67 v68 v69 v70 v71 v72 v73 v74 v75 v76 v77 v78 v79 v80 v81 v82 v83 v84 v85 v86 v87 v88 v89 v90 v91 v92 v93 v94 v95 v96 v97 v98 v99 v100 v101 v102 v103 v104 v105 v106 v107 v108 v109 v110 v111 v112 v113 v114 v115 v116 v117 v118 v119 v120 v121 v122 v123 v124 v125 v126 v127 v128 v129 v130 v131 v132 v133 v134 v135 v136 v137 v138 v139 v140 v141 v142 v143 v144 v145 v146 v147 v148 v149 v150 v151 v152 v153 v154 v155 v156 v157 v158 v159 v160 v161 v162 v163 v164 v165 v166 v167 v168 v169 v170 v171 v172 v173 v174 v175 v176 v177 v178 v179 v180 v181 v182 v183 v184 v185 v186 v187 v188 v189 v190 v191 v192 v193 v194 v195 v196 v197 v198 v199 v200 v201 v202 v203 v204 v205 v206 v207 v208 v209 v210 v211 v212 v213 v214 v215 v216 v217 v218 v219 v220 v221 v222 v223 v224 v225 v226 : Value} {c : Code} (hc : IsSw c) {J K0 K1 K2 K3 : Act → World → Prop} {POST : Ending → World → Prop}
    (hJ : ∀ (a' : Act) (w' : World), (∃ u2 u5 u8 u9 u10 u11 u12 u13 u14 u15 u16 u17 u18 u20 u21 u37 u38 u39 u40 u42 u43 u44 u45 u46 u47 u48 u49 u50 u51 u52 u53 u54 u55 u56 u57 u58 u59 u60 u61 u62 u63 u64 u65 u66 u67 u68 u69 u70 u71 u72 u73 u74 u75 u76 u77 u78 u79 u80 u81 u82 u83 u84 u85 u86 u87 u88 u89 u90 u91 u92 u93 u94 u95 u96 u97 u98 u99 u100 u101 u102 u103 u104 u105 u106 u107 u108 u109 u110 u111 u112 u113 u114 u115 u116 u117 u118 u119 u120 u121 u122 u123 u124 u125 u126 u127 u128 u129 u130 u131 u132 u133 u134 u135 u136 u137 u138 u139 u140 u141 u142 u143 u144 u145 u146 u147 u148 u149 u150 u151 u152 u153 u154 u155 u156 u157 u158 u159 u160 u161 u162 u163 u164 u165 u166 u167 u168 u169 u170 u171 u172 u173 u174 u175 u176 u177 u178 u179 u180 u181 u182 u183 u184 u185 u186 u187 u188 u189 u190 u191 u192 u193 u194 u195 u196 u197 u198 u199 u200 u201 u202 u203 u204 u205 u206 u207 u208 u209 u210 u211 u212 u213 u214 u215 u216 u217 u218 u219 u220 u221 u222 u223 u224 u225 u226, LJ W m F i Bo (opA (5) nm tx (.slice Ap ps.length cp) (.slice Ag ag.length cg)) u5 w' ∧ a' = { tmps := #[v0, v1, u2, .pointer (some ⟨F, 0, none⟩), .pointer (some ⟨m, 0, none⟩), u5, v6, .pointer (some ⟨Bo, 0, none⟩), u8, u9, u10, u11, u12, u13, u14, u15, u16, u17, u18, v19, u20, u21, v22, v23, v24, v25, v26, v27, v28, v29, v30, v31, v32, v33, v34, v35, v36, u37, u38, u39, u40, .int .i64 5, u42, u43, u44, u45, u46, u47, u48, u49, u50, u51, u52, u53, u54, u55, u56, u57, u58, u59, u60, u61, u62, u63, u64, u65, u66, u67, u68, u69, u70, u71, u72, u73, u74, u75, u76, u77, u78, u79, u80, u81, u82, u83, u84, u85, u86, u87, u88, u89, u90, u91, u92, u93, u94, u95, u96, u97, u98, u99, u100, u101, u102, u103, u104, u105, u106, u107, u108, u109, u110, u111, u112, u113, u114, u115, u116, u117, u118, u119, u120, u121, u122, u123, u124, u125, u126, u127, u128, u129, u130, u131, u132, u133, u134, u135, u136, u137, u138, u139, u140, u141, u142, u143, u144, u145, u146, u147, u148, u149, u150, u151, u152, u153, u154, u155, u156, u157, u158, u159, u160, u161, u162, u163, u164, u165, u166, u167, u168, u169, u170, u171, u172, u173, u174, u175, u176, u177, u178, u179, u180, u181, u182, u183, u184, u185, u186, u187, u188, u189, u190, u191, u192, u193, u194, u195, u196, u197, u198, u199, u200, u201, u202, u203, u204, u205, u206, u207, u208, u209, u210, u211, u212, u213, u214, u215, u216, u217, u218, u219, u220, u221, u222, u223, u224, u225, u226], defers := [] }) → J a' w')
    (hK : ∀ (a' : Act) (w' : World), Met J a' w' → K0 a' w') :
    Code.wp Try.prog c (Exit.then K0 (Exit.inBlock 1 (Exit.then K1 (Exit.then K2 (Exit.inBlock 0 (Exit.then K3 (bodyPost Try.prog Try.f6 POST))))))) { tmps := #[v0, v1, v2, .pointer (some ⟨F, 0, none⟩), .pointer (some ⟨m, 0, none⟩), u5, v6, .pointer (some ⟨Bo, 0, none⟩), v8, v9, v10, v11, v12, v13, v14, v15, v16, v17, v18, v19, v20, v21, v22, v23, v24, v25, v26, v27, v28, v29, v30, v31, v32, v33, v34, v35, v36, v37, v38, v39, v40, .int .i64 5, v42, v43, v44, v45, v46, v47, v48, v49, v50, v51, v52, v53, v54, v55, v56, v57, v58, v59, v60, v61, v62, v63, v64, v65, v66, v67, v68, v69, v70, v71, v72, v73, v74, v75, v76, v77, v78, v79, v80, v81, v82, v83, v84, v85, v86, v87, v88, v89, v90, v91, v92, v93, v94, v95, v96, v97, v98, v99, v100, v101, v102, v103, v104, v105, v106, v107, v108, v109, v110, v111, v112, v113, v114, v115, v116, v117, v118, v119, v120, v121, v122, v123, v124, v125, v126, v127, v128, v129, v130, v131, v132, v133, v134, v135, v136, v137, v138, v139, v140, v141, v142, v143, v144, v145, v146, v147, v148, v149, v150, v151, v152, v153, v154, v155, v156, v157, v158, v159, v160, v161, v162, v163, v164, v165, v166, v167, v168, v169, v170, v171, v172, v173, v174, v175, v176, v177, v178, v179, v180, v181, v182, v183, v184, v185, v186, v187, v188, v189, v190, v191, v192, v193, v194, v195, v196, v197, v198, v199, v200, v201, v202, v203, v204, v205, v206, v207, v208, v209, v210, v211, v212, v213, v214, v215, v216, v217, v218, v219, v220, v221, v222, v223, v224, v225, v226], defers := [] } wA := by
  have c0 : wA.cell? ⟨Bo, 0, none⟩ = some (.int .i64 5) := cell_of_row wA _ 0 _ _ _ HBA.out.2
  have c1 : wA.cell? ⟨Bo, 1, none⟩ = some (.string nm) := cell_of_row wA _ 1 _ _ _ HBA.out.2
  have c2 : wA.cell? ⟨Bo, 2, none⟩ = some (.string tx) := cell_of_row wA _ 2 _ _ _ HBA.out.2
  have c3 : wA.cell? ⟨Bo, 3, none⟩ = some (.slice Ap ps.length cp) := cell_of_row wA _ 3 _ _ _ HBA.out.2
  have c4 : wA.cell? ⟨Bo, 4, none⟩ = some (.slice Ag ag.length cg) := cell_of_row wA _ 4 _ _ _ HBA.out.2
  unfold IsSw at hc
  subst hc
  conv => arg 2; whnf
  simp only [List.size_toArray]
  have HP := Lib.hid (lb_pop HBA.out.1)
  go_wp2_with fail
  refine HP.out.mono ?_
  rintro e w5 ⟨rfl, ⟨G1, hB1⟩, hk1⟩
  dsimp only
  have HP5 := Lib.hid (lb_pop24 hB1)
  have HX := Lib.hid hk1
  clear hB1 hk1
  go_wp2_with fail
  refine HP5.out.mono ?_
  rintro e w6 ⟨rfl, hB2, hk2⟩
  dsimp only
  have HX2 := Lib.hid (And.intro hB2 (HX.out.trans hk2))
  clear hB2 hk2
  go_wp2_with fail
  go_meet
  obtain ⟨hB2, hk⟩ := HX2.out
  have f := popS_facts st
  exact ⟨_, _, by rw [f.2.1]; exact hB2, by rw [f.2.1]; exact Nat.le_succ_of_le HB.out.2.1, by rw [f.2.2]; exact Nat.le_trans HB.out.2.2.1 (Nat.le_add_right _ _), Nat.le_trans f.1 HB.out.2.2.2, hk.stay _ _ _ (by decide) HBA.out.2⟩
end Go.Proofs.Ytbpaiocbgbpiaaa
