/-
  Contract of the reference's Hunks: the walk. No statement of the seat is proved here.
-/
import Derived.Test.YtlcidbbpjlpmjaaDoorUa
import Derived.Test.YtlcidbbpjlpmjaaDoorUb
import Derived.Test.YtlcidbbpjlpmjaaDoorUc
namespace Go.Proofs.YtlcidbbpjlpmjaaDoor
open Go.RowKit

def RHunksPost (a b : List (List UInt8)) (ar : Nat) (w : World) (r : Ending) (w' : World) : Prop := ∃ A cp, r = .returned (.tuple #[.slice A (hunksP a b ar).length cp, .int .i64 0]) ∧ (hunksP a b ar).length ≤ cp ∧ cp ≤ maxLen ∧ HIn w' w'.heap.size A (hunksP a b ar) ∧ Below w.heap.size w w'
set_option maxHeartbeats 4000000 in
set_option maxRecDepth 100000 in
theorem rhunks_any (a b : List (List UInt8)) (Aa Ab : Option Addr) (ca cb B ar : Nat) (w : World) (hr : Reads w B 1 Aa a.length (strL a)) (hrb : Reads w B 1 Ab b.length (strL b)) (hB : B ≤ w.heap.size) (hca : a.length ≤ ca) (hal : a.length ≤ 200) (hcb : b.length ≤ cb) (hbl : b.length ≤ 200) (har : ar ≤ 10) :
    Calls Tryd.prog 14 #[.slice Aa a.length ca, .slice Ab b.length cb, .int .i64 (ar : Int)] w (RHunksPost a b ar w) := by
  have HP := Lib.hid (show RHunksPost a b ar w = fun r w' => ∃ A cp, r = .returned (.tuple #[.slice A (hunksP a b ar).length cp, .int .i64 0]) ∧ (hunksP a b ar).length ≤ cp ∧ cp ≤ maxLen ∧ HIn w' w'.heap.size A (hunksP a b ar) ∧ Below w.heap.size w w' from rfl)
  rw [HP.out]
  clear HP
  have u1 : decide ((ar : Int) < 0) = false := decide_eq_false (by omega)
  have u2 : decide ((10 : Int) < (ar : Int)) = false := decide_eq_false (by omega)
  have u3 : ¬ ((10 : Int) < (ar : Int)) := by omega
  go_enter Tryd.func14, Tryd.ntmps14
  go_wp2_with fail
  refine (rdiff_any a b Aa Ab ca cb B w hr hrb hB hal hbl).mono ?_
  rintro r w1 ⟨As, cs, rfl, hos, hb1⟩
  go_wp2_with fail
  clear u1 u2 u3
  have hz1 := hb1.size
  have hr1 := hr.below (hb1.mono hB)
  have hrb1 := hrb.below (hb1.mono hB)
  have hE := (diffP_of a b).2.2.2
  have hrs1 := hos.reads
  have hI := RInv.start a b
  have HH := Lib.hid (hunks_ref a b ar)
  obtain ⟨HS, hHS⟩ : ∃ x, hunksP a b ar = x := ⟨_, rfl⟩
  rw [hHS] at HH
  have HHS := Lib.hid hHS
  clear hHS hos hr hrb
  generalize diffP a b = E at *
  go_loopw [10, 11, 12, 13, 14] (fun s10 s11 s12 s13 s14 wr => RHRel a b ar w1 HS E s10 s11 s12 s13 s14 wr) (fun _ _ _ _ i _ => E.length - (intOf i).toNat)
  case atStart => exact ⟨0, ⟨0, 0, [], false⟩, none, 0, 0, Nat.zero_le _, rfl, rfl, rfl, rfl, rfl, .inl ⟨rfl, rfl, rfl⟩, by simpa using hI, by simpa using HH.out.symm, Kept.refl _ _ _ _⟩
  case round =>
    obtain ⟨k, c, A, cp, p, hk, rfl, rfl, rfl, rfl, rfl, hrow, hI, hed, hkp⟩ := hrel
    obtain ⟨i, j, out, opn⟩ := c
    have hz2 := hkp.size
    by_cases hlt : k < E.length
    · obtain ⟨e, he⟩ : ∃ e, E[k]? = some e := ⟨_, List.getElem?_eq_getElem hlt⟩
      by_cases h0 : e.op = 0
      · by_cases hcase : opn = true ∧ (!(E.drop (k + 1)).isEmpty) = true ∧ e.n ≤ 2 * ar
        · refine rh_B (B := B) (by omega) hca hal hcb hbl har hr1 hrb1 hE hrs1 hk hrow hI hed hkp hlt he h0 hcase (Lib.hid ?_)
          intro s10 s11 s12 s13 s14 v15 v16 v17 v18 v19 v20 v21 v37 v38 v39 v40 v41 v42 v43 v44 v45 v46 v47 v48 v49 v50 v51 v52 v53 v54 v55 v56 v57 v58 v59 v60 v61 v62 v63 v64 v65 v66 v67 v68 v69 v70 v71 v72 v73 v74 v75 v76 v77 v78 v79 v80 v81 v82 v83 v84 v85 v86 v87 v88 v89 v90 v91 v92 v93 v94 v95 v96 v97 v98 v99 v100 v101 v102 v103 v104 v105 v106 v107 v108 v109 v110 v111 v112 v113 v114 v115 v116 v117 v118 v119 v120 v121 v122 v123 v124 v125 v126 v127 v128 v129 v130 v131 v132 v133 v134 v135 v136 v137 v138 v139 v140 v141 v142 v143 v144 v145 v146 v147 v148 v149 v150 v151 v152 v153 v154 v155 v156 v157 v158 v159 v160 v161 v162 v163 v164 v165 v166 v167 v168 v169 v170 v171 v172 v173 v174 v175 v176 v177 v178 v179 v180 v181 v182 v183 v184 v185 v186 v187 v188 v189 v190 v191 v192 v193 v194 v195 v196 v197 v198 v199 v200 v201 v202 v203 v204 v205 v206 v207 v208 v209 v210 v211 v212 v213 v214 v215 v216 v217 v218 v219 v220 v221 v222 v223 v224 v225 v226 v227 v228 v229 v230 v231 v232 v233 v234 v235 v236 v237 v238 v239 v240 v241 v242 v243 v244 v245 v246 v247 v248 v249 v250 v251 v252 v253 v254 v255 wx hrel hmu
          refine ⟨?_, ?_⟩
          · exact ⟨s10, s11, s12, s13, s14, v15, v16, v17, v18, v19, v20, v21, v37, v38, v39, v40, v41, v42, v43, v44, v45, v46, v47, v48, v49, v50, v51, v52, v53, v54, v55, v56, v57, v58, v59, v60, v61, v62, v63, v64, v65, v66, v67, v68, v69, v70, v71, v72, v73, v74, v75, v76, v77, v78, v79, v80, v81, v82, v83, v84, v85, v86, v87, v88, v89, v90, v91, v92, v93, v94, v95, v96, v97, v98, v99, v100, v101, v102, v103, v104, v105, v106, v107, v108, v109, v110, v111, v112, v113, v114, v115, v116, v117, v118, v119, v120, v121, v122, v123, v124, v125, v126, v127, v128, v129, v130, v131, v132, v133, v134, v135, v136, v137, v138, v139, v140, v141, v142, v143, v144, v145, v146, v147, v148, v149, v150, v151, v152, v153, v154, v155, v156, v157, v158, v159, v160, v161, v162, v163, v164, v165, v166, v167, v168, v169, v170, v171, v172, v173, v174, v175, v176, v177, v178, v179, v180, v181, v182, v183, v184, v185, v186, v187, v188, v189, v190, v191, v192, v193, v194, v195, v196, v197, v198, v199, v200, v201, v202, v203, v204, v205, v206, v207, v208, v209, v210, v211, v212, v213, v214, v215, v216, v217, v218, v219, v220, v221, v222, v223, v224, v225, v226, v227, v228, v229, v230, v231, v232, v233, v234, v235, v236, v237, v238, v239, v240, v241, v242, v243, v244, v245, v246, v247, v248, v249, v250, v251, v252, v253, v254, v255, hrel, rfl⟩
          · simpa [intOf] using hmu
        · refine rh_C (B := B) (by omega) hca hal hcb hbl har hr1 hrb1 hE hrs1 hk hrow hI hed hkp hlt he h0 hcase (Lib.hid ?_)
          intro s10 s11 s12 s13 s14 v15 v16 v17 v18 v19 v20 v21 v37 v38 v39 v40 v41 v42 v43 v44 v45 v46 v47 v48 v49 v50 v51 v52 v53 v54 v55 v56 v57 v58 v59 v60 v61 v62 v63 v64 v65 v66 v67 v68 v69 v70 v71 v72 v73 v74 v75 v76 v77 v78 v79 v80 v81 v82 v83 v84 v85 v86 v87 v88 v89 v90 v91 v92 v93 v94 v95 v96 v97 v98 v99 v100 v101 v102 v103 v104 v105 v106 v107 v108 v109 v110 v111 v112 v113 v114 v115 v116 v117 v118 v119 v120 v121 v122 v123 v124 v125 v126 v127 v128 v129 v130 v131 v132 v133 v134 v135 v136 v137 v138 v139 v140 v141 v142 v143 v144 v145 v146 v147 v148 v149 v150 v151 v152 v153 v154 v155 v156 v157 v158 v159 v160 v161 v162 v163 v164 v165 v166 v167 v168 v169 v170 v171 v172 v173 v174 v175 v176 v177 v178 v179 v180 v181 v182 v183 v184 v185 v186 v187 v188 v189 v190 v191 v192 v193 v194 v195 v196 v197 v198 v199 v200 v201 v202 v203 v204 v205 v206 v207 v208 v209 v210 v211 v212 v213 v214 v215 v216 v217 v218 v219 v220 v221 v222 v223 v224 v225 v226 v227 v228 v229 v230 v231 v232 v233 v234 v235 v236 v237 v238 v239 v240 v241 v242 v243 v244 v245 v246 v247 v248 v249 v250 v251 v252 v253 v254 v255 wx hrel hmu
          refine ⟨?_, ?_⟩
          · exact ⟨s10, s11, s12, s13, s14, v15, v16, v17, v18, v19, v20, v21, v37, v38, v39, v40, v41, v42, v43, v44, v45, v46, v47, v48, v49, v50, v51, v52, v53, v54, v55, v56, v57, v58, v59, v60, v61, v62, v63, v64, v65, v66, v67, v68, v69, v70, v71, v72, v73, v74, v75, v76, v77, v78, v79, v80, v81, v82, v83, v84, v85, v86, v87, v88, v89, v90, v91, v92, v93, v94, v95, v96, v97, v98, v99, v100, v101, v102, v103, v104, v105, v106, v107, v108, v109, v110, v111, v112, v113, v114, v115, v116, v117, v118, v119, v120, v121, v122, v123, v124, v125, v126, v127, v128, v129, v130, v131, v132, v133, v134, v135, v136, v137, v138, v139, v140, v141, v142, v143, v144, v145, v146, v147, v148, v149, v150, v151, v152, v153, v154, v155, v156, v157, v158, v159, v160, v161, v162, v163, v164, v165, v166, v167, v168, v169, v170, v171, v172, v173, v174, v175, v176, v177, v178, v179, v180, v181, v182, v183, v184, v185, v186, v187, v188, v189, v190, v191, v192, v193, v194, v195, v196, v197, v198, v199, v200, v201, v202, v203, v204, v205, v206, v207, v208, v209, v210, v211, v212, v213, v214, v215, v216, v217, v218, v219, v220, v221, v222, v223, v224, v225, v226, v227, v228, v229, v230, v231, v232, v233, v234, v235, v236, v237, v238, v239, v240, v241, v242, v243, v244, v245, v246, v247, v248, v249, v250, v251, v252, v253, v254, v255, hrel, rfl⟩
          · simpa [intOf] using hmu
      · refine rh_A (B := B) (by omega) hca hal hcb hbl har hr1 hrb1 hE hrs1 hk hrow hI hed hkp hlt he h0 (Lib.hid ?_)
        intro s10 s11 s12 s13 s14 v15 v16 v17 v18 v19 v20 v21 v37 v38 v39 v40 v41 v42 v43 v44 v45 v46 v47 v48 v49 v50 v51 v52 v53 v54 v55 v56 v57 v58 v59 v60 v61 v62 v63 v64 v65 v66 v67 v68 v69 v70 v71 v72 v73 v74 v75 v76 v77 v78 v79 v80 v81 v82 v83 v84 v85 v86 v87 v88 v89 v90 v91 v92 v93 v94 v95 v96 v97 v98 v99 v100 v101 v102 v103 v104 v105 v106 v107 v108 v109 v110 v111 v112 v113 v114 v115 v116 v117 v118 v119 v120 v121 v122 v123 v124 v125 v126 v127 v128 v129 v130 v131 v132 v133 v134 v135 v136 v137 v138 v139 v140 v141 v142 v143 v144 v145 v146 v147 v148 v149 v150 v151 v152 v153 v154 v155 v156 v157 v158 v159 v160 v161 v162 v163 v164 v165 v166 v167 v168 v169 v170 v171 v172 v173 v174 v175 v176 v177 v178 v179 v180 v181 v182 v183 v184 v185 v186 v187 v188 v189 v190 v191 v192 v193 v194 v195 v196 v197 v198 v199 v200 v201 v202 v203 v204 v205 v206 v207 v208 v209 v210 v211 v212 v213 v214 v215 v216 v217 v218 v219 v220 v221 v222 v223 v224 v225 v226 v227 v228 v229 v230 v231 v232 v233 v234 v235 v236 v237 v238 v239 v240 v241 v242 v243 v244 v245 v246 v247 v248 v249 v250 v251 v252 v253 v254 v255 wx hrel hmu
        refine ⟨?_, ?_⟩
        · exact ⟨s10, s11, s12, s13, s14, v15, v16, v17, v18, v19, v20, v21, v37, v38, v39, v40, v41, v42, v43, v44, v45, v46, v47, v48, v49, v50, v51, v52, v53, v54, v55, v56, v57, v58, v59, v60, v61, v62, v63, v64, v65, v66, v67, v68, v69, v70, v71, v72, v73, v74, v75, v76, v77, v78, v79, v80, v81, v82, v83, v84, v85, v86, v87, v88, v89, v90, v91, v92, v93, v94, v95, v96, v97, v98, v99, v100, v101, v102, v103, v104, v105, v106, v107, v108, v109, v110, v111, v112, v113, v114, v115, v116, v117, v118, v119, v120, v121, v122, v123, v124, v125, v126, v127, v128, v129, v130, v131, v132, v133, v134, v135, v136, v137, v138, v139, v140, v141, v142, v143, v144, v145, v146, v147, v148, v149, v150, v151, v152, v153, v154, v155, v156, v157, v158, v159, v160, v161, v162, v163, v164, v165, v166, v167, v168, v169, v170, v171, v172, v173, v174, v175, v176, v177, v178, v179, v180, v181, v182, v183, v184, v185, v186, v187, v188, v189, v190, v191, v192, v193, v194, v195, v196, v197, v198, v199, v200, v201, v202, v203, v204, v205, v206, v207, v208, v209, v210, v211, v212, v213, v214, v215, v216, v217, v218, v219, v220, v221, v222, v223, v224, v225, v226, v227, v228, v229, v230, v231, v232, v233, v234, v235, v236, v237, v238, v239, v240, v241, v242, v243, v244, v245, v246, v247, v248, v249, v250, v251, v252, v253, v254, v255, hrel, rfl⟩
        · simpa [intOf] using hmu
    · have hkE : k = E.length := by omega
      have hd : E.drop k = [] := by rw [hkE]; simp
      rw [hd] at hed
      rw [refsP] at hed
      have HED := Lib.hid hed
      clear hed hd hkE
      go_wp2_with fail
      go_ret2
      rw [HED.out] at hrow ⊢
      obtain ⟨xs, hown⟩ := hrow.own
      rw [HHS.out]
      exact ⟨A, cp, rfl, hown.cap_le.1, hown.cap_le.2, hrow.reads, hb1.trans (hkp.below (by omega) (by omega) (by simp))⟩
end Go.Proofs.YtlcidbbpjlpmjaaDoor
