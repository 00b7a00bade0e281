/-
  The reference's Hunks: a round that keeps lines within a hunk. No statement of the seat is proved here.
-/
import Derived.Test.YtlcidbbpjlpmjaaDoorUw
namespace Go.Proofs.YtlcidbbpjlpmjaaDoor
open Go.RowKit

set_option maxHeartbeats 40000000 in
set_option maxRecDepth 1000000 in
theorem rh_B {a b : List (List UInt8)} {Aa Ab As A : Option Addr} {ca cb B ar cs cp p k : Nat} {w1 wr : World} {HS : List HkD} {E : List EdD} {i j : Nat} {out : List HkD} {opn : Bool} {e : EdD} {N K : Act → World → Prop} {post : Ending → World → Prop} {u15 u16 u17 u18 u19 u20 u21 u37 u38 u39 u40 u41 u42 u43 u44 u45 u46 u47 u48 u49 u50 u51 u52 u53 u54 u55 u56 u57 u58 u59 u60 u61 u62 u63 u64 u65 u66 u67 u68 u69 u70 u71 u72 u73 u74 u75 u76 u77 u78 u79 u80 u81 u82 u83 u84 u85 u86 u87 u88 u89 u90 u91 u92 u93 u94 u95 u96 u97 u98 u99 u100 u101 u102 u103 u104 u105 u106 u107 u108 u109 u110 u111 u112 u113 u114 u115 u116 u117 u118 u119 u120 u121 u122 u123 u124 u125 u126 u127 u128 u129 u130 u131 u132 u133 u134 u135 u136 u137 u138 u139 u140 u141 u142 u143 u144 u145 u146 u147 u148 u149 u150 u151 u152 u153 u154 u155 u156 u157 u158 u159 u160 u161 u162 u163 u164 u165 u166 u167 u168 u169 u170 u171 u172 u173 u174 u175 u176 u177 u178 u179 u180 u181 u182 u183 u184 u185 u186 u187 u188 u189 u190 u191 u192 u193 u194 u195 u196 u197 u198 u199 u200 u201 u202 u203 u204 u205 u206 u207 u208 u209 u210 u211 u212 u213 u214 u215 u216 u217 u218 u219 u220 u221 u222 u223 u224 u225 u226 u227 u228 u229 u230 u231 u232 u233 u234 u235 u236 u237 u238 u239 u240 u241 u242 u243 u244 u245 u246 u247 u248 u249 u250 u251 u252 u253 u254 u255 : Value}
    (hB : B ≤ w1.heap.size) (hca : a.length ≤ ca) (hal : a.length ≤ 200) (_hcb : b.length ≤ cb) (hbl : b.length ≤ 200) (har : ar ≤ 10) (hr1 : Reads w1 B 1 Aa a.length (strL a)) (hrb1 : Reads w1 B 1 Ab b.length (strL b)) (hE : E.length ≤ a.length + b.length) (hrs1 : Reads w1 w1.heap.size 2 As E.length (edLs E)) (_hk : k ≤ E.length) (hrow : HR wr w1.heap.size A cp out p) (hI : RInv a b ⟨i, j, out, opn⟩ k (E.drop k)) (hed : (refsP a b ar ⟨i, j, out, opn⟩ (E.drop k)).out = HS) (hkp : Kept w1.heap.size E3 [] w1 wr) (hlt : k < E.length) (he : E[k]? = some e)
    (h0 : e.op = 0) (hcase : opn = true ∧ (!(E.drop (k + 1)).isEmpty) = true ∧ e.n ≤ 2 * ar)
    (HQ : Hid (∀ (s10 s11 s12 s13 s14 v15 v16 v17 v18 v19 v20 v21 v37 v38 v39 v40 v41 v42 v43 v44 v45 v46 v47 v48 v49 v50 v51 v52 v53 v54 v55 v56 v57 v58 v59 v60 v61 v62 v63 v64 v65 v66 v67 v68 v69 v70 v71 v72 v73 v74 v75 v76 v77 v78 v79 v80 v81 v82 v83 v84 v85 v86 v87 v88 v89 v90 v91 v92 v93 v94 v95 v96 v97 v98 v99 v100 v101 v102 v103 v104 v105 v106 v107 v108 v109 v110 v111 v112 v113 v114 v115 v116 v117 v118 v119 v120 v121 v122 v123 v124 v125 v126 v127 v128 v129 v130 v131 v132 v133 v134 v135 v136 v137 v138 v139 v140 v141 v142 v143 v144 v145 v146 v147 v148 v149 v150 v151 v152 v153 v154 v155 v156 v157 v158 v159 v160 v161 v162 v163 v164 v165 v166 v167 v168 v169 v170 v171 v172 v173 v174 v175 v176 v177 v178 v179 v180 v181 v182 v183 v184 v185 v186 v187 v188 v189 v190 v191 v192 v193 v194 v195 v196 v197 v198 v199 v200 v201 v202 v203 v204 v205 v206 v207 v208 v209 v210 v211 v212 v213 v214 v215 v216 v217 v218 v219 v220 v221 v222 v223 v224 v225 v226 v227 v228 v229 v230 v231 v232 v233 v234 v235 v236 v237 v238 v239 v240 v241 v242 v243 v244 v245 v246 v247 v248 v249 v250 v251 v252 v253 v254 v255 : Value) (wx : World), RHRel a b ar w1 HS E s10 s11 s12 s13 s14 wx → E.length - (intOf s14).toNat < E.length - k → N (⟨#[.slice Aa a.length ca, .slice Ab b.length cb, .int .i64 (ar : Int), undef, undef, undef, .slice none 0 0, .int .i64 0, .slice As E.length cs, .int .i64 0, s10, s11, s12, s13, s14, v15, v16, v17, v18, v19, v20, v21, .int .i64 (ar : Int), .bool false, .bool false, .int .i64 (ar : Int), .bool false, .bool false, .tuple #[.slice As E.length cs, .int .i64 0], .slice Aa a.length ca, .slice Ab b.length cb, .tuple #[.slice As E.length cs, .int .i64 0], .slice As E.length cs, .int .i64 0, .int .i64 0, .bool false, undef, v37, v38, v39, v40, v41, v42, v43, v44, v45, v46, v47, v48, v49, v50, v51, v52, v53, v54, v55, v56, v57, v58, v59, v60, v61, v62, v63, v64, v65, v66, v67, v68, v69, v70, v71, v72, v73, v74, v75, v76, v77, v78, v79, v80, v81, v82, v83, v84, v85, v86, v87, v88, v89, v90, v91, v92, v93, v94, v95, v96, v97, v98, v99, v100, v101, v102, v103, v104, v105, v106, v107, v108, v109, v110, v111, v112, v113, v114, v115, v116, v117, v118, v119, v120, v121, v122, v123, v124, v125, v126, v127, v128, v129, v130, v131, v132, v133, v134, v135, v136, v137, v138, v139, v140, v141, v142, v143, v144, v145, v146, v147, v148, v149, v150, v151, v152, v153, v154, v155, v156, v157, v158, v159, v160, v161, v162, v163, v164, v165, v166, v167, v168, v169, v170, v171, v172, v173, v174, v175, v176, v177, v178, v179, v180, v181, v182, v183, v184, v185, v186, v187, v188, v189, v190, v191, v192, v193, v194, v195, v196, v197, v198, v199, v200, v201, v202, v203, v204, v205, v206, v207, v208, v209, v210, v211, v212, v213, v214, v215, v216, v217, v218, v219, v220, v221, v222, v223, v224, v225, v226, v227, v228, v229, v230, v231, v232, v233, v234, v235, v236, v237, v238, v239, v240, v241, v242, v243, v244, v245, v246, v247, v248, v249, v250, v251, v252, v253, v254, v255, undef], []⟩ : Act) wx)) :
    Code.wp Tryd.prog (((Tryd.f14.body.map loopsOf).getD []).getD 0 .skip) (Exit.then N (Exit.inBlock 0 (Exit.then K (bodyPost Tryd.prog Tryd.f14 post)))) (⟨#[.slice Aa a.length ca, .slice Ab b.length cb, .int .i64 (ar : Int), undef, undef, undef, .slice none 0 0, .int .i64 0, .slice As E.length cs, .int .i64 0, .slice A (List.length out) cp, .int .i64 (i : Nat), .int .i64 (j : Nat), .bool opn, .int .i64 (k : Nat), u15, u16, u17, u18, u19, u20, u21, .int .i64 (ar : Int), .bool false, .bool false, .int .i64 (ar : Int), .bool false, .bool false, .tuple #[.slice As E.length cs, .int .i64 0], .slice Aa a.length ca, .slice Ab b.length cb, .tuple #[.slice As E.length cs, .int .i64 0], .slice As E.length cs, .int .i64 0, .int .i64 0, .bool false, undef, u37, u38, u39, u40, u41, u42, u43, u44, u45, u46, u47, u48, u49, u50, u51, u52, u53, u54, u55, u56, u57, u58, u59, u60, u61, u62, u63, u64, u65, u66, u67, u68, u69, u70, u71, u72, u73, u74, u75, u76, u77, u78, u79, u80, u81, u82, u83, u84, u85, u86, u87, u88, u89, u90, u91, u92, u93, u94, u95, u96, u97, u98, u99, u100, u101, u102, u103, u104, u105, u106, u107, u108, u109, u110, u111, u112, u113, u114, u115, u116, u117, u118, u119, u120, u121, u122, u123, u124, u125, u126, u127, u128, u129, u130, u131, u132, u133, u134, u135, u136, u137, u138, u139, u140, u141, u142, u143, u144, u145, u146, u147, u148, u149, u150, u151, u152, u153, u154, u155, u156, u157, u158, u159, u160, u161, u162, u163, u164, u165, u166, u167, u168, u169, u170, u171, u172, u173, u174, u175, u176, u177, u178, u179, u180, u181, u182, u183, u184, u185, u186, u187, u188, u189, u190, u191, u192, u193, u194, u195, u196, u197, u198, u199, u200, u201, u202, u203, u204, u205, u206, u207, u208, u209, u210, u211, u212, u213, u214, u215, u216, u217, u218, u219, u220, u221, u222, u223, u224, u225, u226, u227, u228, u229, u230, u231, u232, u233, u234, u235, u236, u237, u238, u239, u240, u241, u242, u243, u244, u245, u246, u247, u248, u249, u250, u251, u252, u253, u254, u255, undef], []⟩ : Act) wr := by
  conv => arg 2; whnf
  dsimp only
  have hz2 := hkp.size
  have hdr : E.drop k = e :: E.drop (k + 1) := List.drop_eq_getElem?_toList_append.trans (by rw [he]; rfl)
  have hrs := hrs1.below (hkp.below (B := w1.heap.size) (Nat.le_refl _) (Nat.le_refl _) (by simp))
  obtain ⟨gs, os, hAs, hgs, hcs⟩ := hrs.at0 (by omega) (by omega)
  subst hAs
  have HL1 := Lib.hid (load_edit_at hcs he)
  rw [hdr] at hI hed
  have HED := Lib.hid hed
  have hI2 := fun more => hI.next (ar := ar) har more
  have ha2 := hr1.below (hkp.below (B := B) (by omega) (by omega) (by simp))
  have hb2 := hrb1.below (hkp.below (B := B) (by omega) (by omega) (by simp))
  have HRA := Lib.hid (show ∀ W, Kept w1.heap.size E3 [] w1 W → Reads W B 1 Aa a.length (strL a) from fun W hW => hr1.below (hW.below (B := B) (by omega) (by omega) (by simp)))
  have HRB := Lib.hid (show ∀ W, Kept w1.heap.size E3 [] w1 W → Reads W B 1 Ab b.length (strL b) from fun W hW => hrb1.below (hW.below (B := B) (by omega) (by omega) (by simp)))
  have HRW := Lib.hid (fun W (hW : Keep Nothing wr W) => (hrow.fresh (Nat.le_refl _)).keepN hW)
  clear hed hdr he hcs hrs hrow
  go_upto_region 13 with (first | (refine wpList_load rfl rfl rfl HL1.out ?_) | (refine wpList_storeBlk rfl rfl (vs := edC e) rfl rfl (Blk.new _ _ _) rfl info_edit (edC_one e) ?_; intro w3 hx3 hk3 hz3))
  have hkN := Keep.ofNew (S := Nothing) hk3
  have hrow := HRW.out w3 hkN
  have ha3 := ha2.below (hkN.below (by omega) (fun _ _ h => h))
  have hb3 := hb2.below (hkN.below (by omega) (fun _ _ h => h))
  have hkp3 := hkp.trans (Kept.ofKeep hkN (fun _ _ h => absurd h (fun h => h)))
  have hp3 : wr.heap.size < w3.heap.size := hx3.lt
  clear HRW HL1 hk3 hz3 hkN ha2 hb2 hkp
  generalize wr.heap.size = p at *
  obtain ⟨ai, bj, op, ol, bd, al⟩ := hI
  have hen := al e (by simp)
  simp only [fromA, fromB, List.map_cons, List.sum_cons] at ai bj
  simp only at ai bj op ol bd hrow
  have HC := Lib.hid hcase
  clear hcase
  have hb0 : ((e.op : Int) == 0) = true := beq_iff_eq.2 (by omega)
  have hb0n : ((e.op : Int) != 0) = false := by simp [h0]
  have hmore : decide ((k : Int) + 1 < (E.length : Int)) = !(E.drop (k + 1)).isEmpty := by
    cases hx : E.drop (k + 1) with
    | nil =>
      have := congrArg List.length hx
      simp at this
      have h2 : ¬ ((k : Int) + 1 < (E.length : Int)) := by omega
      simp [h2]
    | cons y t =>
      have := congrArg List.length hx
      simp at this
      have h2 : (k : Int) + 1 < (E.length : Int) := by omega
      simp [h2]
  obtain ⟨mo, hmo⟩ : ∃ m, (!(E.drop (k + 1)).isEmpty) = m := ⟨_, rfl⟩
  rw [hmo] at hmore
  have HMM := Lib.hid hmo
  clear hmo
  rw [h0] at ai bj
  simp at ai bj
  have HOP := Lib.hid h0
  clear h0
  have t1 : IntKind.i64.wrap (2 * (ar : Int)) = 2 * (ar : Int) := IntWalk.i64_in _ (by omega)
  have x0 := hx3.cell 0
  have x1 := hx3.cell 1
  simp [edC] at x0 x1
  go_upto_region 25 with fail
  go_cut [129] from 119 to 128 (fun s129 wx => s129 = .bool (decide (opn = true ∧ mo = true ∧ e.n ≤ 2 * ar)) ∧ w3 = wx)
  case first =>
    have hle : decide ((e.n : Int) ≤ 2 * (ar : Int)) = decide (e.n ≤ 2 * ar) := decide_eq_decide.2 (by omega)
    cases opn <;> cases mo
    all_goals
      go_wp2_with fail
      go_meet
      exact ⟨by first | rfl | (simp; done) | (simp; done) | (exact absurd HC.out.1 (by simp)) | (simp [HC.out.2.2]; done) | (simp; exact HC.out.2.2), rfl⟩
  case rest =>
    obtain ⟨rfl, rfl⟩ := hcut
    clear x0 x1
    cases hzz : decide (opn = true ∧ mo = true ∧ e.n ≤ 2 * ar) with
    | false => exact absurd ⟨HC.out.1, by rw [← HMM.out]; exact HC.out.2.1, HC.out.2.2⟩ (of_decide_eq_false hzz)
    | true =>
      obtain ⟨rfl, rfl, hn2ar⟩ := of_decide_eq_true hzz
      clear hzz
      rcases hrow with ⟨h1, _⟩ | ⟨ini, tv, h, EA, ec, LA, lc, bk, h1, hl, hn⟩
      · exact absurd h1 (op rfl)
      have HH1 := Lib.hid h1
      have hbh := bd h (by rw [h1]; simp)
      have hil : ini.length ≤ 8000 := by rw [h1] at ol; simp at ol; omega
      rw [show out.length = ini.length + 1 from by rw [h1]; simp]
      obtain ⟨g, rfl, hg⟩ := hl.adr
      clear h1 bd op ol
      generalize w3 = w4 at *
      have hm1a : h.eds.length + 1 ≤ maxLen := by unfold maxLen; omega
      have hm2a : (h.eds.length + 1) * 16 ≤ 140737488355328 := by omega
      go_upto_region 27 with fail
      go_cut [] from 134 to 144 (fun wx => ∃ EA' ec', HL wx w1.heap.size bk (some ⟨g, 0, none⟩) cp ini tv ⟨h.a, h.b, h.eds ++ [e], h.ls⟩ EA' ec' LA lc ∧ NotB EA' (h.eds.length + 1) ec' p ∧ Blk wx p 67 (edC e) ∧ Kept w1.heap.size E3 [] w1 wx)
      case first =>
        have hkA : Keep Nothing w4 (w4.drew.alloc (.cells #[.int .i64 (e.op : Int), .int .i64 (e.n : Int)] 67)) := ((Keep.refl _ _).drew).alloc _
        have hlA := hl.keepN hkA
        have c2 := (hl.at_ 2 (by omega) _ rfl).1
        have c2a := (hlA.at_ 2 (by omega) _ rfl).1
        have c2b := ((hl.keepN ((Keep.refl Nothing w4).alloc (.cells #[.int .i64 (e.op : Int), .int .i64 (e.n : Int)] 67))).at_ 2 (by omega) _ rfl).1
        have x0 := hx3.cell 0
        have x1 := hx3.cell 1
        simp [edC] at x0 x1
        have HS := Lib.hid (fun A1 c1 w5 o1 k1 n1 => HL.edsStep (w1 := w5) (A1 := A1) (c1 := c1) (e := e) (x := e) hlA hn (hx3.drew.alloc _) (hkp3.drew.alloc _) o1 k1 n1)
        have hm3 := hlA.hi
        have HOE := Lib.hid hlA.oe
        clear hl hlA hx3 hkp3 hkA
        go_region_law (first | (refine step_append_slf (by rfl) elemEdit (by rfl) (by rfl) (n := h.eds.length) (xs := edLs h.eds) (by exact HOE.out) (by omega) (by rfl) (Reads.of_blk (n := 1) (xs := edL e) (heap_alloc_new _ _) rfl rfl) (edL_one e) hm1a hm2a hm3 ?_; intro A1 c1 w5 o1 k1 n1; obtain ⟨d1, d2, HD⟩ := HS.out A1 c1 w5 o1 k1 n1; clear o1 k1 n1))
        all_goals
          go_wp2_with fail
          go_meet
          exact ⟨A1, c1, HD.out⟩
      case rest =>
        obtain ⟨EA2, ec2, hl2, hn2, hx5, hkp5⟩ := hcut
        clear hl hn hx3 hkp3
        obtain ⟨l, hll⟩ : ∃ l, (a.drop i).take e.n = l := ⟨_, rfl⟩
        have hln : l.length = e.n := by rw [← hll]; simp; omega
        have hsrc : Reads wc.drew B 1 (Option.map (fun x => x.add i) Aa) e.n (strL l) := by
          have r0 := HRA.out wc.drew hkp5.drew
          have r1 := (r0.cut (k := i) (by omega) hca).front (k := e.n) (by omega)
          rw [if_neg (by omega), Nat.mul_one, Nat.mul_one] at r1
          rw [← hll]
          simpa [strL, List.map_drop, List.map_take] using r1
        have HSTEP := Lib.hid (fun A2 c22 w6 o1 k1 => HL.lnsStep' (w1 := w6) (A1 := A2) (c1 := c22) (l := l) hln hl2.drew hx5.drew hkp5.drew o1 k1)
        have c3 := (hl2.at_ 3 (by omega) _ rfl).1
        have x0 := hx5.cell 0
        have x1 := hx5.cell 1
        simp [edC] at x0 x1
        have hol := hl2.ol.drew
        have hhi := hl2.hi
        have hm5 : h.ls.length + e.n ≤ maxLen := by unfold maxLen; omega
        have hm6 : (h.ls.length + e.n) * 16 ≤ 140737488355328 := by omega
        have s0 : IntKind.i64.wrap ((i : Int) + (e.n : Int)) = (i : Int) + (e.n : Int) := IntWalk.i64_in _ (by omega)
        have s1 : (i : Int) ≤ (i : Int) + (e.n : Int) := by omega
        have s2 : (i : Int) + (e.n : Int) ≤ (ca : Int) := by omega
        have s3 : ((i : Int) + (e.n : Int)).toNat = i + e.n := by omega
        have s4 : i + e.n - i = e.n := by omega
        have s5 : ¬ (ca = i) := by omega
        have s6 : (0 : Int) ≤ (i : Int) + (e.n : Int) := by omega
        have s7 : i + e.n ≤ ca := by omega
        have s8 : ((i : Int) + (e.n : Int) - (i : Int)).toNat = e.n := by omega
        have HREF := Lib.hid (refP_k1 (a := a) (b := b) (ar := ar) (i := i) (j := j) (uns := e) HOP.out HH1.out hll hln hen.1 hn2ar)
        clear hl2 hll hx5 hkp5 hn2ar
        go_upto_region 28 with fail
        go_region_law (first | (refine step_append_sl (by rfl) elemStr (by rfl) (by rfl) (n := h.ls.length) (xs := strL h.ls) (by exact hol) (by rfl) hsrc (strL_one l) hm5 hm6 hhi ?_; intro A2 c22 w6 o3 k3; obtain ⟨f1, f2, HD⟩ := HSTEP.out A2 c22 w6 o3 k3; obtain ⟨HL3, HX3, HK3⟩ := HD.out; have HL3 := Lib.hid HL3; have y1 := HX3.cell 1; have y1d := HX3.drew.cell 1; simp [edC] at y1 y1d; have HX3 := Lib.hid HX3; have HK3 := Lib.hid HK3; clear HD o3 k3))
        all_goals
          go_wp2_with fail
          refine HQ.out _ _ _ _ _ _ _ _ _ _ _ _ _ _ _ _ _ _ _ _ _ _ _ _ _ _ _ _ _ _ _ _ _ _ _ _ _ _ _ _ _ _ _ _ _ _ _ _ _ _ _ _ _ _ _ _ _ _ _ _ _ _ _ _ _ _ _ _ _ _ _ _ _ _ _ _ _ _ _ _ _ _ _ _ _ _ _ _ _ _ _ _ _ _ _ _ _ _ _ _ _ _ _ _ _ _ _ _ _ _ _ _ _ _ _ _ _ _ _ _ _ _ _ _ _ _ _ _ _ _ _ _ _ _ _ _ _ _ _ _ _ _ _ _ _ _ _ _ _ _ _ _ _ _ _ _ _ _ _ _ _ _ _ _ _ _ _ _ _ _ _ _ _ _ _ _ _ _ _ _ _ _ _ _ _ _ _ _ _ _ _ _ _ _ _ _ _ _ _ _ _ _ _ _ _ _ _ _ _ _ _ _ _ _ _ _ _ _ _ _ _ _ _ _ _ _ _ _ _ _ _ _ ?rel ?measure
          case rel =>
            have hI3 := hI2 (!(E.drop (k + 1)).isEmpty)
            have hed := HED.out
            rw [refsP, HMM.out, HREF.out] at hed
            rw [HMM.out, HREF.out] at hI3
            exact ⟨k + 1, _, _, cp, p, by omega, by go_num, by simp, by go_num, by go_num, rfl, .inr ⟨ini, tv, _, EA2, ec2, A2, c22, bk, rfl, HL3.out, by simpa using hn2⟩, hI3, hed, HK3.out⟩
          case measure => simp [intOf]; omega
end Go.Proofs.YtlcidbbpjlpmjaaDoor
