/-
  CodecCommits: any commit is written, and any bytes read as a commit, by the program as by the document. No condition.
-/
import Derived.Test.YtppmolneklidfaaOpenCom
import Derived.Test.YtppmolneklidfaaRcom3
import Derived.Test.YtppmolneklidfaaScom
namespace Go.Proofs.Ytppmolneklidfaa
open Go.ChangeShapes Go.WideShapes Go.ChangeAt Go.RowKit

section
variable {P : Program}
theorem wpList_bin_g {ops : Array Oper} {rest : List Oper} {o : Oper} {a : Act} {w : World} {Q : Exit → Act → World → Prop} (hw : Region.wanted o (yielded ops a.tmps) = true) {op : BinOp} {t t' : TypeId} {x y : Operand} (ho : o.op = .binOp op t x y t') {u v r : Value} (hx : a.eval x = u) (hy : a.eval y = v) (hg : (eqGuard op t x y u v).run P w = .ok () w) (hrun : (binOp op t u v).run P w = .ok r w)
    (h : wpList P ops Q rest (a.put o.dst r) w) : wpList P ops Q (o :: rest) a w :=
  BigFrame.wpList_want hw fun _ hK => by
    unfold Oper.wp execOp
    simp only [ho, hx, hy, Sem.run_bind, hg, hrun, Result.andThen_ok, Sem.run_pure]
    exact hK _ _ h
theorem wpList_load_g {ops : Array Oper} {rest : List Oper} {o : Oper} {a : Act} {w : World} {Q : Exit → Act → World → Prop} (hw : Region.wanted o (yielded ops a.tmps) = true) {ty : TypeId} {x : Operand} (ho : o.op = .load ty x) {ad : Addr} {v : Value} (hx : a.eval x = .pointer (some ad)) (hrun : (Instr.loadAt ty (.pointer (some ad))).run P w = .ok v w)
    (h : wpList P ops Q rest (a.put o.dst v) w) : wpList P ops Q (o :: rest) a w :=
  BigFrame.wpList_want hw fun _ hK => by
    unfold Oper.wp execOp
    simp only [ho, hx, Sem.run_bind, hrun, Result.andThen_ok, Sem.run_pure]
    exact hK _ _ h
end
theorem add_int (w : World) (a b : Int) : (binOp .add 3 (.int .i64 a) (.int .i64 b)).run Try.prog w = .ok (.int .i64 (IntKind.i64.wrap (a + b))) w := by kernel_rfl
theorem guard_add (w : World) (x y : Operand) (a b : Int) : (eqGuard .add 3 x y (.int .i64 a) (.int .i64 b)).run Try.prog w = .ok () w := rfl

attribute [local go_sem ↓] ld_id eq_id ne_id bd_com st_com

set_option maxHeartbeats 4000000 in
set_option maxRecDepth 100000 in
theorem commits_walk (d : ComD) (b : List UInt8) (A A' : Option Addr) (c c' : Nat) (w : World) (hr : Reads w w.heap.size 32 A d.parents.length (idLs d.parents)) (hb : Reads w w.heap.size 1 A' b.length (b.map bv)) (hpc : d.parents.length ≤ c) (_hcm : c ≤ maxLen) (hbl : b.length ≤ c') (hc' : c' ≤ maxLen) (hau : d.author.size ≤ maxLen) (hms : d.msg.size ≤ maxLen) :
    Calls Try.prog 6 #[.agg (comC d.tree (.slice A d.parents.length c) d.author d.time d.msg), .slice A' b.length c'] w (TruePost w) := by
  have hc'' := hc'
  unfold maxLen at hc'' hau hms
  have ec1 := fun W h1 h2 => encodeCommit_any d A c W h1 h2 hpc hau hms
  have ec2 := fun W h1 h2 => rencodeCommit_any d A c W h1 h2 hpc hau hms
  have EC1 := Lib.hid ec1
  have EC2 := Lib.hid ec2
  clear ec1 ec2
  obtain ⟨t, ps, au, tm, ms⟩ := d
  simp only at hr hpc hau hms EC1 EC2
  generalize encCommit ⟨t, ps, au, tm, ms⟩ = ecr at *
  have q0 : Blk (w.alloc (.cells (comC t (.slice A ps.length c) au tm ms) 45)) w.heap.size 45 (comC t (.slice A ps.length c) au tm ms) := Blk.new _ _ _
  have k0 : Below w.heap.size w (w.alloc (.cells (comC t (.slice A ps.length c) au tm ms) 45)) := (Below.refl _ _).alloc (Nat.le_refl _) _
  go_enter Try.func6, Try.ntmps6
  go_wp2_with (first | (refine wpList_boxed rfl rfl (cs := comC t (.slice A ps.length c) au tm ms) rfl ?_))
  generalize w.alloc (.cells (comC t (.slice A ps.length c) au tm ms) 45) = w0 at *
  refine (known_any _).mono ?_
  rintro r w1 ⟨rfl, hbe1⟩
  have q1 := q0.below hbe1 q0.lt
  have k1 := k0.trans (hbe1.mono k0.size)
  generalize hq : w.heap.size = q at *
  have HQ := Lib.hid hq
  have hqle : q ≤ w.heap.size := by omega
  have hqge : w.heap.size ≤ q := by omega
  have z1 := k1.size
  clear hq q0 k0 hbe1
  have fin : ∀ W : World, Below q w W → TruePost w (.returned (.bool true)) W := fun W h => ⟨rfl, by rw [HQ.out]; exact h⟩
  have HF := Lib.hid fin
  clear fin
  have p1 := (q1.cell 32).trans comC_at.1
  have p2 := (q1.cell 33).trans comC_at.2.1
  have p4 := (q1.cell 35).trans comC_at.2.2.2
  by_cases h1 : 50 < ps.length
  · have d1 : decide ((50 : Int) < (ps.length : Int)) = true := decide_eq_true (by omega)
    go_wp2_with fail
    go_ret
    exact HF.out _ k1
  · have d1 : decide ((50 : Int) < (ps.length : Int)) = false := decide_eq_false (by omega)
    obtain ⟨z, hz⟩ : ∃ z : Int, IntKind.i64.wrap ((au.size : Int) + (ms.size : Int)) = z := ⟨_, rfl⟩
    have hadd := fun W => add_int W (au.size : Int) (ms.size : Int)
    rw [hz] at hadd
    have HADD := Lib.hid hadd
    clear hz hadd
    have htest : ∀ W : World, decide ((5000 : Int) < z) = true ∨ (decide ((5000 : Int) < z) = false ∧ decide ((16384 : Int) < (b.length : Int)) = true) ∨ (decide ((5000 : Int) < z) = false ∧ b.length ≤ 16384) := fun _ => by
      by_cases h2 : (5000 : Int) < z
      · exact .inl (decide_eq_true h2)
      · by_cases h3 : 16384 < b.length
        · exact .inr (.inl ⟨decide_eq_false h2, decide_eq_true (by omega)⟩)
        · exact .inr (.inr ⟨decide_eq_false h2, by omega⟩)
    rcases htest w with d2 | ⟨d2, d3⟩ | ⟨d2, h3⟩
    · go_wp2_with (first | (refine wpList_bin_g (o := ⟨some 26, _, _, _, _, _⟩) (by rfl) rfl rfl rfl (guard_add _ _ _ _ _) (HADD.out _) ?_))
      go_ret
      exact HF.out _ k1
    · go_wp2_with (first | (refine wpList_bin_g (o := ⟨some 26, _, _, _, _, _⟩) (by rfl) rfl rfl rfl (guard_add _ _ _ _ _) (HADD.out _) ?_))
      go_ret
      exact HF.out _ k1
    · have d3 : decide ((16384 : Int) < (b.length : Int)) = false := decide_eq_false (by omega)
      go_wp2_with (first | (refine wpList_bin_g (o := ⟨some 26, _, _, _, _, _⟩) (by rfl) rfl rfl rfl (guard_add _ _ _ _ _) (HADD.out _) ?_) | (refine wpList_load rfl rfl rfl (load_com q1) ?_))
      refine (EC1.out _ ((hr.below k1).more (by omega)) (by omega)).mono ?_
      rintro r w2 ⟨A2, c2, rfl, ho2, hbe2⟩
      have q2 := q1.below hbe2 q1.lt
      have k2 := k1.trans (hbe2.mono (by omega))
      have z2 := hbe2.size
      clear p1 p2 p4 q1
      go_wp2_with (first | (refine wpList_load rfl rfl rfl (load_com q2) ?_))
      refine (EC2.out _ ((hr.below k2).more (by omega)) (by omega)).mono ?_
      rintro r w3 ⟨A3, c3, rfl, ho3, hbe3⟩
      have k3 := k2.trans (hbe3.mono (by omega))
      have z3 := hbe3.size
      have ho23 : Own w3 w1.heap.size 5 1 A2 ecr.1.length c2 (ecr.1.map bv) := ho2.kept (b' := 0) (E := []) (G := []) (Kept.ofBelow hbe3) (by simp) (by simp)
      clear ho2 hbe2 hbe3 q2 EC1 EC2 k1 k2
      obtain ⟨x, e⟩ := ecr
      simp only at ho23 ho3 ⊢
      have hb3 := hb.below k3
      have hzz : q ≤ w3.heap.size := by omega
      go_wp2_with (first | (at_builtin; refine wpList_append_sl rfl elemU8 rfl rfl (Own.fresh0 (heap_alloc_new _ _) (Nat.le_refl _)) rfl (hb3.alloc hzz _) (bvs_one b) (by unfold maxLen; omega) (by omega) (by simp) ?_; intro A5 c5 w5 ho5 hk5))
      simp only [Nat.zero_add, List.nil_append] at ho5 ⊢
      have hbe5 : Below w3.heap.size w3 w5 := ((Below.refl _ _).alloc (Nat.le_refl _) _).trans (hk5.below (Nat.le_refl _) (by simp) (by simp))
      have hz5 := hbe5.size
      have hcap5 := ho5.cap_le
      refine (parseCommit_any b A5 c5 _ ho5.reads (by omega) hcap5.1 hcap5.2).mono ?_
      rintro r w6 ⟨A6, c6, rfl, ho6, hbe6⟩
      have hz6 := hbe6.size
      have hbe36 : Below w3.heap.size w3 w6 := hbe5.trans (hbe6.mono hz5)
      clear hcap5 ho5 hbe5 hbe6 hk5 hb3
      have pl : (parseCommit b).1.parents.length ≤ 9223372036854775807 := by have := ho6.cap_le; unfold maxLen at this; omega
      have rp := fun W h1 => rparseCommit_any b A' c' W h1 (by omega) hbl hc'
      unfold ComPost at rp
      have RP := Lib.hid rp
      clear rp
      generalize (parseCommit b).2 = pe at *
      generalize (parseCommit b).1 = pd at *
      go_wp2_with (first | (refine wpList_allocAgg rfl rfl (zero_com _) ?_) | (refine wpList_storeBlk rfl rfl (vs := comC pd.tree (.slice A6 pd.parents.length c6) pd.author pd.time pd.msg) rfl rfl (Blk.new _ _ _) (by rw [comC_size, comC_size]) (by rw [comC_size]; exact info_com) (comL_one _ _ _ _ _ rfl) ?_; intro w7 x7 hkc hzc))
      have hkN : Keep Nothing w6 w7 := Keep.ofNew hkc
      have hz7 := hkN.size
      have hbe37 : Below w3.heap.size w3 w7 := hbe36.trans (hkN.all.mono (by omega))
      have k7 := k3.trans (hbe37.mono (by omega))
      have ho67 := ho6.kept (b' := 0) (E := []) (G := []) (Kept.ofKeep hkN (by unfold Nothing; simp)) (by simp) (by simp)
      generalize w6.heap.size = x6 at *
      clear hkc hzc hkN hbe36 ho6
      refine (RP.out _ ((hb.below k7).more (by omega))).mono ?_
      rintro r w8 ⟨A8, c8, rfl, ho8, hbe8⟩
      have hz8 := hbe8.size
      have hbe38 : Below w3.heap.size w3 w8 := hbe37.trans (hbe8.mono (by omega))
      have ho68 := ho67.kept (b' := 0) (E := []) (G := []) (Kept.ofBelow hbe8) (by simp) (by simp)
      have x8 := x7.below hbe8 x7.lt
      clear ho67 hbe37 hbe8 x7 RP
      have t1 : True := trivial
      go_wp2_with (first | (refine wpList_allocAgg rfl rfl (zero_com _) ?_) | (refine wpList_storeBlk rfl rfl (vs := comC pd.tree (.slice A8 pd.parents.length c8) pd.author pd.time pd.msg) rfl rfl (Blk.new _ _ _) (by rw [comC_size, comC_size]) (by rw [comC_size]; exact info_com) (comL_one _ _ _ _ _ rfl) ?_; intro w9 x9 hkc hzc; have hkN : Keep Nothing w8 w9 := Keep.ofNew hkc; have y9 := x8.keep hkN (fun h => h); have o39 := ((ho3.kept (b' := 0) (E := []) (G := []) (Kept.ofBelow (hbe38.trans (hkN.all.mono (by omega)))) (by simp) (by simp))).reads; have o29 := ((ho23.kept (b' := 0) (E := []) (G := []) (Kept.ofBelow (hbe38.trans (hkN.all.mono (by omega)))) (by simp) (by simp))).reads) | (refine wpList_convStr (o := ⟨some 57, _, _, _, _, _⟩) rfl rfl Try.underlying23 Try.underlying5 Try.underlying9 (l := x) rfl o29 ?_) | (refine wpList_convStr (o := ⟨some 59, _, _, _, _, _⟩) rfl rfl Try.underlying23 Try.underlying5 Try.underlying9 (l := x) rfl o39 ?_) | (refine wpList_load_g (o := ⟨some 67, _, _, _, _, _⟩) (by rfl) rfl rfl (load_com y9) ?_) | (refine wpList_load_g (o := ⟨some 68, _, _, _, _, _⟩) (by rfl) rfl rfl (load_com x9) ?_))
      have ho69 := (ho68.kept (b' := 0) (E := []) (G := []) (Kept.ofKeep hkN (by unfold Nothing; simp)) (by simp) (by simp)).reads
      have ho89 := (ho8.kept (b' := 0) (E := []) (G := []) (Kept.ofKeep hkN (by unfold Nothing; simp)) (by simp) (by simp)).reads
      have hz9 := hkN.size
      refine (rsameCommit_refl pd A6 A8 c6 c8 _ ho69 ho89 pl).mono ?_
      rintro r w10 ⟨rfl, hk10⟩
      have k10 : Below q w w10 := k3.trans (((hbe38.trans (hkN.all.mono (by omega))).trans (hk10.all.mono (by omega))).mono (by omega))
      go_wp2_with fail
      go_ret
      exact HF.out _ k10
set_option maxRecDepth 100000 in
theorem codecCommits_lifted (os : Os) (started : os.Started) (H : Type) (enc : TypeId × Value → H) :
    ReturnsInHanded {} Try.checked os 6 .any (Rows.codecCommitsSpec.pre6 enc Try.prog Try.f6 Rows.codecCommitsRow.domain false) (Rows.codecCommitsSpec.post enc Try.prog Try.f6 false true false false) := by
  refine returnsInHanded_of_change (C := Try.checked) own started (by kernel_rfl) Try.func6
    (ChangeSpec.witness6 (enc := enc) (C := Try.checked) false ⟨#[], #[(.agg (comC noId nilS ByteArray.empty 0 ByteArray.empty)), (.slice none 0 0)], []⟩ 8 (by kernel_rfl) (by kernel_rfl) (by kernel_rfl) (by kernel_rfl)) ?_
  intro W base args ds gs before hval0 hW hcnd _
  have hval : ∀ (j : Nat) t v, Try.f6.params[j]? = some t → args[j]? = some v → Value.okWide Try.prog W .any base t v := hval0
  have hW' := hW
  obtain ⟨p, q, hA0, hV, rfl, hfz, hnd⟩ := hW
  have hA : DataW.TrodAll enc Try.prog W 0 (fun _ => true) true Try.f6.params.toList args.toList ds p := hA0
  rw [Try.params6] at hA hval
  obtain ⟨v0, vs0, d0, ds0, p0, q0, hargs, rfl, rfl, h0, r0⟩ := trodAll_cons hA
  obtain ⟨v1, vs1, d1, ds1, p1, q1, rfl, rfl, rfl, h1, r1⟩ := trodAll_cons r0
  obtain ⟨rfl, rfl, rfl⟩ := trodAll_nil r1
  obtain rfl : args = #[v0, v1] := by cases args; simp_all
  obtain ⟨rfl, rfl⟩ := trodVars_none hV
  have k0 := h0
  have lt0 : ∀ x ∈ p0, x.block < W.heap.size := by obtain ⟨m, hm⟩ := k0; exact DataW.trod_lt m _ _ _ hm
  have k1 := h1
  have lt1 : ∀ x ∈ p1, x.block < W.heap.size := by obtain ⟨m, hm⟩ := k1; exact DataW.trod_lt m _ _ _ hm
  obtain ⟨cd0, a0, c0, rfl, hr0, hc0, hm0, hau0, hms0, _⟩ := opened_com (hval 0 45 v0 rfl rfl) h0
  obtain ⟨a1, len1, cap1, rfl⟩ := okWide_slice Try.underlying23 (hval 1 23 v1 rfl rfl)
  obtain ⟨l1, hl1, hr1, hc1, hm1⟩ := opened_bytes h1
  subst hl1
  clear hA0 hval0
  refine (commits_walk cd0 l1 a0 a1 c0 cap1 W hr0 hr1 hc0 hm0 hc1 hm1 hau0 hms0).mono fun e W' ⟨he, bel⟩ => ?_
  subst he
  exact ⟨_, rfl, _, _, _, [], _, [], hW', trodAll_mk1 (shut_bool Try.underlying4 _), (trodAll_cons_mk (Below.trod laidOut (by kernel_rfl) (of_decide_eq_true (by kernel_rfl)) k0 bel lt0) (trodAll_cons_mk (Below.trod laidOut (by kernel_rfl) (of_decide_eq_true (by kernel_rfl)) k1 bel lt1) trodAll_mk0)), rfl, bel.frame _, fun h => by cases h⟩

theorem codecCommits_over : Rows.codecCommitsRow.holds Try.pinned (OpenSpec.ofChange Rows.codecCommitsSpec) :=
  OpenClaim.holds_of_wide 6 Try.f6 rfl rfl rfl rfl rfl rfl rfl ⟨rfl, rfl, rfl, rfl, rfl⟩ rfl rfl rfl rfl rfl (by kernel_rfl) Try.func6 (by kernel_rfl)
    (of_decide_eq_true (by kernel_rfl)) (by unfold Func.isWrapper; first | (rw [if_pos (by decide +kernel)]; kernel_rfl) | (rw [if_neg (by decide +kernel)]; exact ⟨rfl, rfl⟩))
    (fun os started H enc _ => codecCommits_lifted os started H enc)

theorem codecCommits_holds : Rows.CodecCommitsSaid := codecCommits_over
#print axioms codecCommits_holds
end Go.Proofs.Ytppmolneklidfaa
