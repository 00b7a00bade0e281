/-
  TreemergeApart: its row, its card (first form).
-/
import Derived.Test.YteeeehfnldkjlaaGreatDoorGi
import Derived.Test.YteeeehfnldkjlaaGreatDoorGq
import Derived.Test.YteeeehfnldkjlaaGreatDoorHd
import Derived.SevenTiedAt
namespace Go.Proofs.YteeeehfnldkjlaaGreatDoor
open Go.ChangeShapes Go.WideShapes Go.ChangeAt Go.RowKit
set_option maxRecDepth 100000 in
theorem treemergeApart_reads (os : Os) {H : Type} (enc : TypeId × Value → H) : DataW.whole enc Tryz.prog ((World.laidAll Tryz.prog os laidM).forCall (fun _ _ => 0) ⟨#[], #[.int .i64 0, .slice none 0 0, .slice none 0 0], []⟩).memory Tryz.f11.params.toList Rows.treemergeApartSpec.vars false (#[.int .i64 0, .slice none 0 0, .slice none 0 0] : Array Value).toList 8 = some ([.lit (.int .i64 0), .nil, .nil], [], []) := by kernel_rfl
set_option maxRecDepth 100000 in
theorem treemergeApart_lifted (os : Os) (started : os.Started) (H : Type) (enc : TypeId × Value → H) (F : Stop.Interp) :
    ReturnsInHanded {} Tryz.checked os 11 .any ((OpenSpec.ofChange Rows.treemergeApartSpec).preRow enc Tryz.prog Tryz.f11 Rows.treemergeApartRow.domain false Rows.treemergeApartRow.laid) (((OpenSpec.ofChange Rows.treemergeApartSpec).at F).post enc Tryz.prog Tryz.f11 false true false false) := by
  refine returnsInHanded_of_row (C := Tryz.checked) (s := OpenSpec.ofChange Rows.treemergeApartSpec) own started (by kernel_rfl) Tryz.func11
    (witness_row_at (enc := enc) (C := Tryz.checked) false (World.laidAll Tryz.prog os laidM) #[.int .i64 0, .slice none 0 0, .slice none 0 0] (World.laidAll_os _ _ _) (laid_varsM os _) (laid_restM os _) (by kernel_rfl)
      (OpenSpec.preRow_of_cond 8 (treemergeApart_reads os enc) (by kernel_rfl) (fun k hk => by cases hk) (by kernel_rfl) (laid_metM os _))) ?_
  intro W base args ds gs before hval0 hW hx1 hcond hx3 hL hx4 hx5
  have hval : ∀ (j : Nat) t v, Tryz.f11.params[j]? = some t → args[j]? = some v → Value.okWide Tryz.prog W .any base t v := hval0
  have hW' := hW
  obtain ⟨p, q, hA0, hV, rfl, hfz, hnd⟩ := hW
  have hA : DataW.TrodAll enc Tryz.prog W 0 (fun _ => true) true Tryz.f11.params.toList args.toList ds p := hA0
  rw [Tryz.params11] at hA hval
  obtain ⟨v0, vs0, d0, ds0, p0, q0, hargs, rfl, rfl, h0, r0⟩ := trodAll_cons hA
  obtain ⟨v1, vs1, d1, ds1, p1, q1, rfl, rfl, rfl, h1, r1⟩ := trodAll_cons r0
  obtain ⟨v2, vs2, d2, ds2, p2, q2, rfl, rfl, rfl, h2, r2⟩ := trodAll_cons r1
  obtain ⟨rfl, rfl, rfl⟩ := trodAll_nil r2
  obtain rfl : args = #[v0, v1, v2] := by cases args; simp_all
  obtain ⟨rfl, rfl⟩ := trodVars_none hV
  have k0 := h0
  have lt0 : ∀ x ∈ p0, x.block < W.heap.size := by obtain ⟨m, hm⟩ := k0; exact DataW.trod_lt m _ _ _ hm
  have k1 := h1
  have lt1 : ∀ x ∈ p1, x.block < W.heap.size := by obtain ⟨m, hm⟩ := k1; exact DataW.trod_lt m _ _ _ hm
  have k2 := h2
  have lt2 : ∀ x ∈ p2, x.block < W.heap.size := by obtain ⟨m, hm⟩ := k2; exact DataW.trod_lt m _ _ _ hm
  obtain ⟨f0, rfl, _, _, w0⟩ := open_int Tryz.underlying3 (hval 0 3 v0 rfl rfl) h0
  obtain ⟨a1, len1, cap1, rfl⟩ := okWide_slice Tryz.underlying54 (hval 1 54 v1 rfl rfl)
  obtain ⟨l1, hl1, hr1, hc1, hm1, hs1⟩ := opened_ints h1
  subst hl1
  obtain ⟨a2, len2, cap2, rfl⟩ := okWide_slice Tryz.underlying54 (hval 2 54 v2 rfl rfl)
  obtain ⟨l2, hl2, hr2, hc2, hm2, hs2⟩ := opened_ints h2
  subst hl2
  clear hA0 hval0
  refine (apart_law f0 l1 l2 a1 a2 cap1 cap2 W.heap.size W (Nat.le_refl _) hr1 hr2 hs1 hs2 (varM_of hx4)).mono fun e W' ⟨he, bel⟩ => ?_
  subst he
  exact ⟨_, rfl, _, _, _, [], _, [], hW', trodAll_mk1 (shut_bool Tryz.underlying4 _), (trodAll_cons_mk (Below.trod laidOut (by kernel_rfl) (of_decide_eq_true (by kernel_rfl)) k0 bel lt0) (trodAll_cons_mk (Below.trod laidOut (by kernel_rfl) (of_decide_eq_true (by kernel_rfl)) k1 bel lt1) (trodAll_cons_mk (Below.trod laidOut (by kernel_rfl) (of_decide_eq_true (by kernel_rfl)) k2 bel lt2) trodAll_mk0))), rfl, bel.frame _, fun h => by cases h⟩
set_option maxHeartbeats 20000000 in
theorem treemergeApart_closed : joinedFacts Tryz.pinned.checked.prog 11 Tryz.f11 (OpenSpec.ofChange Rows.treemergeApartSpec).bare Rows.treemergeApartRow = true := by
  unfold joinedFacts
  repeat (refine Bool.and_eq_true_iff.2 ⟨?_, ?_⟩)
  all_goals (as_aux_lemma => kernel_rfl)
theorem treemergeApart_said : Rows.TreemergeApartSaid :=
  OpenClaim.holds_of_cond 11 Tryz.f11 rfl rfl rfl rfl rfl rfl rfl ⟨rfl, rfl, rfl, rfl, rfl⟩ rfl rfl rfl rfl rfl (by kernel_rfl) Tryz.func11 treemergeApart_closed
    (of_decide_eq_true (by kernel_rfl)) (by unfold Func.isWrapper; first | (rw [if_pos (by decide +kernel)]; kernel_rfl) | (rw [if_neg (by decide +kernel)]; exact ⟨rfl, rfl⟩))
    (fun os started H enc _ F => by rw [OpenClaim.pre_eq_preRow]; exact treemergeApart_lifted os started H enc F)
theorem treemergeApart_plain (f : FuncId) (fn : Func) (hf : Tryz.pinned.checked.prog.funcNamed "selvage/selvagelaw17.TreemergeApart" = some f) (hfn : Tryz.pinned.checked.prog.funcs[f]? = some fn) :
    false = Tryz.pinned.checked.prog.looks [] ∧ ∀ (j : Nat) t, fn.params[j]? = some t → Tryz.pinned.checked.prog.wantsStandIn t = false := by
  obtain rfl : f = 11 := Option.some.inj ((show Tryz.prog.funcNamed "selvage/selvagelaw17.TreemergeApart" = some 11 by kernel_rfl).symm.trans hf) |>.symm
  obtain rfl : fn = Tryz.f11 := (Option.some.inj (Tryz.func11.symm.trans hfn)).symm
  refine ⟨by kernel_rfl, fun j t ht => ?_⟩
  rw [Tryz.params11] at ht
  have hm := Array.mem_of_getElem? ht
  simp only [Array.mem_toList_iff.symm, List.mem_cons, List.not_mem_nil, or_false] at hm
  rcases hm with rfl | rfl | rfl
  · exact (show Tryz.prog.wantsStandIn 3 = false by kernel_rfl)
  · exact (show Tryz.prog.wantsStandIn 54 = false by kernel_rfl)
  · exact (show Tryz.prog.wantsStandIn 54 = false by kernel_rfl)
theorem treemergeApart_holds : Rows.TreemergeApartCardSaid :=
  Claim7.holds_tied_plain_at .later [] _ _ _ _ treemergeApart_said (fun _ h => by cases h) (by kernel_rfl) (fun _ h => by cases h) treemergeApart_row_tie rfl ⟨rfl, rfl⟩ (by kernel_rfl) rfl treemergeApart_plain (by kernel_rfl)
#print axioms treemergeApart_holds
end Go.Proofs.YteeeehfnldkjlaaGreatDoor
