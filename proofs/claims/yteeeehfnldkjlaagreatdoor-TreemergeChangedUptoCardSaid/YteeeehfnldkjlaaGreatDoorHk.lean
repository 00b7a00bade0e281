/-
 TreemergeChanged: its row, its card (second form).
-/
import Derived.Test.YteeeehfnldkjlaaGreatDoorTC40
import Derived.Test.YteeeehfnldkjlaaGreatDoorHj
import Derived.SevenTiedAt
namespace Go.Proofs.YteeeehfnldkjlaaGreatDoor
open Go.ChangeShapes Go.WideShapes Go.ChangeAt Go.RowKit
set_option maxRecDepth 100000 in
theorem treemergeChanged_reads (os : Os) {H : Type} (enc : TypeId × Value → H) : DataW.whole enc Tryz.prog ((World.laidAll Tryz.prog os laidM).forCall (fun _ _ => 0) ⟨#[], #[.slice none 0 0, .slice none 0 0, .slice none 0 0], []⟩).memory Tryz.f7.params.toList Rows.treemergeChangedSpec.vars false (#[.slice none 0 0, .slice none 0 0, .slice none 0 0] : Array Value).toList 8 = some ([.nil, .nil, .nil], [], []) := by kernel_rfl
set_option maxRecDepth 100000 in
theorem treemergeChanged_lifted (os : Os) (started : os.Started) (H : Type) (enc : TypeId × Value → H) (F : Stop.Interp) :
    ReturnsInHanded {} Tryz.checked os 7 .any ((Rows.OpenSpec.upto Rows.treemergeChangedSpec).preRow enc Tryz.prog Tryz.f7 Rows.treemergeChangedUptoRow.domain false Rows.treemergeChangedUptoRow.laid) (((Rows.OpenSpec.upto Rows.treemergeChangedSpec).at F).post enc Tryz.prog Tryz.f7 false true false false) := by
 refine returnsInHanded_of_row (C := Tryz.checked) (s := Rows.OpenSpec.upto Rows.treemergeChangedSpec) own started (by kernel_rfl) Tryz.func7
  (witness_row_at (enc := enc) (C := Tryz.checked) false (World.laidAll Tryz.prog os laidM) #[.slice none 0 0, .slice none 0 0, .slice none 0 0] (World.laidAll_os _ _ _) (laid_varsM os _) (laid_restM os _) (by kernel_rfl)
   (OpenSpec.preRow_of_cond 8 (treemergeChanged_reads os enc) (by kernel_rfl) (fun k hk => by cases hk; kernel_rfl) (by kernel_rfl) (laid_metM os _))) ?_
 intro W base args ds gs before hval0 hW hx1 hcond hx3 hL hx4 hx5
 have hval : ∀ (j : Nat) t v, Tryz.f7.params[j]? = some t → args[j]? = some v → Value.okWide Tryz.prog W .any base t v := hval0
 have hW' := hW
 obtain ⟨p, q, hA0, hV, rfl, hfz, hnd⟩ := hW
 have hA : DataW.TrodAll enc Tryz.prog W 0 (fun _ => true) true Tryz.f7.params.toList args.toList ds p := hA0
 rw [Tryz.params7] at hA hval
 obtain ⟨v0, vs0, d0, ds0, p0, q0, hargs, rfl, rfl, h0, r0⟩ := trodAll_cons hA
 obtain ⟨v1, vs1, d1, ds1, p1, q1, rfl, rfl, rfl, h1, r1⟩ := trodAll_cons r0
 obtain ⟨v2, vs2, d2, ds2, p2, q2, rfl, rfl, rfl, h2, r2⟩ := trodAll_cons r1
 obtain ⟨rfl, rfl, rfl⟩ := trodAll_nil r2
 obtain rfl : args = #[v0, v1, v2] := by cases args; simp_all
 obtain ⟨rfl, rfl⟩ := trodVars_none hV
 have k0 := h0
 have lt0 : ∀ x ∈ p0, x.block < W.heap.size := by obtain ⟨m, hm⟩ := k0; exact DataW.trod_lt m _ _ _ hm
 have k1 := h1
 have lt1 : ∀ x ∈ p1, x.block < W.heap.size := by obtain ⟨m, hm⟩ := k1; exact DataW.trod_lt m _ _ _ hm
 have k2 := h2
 have lt2 : ∀ x ∈ p2, x.block < W.heap.size := by obtain ⟨m, hm⟩ := k2; exact DataW.trod_lt m _ _ _ hm
 have hbd := Nat.le_trans (Nat.le_refl _) (of_decide_eq_true (hcond _ rfl))
 simp only [Rows.uptoBulkAll, List.append_nil] at hbd
 obtain ⟨a0, len0, cap0, rfl⟩ := okWide_slice Tryz.underlying22 (hval 0 22 v0 rfl rfl)
 obtain ⟨l0, hl0, hr0, hc0, hm0, hn0, hs0⟩ := opened_files (N := 1048576) h0 (by omega)
 subst hl0
 obtain ⟨a1, len1, cap1, rfl⟩ := okWide_slice Tryz.underlying22 (hval 1 22 v1 rfl rfl)
 obtain ⟨l1, hl1, hr1, hc1, hm1, hn1, hs1⟩ := opened_files (N := 1048576) h1 (by omega)
 subst hl1
 obtain ⟨a2, len2, cap2, rfl⟩ := okWide_slice Tryz.underlying22 (hval 2 22 v2 rfl rfl)
 obtain ⟨l2, hl2, hr2, hc2, hm2, hn2, hs2⟩ := opened_files (N := 1048576) h2 (by omega)
 subst hl2
 clear hA0 hval0
 refine (changed_law l0 l1 l2 a0 a1 a2 cap0 cap1 cap2 W.heap.size W (Nat.le_refl _) hr0 hr1 hr2 (varM_of hx4) (fun f hf => Nat.le_trans (hs0 f hf).1 (by decide)) (fun f hf => Nat.le_trans (hs1 f hf).1 (by decide)) (fun f hf => Nat.le_trans (hs2 f hf).1 (by decide))).mono fun e W' ⟨he, bel⟩ => ?_
 subst he
 exact ⟨_, rfl, _, _, _, [], _, [], hW', trodAll_mk1 (shut_bool Tryz.underlying4 _), (trodAll_cons_mk (Below.trod laidOut (by kernel_rfl) (of_decide_eq_true (by kernel_rfl)) k0 bel lt0) (trodAll_cons_mk (Below.trod laidOut (by kernel_rfl) (of_decide_eq_true (by kernel_rfl)) k1 bel lt1) (trodAll_cons_mk (Below.trod laidOut (by kernel_rfl) (of_decide_eq_true (by kernel_rfl)) k2 bel lt2) trodAll_mk0))), rfl, bel.frame _, fun h => by cases h⟩
set_option maxHeartbeats 20000000 in
theorem treemergeChanged_closed : joinedFacts Tryz.pinned.checked.prog 7 Tryz.f7 (Rows.OpenSpec.upto Rows.treemergeChangedSpec).bare Rows.treemergeChangedUptoRow = true := by
 unfold joinedFacts
 repeat (refine Bool.and_eq_true_iff.2 ⟨?_, ?_⟩)
 all_goals (as_aux_lemma => kernel_rfl)
theorem treemergeChanged_said : Rows.TreemergeChangedUptoSaid :=
 OpenClaim.holds_of_cond 7 Tryz.f7 rfl rfl rfl rfl rfl rfl rfl ⟨rfl, rfl, rfl, rfl, rfl⟩ rfl rfl rfl rfl rfl (by kernel_rfl) Tryz.func7 treemergeChanged_closed
  (of_decide_eq_true (by kernel_rfl)) (by unfold Func.isWrapper; first | (rw [if_pos (by decide +kernel)]; kernel_rfl) | (rw [if_neg (by decide +kernel)]; exact ⟨rfl, rfl⟩))
  (fun os started H enc _ F => by rw [OpenClaim.pre_eq_preRow]; exact treemergeChanged_lifted os started H enc F)
theorem treemergeChanged_plain (f : FuncId) (fn : Func) (hf : Tryz.pinned.checked.prog.funcNamed "selvage/selvagelaw17.TreemergeChanged" = some f) (hfn : Tryz.pinned.checked.prog.funcs[f]? = some fn) :
    false = Tryz.pinned.checked.prog.looks [] ∧ ∀ (j : Nat) t, fn.params[j]? = some t → Tryz.pinned.checked.prog.wantsStandIn t = false := by
 obtain rfl : f = 7 := Option.some.inj ((show Tryz.prog.funcNamed "selvage/selvagelaw17.TreemergeChanged" = some 7 by kernel_rfl).symm.trans hf) |>.symm
 obtain rfl : fn = Tryz.f7 := (Option.some.inj (Tryz.func7.symm.trans hfn)).symm
 refine ⟨by kernel_rfl, fun j t ht => ?_⟩
 rw [Tryz.params7] at ht
 have hm := Array.mem_of_getElem? ht
 simp only [Array.mem_toList_iff.symm, List.mem_cons, List.not_mem_nil, or_false] at hm
 rcases hm with rfl | rfl | rfl
 · exact (show Tryz.prog.wantsStandIn 22 = false by kernel_rfl)
 · exact (show Tryz.prog.wantsStandIn 22 = false by kernel_rfl)
 · exact (show Tryz.prog.wantsStandIn 22 = false by kernel_rfl)
theorem treemergeChanged_holds : Rows.TreemergeChangedUptoCardSaid :=
 Claim7.holds_tied_plain_at .later [] _ _ _ _ treemergeChanged_said (fun _ h => by cases h) (by kernel_rfl) (fun _ h => by cases h) treemergeChangedUpto_row_tie rfl ⟨rfl, rfl⟩ (by kernel_rfl) rfl treemergeChanged_plain (by kernel_rfl)
#print axioms treemergeChanged_holds
end Go.Proofs.YteeeehfnldkjlaaGreatDoor
