/-
 TreemergePlaces: its row, its card (second form).
-/
import Derived.Test.YteeeehfnldkjlaaGreatDoorGi
import Derived.Test.YteeeehfnldkjlaaGreatDoorGq
import Derived.Test.YteeeehfnldkjlaaGreatDoorHh
import Derived.SevenTiedAt
namespace Go.Proofs.YteeeehfnldkjlaaGreatDoor
open Go.ChangeShapes Go.WideShapes Go.ChangeAt Go.RowKit
set_option maxRecDepth 100000 in
theorem treemergePlaces_reads (os : Os) {H : Type} (enc : TypeId × Value → H) : DataW.whole enc Tryz.prog ((World.laidAll Tryz.prog os laidM).forCall (fun _ _ => 0) ⟨#[], #[.int .i64 0, .string ⟨#[]⟩], []⟩).memory Tryz.f10.params.toList Rows.treemergePlacesSpec.vars false (#[.int .i64 0, .string ⟨#[]⟩] : Array Value).toList 8 = some ([.lit (.int .i64 0), .lit (.string [])], [], []) := by kernel_rfl
set_option maxRecDepth 100000 in
theorem treemergePlaces_lifted (os : Os) (started : os.Started) (H : Type) (enc : TypeId × Value → H) (F : Stop.Interp) :
    ReturnsInHanded {} Tryz.checked os 10 .any ((Rows.OpenSpec.upto Rows.treemergePlacesSpec).preRow enc Tryz.prog Tryz.f10 Rows.treemergePlacesUptoRow.domain false Rows.treemergePlacesUptoRow.laid) (((Rows.OpenSpec.upto Rows.treemergePlacesSpec).at F).post enc Tryz.prog Tryz.f10 false true false false) := by
 refine returnsInHanded_of_row (C := Tryz.checked) (s := Rows.OpenSpec.upto Rows.treemergePlacesSpec) own started (by kernel_rfl) Tryz.func10
  (witness_row_at (enc := enc) (C := Tryz.checked) false (World.laidAll Tryz.prog os laidM) #[.int .i64 0, .string ⟨#[]⟩] (World.laidAll_os _ _ _) (laid_varsM os _) (laid_restM os _) (by kernel_rfl)
   (OpenSpec.preRow_of_cond 8 (treemergePlaces_reads os enc) (by kernel_rfl) (fun k hk => by cases hk; kernel_rfl) (by kernel_rfl) (laid_metM os _))) ?_
 intro W base args ds gs before hval0 hW hx1 hcond hx3 hL hx4 hx5
 have hval : ∀ (j : Nat) t v, Tryz.f10.params[j]? = some t → args[j]? = some v → Value.okWide Tryz.prog W .any base t v := hval0
 have hW' := hW
 obtain ⟨p, q, hA0, hV, rfl, hfz, hnd⟩ := hW
 have hA : DataW.TrodAll enc Tryz.prog W 0 (fun _ => true) true Tryz.f10.params.toList args.toList ds p := hA0
 rw [Tryz.params10] at hA hval
 obtain ⟨v0, vs0, d0, ds0, p0, q0, hargs, rfl, rfl, h0, r0⟩ := trodAll_cons hA
 obtain ⟨v1, vs1, d1, ds1, p1, q1, rfl, rfl, rfl, h1, r1⟩ := trodAll_cons r0
 obtain ⟨rfl, rfl, rfl⟩ := trodAll_nil r1
 obtain rfl : args = #[v0, v1] := by cases args; simp_all
 obtain ⟨rfl, rfl⟩ := trodVars_none hV
 have k0 := h0
 have lt0 : ∀ x ∈ p0, x.block < W.heap.size := by obtain ⟨m, hm⟩ := k0; exact DataW.trod_lt m _ _ _ hm
 have k1 := h1
 have lt1 : ∀ x ∈ p1, x.block < W.heap.size := by obtain ⟨m, hm⟩ := k1; exact DataW.trod_lt m _ _ _ hm
 have hbd := Nat.le_trans (Nat.le_refl _) (of_decide_eq_true (hcond _ rfl))
 simp only [Rows.uptoBulkAll, List.append_nil] at hbd
 obtain ⟨f0, rfl, _, _, w0⟩ := open_int Tryz.underlying3 (hval 0 3 v0 rfl rfl) h0
 obtain ⟨l1, rfl, hn1⟩ := opened_string (N := 1048576) (hval 1 9 v1 rfl rfl) h1 (by omega)
 clear hA0 hval0
 refine (places_law f0 l1 W (varM_of hx4) (Nat.le_trans hn1 (by decide))).mono fun e W' ⟨he, bel⟩ => ?_
 subst he
 exact ⟨_, rfl, _, _, _, [], _, [], hW', trodAll_mk1 (shut_bool Tryz.underlying4 _), (trodAll_cons_mk (Below.trod laidOut (by kernel_rfl) (of_decide_eq_true (by kernel_rfl)) k0 bel lt0) (trodAll_cons_mk (Below.trod laidOut (by kernel_rfl) (of_decide_eq_true (by kernel_rfl)) k1 bel lt1) trodAll_mk0)), rfl, bel.frame _, fun h => by cases h⟩
set_option maxHeartbeats 20000000 in
theorem treemergePlaces_closed : joinedFacts Tryz.pinned.checked.prog 10 Tryz.f10 (Rows.OpenSpec.upto Rows.treemergePlacesSpec).bare Rows.treemergePlacesUptoRow = true := by
 unfold joinedFacts
 repeat (refine Bool.and_eq_true_iff.2 ⟨?_, ?_⟩)
 all_goals (as_aux_lemma => kernel_rfl)
theorem treemergePlaces_said : Rows.TreemergePlacesUptoSaid :=
 OpenClaim.holds_of_cond 10 Tryz.f10 rfl rfl rfl rfl rfl rfl rfl ⟨rfl, rfl, rfl, rfl, rfl⟩ rfl rfl rfl rfl rfl (by kernel_rfl) Tryz.func10 treemergePlaces_closed
  (of_decide_eq_true (by kernel_rfl)) (by unfold Func.isWrapper; first | (rw [if_pos (by decide +kernel)]; kernel_rfl) | (rw [if_neg (by decide +kernel)]; exact ⟨rfl, rfl⟩))
  (fun os started H enc _ F => by rw [OpenClaim.pre_eq_preRow]; exact treemergePlaces_lifted os started H enc F)
theorem treemergePlaces_plain (f : FuncId) (fn : Func) (hf : Tryz.pinned.checked.prog.funcNamed "selvage/selvagelaw17.TreemergePlaces" = some f) (hfn : Tryz.pinned.checked.prog.funcs[f]? = some fn) :
    false = Tryz.pinned.checked.prog.looks [] ∧ ∀ (j : Nat) t, fn.params[j]? = some t → Tryz.pinned.checked.prog.wantsStandIn t = false := by
 obtain rfl : f = 10 := Option.some.inj ((show Tryz.prog.funcNamed "selvage/selvagelaw17.TreemergePlaces" = some 10 by kernel_rfl).symm.trans hf) |>.symm
 obtain rfl : fn = Tryz.f10 := (Option.some.inj (Tryz.func10.symm.trans hfn)).symm
 refine ⟨by kernel_rfl, fun j t ht => ?_⟩
 rw [Tryz.params10] at ht
 have hm := Array.mem_of_getElem? ht
 simp only [Array.mem_toList_iff.symm, List.mem_cons, List.not_mem_nil, or_false] at hm
 rcases hm with rfl | rfl
 · exact (show Tryz.prog.wantsStandIn 3 = false by kernel_rfl)
 · exact (show Tryz.prog.wantsStandIn 9 = false by kernel_rfl)
theorem treemergePlaces_holds : Rows.TreemergePlacesUptoCardSaid :=
 Claim7.holds_tied_plain_at .later [] _ _ _ _ treemergePlaces_said (fun _ h => by cases h) (by kernel_rfl) (fun _ h => by cases h) treemergePlacesUpto_row_tie rfl ⟨rfl, rfl⟩ (by kernel_rfl) rfl treemergePlaces_plain (by kernel_rfl)
#print axioms treemergePlaces_holds
end Go.Proofs.YteeeehfnldkjlaaGreatDoor
