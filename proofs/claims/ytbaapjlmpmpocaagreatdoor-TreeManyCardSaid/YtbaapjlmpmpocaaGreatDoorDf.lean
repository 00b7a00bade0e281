/-
  slices.SortFunc of a tree's entries. No statement of the seat is proved here.
-/
import Derived.Test.YtbaapjlmpmpocaaGreatDoorDT31
import Derived.Test.YtbaapjlmpmpocaaGreatDoorDT08
namespace Go.Proofs.YtbaapjlmpmpocaaGreatDoor
open Go.RowKit Go.Sort Go.Shelf

def nmL (x : EntC9) : List UInt8 := x.name.data.toList
theorem entL_len9 (x : EntC9) : (entL x).length = 34 := by simp [entL, idL_len]
theorem entL_one9 (x : EntC9) : ∀ v ∈ entL x, v.oneCell' = true := by
  intro v hv
  simp only [entL, List.mem_cons] at hv
  rcases hv with rfl | rfl | hv
  · rfl
  · rfl
  · exact idL_one _ v hv
set_option maxHeartbeats 1000000 in
set_option maxRecDepth 100000 in
theorem lay1_any (W : World) (x y : EntC9) : Calls Tryz.prog 35 #[.agg (entL x).toArray, .agg (entL y).toArray] W fun e w' => e = .returned (.int .i64 (cmpS (nmL x) (nmL y))) ∧ ∃ q os', w' = grow (W.drewN q) os' := by
  have HG := Lib.hid (two_grow W (.cells (entL x).toArray 79) (.cells (entL y).toArray 79))
  have hx := (Blk.new W 79 (entL x).toArray).alloc (.cells (entL y).toArray 79)
  have hy := Blk.new (W.alloc (.cells (entL x).toArray 79)) 79 (entL y).toArray
  rw [show (W.alloc (.cells (entL x).toArray 79)).heap.size = W.heap.size + 1 from by simp] at hy
  have c1 := (hx.cell 0).trans (show (entL x).toArray[0]? = some (.string x.name) from rfl)
  have c2 := (hy.cell 0).trans (show (entL y).toArray[0]? = some (.string y.name) from rfl)
  have HX := Lib.hid (And.intro c1 c2)
  clear hx hy c1 c2
  have HC := Lib.hid (fun w => show Calls Tryz.prog 36 #[.string x.name, .string y.name] w fun e w' => e = .returned (.int .i64 (cmpS (nmL x) (nmL y))) ∧ w = w' from (Tryz.strings_Compare x.name y.name w).mono fun e w' h => ⟨by rw [h.1]; show Ending.returned (.int .i64 (Lib.compareBytes (nmL x) (nmL y))) = _; rw [compare_cmpS], h.2.symm⟩)
  go_enter Tryz.func35, Tryz.ntmps35
  go_wp2_with (first
    | (refine wpList_boxed rfl rfl (cs := (entL x).toArray) rfl ?_)
    | (refine wpList_boxed rfl rfl (cs := (entL y).toArray) rfl ?_; obtain ⟨c1, c2⟩ := HX.out; clear HX; generalize (W.alloc (.cells (entL x).toArray 79)).alloc (.cells (entL y).toArray 79) = w1 at *)
    | (go_at_call 36; refine (HC.out _).mono ?_; rintro _ _ ⟨rfl, rfl⟩))
  go_ret
  exact ⟨rfl, HG.out⟩
theorem ltOf_ent : ltOf (fun x y : EntC9 => cmpS (nmL x) (nmL y)) = fun a b => decide (nmL a < nmL b) := by
  funext a b
  exact cmpS_lt _ _
theorem sortEnt_any {base : Nat} {A : Option Addr} {n c : Nat} (d : List EntC9) (w : World) (hn : d.length = n) (hn2 : n ≤ 1000000000) (hown : Own w base 79 34 A n c (d.flatMap entL)) :
    Calls Tryz.prog 34 #[.slice A n c, .func (.func 35) #[] #[]] w fun e w' => e = .returned (.tuple #[]) ∧ ∃ d' : List EntC9, d'.Perm d ∧ Own w' base 79 34 A n c (d'.flatMap entL) ∧ Kept base [79] [] w w' := by
  haveI : Inhabited EntC9 := ⟨⟨ByteArray.empty, 0, noId⟩⟩
  have := sort_own Tryz.sortFEnt (k := 34) (fun w => by kernel_rfl) (fun w => by kernel_rfl) entL entL_len9 entL_one9 (fun x y : EntC9 => cmpS (nmL x) (nmL y)) (by rw [ltOf_ent]; exact (pth_ord nmL).swo) 35 (enters_of Tryz.func35 (by kernel_rfl) rfl) lay1_any d w hn (by omega) hown
  refine this.mono ?_
  rintro e w' ⟨h1, d', hp, _, ho, hk⟩
  exact ⟨h1, d', hp, ho, hk⟩
end Go.Proofs.YtbaapjlmpmpocaaGreatDoor
