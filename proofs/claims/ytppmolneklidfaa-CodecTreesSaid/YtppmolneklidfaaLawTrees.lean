/-
  CodecTrees: any entries are written, and any bytes read as a tree, by the program as by the document. No condition.
-/
import Derived.Test.YtppmolneklidfaaRow0
namespace Go.Proofs.Ytppmolneklidfaa
open Go.ChangeShapes Go.WideShapes Go.ChangeAt Go.RowKit

theorem entLs_one (l : List Ent) : ∀ v ∈ entLs l, v.oneCell' = true := by
  intro v hv
  obtain ⟨x, _, h⟩ := List.mem_flatMap.1 hv
  exact entL_one x v h

set_option maxHeartbeats 4000000 in
set_option maxRecDepth 100000 in
theorem trees_walk (l : List Ent) (b : List UInt8) (A A' : Option Addr) (c c' : Nat) (w : World) (hr : Reads w w.heap.size 34 A l.length (entLs l)) (hb : Reads w w.heap.size 1 A' b.length (b.map bv)) (hl : l.length ≤ maxLen) (hbl : b.length ≤ c') (hc' : c' ≤ maxLen) :
    Calls Try.prog 3 #[.slice A l.length c, .slice A' b.length c'] w (TruePost w) := by
  have hl' := hl
  have hc'' := hc'
  unfold maxLen at hl' hc''
  by_cases h1 : 700 < l.length
  · have d1 : decide ((700 : Int) < (l.length : Int)) = true := decide_eq_true (by omega)
    go_enter Try.func3, Try.ntmps3
    go_wp2_with fail
    refine (known_any _).mono ?_
    rintro r w1 ⟨rfl, hb1⟩
    go_wp2_with fail
    go_ret
    exact ⟨rfl, hb1⟩
  · have d1 : decide ((700 : Int) < (l.length : Int)) = false := decide_eq_false (by omega)
    by_cases h2 : 32768 < b.length
    · have d2 : decide ((32768 : Int) < (b.length : Int)) = true := decide_eq_true (by omega)
      go_enter Try.func3, Try.ntmps3
      go_wp2_with fail
      refine (known_any _).mono ?_
      rintro r w1 ⟨rfl, hb1⟩
      go_wp2_with fail
      go_ret
      exact ⟨rfl, hb1⟩
    · have d2 : decide ((32768 : Int) < (b.length : Int)) = false := decide_eq_false (by omega)
      go_enter Try.func3, Try.ntmps3
      go_wp2_with fail
      refine (known_any _).mono ?_
      rintro r w1 ⟨rfl, hbe1⟩
      have hr1 := hr.below hbe1
      have hb1 := hb.below hbe1
      have hz1 := hbe1.size
      go_wp2_with (first | (at_builtin; refine wpList_append_sl rfl elemEnt rfl rfl (Own.fresh0 (heap_alloc_new _ _) hz1) rfl (hr1.alloc hz1 _) (entLs_one l) (by unfold maxLen; omega) (by omega) (by simp; omega) ?_; intro A2 c2 w2 ho2 hk2))
      simp only [Nat.zero_add, List.nil_append] at ho2 ⊢
      have hbe2 : Below w.heap.size w w2 := (hbe1.alloc hz1 _).trans (hk2.below (Nat.le_refl _) (by simp; omega) (by simp))
      have hr2 := hr.below hbe2
      have hb2 := hb.below hbe2
      have hz2 := hbe2.size
      clear hr1 hb1 hk2 hz1 hbe1
      refine (encodeTree_any l A2 c2 _ ho2.reads (by omega)).mono ?_
      rintro r w3 ⟨A3, c3, rfl, ho3, hbe3⟩
      have hz3 := hbe3.size
      have hbw3 : Below w.heap.size w w3 := hbe2.trans (hbe3.mono hz2)
      have om3 : Own w3 w.heap.size 87 34 A2 l.length c2 (entLs l) := ho2.kept (b' := 0) (E := []) (G := []) (Kept.ofBelow hbe3) (by simp) (by simp)
      clear hbe2 hr2 hb2 ho2 hbe3
      go_wp2_with fail
      refine (rencodeTree_any l A c _ ((hr.below hbw3).more (by omega)) (by omega)).mono ?_
      rintro r w4 ⟨A4, c4, rfl, ho4, hbe4⟩
      have hz4 := hbe4.size
      have hbw4 : Below w.heap.size w w4 := hbw3.trans (hbe4.mono (by omega))
      have om4 : Own w4 w.heap.size 87 34 A2 l.length c2 (entLs l) := om3.kept (b' := 0) (E := []) (G := []) (Kept.ofBelow hbe4) (by simp) (by simp)
      have o34 : Own w4 w2.heap.size 5 1 A3 (encTree l).1.length c3 ((encTree l).1.map bv) := ho3.kept (b' := 0) (E := []) (G := []) (Kept.ofBelow hbe4) (by simp) (by simp)
      clear om3 ho3 hbw3 hbe4
      generalize (encTree l).1 = t at *
      generalize (encTree l).2 = e at *
      have hb4 := hb.below hbw4
      have hzz : w.heap.size ≤ w4.heap.size := by omega
      go_wp2_with (first | (at_builtin; refine wpList_append_sl rfl elemU8 rfl rfl (Own.fresh0 (heap_alloc_new _ _) (Nat.le_refl _)) rfl (hb4.alloc hzz _) (bvs_one b) (by unfold maxLen; omega) (by omega) (by simp) ?_; intro A5 c5 w5 ho5 hk5))
      simp only [Nat.zero_add, List.nil_append] at ho5 ⊢
      have hbe5 : Below w4.heap.size w4 w5 := ((Below.refl _ _).alloc (Nat.le_refl _) _).trans (hk5.below (Nat.le_refl _) (by simp) (by simp))
      have hz5 := hbe5.size
      have hcap5 := ho5.cap_le
      refine (parseTree_any b A5 c5 _ ho5.reads (by omega) hcap5.1 hcap5.2).mono ?_
      rintro r w6 ⟨A6, c6, rfl, ho6, hbe6⟩
      have hz6 := hbe6.size
      have hbe46 : Below w4.heap.size w4 w6 := hbe5.trans (hbe6.mono hz5)
      have hbw6 : Below w.heap.size w w6 := hbw4.trans (hbe46.mono (by omega))
      clear hcap5 ho5 hbe5 hbe6 hk5 hb4
      go_wp2_with fail
      refine (rparseTree_any b A' c' _ ((hb.below hbw6).more (by omega)) (by omega) hbl hc').mono ?_
      rintro r w7 ⟨A7, c7, rfl, ho7, hbe7⟩
      have hz7 := hbe7.size
      have hbe47 : Below w4.heap.size w4 w7 := hbe46.trans (hbe7.mono (by omega))
      have hbw7 : Below w.heap.size w w7 := hbw4.trans (hbe47.mono (by omega))
      have om7 : Own w7 w.heap.size 87 34 A2 l.length c2 (entLs l) := om4.kept (b' := 0) (E := []) (G := []) (Kept.ofBelow hbe47) (by simp) (by simp)
      have o37 := (o34.kept (b' := 0) (E := []) (G := []) (Kept.ofBelow hbe47) (by simp) (by simp)).reads
      have o47 := (ho4.kept (b' := 0) (E := []) (G := []) (Kept.ofBelow hbe47) (by simp) (by simp)).reads
      have o67 := (ho6.kept (b' := 0) (E := []) (G := []) (Kept.ofBelow hbe7) (by simp) (by simp)).reads
      have o77 := ho7.reads
      have hpl : (parseTree b).1.length ≤ 9223372036854775807 := by have := ho7.cap_le; unfold maxLen at this; omega
      clear om4 o34 ho4 ho6 ho7 hbe46 hbe7 hbe47
      generalize (parseTree b).1 = pt at *
      generalize (parseTree b).2 = pe at *
      go_wp2_with (first | (refine wpList_convStr rfl rfl Try.underlying23 Try.underlying5 Try.underlying9 (l := t) rfl o37 ?_) | (refine wpList_convStr rfl rfl Try.underlying23 Try.underlying5 Try.underlying9 (l := t) rfl o47 ?_))
      refine (sameEntries_refl pt A6 A7 c6 c7 _ _ o67 o77 hpl).mono ?_
      rintro r w8 ⟨rfl, hk8⟩
      have hbw8 : Below w.heap.size w w8 := hbw7.trans (hk8.all.mono (by omega))
      have om8 := om7.kept (b' := 0) (E := []) (G := []) (Kept.ofKeep hk8 (by unfold Nothing; simp)) (by simp) (by simp)
      have hz8 := hk8.size
      go_wp2_with fail
      refine (sameEntries_refl l A2 A c2 c _ _ om8.reads ((hr.below hbw8).more (by omega)) (by omega)).mono ?_
      rintro r w9 ⟨rfl, hk9⟩
      have hbw9 : Below w.heap.size w w9 := hbw8.trans (hk9.all.mono (by omega))
      go_wp2_with fail
      go_ret
      exact ⟨rfl, hbw9⟩
set_option maxRecDepth 100000 in
theorem codecTrees_lifted (os : Os) (started : os.Started) (H : Type) (enc : TypeId × Value → H) :
    ReturnsInHanded {} Try.checked os 3 .any (Rows.codecTreesSpec.pre6 enc Try.prog Try.f3 Rows.codecTreesRow.domain false) (Rows.codecTreesSpec.post enc Try.prog Try.f3 false true false false) := by
  refine returnsInHanded_of_change (C := Try.checked) own started (by kernel_rfl) Try.func3
    (ChangeSpec.witness6 (enc := enc) (C := Try.checked) false ⟨#[], #[(.slice none 0 0), (.slice none 0 0)], []⟩ 8 (by kernel_rfl) (by kernel_rfl) (by kernel_rfl) (by kernel_rfl)) ?_
  intro W base args ds gs before hval0 hW hcnd _
  have hval : ∀ (j : Nat) t v, Try.f3.params[j]? = some t → args[j]? = some v → Value.okWide Try.prog W .any base t v := hval0
  have hW' := hW
  obtain ⟨p, q, hA0, hV, rfl, hfz, hnd⟩ := hW
  have hA : DataW.TrodAll enc Try.prog W 0 (fun _ => true) true Try.f3.params.toList args.toList ds p := hA0
  rw [Try.params3] at hA hval
  obtain ⟨v0, vs0, d0, ds0, p0, q0, hargs, rfl, rfl, h0, r0⟩ := trodAll_cons hA
  obtain ⟨v1, vs1, d1, ds1, p1, q1, rfl, rfl, rfl, h1, r1⟩ := trodAll_cons r0
  obtain ⟨rfl, rfl, rfl⟩ := trodAll_nil r1
  obtain rfl : args = #[v0, v1] := by cases args; simp_all
  obtain ⟨rfl, rfl⟩ := trodVars_none hV
  have k0 := h0
  have lt0 : ∀ x ∈ p0, x.block < W.heap.size := by obtain ⟨m, hm⟩ := k0; exact DataW.trod_lt m _ _ _ hm
  have k1 := h1
  have lt1 : ∀ x ∈ p1, x.block < W.heap.size := by obtain ⟨m, hm⟩ := k1; exact DataW.trod_lt m _ _ _ hm
  obtain ⟨a0, len0, cap0, rfl⟩ := okWide_slice Try.underlying22 (hval 0 22 v0 rfl rfl)
  obtain ⟨l0, hl0, hr0, hc0, hm0, _⟩ := opened_ents h0
  subst hl0
  obtain ⟨a1, len1, cap1, rfl⟩ := okWide_slice Try.underlying23 (hval 1 23 v1 rfl rfl)
  obtain ⟨l1, hl1, hr1, hc1, hm1⟩ := opened_bytes h1
  subst hl1
  clear hA0 hval0
  refine (trees_walk l0 l1 a0 a1 cap0 cap1 W hr0 hr1 (Nat.le_trans hc0 hm0) hc1 hm1).mono fun e W' ⟨he, bel⟩ => ?_
  subst he
  exact ⟨_, rfl, _, _, _, [], _, [], hW', trodAll_mk1 (shut_bool Try.underlying4 _), (trodAll_cons_mk (Below.trod laidOut (by kernel_rfl) (of_decide_eq_true (by kernel_rfl)) k0 bel lt0) (trodAll_cons_mk (Below.trod laidOut (by kernel_rfl) (of_decide_eq_true (by kernel_rfl)) k1 bel lt1) trodAll_mk0)), rfl, bel.frame _, fun h => by cases h⟩

theorem codecTrees_over : Rows.codecTreesRow.holds Try.pinned (OpenSpec.ofChange Rows.codecTreesSpec) :=
  OpenClaim.holds_of_wide 3 Try.f3 rfl rfl rfl rfl rfl rfl rfl ⟨rfl, rfl, rfl, rfl, rfl⟩ rfl rfl rfl rfl rfl (by kernel_rfl) Try.func3 (by kernel_rfl)
    (of_decide_eq_true (by kernel_rfl)) (by unfold Func.isWrapper; first | (rw [if_pos (by decide +kernel)]; kernel_rfl) | (rw [if_neg (by decide +kernel)]; exact ⟨rfl, rfl⟩))
    (fun os started H enc _ => codecTrees_lifted os started H enc)

theorem codecTrees_holds : Rows.CodecTreesSaid := codecTrees_over
#print axioms codecTrees_holds
end Go.Proofs.Ytppmolneklidfaa
