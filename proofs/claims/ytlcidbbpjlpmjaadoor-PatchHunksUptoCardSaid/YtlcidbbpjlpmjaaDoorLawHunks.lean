/-
  PatchHunks: the walk of the law, its row, its card (second form).
-/
import Derived.Test.YtlcidbbpjlpmjaaDoorQu
import Derived.Test.YtlcidbbpjlpmjaaDoorTf
import Derived.Test.YtlcidbbpjlpmjaaDoorTe
import Derived.Test.YtlcidbbpjlpmjaaDoorCards
import Derived.Test.YtlcidbbpjlpmjaaDoorTie
import Derived.Test.YtlcidbbpjlpmjaaDoorLaid
import Derived.Test.YtlcidbbpjlpmjaaDoorTo
import Derived.SevenTiedAt
namespace Go.Proofs.YtlcidbbpjlpmjaaDoor
open Go.ChangeShapes Go.WideShapes Go.ChangeAt Go.RowKit

theorem RInv.all {a b : List (List UInt8)} {ar : Nat} (har : ar ≤ 10) : ∀ {rest : List EdD} {c : RefD} {k : Nat}, RInv a b c k rest → RInv a b (refsP a b ar c rest) (k + rest.length) []
  | [], c, k, h => h
  | e :: l, c, k, h => by
    have := RInv.all har (h.next (ar := ar) har (!l.isEmpty))
    rw [refsP, List.length_cons, Nat.add_comm l.length 1, ← Nat.add_assoc]
    exact this
theorem hunks_bd {a b : List (List UInt8)} {ar : Nat} (har : ar ≤ 10) (ha : a.length ≤ 200) (hb : b.length ≤ 200) : ∀ h ∈ (hunksP a b ar).map HkD.toI, h.eds.length ≤ 9223372036854775807 ∧ h.ls.length ≤ 9223372036854775807 := by
  intro h hh
  obtain ⟨x, hx, rfl⟩ := List.mem_map.1 hh
  rw [hunks_ref] at hx
  have hI := RInv.all har (RInv.start a b)
  have hd := (diffP_of a b).2.2.2
  have h1 := hI.bd x hx
  have h2 := hI.ai
  have h3 := hI.bj
  simp only [fromA, fromB, List.map_nil, List.sum_nil] at h2 h3
  have h4 : (HkD.toI x).eds.length = x.eds.length := by simp [HkD.toI]
  have h5 : (HkD.toI x).ls.length = x.ls.length := rfl
  omega
theorem bdrew {B : Nat} {w w1 : World} (h : Below B w w1) (hB : B ≤ w1.heap.size) (n : Nat) : Below B w (w1.drewN n) := h.trans (((Keep.refl Nothing w1).drewN n).all.mono hB)
theorem HII.nil (w : World) (B : Nat) : HII w B none [] := ⟨[], rfl, Reads.none_, fun k x y z h => by simp at h⟩
set_option maxHeartbeats 2000000 in
set_option maxRecDepth 100000 in
theorem hunks_law (a b : List (List UInt8)) (Aa Ab : Option Addr) (ca cb : Nat) (ar : Int) (w : World) (hr : Reads w w.heap.size 1 Aa a.length (strL a)) (hrb : Reads w w.heap.size 1 Ab b.length (strL b)) (hca : a.length ≤ ca) (hcb : b.length ≤ cb)
    (hal : a.length ≤ 1048576) (hbl : b.length ≤ 1048576) (hsa : ∀ s ∈ a, s.length ≤ 1048576) (hsb : ∀ s ∈ b, s.length ≤ 1048576) (htab : Lib.TabIs Tryd.prog w "internal/strconv.uint64pow10" .u64 Lib.pow10Tab) :
    Calls Tryd.prog 3 #[.slice Aa a.length ca, .slice Ab b.length cb, .int .i64 ar] w fun r w' => r = .returned (.bool true) ∧ Below w.heap.size w w' := by
  have HK := Lib.hid (known_any w htab)
  have HRA := Lib.hid (show ∀ W, Below w.heap.size w W → Reads W w.heap.size 1 Aa a.length (strL a) from fun W k => hr.below k)
  have HRB := Lib.hid (show ∀ W, Below w.heap.size w W → Reads W w.heap.size 1 Ab b.length (strL b) from fun W k => hrb.below k)
  have HFA := Lib.hid (fun W (k : Below w.heap.size w W) => few_any a Aa ca w.heap.size W (HRA.out W k) hal hsa)
  have HFB := Lib.hid (fun W (k : Below w.heap.size w W) => few_any b Ab cb w.heap.size W (HRB.out W k) hbl hsb)
  clear hr hrb htab
  go_enter Tryd.func3, Tryd.ntmps3
  go_wp2_with (go_at_call 11; refine HK.out.mono ?_)
  rintro _ w1 ⟨rfl, b1⟩
  cases hfa : decide (fewN a < 120)
  case false =>
    rw [hfa] at HFA
    go_wp2_with (go_at_call 12; refine (HFA.out _ b1).mono ?_)
    rintro _ _ ⟨rfl, n, rfl⟩
    go_wp2_with fail
    go_ret
    exact ⟨rfl, bdrew b1 b1.size n⟩
  have ha := fewN_len (of_decide_eq_true hfa)
  rw [hfa] at HFA
  cases hfb : decide (fewN b < 120)
  case false =>
    rw [hfb] at HFB
    go_wp2_with (go_at_call 12; refine (HFA.out _ b1).mono ?_)
    rintro _ _ ⟨rfl, n, rfl⟩
    go_wp2_with (go_at_call 12; refine (HFB.out _ (bdrew b1 b1.size n)).mono ?_)
    rintro _ _ ⟨rfl, m, rfl⟩
    go_wp2_with fail
    go_ret
    exact ⟨rfl, bdrew b1 b1.size (n + m)⟩
  have hb := fewN_len (of_decide_eq_true hfb)
  rw [hfb] at HFB
  go_upto_region 5 with (go_at_call 12; refine (HFA.out _ b1).mono ?_)
  rintro _ _ ⟨rfl, n, rfl⟩
  go_upto_region 5 with (go_at_call 12; refine (HFB.out _ (bdrew b1 b1.size n)).mono ?_)
  rintro _ _ ⟨rfl, m, rfl⟩
  go_upto_region 5 with fail
  have b2 : Below w.heap.size w (w1.drewN (n + m)) := bdrew b1 b1.size (n + m)
  clear HFA HFB b1
  generalize w1.drewN (n + m) = w2 at *
  have hz2 := b2.size
  by_cases har : ar < 0 ∨ 10 < ar
  · go_wp2_with (go_at_call 13; refine (hunks_err _ _ _ _ _ _ _ har _).mono ?_)
    rintro _ _ ⟨rfl, rfl⟩
    go_wp2_with (go_at_call 14; refine (rhunks_err _ _ _ _ _ _ _ har _).mono ?_)
    rintro _ _ ⟨rfl, rfl⟩
    have HS := Lib.hid (fun W => sameHunks_refl [] none none 0 0 0 W (HII.nil W 0) (HII.nil W 0) (by decide) (by simp))
    go_wp2_with (go_at_call 15; refine (HS.out _).mono ?_)
    rintro _ _ ⟨rfl, k, rfl⟩
    go_wp2_with fail
    go_ret
    exact ⟨rfl, bdrew b2 hz2 k⟩
  · obtain ⟨rn, rfl⟩ : ∃ rn : Nat, ar = (rn : Int) := ⟨ar.toNat, by omega⟩
    have hrn : rn ≤ 10 := by omega
    have hmx : ∀ l : List (List UInt8), (∀ s ∈ l, s.length ≤ 1048576) → ∀ s ∈ l, s.length ≤ maxLen := fun l h s hs => by have := h s hs; unfold maxLen; omega
    have HH := Lib.hid (hunks_any a b Aa Ab ca cb w.heap.size rn w2 (HRA.out _ b2) (HRB.out _ b2) hz2 hca (by omega) hcb (by omega) hrn (hmx a hsa) (hmx b hsb))
    clear har hsa hsb
    go_wp2_with (go_at_call 13; refine HH.out.mono ?_)
    rintro _ w3 ⟨A1, cp1, rfl, hc1, hc1m, hin1, b3⟩
    have b23 := b2.trans (b3.mono hz2)
    have HG := Lib.hid (rhunks_any a b Aa Ab ca cb w.heap.size rn w3 (HRA.out _ b23) (HRB.out _ b23) b23.size hca (by omega) hcb (by omega) hrn)
    go_wp2_with (go_at_call 14; refine HG.out.mono ?_)
    rintro _ w4 ⟨A2, cp2, rfl, hc2, hc2m, hin2, b4⟩
    have b24 := b23.trans (b4.mono b23.size)
    have i1 := (hin1.toI.below b4).more b4.size
    have i2 := hin2.toI
    have hbd := hunks_bd (a := a) (b := b) hrn (by omega) (by omega)
    have hln : (hunksP a b rn).length = ((hunksP a b rn).map HkD.toI).length := by simp
    have hl9 : ((hunksP a b rn).map HkD.toI).length ≤ 9223372036854775807 := by rw [← hln]; unfold maxLen at hc1m; omega
    have HS := sameHunks_refl ((hunksP a b rn).map HkD.toI) A1 A2 cp1 cp2 w4.heap.size w4 i1 i2 hl9 hbd
    rw [← hln] at HS
    have HS := Lib.hid HS
    clear i1 i2 hbd hl9 hin1 hin2 hln
    go_wp2_with (go_at_call 15; refine HS.out.mono ?_)
    rintro _ _ ⟨rfl, k, rfl⟩
    go_wp2_with fail
    go_ret
    exact ⟨rfl, bdrew b24 b24.size k⟩
set_option maxRecDepth 100000 in
theorem patchHunks_reads (os : Os) {H : Type} (enc : TypeId × Value → H) : DataW.whole enc Tryd.prog ((World.doorLaid Tryd.prog 400 os).forCall (fun _ _ => 0) ⟨#[], #[.slice none 0 0, .slice none 0 0, .int .i64 0], []⟩).memory Tryd.f3.params.toList Rows.patchHunksSpec.vars false (#[.slice none 0 0, .slice none 0 0, .int .i64 0] : Array Value).toList 8 = some ([.nil, .nil, .lit (.int .i64 0)], [], []) := by kernel_rfl
set_option maxRecDepth 100000 in
theorem patchHunks_lifted (os : Os) (started : os.Started) (H : Type) (enc : TypeId × Value → H) (F : Stop.Interp) :
    ReturnsInHanded {} Tryd.checked os 3 .any ((Rows.OpenSpec.upto Rows.patchHunksSpec).preRow enc Tryd.prog Tryd.f3 Rows.patchHunksUptoRow.domain false Rows.patchHunksUptoRow.laid) (((Rows.OpenSpec.upto Rows.patchHunksSpec).at F).post enc Tryd.prog Tryd.f3 false true false false) := by
  refine returnsInHanded_of_row (C := Tryd.checked) (s := Rows.OpenSpec.upto Rows.patchHunksSpec) own started (by kernel_rfl) Tryd.func3
    (witness_row_at (enc := enc) (C := Tryd.checked) false (World.doorLaid Tryd.prog 400 os) #[.slice none 0 0, .slice none 0 0, .int .i64 0] rfl (by kernel_rfl) (by kernel_rfl) (by kernel_rfl)
      (OpenSpec.preRow_of_cond 8 (patchHunks_reads os enc) (by kernel_rfl) (fun k hk => by cases hk; kernel_rfl) (by kernel_rfl) (door_met3 os _))) ?_
  intro W base args ds gs before hval0 hW hx1 hcond hx3 hL hx4 hx5
  have hval : ∀ (j : Nat) t v, Tryd.f3.params[j]? = some t → args[j]? = some v → Value.okWide Tryd.prog W .any base t v := hval0
  have hW' := hW
  obtain ⟨p, q, hA0, hV, rfl, hfz, hnd⟩ := hW
  have hA : DataW.TrodAll enc Tryd.prog W 0 (fun _ => true) true Tryd.f3.params.toList args.toList ds p := hA0
  rw [Tryd.params3] at hA hval
  obtain ⟨v0, vs0, d0, ds0, p0, q0, hargs, rfl, rfl, h0, r0⟩ := trodAll_cons hA
  obtain ⟨v1, vs1, d1, ds1, p1, q1, rfl, rfl, rfl, h1, r1⟩ := trodAll_cons r0
  obtain ⟨v2, vs2, d2, ds2, p2, q2, rfl, rfl, rfl, h2, r2⟩ := trodAll_cons r1
  obtain ⟨rfl, rfl, rfl⟩ := trodAll_nil r2
  obtain rfl : args = #[v0, v1, v2] := by cases args; simp_all
  obtain ⟨rfl, rfl⟩ := trodVars_none hV
  have k0 := h0
  have lt0 : ∀ x ∈ p0, x.block < W.heap.size := by obtain ⟨m, hm⟩ := k0; exact DataW.trod_lt m _ _ _ hm
  have k1 := h1
  have lt1 : ∀ x ∈ p1, x.block < W.heap.size := by obtain ⟨m, hm⟩ := k1; exact DataW.trod_lt m _ _ _ hm
  have k2 := h2
  have lt2 : ∀ x ∈ p2, x.block < W.heap.size := by obtain ⟨m, hm⟩ := k2; exact DataW.trod_lt m _ _ _ hm
  have hbd := Nat.le_trans (Nat.le_refl _) (of_decide_eq_true (hcond _ rfl))
  simp only [Rows.uptoBulkAll, List.append_nil] at hbd
  obtain ⟨a0, len0, cap0, rfl⟩ := okWide_slice Tryd.underlying22 (hval 0 22 v0 rfl rfl)
  obtain ⟨l0, hl0, hr0, hc0, hm0, hn0, hs0⟩ := opened_strs (N := 1048576) h0 (by omega)
  subst hl0
  obtain ⟨a1, len1, cap1, rfl⟩ := okWide_slice Tryd.underlying22 (hval 1 22 v1 rfl rfl)
  obtain ⟨l1, hl1, hr1, hc1, hm1, hn1, hs1⟩ := opened_strs (N := 1048576) h1 (by omega)
  subst hl1
  obtain ⟨f2, rfl, _, _, w2⟩ := open_int Tryd.underlying3 (hval 2 3 v2 rfl rfl) h2
  clear hA0 hval0
  refine (hunks_law l0 l1 a0 a1 cap0 cap1 f2 W hr0 hr1 hc0 hc1 hn0 hn1 hs0 hs1 (tab_of_laid hL)).mono fun e W' ⟨he, bel⟩ => ?_
  subst he
  exact ⟨_, rfl, _, _, _, [], _, [], hW', trodAll_mk1 (shut_bool Tryd.underlying4 _), (trodAll_cons_mk (Below.trod laidOut (by kernel_rfl) (of_decide_eq_true (by kernel_rfl)) k0 bel lt0) (trodAll_cons_mk (Below.trod laidOut (by kernel_rfl) (of_decide_eq_true (by kernel_rfl)) k1 bel lt1) (trodAll_cons_mk (Below.trod laidOut (by kernel_rfl) (of_decide_eq_true (by kernel_rfl)) k2 bel lt2) trodAll_mk0))), rfl, bel.frame _, fun h => by cases h⟩
theorem patchHunks_said : Rows.PatchHunksUptoSaid :=
  OpenClaim.holds_of_cond 3 Tryd.f3 rfl rfl rfl rfl rfl rfl rfl ⟨rfl, rfl, rfl, rfl, rfl⟩ rfl rfl rfl rfl rfl (by kernel_rfl) Tryd.func3 (by kernel_rfl)
    (of_decide_eq_true (by kernel_rfl)) (by unfold Func.isWrapper; first | (rw [if_pos (by decide +kernel)]; kernel_rfl) | (rw [if_neg (by decide +kernel)]; exact ⟨rfl, rfl⟩))
    (fun os started H enc _ F => by rw [OpenClaim.pre_eq_preRow]; exact patchHunks_lifted os started H enc F)
theorem patchHunks_plain (f : FuncId) (fn : Func) (hf : Tryd.pinned.checked.prog.funcNamed "selvage/selvagelaw13.PatchHunks" = some f) (hfn : Tryd.pinned.checked.prog.funcs[f]? = some fn) :
    true = Tryd.pinned.checked.prog.looks [] ∧ ∀ (j : Nat) t, fn.params[j]? = some t → Tryd.pinned.checked.prog.wantsStandIn t = false := by
  obtain rfl : f = 3 := Option.some.inj ((show Tryd.prog.funcNamed "selvage/selvagelaw13.PatchHunks" = some 3 by kernel_rfl).symm.trans hf) |>.symm
  obtain rfl : fn = Tryd.f3 := (Option.some.inj (Tryd.func3.symm.trans hfn)).symm
  refine ⟨by kernel_rfl, fun j t ht => ?_⟩
  rw [Tryd.params3] at ht
  have hm := Array.mem_of_getElem? ht
  simp only [Array.mem_toList_iff.symm, List.mem_cons, List.not_mem_nil, or_false] at hm
  rcases hm with rfl | rfl | rfl
  · exact (show Tryd.prog.wantsStandIn 22 = false by kernel_rfl)
  · exact (show Tryd.prog.wantsStandIn 22 = false by kernel_rfl)
  · exact (show Tryd.prog.wantsStandIn 3 = false by kernel_rfl)
theorem patchHunks_holds : Rows.PatchHunksUptoCardSaid :=
  Claim7.holds_tied_plain_at .later [] _ _ _ _ patchHunks_said (fun _ h => by cases h) (by kernel_rfl) (fun _ h => by cases h) patchHunksUpto_row_tie rfl ⟨rfl, rfl⟩ (by kernel_rfl) rfl patchHunks_plain (by kernel_rfl)
#print axioms patchHunks_holds
end Go.Proofs.YtlcidbbpjlpmjaaDoor
