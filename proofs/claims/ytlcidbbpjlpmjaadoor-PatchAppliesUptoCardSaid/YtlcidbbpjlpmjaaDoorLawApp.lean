/-
  PatchApplies: the walk of the law, its row, its card (second form).
-/
import Derived.Test.YtlcidbbpjlpmjaaDoorRp
import Derived.Test.YtlcidbbpjlpmjaaDoorRq
import Derived.Test.YtlcidbbpjlpmjaaDoorRk
import Derived.Test.YtlcidbbpjlpmjaaDoorRl
import Derived.Test.YtlcidbbpjlpmjaaDoorTf
import Derived.Test.YtlcidbbpjlpmjaaDoorCards
import Derived.Test.YtlcidbbpjlpmjaaDoorTie
import Derived.Test.YtlcidbbpjlpmjaaDoorLaid
import Derived.SevenTiedAt
namespace Go.Proofs.YtlcidbbpjlpmjaaDoor
open Go.ChangeShapes Go.WideShapes Go.ChangeAt Go.RowKit

theorem bdrew {B : Nat} {w w1 : World} (h : Below B w w1) (hB : B ≤ w1.heap.size) (n : Nat) : Below B w (w1.drewN n) := h.trans (((Keep.refl Nothing w1).drewN n).all.mono hB)
theorem Own.empty (w : World) (e : TypeId) : Own (w.alloc (.cells #[] e)) w.heap.size e 1 (some ⟨w.heap.size, 0, none⟩) 0 0 [] :=
  ⟨rfl, .inr ⟨w.heap.size, 0, #[], rfl, Nat.le_refl _, heap_alloc_new _ _, Nat.le_refl _, Nat.zero_le _, rfl, rfl⟩⟩
set_option maxHeartbeats 4000000 in
set_option maxRecDepth 100000 in
theorem applies_law (a : List (List UInt8)) (Aa : Option Addr) (ca : Nat) (l : List HkI) (A : Option Addr) (c : Nat) (w : World) (hra : Reads w w.heap.size 1 Aa a.length (strL a)) (hca : a.length ≤ ca) (hal : a.length ≤ 1048576) (has : ∀ s ∈ a, s.length ≤ 1048576)
    (hr : HII w w.heap.size A l) (hl : l.length ≤ 1048576) (hls : ∀ h ∈ l, HkSmall 1048576 h) (htab : Lib.TabIs Tryd.prog w "internal/strconv.uint64pow10" .u64 Lib.pow10Tab) :
    Calls Tryd.prog 5 #[.slice Aa a.length ca, .slice A l.length c] w fun r w' => r = .returned (.bool true) ∧ Below w.heap.size w w' := by
  have HK := Lib.hid (known_any w htab)
  have HRA := Lib.hid (show ∀ W, Below w.heap.size w W → Reads W w.heap.size 1 Aa a.length (strL a) from fun W k => hra.below k)
  have HR := Lib.hid (show ∀ W, Below w.heap.size w W → HII W w.heap.size A l from fun W k => hr.below k)
  have HFA := Lib.hid (fun W (k : Below w.heap.size w W) => few_any a Aa ca w.heap.size W (HRA.out W k) hal has)
  have HF := Lib.hid (fun W (k : Below w.heap.size w W) => fewh_any l A c w.heap.size W (HR.out W k) hl (fun h hh => ⟨(hls h hh).n1, (hls h hh).n2, (hls h hh).n3⟩))
  have HLS := Lib.hid hls
  clear hr hra htab hls
  go_enter Tryd.func5, Tryd.ntmps5
  go_wp2_with (go_at_call 11; refine HK.out.mono ?_)
  rintro _ w1 ⟨rfl, b1⟩
  cases hfa : decide (fewN a < 120)
  case false =>
    rw [hfa] at HFA
    go_wp2_with (go_at_call 12; refine (HFA.out _ b1).mono ?_)
    rintro _ _ ⟨rfl, n, rfl⟩
    go_wp2_with fail
    go_ret
    exact ⟨rfl, bdrew b1 b1.size n⟩
  have ha := fewN_len (of_decide_eq_true hfa)
  rw [hfa] at HFA
  cases hf : fewH l
  case false =>
    rw [hf] at HF
    go_wp2_with (go_at_call 12; refine (HFA.out _ b1).mono ?_)
    rintro _ _ ⟨rfl, n, rfl⟩
    go_wp2_with (go_at_call 16; refine (HF.out _ (bdrew b1 b1.size n)).mono ?_)
    rintro _ _ ⟨rfl, m, rfl⟩
    go_wp2_with fail
    go_ret
    exact ⟨rfl, bdrew b1 b1.size (n + m)⟩
  rw [hf] at HF
  go_upto_region 5 with (go_at_call 12; refine (HFA.out _ b1).mono ?_)
  rintro _ _ ⟨rfl, n, rfl⟩
  go_upto_region 5 with (go_at_call 16; refine (HF.out _ (bdrew b1 b1.size n)).mono ?_)
  rintro _ _ ⟨rfl, m, rfl⟩
  go_upto_region 5 with fail
  have b2 : Below w.heap.size w (w1.drewN (n + m)) := bdrew b1 b1.size (n + m)
  clear HFA HF b1
  generalize w1.drewN (n + m) = w2 at *
  have hz2 := b2.size
  have hcc : a.length ≤ 9223372036854775807 := by omega
  have HE := Lib.hid (Own.empty w2 9)
  have HRE := Lib.hid (HRA.out _ (b2.alloc hz2 (.cells #[] 9)))
  obtain ⟨R, hR⟩ : ∃ R, applyP a l = R := ⟨_, rfl⟩
  have HRR := Lib.hid hR
  clear hR
  go_wp2_with (at_builtin; refine wpList_append_sl rfl elemStr rfl rfl (n := 0) (xs := []) HE.out rfl HRE.out (strL_one _) (by unfold maxLen; omega) (by omega) (by simp) ?_; intro A5 c5 w5 o5 k5; have K5 := Lib.hid k5; have O5 := Lib.hid o5; clear o5 k5)
  have k5b : Below w2.heap.size w2 w5 := (((Kept.refl _ _ _ _).alloc _).trans K5.out).all
  have b5 : Below w.heap.size w w5 := b2.trans (k5b.mono hz2)
  have r5 : Reads w5 w5.heap.size 1 A5 a.length (strL a) := by simpa using O5.out.reads
  have c5a : a.length ≤ c5 := by have := O5.out.cap_le.1; omega
  have HAP := Lib.hid (apply_any a A5 c5 l A c w5.heap.size w5 (Nat.le_refl _) r5 c5a (by omega) ((HR.out _ b5).more b5.size) hl HLS.out)
  have HRA2 := Lib.hid (show ∀ W, Below w5.heap.size w5 W → Calls Tryd.prog 21 #[.slice Aa a.length ca, .slice A l.length c] W (ApplyR R W) from fun W k => by
    have bb := b5.trans (k.mono b5.size)
    rw [← HRR.out]
    exact rapply_any a Aa ca l A c w.heap.size W bb.size (HRA.out _ bb) hca (by omega) (HR.out _ bb) hl HLS.out)
  rw [HRR.out] at HAP
  have HB5 := Lib.hid b5
  clear HE HRE K5 O5 k5b b5 r5 b2
  cases R with
  | error e =>
    go_wp2_with (go_at_call 20; refine HAP.out.mono ?_)
    rintro _ w6 ⟨b6, rfl⟩
    have HS := Lib.hid (fun W => sameLines_refl [] none none 0 0 0 W Reads.none_ Reads.none_ (by decide))
    go_wp2_with (go_at_call 21; refine (HRA2.out _ b6).mono ?_)
    rintro _ w7 ⟨b7, rfl⟩
    have HB7 := Lib.hid (HB5.out.trans ((b6.trans (b7.mono b6.size)).mono HB5.out.size))
    go_wp2_with (go_at_call 22; refine (HS.out _).mono ?_)
    rintro _ _ ⟨rfl, k, rfl⟩
    go_wp2_with fail
    go_ret
    exact ⟨rfl, bdrew HB7.out HB7.out.size k⟩
  | ok out =>
    go_wp2_with (go_at_call 20; refine HAP.out.mono ?_)
    rintro _ w6 ⟨b6, A6, c6, rfl, o6⟩
    have O6 := Lib.hid o6
    clear o6
    go_wp2_with (go_at_call 21; refine (HRA2.out _ b6).mono ?_)
    rintro _ w7 ⟨b7, A7, c7, rfl, o7⟩
    have HB7 := Lib.hid (HB5.out.trans ((b6.trans (b7.mono b6.size)).mono HB5.out.size))
    have r6 : Reads w7 w7.heap.size 1 A6 out.length (strL out) := ((O6.out.reads).below b7).more b7.size
    have hcp := o7.cap_le
    have HS := Lib.hid (sameLines_refl out A6 A7 c6 c7 w7.heap.size w7 r6 o7.reads (by unfold maxLen at hcp; omega))
    clear o7 r6
    go_wp2_with (go_at_call 22; refine HS.out.mono ?_)
    rintro _ _ ⟨rfl, k, rfl⟩
    go_wp2_with fail
    go_ret
    exact ⟨rfl, bdrew HB7.out HB7.out.size k⟩
set_option maxRecDepth 100000 in
theorem patchApplies_reads (os : Os) {H : Type} (enc : TypeId × Value → H) : DataW.whole enc Tryd.prog ((World.doorLaid Tryd.prog 400 os).forCall (fun _ _ => 0) ⟨#[], #[.slice none 0 0, .slice none 0 0], []⟩).memory Tryd.f5.params.toList Rows.patchAppliesSpec.vars false (#[.slice none 0 0, .slice none 0 0] : Array Value).toList 8 = some ([.nil, .nil], [], []) := by kernel_rfl
set_option maxRecDepth 100000 in
theorem patchApplies_lifted (os : Os) (started : os.Started) (H : Type) (enc : TypeId × Value → H) (F : Stop.Interp) :
    ReturnsInHanded {} Tryd.checked os 5 .any ((Rows.OpenSpec.upto Rows.patchAppliesSpec).preRow enc Tryd.prog Tryd.f5 Rows.patchAppliesUptoRow.domain false Rows.patchAppliesUptoRow.laid) (((Rows.OpenSpec.upto Rows.patchAppliesSpec).at F).post enc Tryd.prog Tryd.f5 false true false false) := by
  refine returnsInHanded_of_row (C := Tryd.checked) (s := Rows.OpenSpec.upto Rows.patchAppliesSpec) own started (by kernel_rfl) Tryd.func5
    (witness_row_at (enc := enc) (C := Tryd.checked) false (World.doorLaid Tryd.prog 400 os) #[.slice none 0 0, .slice none 0 0] rfl (by kernel_rfl) (by kernel_rfl) (by kernel_rfl)
      (OpenSpec.preRow_of_cond 8 (patchApplies_reads os enc) (by kernel_rfl) (fun k hk => by cases hk; kernel_rfl) (by kernel_rfl) (door_met3 os _))) ?_
  intro W base args ds gs before hval0 hW hx1 hcond hx3 hL hx4 hx5
  have hval : ∀ (j : Nat) t v, Tryd.f5.params[j]? = some t → args[j]? = some v → Value.okWide Tryd.prog W .any base t v := hval0
  have hW' := hW
  obtain ⟨p, q, hA0, hV, rfl, hfz, hnd⟩ := hW
  have hA : DataW.TrodAll enc Tryd.prog W 0 (fun _ => true) true Tryd.f5.params.toList args.toList ds p := hA0
  rw [Tryd.params5] at hA hval
  obtain ⟨v0, vs0, d0, ds0, p0, q0, hargs, rfl, rfl, h0, r0⟩ := trodAll_cons hA
  obtain ⟨v1, vs1, d1, ds1, p1, q1, rfl, rfl, rfl, h1, r1⟩ := trodAll_cons r0
  obtain ⟨rfl, rfl, rfl⟩ := trodAll_nil r1
  obtain rfl : args = #[v0, v1] := by cases args; simp_all
  obtain ⟨rfl, rfl⟩ := trodVars_none hV
  have k0 := h0
  have lt0 : ∀ x ∈ p0, x.block < W.heap.size := by obtain ⟨m, hm⟩ := k0; exact DataW.trod_lt m _ _ _ hm
  have k1 := h1
  have lt1 : ∀ x ∈ p1, x.block < W.heap.size := by obtain ⟨m, hm⟩ := k1; exact DataW.trod_lt m _ _ _ hm
  have hbd := Nat.le_trans (Nat.le_refl _) (of_decide_eq_true (hcond _ rfl))
  simp only [Rows.uptoBulkAll, List.append_nil] at hbd
  obtain ⟨a0, len0, cap0, rfl⟩ := okWide_slice Tryd.underlying22 (hval 0 22 v0 rfl rfl)
  obtain ⟨l0, hl0, hr0, hc0, hm0, hn0, hs0⟩ := opened_strs (N := 1048576) h0 (by omega)
  subst hl0
  obtain ⟨a1, len1, cap1, rfl⟩ := okWide_slice Tryd.underlying25 (hval 1 25 v1 rfl rfl)
  obtain ⟨l1, hl1, hr1, hc1, hm1, hn1, hs1⟩ := opened_hunks (N := 1048576) h1 (by omega)
  subst hl1
  clear hA0 hval0
  refine (applies_law l0 a0 cap0 l1 a1 cap1 W hr0 hc0 hn0 hs0 hr1 hn1 hs1 (tab_of_laid hL)).mono fun e W' ⟨he, bel⟩ => ?_
  subst he
  exact ⟨_, rfl, _, _, _, [], _, [], hW', trodAll_mk1 (shut_bool Tryd.underlying4 _), (trodAll_cons_mk (Below.trod laidOut (by kernel_rfl) (of_decide_eq_true (by kernel_rfl)) k0 bel lt0) (trodAll_cons_mk (Below.trod laidOut (by kernel_rfl) (of_decide_eq_true (by kernel_rfl)) k1 bel lt1) trodAll_mk0)), rfl, bel.frame _, fun h => by cases h⟩
theorem patchApplies_said : Rows.PatchAppliesUptoSaid :=
  OpenClaim.holds_of_cond 5 Tryd.f5 rfl rfl rfl rfl rfl rfl rfl ⟨rfl, rfl, rfl, rfl, rfl⟩ rfl rfl rfl rfl rfl (by kernel_rfl) Tryd.func5 (by kernel_rfl)
    (of_decide_eq_true (by kernel_rfl)) (by unfold Func.isWrapper; first | (rw [if_pos (by decide +kernel)]; kernel_rfl) | (rw [if_neg (by decide +kernel)]; exact ⟨rfl, rfl⟩))
    (fun os started H enc _ F => by rw [OpenClaim.pre_eq_preRow]; exact patchApplies_lifted os started H enc F)
theorem patchApplies_plain (f : FuncId) (fn : Func) (hf : Tryd.pinned.checked.prog.funcNamed "selvage/selvagelaw13.PatchApplies" = some f) (hfn : Tryd.pinned.checked.prog.funcs[f]? = some fn) :
    true = Tryd.pinned.checked.prog.looks [] ∧ ∀ (j : Nat) t, fn.params[j]? = some t → Tryd.pinned.checked.prog.wantsStandIn t = false := by
  obtain rfl : f = 5 := Option.some.inj ((show Tryd.prog.funcNamed "selvage/selvagelaw13.PatchApplies" = some 5 by kernel_rfl).symm.trans hf) |>.symm
  obtain rfl : fn = Tryd.f5 := (Option.some.inj (Tryd.func5.symm.trans hfn)).symm
  refine ⟨by kernel_rfl, fun j t ht => ?_⟩
  rw [Tryd.params5] at ht
  have hm := Array.mem_of_getElem? ht
  simp only [Array.mem_toList_iff.symm, List.mem_cons, List.not_mem_nil, or_false] at hm
  rcases hm with rfl | rfl
  · exact (show Tryd.prog.wantsStandIn 22 = false by kernel_rfl)
  · exact (show Tryd.prog.wantsStandIn 25 = false by kernel_rfl)
theorem patchApplies_holds : Rows.PatchAppliesUptoCardSaid :=
  Claim7.holds_tied_plain_at .later [] _ _ _ _ patchApplies_said (fun _ h => by cases h) (by kernel_rfl) (fun _ h => by cases h) patchAppliesUpto_row_tie rfl ⟨rfl, rfl⟩ (by kernel_rfl) rfl patchApplies_plain (by kernel_rfl)
#print axioms patchApplies_holds
end Go.Proofs.YtlcidbbpjlpmjaaDoor
