/-
  PatchReverses: the walk of the law, its row, its card (second form).
-/
import Derived.Test.YtlcidbbpjlpmjaaDoorRm
import Derived.Test.YtlcidbbpjlpmjaaDoorRf
import Derived.Test.YtlcidbbpjlpmjaaDoorRk
import Derived.Test.YtlcidbbpjlpmjaaDoorRl
import Derived.Test.YtlcidbbpjlpmjaaDoorTf
import Derived.Test.YtlcidbbpjlpmjaaDoorCards
import Derived.Test.YtlcidbbpjlpmjaaDoorTie
import Derived.Test.YtlcidbbpjlpmjaaDoorLaid
import Derived.SevenTiedAt
namespace Go.Proofs.YtlcidbbpjlpmjaaDoor
open Go.ChangeShapes Go.WideShapes Go.ChangeAt Go.RowKit

theorem bdrew {B : Nat} {w w1 : World} (h : Below B w w1) (hB : B ≤ w1.heap.size) (n : Nat) : Below B w (w1.drewN n) := h.trans (((Keep.refl Nothing w1).drewN n).all.mono hB)
set_option maxHeartbeats 4000000 in
set_option maxRecDepth 100000 in
theorem reverses_law (l : List HkI) (A : Option Addr) (c : Nat) (w : World) (hr : HII w w.heap.size A l) (hlc : l.length ≤ c) (hl : l.length ≤ 1048576) (hls : ∀ h ∈ l, HkSmall 1048576 h) (htab : Lib.TabIs Tryd.prog w "internal/strconv.uint64pow10" .u64 Lib.pow10Tab) :
    Calls Tryd.prog 4 #[.slice A l.length c] w fun r w' => r = .returned (.bool true) ∧ Below w.heap.size w w' := by
  have HK := Lib.hid (known_any w htab)
  have HR := Lib.hid (show ∀ W, Below w.heap.size w W → HII W w.heap.size A l from fun W k => hr.below k)
  have HF := Lib.hid (fun W (k : Below w.heap.size w W) => fewh_any l A c w.heap.size W (HR.out W k) hl (fun h hh => ⟨(hls h hh).n1, (hls h hh).n2, (hls h hh).n3⟩))
  have HLS := Lib.hid hls
  clear hr htab hls
  go_enter Tryd.func4, Tryd.ntmps4
  go_wp2_with (go_at_call 11; refine HK.out.mono ?_)
  rintro _ w1 ⟨rfl, b1⟩
  cases hf : fewH l
  case false =>
    rw [hf] at HF
    go_wp2_with (go_at_call 16; refine (HF.out _ b1).mono ?_)
    rintro _ _ ⟨rfl, n, rfl⟩
    go_wp2_with fail
    go_ret
    exact ⟨rfl, bdrew b1 b1.size n⟩
  case true =>
    rw [hf] at HF
    go_wp2_with (go_at_call 16; refine (HF.out _ b1).mono ?_)
    rintro _ _ ⟨rfl, n, rfl⟩
    have b2 : Below w.heap.size w (w1.drewN n) := bdrew b1 b1.size n
    clear HF b1
    generalize w1.drewN n = w2 at *
    have hz2 := b2.size
    go_wp2_with fail
    go_loopw [3, 4] (fun s3 s4 wr => ∃ (k : Nat) (A' : Option Addr) (cp : Nat), k ≤ l.length ∧ s3 = .slice A' ((l.take k).filter okH).length cp ∧ s4 = .int .i64 (k : Nat) ∧ HM wr w.heap.size w.heap.size A' cp ((l.take k).filter okH) ∧ Below w.heap.size w wr) (fun _ s4 _ => l.length - (intOf s4).toNat)
    case atStart => exact ⟨0, none, 0, Nat.zero_le _, rfl, rfl, HM.nil _ _ _, b2⟩
    case round =>
      obtain ⟨k, A', cp, hk, rfl, rfl, hm, hb⟩ := hrel
      have hz := hb.size
      by_cases hlt : k < l.length
      · obtain ⟨x, hx⟩ : ∃ x, l[k]? = some x := ⟨_, List.getElem?_eq_getElem hlt⟩
        obtain ⟨s1, s2, s3⟩ := HLS.out x (List.mem_of_getElem? hx)
        obtain ⟨g, off, _, _, _, _, rfl, hg, _⟩ := (HR.out _ hb).load hx
        obtain ⟨h1, ev, lv, hrx, hld⟩ := (HR.out _ hb).one hx
        have hTk : hksT [x] = hkT x := by simp [hksT]
        have htl := hkT_len s2 s3 (Nat.le_refl _)
        have HTX := Lib.hid (rtext_any [x] (some ⟨g, off + k * 4, none⟩) (c - k) w.heap.size wr hz h1 (by simp) (fun h hh => by rw [List.mem_singleton] at hh; subst hh; exact ⟨by omega, by omega, fun s hs => by have := s3 s hs; omega⟩) (by rw [hTk]; have := Nat.mul_le_mul_right (1048576 + 4) s2; omega))
        have hi0 : (0 : Int) ≤ (k : Int) := Int.natCast_nonneg _
        have hi1 : (k : Int) < (l.length : Int) := by omega
        have wk : IntKind.i64.wrap ((k : Int) + 1) = (k : Int) + 1 := IntWalk.i64_in _ (by omega)
        have q1 : (k : Int) ≤ (k : Int) + 1 := by omega
        have q2 : (k : Int) + 1 ≤ (c : Int) := by omega
        have q3 : ((k : Int) + 1).toNat = k + 1 := by omega
        have q4 : k + 1 - k = 1 := by omega
        have q5 : ¬ (c = k) := by omega
        have q6 : k + 1 ≤ c := by omega
        have HTK := Lib.hid (show l.take (k + 1) = l.take k ++ [x] from by rw [List.take_add_one, hx]; rfl)
        obtain ⟨EA, ec, LA, lc, hev, hlv, _⟩ := id hrx
        subst hev hlv
        have HM0 := Lib.hid hm
        have HLD := Lib.hid hld
        have HRX := Lib.hid hrx
        have hfl : ((l.take k).filter okH).length ≤ k := Nat.le_trans (List.length_filter_le _ _) (by rw [List.length_take]; omega)
        clear h1 hrx hld hm hx htl hTk
        go_upto_region 9 with fail
        go_upto_region 10 with fail
        cases hok : okH x
        case false =>
          have HTR := Lib.hid (show textR [x] = .tuple #[.string ⟨#[]⟩, .int .i64 1] from by unfold textR; simp [hok])
          have HFL := Lib.hid (show (l.take (k + 1)).filter okH = (l.take k).filter okH from by rw [HTK.out, List.filter_append]; simp [hok])
          refine HTX.out.mono ?_
          rintro _ w3 ⟨rfl, k3⟩
          rw [HTR.out]
          have HM3 := Lib.hid (HM0.out.below hz k3.all)
          have HB3 := Lib.hid (hb.trans (k3.all.mono hz))
          go_wp2_with fail
          go_roundw
          case rel => exact ⟨k + 1, A', cp, by omega, by rw [HFL.out], by go_num, by rw [HFL.out]; exact HM3.out, HB3.out⟩
          case measure => simp [intOf]; omega
        case true =>
          have HTR := Lib.hid (show textR [x] = .tuple #[.string ⟨(hksT [x]).toArray⟩, .int .i64 0] from by unfold textR; simp [hok])
          have HFL := Lib.hid (show (l.take (k + 1)).filter okH = (l.take k).filter okH ++ [x] from by rw [HTK.out, List.filter_append]; simp [hok])
          refine HTX.out.mono ?_
          rintro _ w3 ⟨rfl, k3⟩
          rw [HTR.out]
          have hb3 : Below w.heap.size w w3 := hb.trans (k3.all.mono hz)
          have hz3 := hb3.size
          obtain ⟨tv, t1, t2, t3⟩ := HM0.out.below hz k3.all
          have HT := Lib.hid t3
          have L3 := Lib.hid (HLD.out w3 (k3.below hz (fun _ _ h => h)))
          have HRX3 := Lib.hid (HRX.out.below (k3.below hz (fun _ _ h => h)))
          have HB3 := Lib.hid hb3
          clear t3 hb3 k3 HM0
          go_wp2_with (first | (refine wpList_load rfl rfl rfl (by with_reducible exact L3.out) ?_) | (refine wpList_buildSlice1 rfl elemHunk rfl zero_hk rfl rfl (by omega) rfl ?_) | (at_builtin; refine wpList_append_sl rfl elemHunk rfl rfl (n := ((l.take k).filter okH).length) (t2.alloc _) rfl (Reads.of_blk (n := 1) (xs := hkI x (.slice EA x.eds.length ec) (.slice LA x.ls.length lc)) (heap_alloc_new _ _) rfl rfl) (hkC_one x EA ec LA lc) (by unfold maxLen; omega) (by omega) (by simp; omega) ?_; intro A5 c5 w5 o5 k5; have HM5 := Lib.hid (HM.push (x := x) (Nat.le_refl _) hz3 t1 HT.out HRX3.out (((Kept.refl _ _ _ _).alloc _).trans k5) o5); have HB5 := Lib.hid (HB3.out.trans ((((Kept.refl _ _ _ _).alloc _).trans k5).below (Nat.le_refl _) hz3 (by simp))); clear o5 k5))
          go_roundw
          case rel => exact ⟨k + 1, A5, c5, by omega, by rw [HFL.out]; simp, by go_num, by rw [HFL.out]; exact HM5.out, HB5.out⟩
          case measure => simp [intOf]; omega
      · obtain rfl : k = l.length := by omega
        rw [List.take_length] at hm ⊢
        have hall : ∀ x ∈ l.filter okH, okH x = true := fun x hx => (List.mem_filter.1 hx).2
        have hii := hm.reads hz
        have hin := hii.toD hall
        have hokD : ∀ h ∈ (l.filter okH).map HkI.toD, OkD h := fun h hh => by
          obtain ⟨x, hx, rfl⟩ := List.mem_map.1 hh
          obtain ⟨t, ht⟩ := Option.isSome_iff_exists.1 (show (mayP x).isSome = true from hall x hx)
          have sm := HLS.out x (List.mem_filter.1 hx).1
          exact okD_of ht (by have := sm.n1; omega) (by have := sm.n2; omega)
        have hfl : (l.filter okH).length ≤ l.length := List.length_filter_le _ _
        have HRV := Lib.hid (show Calls Tryd.prog 18 #[.slice A' (l.filter okH).length cp] wr (RevPost ((l.filter okH).map HkI.toD) wr) from by
          have := reverse_any ((l.filter okH).map HkI.toD) A' cp wr.heap.size wr (Nat.le_refl _) hin hokD (by rw [List.length_map]; omega)
          rwa [List.length_map] at this)
        have HRR := Lib.hid (show ∀ W, Below wr.heap.size wr W → Calls Tryd.prog 19 #[.slice A' (l.filter okH).length cp] W (RevPost ((l.filter okH).map HkI.toD) W) from fun W kk => by
          have := rreverse_any ((l.filter okH).map HkI.toD) A' cp wr.heap.size W kk.size (hin.below kk) hokD (by rw [List.length_map]; omega)
          rwa [List.length_map] at this)
        have HSM := Lib.hid (show ∀ h ∈ ((l.filter okH).map HkI.toD).map backP, h.eds.length ≤ 9223372036854775807 ∧ h.ls.length ≤ 9223372036854775807 from fun h hh => by
          obtain ⟨y, hy, rfl⟩ := List.mem_map.1 hh
          have ok := hokD y hy
          have := back_len y
          have := ok.n1
          have := ok.n2
          omega)
        have hlen : ((l.filter okH).map HkI.toD).length = (l.filter okH).length := List.length_map _
        generalize (l.filter okH).map HkI.toD = D at *
        have HLEN := Lib.hid hlen
        have HB := Lib.hid hb
        clear hin hii hm hokD hall hlen hb
        go_wp2_with (go_at_call 18; refine HRV.out.mono ?_)
        rintro _ w5 ⟨A1, c1, rfl, hd1, b5⟩
        have hz5 := b5.size
        go_wp2_with (go_at_call 19; refine (HRR.out _ b5).mono ?_)
        rintro _ w6 ⟨A2, c2, rfl, hd2, b6⟩
        have i1 := ((hd1.reads.toI).below b6).more b6.size
        have i2 := hd2.reads.toI
        have e1 : ((D.map backP).map HkD.toI).length = D.length := by simp
        have hs := sameHunks_refl ((D.map backP).map HkD.toI) A1 A2 c1 c2 w6.heap.size w6 i1 i2 (by rw [e1]; have := HLEN.out; omega) (fun h hh => by
          obtain ⟨y, hy, rfl⟩ := List.mem_map.1 hh
          have := HSM.out y hy
          simpa [HkD.toI] using this)
        rw [e1] at hs
        have HS := Lib.hid hs
        have HBB := Lib.hid (HB.out.trans ((b5.trans (b6.mono hz5)).mono hz))
        clear i1 i2 hs hd1 hd2 b5 b6 e1
        go_wp2_with (go_at_call 15; refine HS.out.mono ?_)
        rintro _ _ ⟨rfl, k, rfl⟩
        have hzz := HBB.out.size
        go_wp2_with fail
        go_ret
        exact ⟨rfl, bdrew HBB.out hzz k⟩
set_option maxRecDepth 100000 in
theorem patchReverses_reads (os : Os) {H : Type} (enc : TypeId × Value → H) : DataW.whole enc Tryd.prog ((World.doorLaid Tryd.prog 400 os).forCall (fun _ _ => 0) ⟨#[], #[.slice none 0 0], []⟩).memory Tryd.f4.params.toList Rows.patchReversesSpec.vars false (#[.slice none 0 0] : Array Value).toList 8 = some ([.nil], [], []) := by kernel_rfl
set_option maxRecDepth 100000 in
theorem patchReverses_lifted (os : Os) (started : os.Started) (H : Type) (enc : TypeId × Value → H) (F : Stop.Interp) :
    ReturnsInHanded {} Tryd.checked os 4 .any ((Rows.OpenSpec.upto Rows.patchReversesSpec).preRow enc Tryd.prog Tryd.f4 Rows.patchReversesUptoRow.domain false Rows.patchReversesUptoRow.laid) (((Rows.OpenSpec.upto Rows.patchReversesSpec).at F).post enc Tryd.prog Tryd.f4 false true false false) := by
  refine returnsInHanded_of_row (C := Tryd.checked) (s := Rows.OpenSpec.upto Rows.patchReversesSpec) own started (by kernel_rfl) Tryd.func4
    (witness_row_at (enc := enc) (C := Tryd.checked) false (World.doorLaid Tryd.prog 400 os) #[.slice none 0 0] rfl (by kernel_rfl) (by kernel_rfl) (by kernel_rfl)
      (OpenSpec.preRow_of_cond 8 (patchReverses_reads os enc) (by kernel_rfl) (fun k hk => by cases hk; kernel_rfl) (by kernel_rfl) (door_met3 os _))) ?_
  intro W base args ds gs before hval0 hW hx1 hcond hx3 hL hx4 hx5
  have hval : ∀ (j : Nat) t v, Tryd.f4.params[j]? = some t → args[j]? = some v → Value.okWide Tryd.prog W .any base t v := hval0
  have hW' := hW
  obtain ⟨p, q, hA0, hV, rfl, hfz, hnd⟩ := hW
  have hA : DataW.TrodAll enc Tryd.prog W 0 (fun _ => true) true Tryd.f4.params.toList args.toList ds p := hA0
  rw [Tryd.params4] at hA hval
  obtain ⟨v0, vs0, d0, ds0, p0, q0, hargs, rfl, rfl, h0, r0⟩ := trodAll_cons hA
  obtain ⟨rfl, rfl, rfl⟩ := trodAll_nil r0
  obtain rfl : args = #[v0] := by cases args; simp_all
  obtain ⟨rfl, rfl⟩ := trodVars_none hV
  have k0 := h0
  have lt0 : ∀ x ∈ p0, x.block < W.heap.size := by obtain ⟨m, hm⟩ := k0; exact DataW.trod_lt m _ _ _ hm
  have hbd := Nat.le_trans (Nat.le_refl _) (of_decide_eq_true (hcond _ rfl))
  simp only [Rows.uptoBulkAll, List.append_nil] at hbd
  obtain ⟨a0, len0, cap0, rfl⟩ := okWide_slice Tryd.underlying25 (hval 0 25 v0 rfl rfl)
  obtain ⟨l0, hl0, hr0, hc0, hm0, hn0, hs0⟩ := opened_hunks (N := 1048576) h0 (by omega)
  subst hl0
  clear hA0 hval0
  refine (reverses_law l0 a0 cap0 W hr0 hc0 hn0 hs0 (tab_of_laid hL)).mono fun e W' ⟨he, bel⟩ => ?_
  subst he
  exact ⟨_, rfl, _, _, _, [], _, [], hW', trodAll_mk1 (shut_bool Tryd.underlying4 _), (trodAll_cons_mk (Below.trod laidOut (by kernel_rfl) (of_decide_eq_true (by kernel_rfl)) k0 bel lt0) trodAll_mk0), rfl, bel.frame _, fun h => by cases h⟩
theorem patchReverses_said : Rows.PatchReversesUptoSaid :=
  OpenClaim.holds_of_cond 4 Tryd.f4 rfl rfl rfl rfl rfl rfl rfl ⟨rfl, rfl, rfl, rfl, rfl⟩ rfl rfl rfl rfl rfl (by kernel_rfl) Tryd.func4 (by kernel_rfl)
    (of_decide_eq_true (by kernel_rfl)) (by unfold Func.isWrapper; first | (rw [if_pos (by decide +kernel)]; kernel_rfl) | (rw [if_neg (by decide +kernel)]; exact ⟨rfl, rfl⟩))
    (fun os started H enc _ F => by rw [OpenClaim.pre_eq_preRow]; exact patchReverses_lifted os started H enc F)
theorem patchReverses_plain (f : FuncId) (fn : Func) (hf : Tryd.pinned.checked.prog.funcNamed "selvage/selvagelaw13.PatchReverses" = some f) (hfn : Tryd.pinned.checked.prog.funcs[f]? = some fn) :
    true = Tryd.pinned.checked.prog.looks [] ∧ ∀ (j : Nat) t, fn.params[j]? = some t → Tryd.pinned.checked.prog.wantsStandIn t = false := by
  obtain rfl : f = 4 := Option.some.inj ((show Tryd.prog.funcNamed "selvage/selvagelaw13.PatchReverses" = some 4 by kernel_rfl).symm.trans hf) |>.symm
  obtain rfl : fn = Tryd.f4 := (Option.some.inj (Tryd.func4.symm.trans hfn)).symm
  refine ⟨by kernel_rfl, fun j t ht => ?_⟩
  rw [Tryd.params4] at ht
  have hm := Array.mem_of_getElem? ht
  simp only [Array.mem_toList_iff.symm, List.mem_cons, List.not_mem_nil, or_false] at hm
  rcases hm with rfl
  · exact (show Tryd.prog.wantsStandIn 25 = false by kernel_rfl)
theorem patchReverses_holds : Rows.PatchReversesUptoCardSaid :=
  Claim7.holds_tied_plain_at .later [] _ _ _ _ patchReverses_said (fun _ h => by cases h) (by kernel_rfl) (fun _ h => by cases h) patchReversesUpto_row_tie rfl ⟨rfl, rfl⟩ (by kernel_rfl) rfl patchReverses_plain (by kernel_rfl)
#print axioms patchReverses_holds
end Go.Proofs.YtlcidbbpjlpmjaaDoor
