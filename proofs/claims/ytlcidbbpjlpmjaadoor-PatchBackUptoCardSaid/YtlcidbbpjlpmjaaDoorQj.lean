/-
  Contract of cutter.edit where a line is gone or has come. No statement of the seat is proved here.
-/
import Derived.Test.YtlcidbbpjlpmjaaDoorQi
namespace Go.Proofs.YtlcidbbpjlpmjaaDoor
open Go.RowKit

theorem begin_is (a : List (List UInt8)) (ar : Nat) (c : CutD) : beginP a ar c = ⟨c.i, c.j, (beginP a ar c).out, true, c.uns⟩ := by
  unfold beginP
  split
  · rename_i h
    obtain ⟨i, j, out, opn, uns⟩ := c
    simp only at h
    subst h
    rfl
  · rfl
theorem begin_len (a : List (List UInt8)) (ar : Nat) (c : CutD) : (beginP a ar c).out.length ≤ c.out.length + 1 := by
  unfold beginP
  split <;> simp
theorem begin_bd (a : List (List UInt8)) (ar : Nat) (c : CutD) (har : ar ≤ 10) (hbd : ∀ h ∈ c.out, h.eds.length ≤ 90000 ∧ h.ls.length ≤ 90000) : ∀ h ∈ (beginP a ar c).out, h.eds.length ≤ 100000 ∧ h.ls.length ≤ 100000 := by
  intro h hh
  unfold beginP at hh
  split at hh
  · have := hbd h hh
    omega
  · simp only [List.mem_append, List.mem_singleton] at hh
    rcases hh with hh | rfl
    · have := hbd h hh
      omega
    · unfold putH
      split
      · simp
      · simp
        omega
set_option maxHeartbeats 4000000 in
set_option maxRecDepth 100000 in
theorem edit_del (a b : List (List UInt8)) (q base B : Nat) (Aa Ab : Option Addr) (ca cb : Nat) (ar : Nat) (c : CutD) (A : Option Addr) (cp n : Nat) (last : Bool) (w : World) (p0 : Nat) (hc : CutS w q base (.slice Aa a.length ca) (.slice Ab b.length cb) ar c A cp p0) (hr : Reads w B 1 Aa a.length (strL a)) (hB : B ≤ base) (hqB : B ≤ q)
    (hca : a.length ≤ ca) (hal : a.length ≤ 4000) (hi : c.i + n ≤ a.length) (hj : c.j ≤ 4000) (hn : 1 ≤ n) (hui : c.uns ≤ c.i) (huj : c.uns ≤ c.j) (har : ar ≤ 10) (ho : c.out.length ≤ 10000) (hop : c.opn = true → c.out ≠ []) (hbd : ∀ h ∈ c.out, h.eds.length ≤ 90000 ∧ h.ls.length ≤ 90000) :
    Calls Tryd.prog 29 #[.pointer (some ⟨q, 0, none⟩), .agg #[.int .i64 1, .int .i64 (n : Int)], .bool last] w (EditPost a b q base (.slice Aa a.length ca) (.slice Ab b.length cb) ar c ⟨1, n⟩ last w) := by
  have HP := Lib.hid (show EditPost a b q base (.slice Aa a.length ca) (.slice Ab b.length cb) ar c ⟨1, n⟩ last w = fun r w' => ∃ A cp p, r = .returned (.tuple #[]) ∧ CutS w' q base (.slice Aa a.length ca) (.slice Ab b.length cb) ar (editP a b ar c ⟨1, n⟩ last) A cp p ∧ Kept base E3 [q] w w' from rfl)
  rw [HP.out]
  clear HP
  have hz := hc.lo
  have hc1 := hc.box (.cells #[.int .i64 1, .int .i64 (n : Int)] 67)
  have hp1 : Blk (w.alloc (.cells #[.int .i64 1, .int .i64 (n : Int)] 67)) w.heap.size 67 #[.int .i64 1, .int .i64 (n : Int)] := Blk.new _ _ _
  have k1 : Kept base E3 [q] w (w.alloc (.cells #[.int .i64 1, .int .i64 (n : Int)] 67)) := (Kept.refl _ _ _ _).alloc _
  clear hc
  go_enter Tryd.func29, Tryd.ntmps29
  go_upto_region 1 with (first | (refine wpList_boxed rfl rfl (cs := #[.int .i64 1, .int .i64 (n : Int)]) rfl ?_))
  have hpl := hp1.lt
  obtain ⟨pb, hpb⟩ : ∃ pb, pb = w.heap.size := ⟨_, rfl⟩
  rw [← hpb] at hc1 hp1 hpl ⊢
  generalize w.alloc (.cells #[.int .i64 1, .int .i64 (n : Int)] 67) = w1 at *
  clear hpb
  have cp0 := hp1.cell 0
  simp at cp0
  have hr1 := hr.below (k1.below hB (by omega) (by simp; omega))
  have HE := Lib.hid (show editP a b ar c ⟨1, n⟩ last = ⟨c.i + n, c.j, putL (beginP a ar c).out 1 ((a.drop c.i).take n), true, c.uns⟩ from by simp [editP])
  have hbo := begin_bd a ar c har hbd
  have hbl2 := begin_len a ar c
  have HBEG := Lib.hid (begin_any a q base B Aa ca (.slice Ab b.length cb) ar c A cp w1 pb hpl hc1 hr1 hB hqB hca hal (by omega) (by omega) hui huj har (by omega) hop)
  clear hc1 hr1
  go_wp2_with fail
  refine HBEG.out.mono ?_
  rintro r w2 ⟨A2, cp2, rfl, hc2, hne2, k2, b2⟩
  have hp2 := b2 _ hp1
  have k2 := k1.trans k2
  have hpl2 : pb < w2.heap.size := hp2.lt
  clear HBEG b2 hp1 k1 cp0
  rw [begin_is] at hc2
  generalize (beginP a ar c).out = bo at *
  obtain ⟨i, j, out, opn, uns⟩ := c
  simp only at hi hj hui huj ho hop hbd hc2 hbl2
  have HR2 := Lib.hid (hr.below (k2.below hB (by omega) (by simp; omega)))
  have hln : ((a.drop i).take n).length = n := by simp; omega
  have HPUT := Lib.hid (cput_any q base (.slice Aa a.length ca) (.slice Ab b.length cb) ar ⟨i, j, bo, true, uns⟩ A2 cp2 pb 1 ((a.drop i).take n) n (Option.map (fun x => x.add i) Aa) (ca - i) w2.drew hc2.drew hne2 hln (src_cut HR2.out.drew hB hca (by omega) _ (fun _ => rfl)) hpl2 (by omega) (by simp only; omega) hbo)
  have c0 := hc2.blk.cell 0
  have c2 := hc2.blk.cell 2
  have cp1 := hp2.cell 1
  simp [cutC] at c0 c2 cp1
  have s0 : IntKind.i64.wrap ((i : Int) + (n : Int)) = (i : Int) + (n : Int) := IntWalk.i64_in _ (by omega)
  have s1 : (i : Int) ≤ (i : Int) + (n : Int) := by omega
  have s2 : (i : Int) + (n : Int) ≤ (ca : Int) := by omega
  have s3 : ((i : Int) + (n : Int)).toNat = i + n := by omega
  have s4 : i + n - i = n := by omega
  have s5 : ¬ (ca = i) := by omega
  have s6 : (0 : Int) ≤ (i : Int) + (n : Int) := by omega
  have s7 : i + n ≤ ca := by omega
  have s8 : ((i : Int) + (n : Int) - (i : Int)).toNat = n := by omega
  go_wp2_with fail
  refine wp_region_still_tail 17 (by kernel_rfl) (by kernel_rfl) ?_; simp only [List.take_succ_cons, List.take_zero, List.drop_succ_cons, List.drop_zero]; repeat (first | ((with_reducible refine wpStill_step (fun K hK => ?_)); go_simp; with_reducible refine hK _ ?_; clear hK K) | ((with_reducible refine wpStill_skip ?_ ?_); (focus rfl)))
  (with_reducible refine wpStill_nil ?_); change wpList _ _ _ _ _ w2.drew
  go_wp2_with fail
  refine HPUT.out.mono ?_
  rintro r w3 ⟨rfl, hc3, k3, b3⟩
  have hp3 := b3 _ hp2.drew
  have k3 := k2.drew.trans (Kept.mono k3 (Nat.le_refl _) (by simp) (by simp))
  clear HPUT b3 hp2 k2 hc2 c0 c2 cp1
  simp only at hc3
  have b6 := hc3.blk
  have e2 := b6.cell 2
  have e2d := b6.drew.cell 2
  have g2 := b6.drew.frozen 2
  have e1 := hp3.cell 1
  simp [cutC] at e2 e2d e1
  have hc7 := (hc3.set (c' := ⟨i + n, j, putL bo 1 ((a.drop i).take n), true, uns⟩) 2 (.int .i64 ((i : Int) + (n : Int))) (by simp [cutC]) rfl).drew
  have k7 := (k3.setCell (p := ⟨q, 2, none⟩) (.inl (by simp)) (.int .i64 ((i : Int) + (n : Int)))).drew
  clear b6
  go_wp2_with fail
  refine wp_region_still_tail 7 (by kernel_rfl) (by kernel_rfl) ?_; simp only [List.take_succ_cons, List.take_zero, List.drop_succ_cons, List.drop_zero]; repeat (first | ((with_reducible refine wpStill_step (fun K hK => ?_)); go_simp; with_reducible refine hK _ ?_; clear hK K) | ((with_reducible refine wpStill_skip ?_ ?_); (focus rfl)))
  (with_reducible refine wpStill_nil ?_); change wpList _ _ _ _ _ w3.drew
  go_wp2_with fail
  refine bodyPost_end (results_none rfl _ _ _) rfl ?_
  rw [HE.out]
  exact ⟨A2, cp2, pb, rfl, hc7, k7⟩
set_option maxHeartbeats 4000000 in
set_option maxRecDepth 100000 in
theorem edit_ins (a b : List (List UInt8)) (q base B : Nat) (Aa Ab : Option Addr) (ca cb : Nat) (ar : Nat) (c : CutD) (A : Option Addr) (cp n : Nat) (last : Bool) (w : World) (p0 : Nat) (hc : CutS w q base (.slice Aa a.length ca) (.slice Ab b.length cb) ar c A cp p0) (hr : Reads w B 1 Aa a.length (strL a)) (hrb : Reads w B 1 Ab b.length (strL b)) (hB : B ≤ base) (hqB : B ≤ q)
    (hca : a.length ≤ ca) (hal : a.length ≤ 4000) (hcb : b.length ≤ cb) (hbl : b.length ≤ 4000) (hi : c.i ≤ a.length) (hj : c.j + n ≤ b.length) (hn : 1 ≤ n) (hui : c.uns ≤ c.i) (huj : c.uns ≤ c.j) (har : ar ≤ 10) (ho : c.out.length ≤ 10000) (hop : c.opn = true → c.out ≠ []) (hbd : ∀ h ∈ c.out, h.eds.length ≤ 90000 ∧ h.ls.length ≤ 90000) :
    Calls Tryd.prog 29 #[.pointer (some ⟨q, 0, none⟩), .agg #[.int .i64 2, .int .i64 (n : Int)], .bool last] w (EditPost a b q base (.slice Aa a.length ca) (.slice Ab b.length cb) ar c ⟨2, n⟩ last w) := by
  have HP := Lib.hid (show EditPost a b q base (.slice Aa a.length ca) (.slice Ab b.length cb) ar c ⟨2, n⟩ last w = fun r w' => ∃ A cp p, r = .returned (.tuple #[]) ∧ CutS w' q base (.slice Aa a.length ca) (.slice Ab b.length cb) ar (editP a b ar c ⟨2, n⟩ last) A cp p ∧ Kept base E3 [q] w w' from rfl)
  rw [HP.out]
  clear HP
  have hz := hc.lo
  have hc1 := hc.box (.cells #[.int .i64 2, .int .i64 (n : Int)] 67)
  have hp1 : Blk (w.alloc (.cells #[.int .i64 2, .int .i64 (n : Int)] 67)) w.heap.size 67 #[.int .i64 2, .int .i64 (n : Int)] := Blk.new _ _ _
  have k1 : Kept base E3 [q] w (w.alloc (.cells #[.int .i64 2, .int .i64 (n : Int)] 67)) := (Kept.refl _ _ _ _).alloc _
  clear hc
  go_enter Tryd.func29, Tryd.ntmps29
  go_upto_region 1 with (first | (refine wpList_boxed rfl rfl (cs := #[.int .i64 2, .int .i64 (n : Int)]) rfl ?_))
  have hpl := hp1.lt
  obtain ⟨pb, hpb⟩ : ∃ pb, pb = w.heap.size := ⟨_, rfl⟩
  rw [← hpb] at hc1 hp1 hpl ⊢
  generalize w.alloc (.cells #[.int .i64 2, .int .i64 (n : Int)] 67) = w1 at *
  clear hpb
  have cp0 := hp1.cell 0
  simp at cp0
  have hr1 := hr.below (k1.below hB (by omega) (by simp; omega))
  have HE := Lib.hid (show editP a b ar c ⟨2, n⟩ last = ⟨c.i, c.j + n, putL (beginP a ar c).out 2 ((b.drop c.j).take n), true, c.uns⟩ from by simp [editP])
  have hbo := begin_bd a ar c har hbd
  have hbl2 := begin_len a ar c
  have HBEG := Lib.hid (begin_any a q base B Aa ca (.slice Ab b.length cb) ar c A cp w1 pb hpl hc1 hr1 hB hqB hca hal (by omega) (by omega) hui huj har (by omega) hop)
  clear hc1 hr1
  go_wp2_with fail
  refine HBEG.out.mono ?_
  rintro r w2 ⟨A2, cp2, rfl, hc2, hne2, k2, b2⟩
  have hp2 := b2 _ hp1
  have k2 := k1.trans k2
  have hpl2 : pb < w2.heap.size := hp2.lt
  clear HBEG b2 hp1 k1 cp0
  rw [begin_is] at hc2
  generalize (beginP a ar c).out = bo at *
  obtain ⟨i, j, out, opn, uns⟩ := c
  simp only at hi hj hui huj ho hop hbd hc2 hbl2
  have HR2 := Lib.hid (hrb.below (k2.below hB (by omega) (by simp; omega)))
  have hln : ((b.drop j).take n).length = n := by simp; omega
  have HPUT := Lib.hid (cput_any q base (.slice Aa a.length ca) (.slice Ab b.length cb) ar ⟨i, j, bo, true, uns⟩ A2 cp2 pb 2 ((b.drop j).take n) n (Option.map (fun x => x.add j) Ab) (cb - j) w2.drew hc2.drew hne2 hln (src_cut HR2.out.drew hB hcb (by omega) _ (fun _ => rfl)) hpl2 (by omega) (by simp only; omega) hbo)
  have c0 := hc2.blk.cell 1
  have c2 := hc2.blk.cell 3
  have cp1 := hp2.cell 1
  simp [cutC] at c0 c2 cp1
  have s0 : IntKind.i64.wrap ((j : Int) + (n : Int)) = (j : Int) + (n : Int) := IntWalk.i64_in _ (by omega)
  have s1 : (j : Int) ≤ (j : Int) + (n : Int) := by omega
  have s2 : (j : Int) + (n : Int) ≤ (cb : Int) := by omega
  have s3 : ((j : Int) + (n : Int)).toNat = j + n := by omega
  have s4 : j + n - j = n := by omega
  have s5 : ¬ (cb = j) := by omega
  have s6 : (0 : Int) ≤ (j : Int) + (n : Int) := by omega
  have s7 : j + n ≤ cb := by omega
  have s8 : ((j : Int) + (n : Int) - (j : Int)).toNat = n := by omega
  go_wp2_with fail
  refine wp_region_still_tail 17 (by kernel_rfl) (by kernel_rfl) ?_; simp only [List.take_succ_cons, List.take_zero, List.drop_succ_cons, List.drop_zero]; repeat (first | ((with_reducible refine wpStill_step (fun K hK => ?_)); go_simp; with_reducible refine hK _ ?_; clear hK K) | ((with_reducible refine wpStill_skip ?_ ?_); (focus rfl)))
  (with_reducible refine wpStill_nil ?_); change wpList _ _ _ _ _ w2.drew
  go_wp2_with fail
  refine HPUT.out.mono ?_
  rintro r w3 ⟨rfl, hc3, k3, b3⟩
  have hp3 := b3 _ hp2.drew
  have k3 := k2.drew.trans (Kept.mono k3 (Nat.le_refl _) (by simp) (by simp))
  clear HPUT b3 hp2 k2 hc2 c0 c2 cp1
  simp only at hc3
  have b6 := hc3.blk
  have e2 := b6.cell 3
  have e2d := b6.drew.cell 3
  have g2 := b6.drew.frozen 3
  have e1 := hp3.cell 1
  simp [cutC] at e2 e2d e1
  have hc7 := (hc3.set (c' := ⟨i, j + n, putL bo 2 ((b.drop j).take n), true, uns⟩) 3 (.int .i64 ((j : Int) + (n : Int))) (by simp [cutC]) rfl).drew
  have k7 := (k3.setCell (p := ⟨q, 3, none⟩) (.inl (by simp)) (.int .i64 ((j : Int) + (n : Int)))).drew
  clear b6
  go_wp2_with fail
  refine wp_region_still_tail 7 (by kernel_rfl) (by kernel_rfl) ?_; simp only [List.take_succ_cons, List.take_zero, List.drop_succ_cons, List.drop_zero]; repeat (first | ((with_reducible refine wpStill_step (fun K hK => ?_)); go_simp; with_reducible refine hK _ ?_; clear hK K) | ((with_reducible refine wpStill_skip ?_ ?_); (focus rfl)))
  (with_reducible refine wpStill_nil ?_); change wpList _ _ _ _ _ w3.drew
  go_wp2_with fail
  refine bodyPost_end (results_none rfl _ _ _) rfl ?_
  rw [HE.out]
  exact ⟨A2, cp2, pb, rfl, hc7, k7⟩
end Go.Proofs.YtlcidbbpjlpmjaaDoor
