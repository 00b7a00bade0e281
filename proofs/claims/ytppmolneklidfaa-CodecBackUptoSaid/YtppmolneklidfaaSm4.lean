/-
  Contract of codec.SameTx. No statement of the seat is proved here.
-/
import Derived.Test.YtppmolneklidfaaSm3
namespace Go.Proofs.Ytppmolneklidfaa
open Go.RowKit

theorem wpList_loadG {P : Program} {ops : Array Oper} {rest : List Oper} {o : Oper} {a : Act} {w : World} {Q : Exit → Act → World → Prop} (hw : Region.wanted o (yielded ops a.tmps) = true) {ty : TypeId} {x : Operand} (ho : o.op = .load ty x) {ad : Addr} {v : Value} (hx : a.eval x = .pointer (some ad)) (hrun : (Instr.loadAt ty (.pointer (some ad))).run P w = .ok v w)
    (h : wpList P ops Q rest (a.put o.dst v) w) : wpList P ops Q (o :: rest) a w :=
  BigFrame.wpList_want hw fun _ hK => by
    unfold Oper.wp execOp
    simp only [ho, hx, Sem.run_bind, hrun, Result.andThen_ok, Sem.run_pure]
    exact hK _ _ h
def sameHeadP (t u : TxD) : Bool := (t.hasHead == u.hasHead) && ((!t.hasHead || (t.head.toList == u.head.toList)) && ((t.hasSeq == u.hasSeq) && eqL moveEq t.moves u.moves))
def sameTxP (t u : TxD) : Bool := sameHeadP t u && ((asks t == asks u) && ((!asks t || sameSeqP t.seq u.seq) && eqL memEq t.mem u.mem))
theorem sameTxP_refl (t : TxD) : sameTxP t t = true := by simp [sameTxP, sameHeadP, eqL_refl moveEq_refl, eqL_refl memEq_refl, sameSeqP_refl]

set_option maxHeartbeats 8000000 in
set_option maxRecDepth 100000 in
theorem sameTx_any (t u : TxD) (mv tv ev mv' tv' ev' : Value) (w : World) (hin : TxIn w w.heap.size t mv tv ev) (hin' : TxIn w w.heap.size u mv' tv' ev') :
    Calls Try.prog 36 #[.agg (txC t mv tv ev), .agg (txC u mv' tv' ev')] w fun r w' => r = .returned (.bool (sameTxP t u)) ∧ Keep Nothing w w' := by
  have q1 : Blk ((w.alloc (.cells (txC t mv tv ev) 70)).alloc (.cells (txC u mv' tv' ev') 70)) w.heap.size 70 (txC t mv tv ev) := (Blk.new _ _ _).alloc _
  have q2 : Blk ((w.alloc (.cells (txC t mv tv ev) 70)).alloc (.cells (txC u mv' tv' ev') 70)) (w.heap.size + 1) 70 (txC u mv' tv' ev') := by
    have := Blk.new (w.alloc (.cells (txC t mv tv ev) 70)) 70 (txC u mv' tv' ev')
    simpa using this
  have k0 : Keep Nothing w ((w.alloc (.cells (txC t mv tv ev) 70)).alloc (.cells (txC u mv' tv' ev') 70)) := ((Keep.refl _ _).alloc _).alloc _
  go_enter Try.func36, Try.ntmps36
  go_upto_region 1 with (first | (refine wpList_boxed rfl rfl (cs := txC t mv tv ev) rfl ?_) | (refine wpList_boxed rfl rfl (cs := txC u mv' tv' ev') rfl ?_))
  generalize (w.alloc (.cells (txC t mv tv ev) 70)).alloc (.cells (txC u mv' tv' ev') 70) = w0 at *
  have HIN := Lib.hid (show ∀ W, Keep Nothing w W → TxIn W w.heap.size t mv tv ev ∧ TxIn W w.heap.size u mv' tv' ev' from fun W k => ⟨hin.below k.all, hin'.below k.all⟩)
  have HZ := Lib.hid (show ∀ W, Keep Nothing w W → w.heap.size ≤ W.heap.size from fun W k => k.size)
  clear hin hin'
  generalize hgq : w.heap.size = q at *
  clear hgq
  have HM := Lib.hid (show sameTxP t u = (sameHeadP t u && ((asks t == asks u) && ((!asks t || sameSeqP t.seq u.seq) && eqL memEq t.mem u.mem))) from rfl)
  have HF := Lib.hid (show ∀ z W, sameTxP t u = z → Keep Nothing w W → (Ending.returned (.bool z) = .returned (.bool (sameTxP t u)) ∧ Keep Nothing w W) from fun z W h k => ⟨by rw [h], k⟩)
  go_cut [39] (fun s39 wx => s39 = .bool (!sameHeadP t u) ∧ Keep Nothing w wx ∧ Blk wx q 70 (txC t mv tv ev) ∧ Blk wx (q + 1) 70 (txC u mv' tv' ev'))
  case first =>
    --<
    obtain ⟨hi1, hi2⟩ := HIN.out _ k0
    obtain ⟨Am, cm, rfl, rm, lm1, lm2⟩ := hi1.mv
    obtain ⟨Am', cm', rfl, rm', lm1', lm2'⟩ := hi2.mv
    unfold maxLen at lm2 lm2'
    have HEQ := Lib.hid (equal_move t.moves u.moves Am Am' cm cm' q w0 rm rm' (by omega) (by omega))
    clear hi1 hi2 rm rm'
    have HSH := Lib.hid (show sameHeadP t u = ((t.hasHead == u.hasHead) && ((!t.hasHead || (t.head.toList == u.head.toList)) && ((t.hasSeq == u.hasSeq) && eqL moveEq t.moves u.moves))) from rfl)
    have a0 := (q1.cell 0).trans txC_at.1
    have a1 := (q1.cell 1).trans txC_at.2.1
    have a2 := (q1.cell 2).trans txC_at.2.2.1
    have a3 := (q1.cell 3).trans txC_at.2.2.2.1
    have b0 := (q2.cell 0).trans txC_at.1
    have b1 := (q2.cell 1).trans txC_at.2.1
    have b2 := (q2.cell 2).trans txC_at.2.2.1
    have b3 := (q2.cell 3).trans txC_at.2.2.2.1
    have HB := Lib.hid (show ∀ z, sameHeadP t u = z → Value.bool (!z) = Value.bool (!sameHeadP t u) from fun z h => by rw [h])
    obtain ⟨z5, h5⟩ : ∃ z, eqL moveEq t.moves u.moves = z := ⟨_, rfl⟩
    obtain ⟨z2, h2⟩ : ∃ z, (t.head.toList == u.head.toList) = z := ⟨_, rfl⟩
    have h2n : (t.head.toList != u.head.toList) = !z2 := by rw [← h2]; rfl
    rw [h5] at HEQ HSH
    rw [h2] at HSH
    clear h5
    generalize sameHeadP t u = sh at *
    cases hh : t.hasHead <;> cases hh' : u.hasHead
    all_goals
      rw [hh] at a0 HSH
      rw [hh'] at b0 HSH
      clear hh hh'
    all_goals cases z2
    all_goals cases hs : t.hasSeq <;> cases hs' : u.hasSeq
    all_goals
      rw [hs] at a3 HSH
      rw [hs'] at b3 HSH
      clear hs hs'
    all_goals
      go_wp2_with (first | (go_at_call 81; refine HEQ.out.mono ?_; rintro r w1 ⟨rfl, k1⟩))
      go_meet
      first
        | exact ⟨HB.out _ HSH.out, k0, q1, q2⟩
        | exact ⟨HB.out _ (by rw [HSH.out]; rfl), k0.trans k1, q1.keep k1 (fun h => h), q2.keep k1 (fun h => h)⟩
        | exact ⟨by rw [HSH.out]; rfl, k0.trans k1, q1.keep k1 (fun h => h), q2.keep k1 (fun h => h)⟩
    -->
  case rest =>
    obtain ⟨rfl, k1, x1, x2⟩ := hcut
    generalize wc = w1 at *
    clear q1 q2 k0
    generalize sameHeadP t u = sh at *
    cases sh
    · go_wp2_with fail
      go_ret
      exact HF.out _ _ HM.out k1
    · obtain ⟨At, ct, htv, _⟩ := (HIN.out _ k1).1.tv
      obtain ⟨At', ct', htv', _⟩ := (HIN.out _ k1).2.tv
      have o1 : tv.oneCell' = true := by rw [htv]; rfl
      have o2 : tv'.oneCell' = true := by rw [htv']; rfl
      have HTV := Lib.hid htv
      have HTV' := Lib.hid htv'
      clear htv htv'
      have hz1 := HZ.out _ k1
      go_upto_region 4 with (first | (refine wpList_load rfl rfl rfl (load_whole x1 Try.underlying70 rfl (by rw [txC_size]; exact info_tx)) ?_) | (go_at_call 82; refine (asked_any t mv tv ev o1 _).mono ?_; rintro r w2 ⟨rfl, k2⟩) | (refine wpList_allocAgg rfl rfl (zero_seq _) ?_) | (refine wpList_storeBlk rfl rfl (vs := seqC t.seq tv) rfl rfl (Blk.new _ _ _) (by rw [seqC_size, seqC_size]) (by rw [seqC_size]; exact info_seq) (seqL_one _ _ o1) ?_; intro w3 p3 kc zc))
      have kN : Keep Nothing w2 w3 := Keep.ofNew kc
      have k3 := (k1.trans k2).trans kN
      have y1 := (x1.keep k2 (fun h => h)).keep kN (fun h => h)
      have y2 := (x2.keep k2 (fun h => h)).keep kN (fun h => h)
      clear kc zc kN k2 x1 x2 k1
      generalize w2.heap.size = p at *
      go_upto_region 5 with (first | (refine wpList_load rfl rfl rfl (load_whole y2 Try.underlying70 rfl (by rw [txC_size]; exact info_tx)) ?_) | (go_at_call 82; refine (asked_any u mv' tv' ev' o2 _).mono ?_; rintro r w4 ⟨rfl, k4⟩) | (refine wpList_allocAgg rfl rfl (zero_seq _) ?_) | (refine wpList_storeBlk rfl rfl (vs := seqC u.seq tv') rfl rfl (Blk.new _ _ _) (by rw [seqC_size, seqC_size]) (by rw [seqC_size]; exact info_seq) (seqL_one _ _ o2) ?_; intro w5 p5 kc zc))
      have kN : Keep Nothing w4 w5 := Keep.ofNew kc
      have k5 := (k3.trans k4).trans kN
      have x1 := (y1.keep k4 (fun h => h)).keep kN (fun h => h)
      have x2 := (y2.keep k4 (fun h => h)).keep kN (fun h => h)
      have p3' := (p3.keep k4 (fun h => h)).keep kN (fun h => h)
      clear kc zc kN k4 y1 y2 k3 p3
      generalize w4.heap.size = p' at *
      obtain ⟨hi1, hi2⟩ := HIN.out _ k5
      have hz5 := HZ.out _ k5
      have HI1 := Lib.hid hi1
      have HI2 := Lib.hid hi2
      clear hi1 hi2
      generalize hasks : asks t = ia at *
      generalize hasks' : asks u = ib at *
      clear hasks hasks'
      go_cut [61] (fun s61 wx => s61 = .bool (!((ia == ib) && (!ia || sameSeqP t.seq u.seq))) ∧ Keep Nothing w wx ∧ Blk wx q 70 (txC t mv tv ev) ∧ Blk wx (q + 1) 70 (txC u mv' tv' ev'))
      case first =>
        cases ia <;> cases ib
        · go_wp2_with fail
          go_meet
          exact ⟨rfl, k5, x1, x2⟩
        · go_wp2_with fail
          go_meet
          exact ⟨rfl, k5, x1, x2⟩
        · go_wp2_with fail
          go_meet
          exact ⟨rfl, k5, x1, x2⟩
        · obtain ⟨At, ct, htv, rt, lt1, lt2⟩ := HI1.out.tv
          obtain ⟨At', ct', htv', rt', lt1', lt2'⟩ := HI2.out.tv
          unfold maxLen at lt2 lt2'
          have HSQ := Lib.hid (sameSeq_any t.seq u.seq At At' ct ct' q w5 hz5 rt rt' (by omega) (by omega))
          rw [← htv, ← htv'] at HSQ
          clear htv htv' rt rt'
          have t1 : True := trivial
          go_wp2_with (first | (have _t := t1; refine wpList_loadG (o := ⟨some 56, _, _, _, _, _⟩) (by rfl) rfl rfl (load_whole p3' Try.underlying67 rfl (by rw [seqC_size]; exact info_seq)) ?_; clear t1) | (refine wpList_loadG (o := ⟨some 57, _, _, _, _, _⟩) (by rfl) rfl rfl (load_whole p5 Try.underlying67 rfl (by rw [seqC_size]; exact info_seq)) ?_))
          refine HSQ.out.mono ?_
          rintro r w6 ⟨rfl, k6⟩
          go_wp2_with fail
          go_meet
          exact ⟨by cases sameSeqP t.seq u.seq <;> rfl, k5.trans k6, x1.keep k6 (fun h => h), x2.keep k6 (fun h => h)⟩
      case rest =>
        obtain ⟨rfl, k6, y1, y2⟩ := hcut
        generalize wc = w6 at *
        have HM2 := Lib.hid (show sameTxP t u = (((ia == ib) && (!ia || sameSeqP t.seq u.seq)) && eqL memEq t.mem u.mem) from by rw [HM.out, Bool.true_and, Bool.and_assoc])
        generalize ((ia == ib) && (!ia || sameSeqP t.seq u.seq)) = z at *
        clear HI1 HI2 x1 x2 p3' p5 k5 HM
        cases z
        · go_wp2_with fail
          go_ret
          exact HF.out _ _ HM2.out k6
        · have a74 := (y1.cell 74).trans txC_at.2.2.2.2.2
          have b74 := (y2.cell 74).trans txC_at.2.2.2.2.2
          obtain ⟨hi1, hi2⟩ := HIN.out _ k6
          have hz6 := HZ.out _ k6
          obtain ⟨Ae, ce, hev, re, le1, le2⟩ := hi1.ev
          obtain ⟨Ae', ce', hev', re', le1', le2'⟩ := hi2.ev
          unfold maxLen at le2 le2'
          have HEF := Lib.hid (equalFunc_mem t.mem u.mem Ae Ae' ce ce' q w6 hz6 re re' (by omega) (by omega) hi1.data hi2.data)
          rw [← hev, ← hev'] at HEF
          clear hev hev' re re' hi1 hi2
          go_wp2_with fail
          refine HEF.out.mono ?_
          rintro r w7 ⟨rfl, k7⟩
          go_wp2_with fail
          go_ret
          exact HF.out _ _ (by rw [HM2.out, Bool.true_and]) (k6.trans k7)
end Go.Proofs.Ytppmolneklidfaa
