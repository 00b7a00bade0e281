/-
  Texts of the codec joined (Sm4, Txo, Txl). No statement of the seat is proved here.
-/
import Derived.Test.YtppmolneklidfaaGreatZ28
import Derived.Test.YtppmolneklidfaaGreatZ07
import Derived.Test.YtppmolneklidfaaGreatZ22
import Derived.Test.YtppmolneklidfaaGreatZ24
import Derived.Test.YtppmolneklidfaaGreatZ27
import Derived.Test.YtppmolneklidfaaGreatZ06
import Derived.JoinedCond
namespace Go.Proofs.YtppmolneklidfaaGreat
open Go.RowKit

theorem wpList_loadG {P : Program} {ops : Array Oper} {rest : List Oper} {o : Oper} {a : Act} {w : World} {Q : Exit → Act → World → Prop} (hw : Region.wanted o (yielded ops a.tmps) = true) {ty : TypeId} {x : Operand} (ho : o.op = .load ty x) {ad : Addr} {v : Value} (hx : a.eval x = .pointer (some ad)) (hrun : (Instr.loadAt ty (.pointer (some ad))).run P w = .ok v w)
    (h : wpList P ops Q rest (a.put o.dst v) w) : wpList P ops Q (o :: rest) a w :=
  BigFrame.wpList_want hw fun _ hK => by
    unfold Oper.wp execOp
    simp only [ho, hx, Sem.run_bind, hrun, Result.andThen_ok, Sem.run_pure]
    exact hK _ _ h
def sameHeadP (t u : TxD) : Bool := (t.hasHead == u.hasHead) && ((!t.hasHead || (t.head.toList == u.head.toList)) && ((t.hasSeq == u.hasSeq) && eqL moveEq t.moves u.moves))
def sameTxP (t u : TxD) : Bool := sameHeadP t u && ((asks t == asks u) && ((!asks t || sameSeqP t.seq u.seq) && eqL memEq t.mem u.mem))
theorem sameTxP_refl (t : TxD) : sameTxP t t = true := by simp [sameTxP, sameHeadP, eqL_refl moveEq_refl, eqL_refl memEq_refl, sameSeqP_refl]

set_option maxHeartbeats 8000000 in
set_option maxRecDepth 100000 in
theorem sameTx_any (t u : TxD) (mv tv ev mv' tv' ev' : Value) (w : World) (hin : TxIn w w.heap.size t mv tv ev) (hin' : TxIn w w.heap.size u mv' tv' ev') :
    Calls Tryz.prog 40 #[.agg (txC t mv tv ev), .agg (txC u mv' tv' ev')] w fun r w' => r = .returned (.bool (sameTxP t u)) ∧ Keep Nothing w w' := by
  have q1 : Blk ((w.alloc (.cells (txC t mv tv ev) 34)).alloc (.cells (txC u mv' tv' ev') 34)) w.heap.size 34 (txC t mv tv ev) := (Blk.new _ _ _).alloc _
  have q2 : Blk ((w.alloc (.cells (txC t mv tv ev) 34)).alloc (.cells (txC u mv' tv' ev') 34)) (w.heap.size + 1) 34 (txC u mv' tv' ev') := by
    have := Blk.new (w.alloc (.cells (txC t mv tv ev) 34)) 34 (txC u mv' tv' ev')
    simpa using this
  have k0 : Keep Nothing w ((w.alloc (.cells (txC t mv tv ev) 34)).alloc (.cells (txC u mv' tv' ev') 34)) := ((Keep.refl _ _).alloc _).alloc _
  go_enter Tryz.func40, Tryz.ntmps40
  go_upto_region 1 with (first | (refine wpList_boxed rfl rfl (cs := txC t mv tv ev) rfl ?_) | (refine wpList_boxed rfl rfl (cs := txC u mv' tv' ev') rfl ?_))
  generalize (w.alloc (.cells (txC t mv tv ev) 34)).alloc (.cells (txC u mv' tv' ev') 34) = w0 at *
  have HIN := Lib.hid (show ∀ W, Keep Nothing w W → TxIn W w.heap.size t mv tv ev ∧ TxIn W w.heap.size u mv' tv' ev' from fun W k => ⟨hin.below k.all, hin'.below k.all⟩)
  have HZ := Lib.hid (show ∀ W, Keep Nothing w W → w.heap.size ≤ W.heap.size from fun W k => k.size)
  clear hin hin'
  generalize hgq : w.heap.size = q at *
  clear hgq
  have HM := Lib.hid (show sameTxP t u = (sameHeadP t u && ((asks t == asks u) && ((!asks t || sameSeqP t.seq u.seq) && eqL memEq t.mem u.mem))) from rfl)
  have HF := Lib.hid (show ∀ z W, sameTxP t u = z → Keep Nothing w W → (Ending.returned (.bool z) = .returned (.bool (sameTxP t u)) ∧ Keep Nothing w W) from fun z W h k => ⟨by rw [h], k⟩)
  go_cut [39] (fun s39 wx => s39 = .bool (!sameHeadP t u) ∧ Keep Nothing w wx ∧ Blk wx q 34 (txC t mv tv ev) ∧ Blk wx (q + 1) 34 (txC u mv' tv' ev'))
  case first =>
    --<
    obtain ⟨hi1, hi2⟩ := HIN.out _ k0
    obtain ⟨Am, cm, rfl, rm, lm1, lm2⟩ := hi1.mv
    obtain ⟨Am', cm', rfl, rm', lm1', lm2'⟩ := hi2.mv
    unfold maxLen at lm2 lm2'
    have HEQ := Lib.hid (equal_move t.moves u.moves Am Am' cm cm' q w0 rm rm' (by omega) (by omega))
    clear hi1 hi2 rm rm'
    have HSH := Lib.hid (show sameHeadP t u = ((t.hasHead == u.hasHead) && ((!t.hasHead || (t.head.toList == u.head.toList)) && ((t.hasSeq == u.hasSeq) && eqL moveEq t.moves u.moves))) from rfl)
    have a0 := (q1.cell 0).trans txC_at.1
    have a1 := (q1.cell 1).trans txC_at.2.1
    have a2 := (q1.cell 2).trans txC_at.2.2.1
    have a3 := (q1.cell 3).trans txC_at.2.2.2.1
    have b0 := (q2.cell 0).trans txC_at.1
    have b1 := (q2.cell 1).trans txC_at.2.1
    have b2 := (q2.cell 2).trans txC_at.2.2.1
    have b3 := (q2.cell 3).trans txC_at.2.2.2.1
    have HB := Lib.hid (show ∀ z, sameHeadP t u = z → Value.bool (!z) = Value.bool (!sameHeadP t u) from fun z h => by rw [h])
    obtain ⟨z5, h5⟩ : ∃ z, eqL moveEq t.moves u.moves = z := ⟨_, rfl⟩
    obtain ⟨z2, h2⟩ : ∃ z, (t.head.toList == u.head.toList) = z := ⟨_, rfl⟩
    have h2n : (t.head.toList != u.head.toList) = !z2 := by rw [← h2]; rfl
    rw [h5] at HEQ HSH
    rw [h2] at HSH
    clear h5
    generalize sameHeadP t u = sh at *
    cases hh : t.hasHead <;> cases hh' : u.hasHead
    all_goals
      rw [hh] at a0 HSH
      rw [hh'] at b0 HSH
      clear hh hh'
    all_goals cases z2
    all_goals cases hs : t.hasSeq <;> cases hs' : u.hasSeq
    all_goals
      rw [hs] at a3 HSH
      rw [hs'] at b3 HSH
      clear hs hs'
    all_goals
      go_wp2_with (first | (go_at_call 75; refine HEQ.out.mono ?_; rintro r w1 ⟨rfl, k1⟩))
      go_meet
      first
        | exact ⟨HB.out _ HSH.out, k0, q1, q2⟩
        | exact ⟨HB.out _ (by rw [HSH.out]; rfl), k0.trans k1, q1.keep k1 (fun h => h), q2.keep k1 (fun h => h)⟩
        | exact ⟨by rw [HSH.out]; rfl, k0.trans k1, q1.keep k1 (fun h => h), q2.keep k1 (fun h => h)⟩
    -->
  case rest =>
    obtain ⟨rfl, k1, x1, x2⟩ := hcut
    generalize wc = w1 at *
    clear q1 q2 k0
    generalize sameHeadP t u = sh at *
    cases sh
    · go_wp2_with fail
      go_ret
      exact HF.out _ _ HM.out k1
    · obtain ⟨At, ct, htv, _⟩ := (HIN.out _ k1).1.tv
      obtain ⟨At', ct', htv', _⟩ := (HIN.out _ k1).2.tv
      have o1 : tv.oneCell' = true := by rw [htv]; rfl
      have o2 : tv'.oneCell' = true := by rw [htv']; rfl
      have HTV := Lib.hid htv
      have HTV' := Lib.hid htv'
      clear htv htv'
      have hz1 := HZ.out _ k1
      go_upto_region 4 with (first | (refine wpList_load rfl rfl rfl (load_whole x1 Tryz.underlying34 rfl (by rw [txC_size]; exact info_tx)) ?_) | (go_at_call 76; refine (asked_any t mv tv ev o1 _).mono ?_; rintro r w2 ⟨rfl, k2⟩) | (refine wpList_allocAgg rfl rfl (zero_seq _) ?_) | (refine wpList_storeBlk rfl rfl (vs := seqC t.seq tv) rfl rfl (Blk.new _ _ _) (by rw [seqC_size, seqC_size]) (by rw [seqC_size]; exact info_seq) (seqL_one _ _ o1) ?_; intro w3 p3 kc zc))
      have kN : Keep Nothing w2 w3 := Keep.ofNew kc
      have k3 := (k1.trans k2).trans kN
      have y1 := (x1.keep k2 (fun h => h)).keep kN (fun h => h)
      have y2 := (x2.keep k2 (fun h => h)).keep kN (fun h => h)
      clear kc zc kN k2 x1 x2 k1
      generalize w2.heap.size = p at *
      go_upto_region 5 with (first | (refine wpList_load rfl rfl rfl (load_whole y2 Tryz.underlying34 rfl (by rw [txC_size]; exact info_tx)) ?_) | (go_at_call 76; refine (asked_any u mv' tv' ev' o2 _).mono ?_; rintro r w4 ⟨rfl, k4⟩) | (refine wpList_allocAgg rfl rfl (zero_seq _) ?_) | (refine wpList_storeBlk rfl rfl (vs := seqC u.seq tv') rfl rfl (Blk.new _ _ _) (by rw [seqC_size, seqC_size]) (by rw [seqC_size]; exact info_seq) (seqL_one _ _ o2) ?_; intro w5 p5 kc zc))
      have kN : Keep Nothing w4 w5 := Keep.ofNew kc
      have k5 := (k3.trans k4).trans kN
      have x1 := (y1.keep k4 (fun h => h)).keep kN (fun h => h)
      have x2 := (y2.keep k4 (fun h => h)).keep kN (fun h => h)
      have p3' := (p3.keep k4 (fun h => h)).keep kN (fun h => h)
      clear kc zc kN k4 y1 y2 k3 p3
      generalize w4.heap.size = p' at *
      obtain ⟨hi1, hi2⟩ := HIN.out _ k5
      have hz5 := HZ.out _ k5
      have HI1 := Lib.hid hi1
      have HI2 := Lib.hid hi2
      clear hi1 hi2
      generalize hasks : asks t = ia at *
      generalize hasks' : asks u = ib at *
      clear hasks hasks'
      go_cut [61] (fun s61 wx => s61 = .bool (!((ia == ib) && (!ia || sameSeqP t.seq u.seq))) ∧ Keep Nothing w wx ∧ Blk wx q 34 (txC t mv tv ev) ∧ Blk wx (q + 1) 34 (txC u mv' tv' ev'))
      case first =>
        cases ia <;> cases ib
        · go_wp2_with fail
          go_meet
          exact ⟨rfl, k5, x1, x2⟩
        · go_wp2_with fail
          go_meet
          exact ⟨rfl, k5, x1, x2⟩
        · go_wp2_with fail
          go_meet
          exact ⟨rfl, k5, x1, x2⟩
        · obtain ⟨At, ct, htv, rt, lt1, lt2⟩ := HI1.out.tv
          obtain ⟨At', ct', htv', rt', lt1', lt2'⟩ := HI2.out.tv
          unfold maxLen at lt2 lt2'
          have HSQ := Lib.hid (sameSeq_any t.seq u.seq At At' ct ct' q w5 hz5 rt rt' (by omega) (by omega))
          rw [← htv, ← htv'] at HSQ
          clear htv htv' rt rt'
          have t1 : True := trivial
          go_wp2_with (first | (have _t := t1; refine wpList_loadG (o := ⟨some 56, _, _, _, _, _⟩) (by rfl) rfl rfl (load_whole p3' Tryz.underlying31 rfl (by rw [seqC_size]; exact info_seq)) ?_; clear t1) | (refine wpList_loadG (o := ⟨some 57, _, _, _, _, _⟩) (by rfl) rfl rfl (load_whole p5 Tryz.underlying31 rfl (by rw [seqC_size]; exact info_seq)) ?_))
          refine HSQ.out.mono ?_
          rintro r w6 ⟨rfl, k6⟩
          go_wp2_with fail
          go_meet
          exact ⟨by cases sameSeqP t.seq u.seq <;> rfl, k5.trans k6, x1.keep k6 (fun h => h), x2.keep k6 (fun h => h)⟩
      case rest =>
        obtain ⟨rfl, k6, y1, y2⟩ := hcut
        generalize wc = w6 at *
        have HM2 := Lib.hid (show sameTxP t u = (((ia == ib) && (!ia || sameSeqP t.seq u.seq)) && eqL memEq t.mem u.mem) from by rw [HM.out, Bool.true_and, Bool.and_assoc])
        generalize ((ia == ib) && (!ia || sameSeqP t.seq u.seq)) = z at *
        clear HI1 HI2 x1 x2 p3' p5 k5 HM
        cases z
        · go_wp2_with fail
          go_ret
          exact HF.out _ _ HM2.out k6
        · have a74 := (y1.cell 74).trans txC_at.2.2.2.2.2
          have b74 := (y2.cell 74).trans txC_at.2.2.2.2.2
          obtain ⟨hi1, hi2⟩ := HIN.out _ k6
          have hz6 := HZ.out _ k6
          obtain ⟨Ae, ce, hev, re, le1, le2⟩ := hi1.ev
          obtain ⟨Ae', ce', hev', re', le1', le2'⟩ := hi2.ev
          unfold maxLen at le2 le2'
          have HEF := Lib.hid (equalFunc_mem t.mem u.mem Ae Ae' ce ce' q w6 hz6 re re' (by omega) (by omega) hi1.data hi2.data)
          rw [← hev, ← hev'] at HEF
          clear hev hev' re re' hi1 hi2
          go_wp2_with fail
          refine HEF.out.mono ?_
          rintro r w7 ⟨rfl, k7⟩
          go_wp2_with fail
          go_ret
          exact HF.out _ _ (by rw [HM2.out, Bool.true_and]) (k6.trans k7)
end Go.Proofs.YtppmolneklidfaaGreat

namespace Go.Proofs.YtppmolneklidfaaGreat
open Go.ChangeShapes Go.WideShapes Go.ChangeAt Go.RowKit Go.Deep

/-! ### Bulk -/
section
variable {H : Type}
theorem bulk_pos (d : DataW H) : 1 ≤ Rows.uptoBulk d := by
  cases d with
  | lit l => cases l <;> simp [Rows.uptoBulk]
  | nil => simp [Rows.uptoBulk]
  | ptr d => simp [Rows.uptoBulk]
  | slice elems spare => simp [Rows.uptoBulk]
  | agg parts => simp [Rows.uptoBulk]
  | iface t d => simp [Rows.uptoBulk]
  | map entries => simp [Rows.uptoBulk]
  | held h => simp [Rows.uptoBulk]
theorem bulk_part {d : DataW H} : ∀ {l : List (DataW H)}, d ∈ l → Rows.uptoBulk d ≤ Rows.uptoBulkAll l
  | [], h => by cases h
  | x :: r, h => by
    simp only [Rows.uptoBulkAll]
    rcases List.mem_cons.1 h with e | e
    · subst e; omega
    · have := bulk_part e; omega
theorem bulk_len : ∀ l : List (DataW H), l.length ≤ Rows.uptoBulkAll l
  | [] => by simp [Rows.uptoBulkAll]
  | x :: r => by have := bulk_pos x; have := bulk_len r; simp only [Rows.uptoBulkAll, List.length_cons]; omega
theorem bulk_bound {l : List (DataW H)} (hk : Rows.uptoSmall H l = true) : Rows.uptoBulkAll l ≤ 1048576 := of_decide_eq_true hk
theorem bulk_agg {xs : List (DataW H × List MemPlace)} {N i : Nat} {y : DataW H × List MemPlace} (h : Rows.uptoBulk (.agg (xs.map (·.1))) ≤ N) (hi : xs[i]? = some y) : Rows.uptoBulk y.1 ≤ N := by
  have : Rows.uptoBulk y.1 ≤ Rows.uptoBulkAll (xs.map (·.1)) := bulk_part (List.mem_map.2 ⟨y, List.mem_of_getElem? hi, rfl⟩)
  simp only [Rows.uptoBulk] at h
  omega
end

/-! ### A slice, its elements' bounds at hand -/
theorem open_listB {H : Type} {enc : TypeId × Value → H} {w : World} {base : Nat} {spare : Nat → Bool} {held : Bool} {α : Type} {f : α → List Value} {C N : Nat} {V : α → Prop} {t e : TypeId} {A : Option Addr} {len cap : Nat} {fuel : Nat} {x : DataW H × List MemPlace} (ht : Tryz.prog.underlying t = some (.slice e)) (hC : Tryz.prog.cellsOf e = C) (hpos : 0 < C) (hf : ∀ a, (f a).length = C)
    (hopen : ∀ (n : Nat) (cs : List Value) (y : DataW H × List MemPlace), DataW.trod enc Tryz.prog w base spare held n e cs = some y → Rows.uptoBulk y.1 ≤ N → ∃ a, cs = f a ∧ V a)
    (h : DataW.trod enc Tryz.prog w base spare held fuel t [.slice A len cap] = some x) (hb : Rows.uptoBulk x.1 ≤ N) : ∃ l : List α, l.length = len ∧ Reads w w.heap.size C A len (l.flatMap f) ∧ len ≤ cap ∧ cap ≤ maxLen ∧ len ≤ N ∧ ∀ a ∈ l, V a := by
  rcases open_slice ht h with ⟨hcs, hx⟩ | ⟨a, len', cap', m, n, D, Pl, hcs, _, hl, hm, hmm, hxx, hi⟩
  · simp at hcs
    obtain ⟨rfl, rfl, rfl⟩ := hcs
    exact ⟨[], rfl, Reads.none_, Nat.le_refl _, Nat.zero_le _, Nat.zero_le _, by simp⟩
  · simp at hcs
    obtain ⟨rfl, rfl, rfl⟩ := hcs
    rw [hC] at hi
    have hlm : len ≤ m := by rw [hmm]; split <;> omega
    have hbA : Rows.uptoBulkAll ((List.range len).map D) ≤ N := by
      rw [hxx] at hb
      simp only [Rows.uptoBulk] at hb
      omega
    have hlN : len ≤ N := by have := bulk_len ((List.range len).map D); simp at this; omega
    have hbD : ∀ i, i < len → Rows.uptoBulk (D i) ≤ N := fun i hi => Nat.le_trans (bulk_part (List.mem_map.2 ⟨i, List.mem_range.2 hi, rfl⟩)) hbA
    have key : ∀ k, k ≤ len → ∃ l : List α, l.length = k ∧ (∀ i b, l[i]? = some b → V b ∧ ∀ r u, (f b)[r]? = some u → w.cell? (a.add (i * C + r)) = some u) := by
      intro k
      induction k with
      | zero => exact fun _ => ⟨[], rfl, by simp⟩
      | succ k ih =>
        intro hk
        obtain ⟨l, hlen, hall⟩ := ih (by omega)
        obtain ⟨cs', hcells, htr⟩ := hi k (by omega)
        obtain ⟨b, rfl, hV⟩ := hopen n cs' _ htr (hbD k (by omega))
        obtain ⟨_, _, hat⟩ := World.cells?_some hcells
        refine ⟨l ++ [b], by simp [hlen], fun i b' hb' => ?_⟩
        rcases Nat.lt_or_ge i l.length with hlt | hge
        · rw [List.getElem?_append_left hlt] at hb'
          exact hall i b' hb'
        · rw [List.getElem?_append_right hge] at hb'
          have h0 : i - l.length = 0 := by
            rcases Nat.eq_zero_or_pos (i - l.length) with q | q
            · exact q
            · rw [List.getElem?_eq_none (by simp; omega)] at hb'; cases hb'
          rw [h0] at hb'
          simp at hb'
          subst hb'
          refine ⟨hV, fun r u hr => ?_⟩
          have hik : i = k := by omega
          subst hik
          have hrC : r < C := by
            rcases Nat.lt_or_ge r C with q | q
            · exact q
            · rw [List.getElem?_eq_none (by rw [hf]; exact q)] at hr; cases hr
          rw [← add_of_add, hat r hrC]
          exact hr
    obtain ⟨l, hlen, hall⟩ := key len (Nat.le_refl _)
    refine ⟨l, hlen, ⟨by rw [flat_len hf, hlen], fun hn => ?_⟩, hl, hm, hlN, fun b hb => ?_⟩
    · have hcell : ∀ j u, (l.flatMap f)[j]? = some u → w.cell? (a.add j) = some u := by
        intro j u hj
        have hjl : j < l.length * C := by rw [← flat_len hf]; exact (List.getElem?_eq_some_iff.1 hj).1
        have hd : j / C < l.length := Nat.div_lt_of_lt_mul (by rw [Nat.mul_comm]; exact hjl)
        have hfa := flat_at hf l (j / C) (j % C) l[j / C] (List.getElem?_eq_getElem hd) ((f l[j / C])[j % C]'(by rw [hf]; exact Nat.mod_lt _ hpos)) (List.getElem?_eq_getElem _)
        rw [Nat.mul_comm, Nat.div_add_mod] at hfa
        have hu := hj.symm.trans hfa
        have := (hall _ _ (List.getElem?_eq_getElem hd)).2 (j % C) u (by rw [hu]; exact List.getElem?_eq_getElem _)
        rwa [Nat.mul_comm, Nat.div_add_mod] at this
      refine ⟨a, rfl, ?_, hcell⟩
      have h0 : 0 < (l.flatMap f).length := by rw [flat_len hf, hlen]; exact Nat.mul_pos hn hpos
      have := World.block_lt_of_cell? w _ (hcell 0 _ (List.getElem?_eq_getElem h0))
      rwa [block_of_add] at this
    · obtain ⟨i, hi', rfl⟩ := List.mem_iff_getElem.1 hb
      exact (hall i _ (List.getElem?_eq_getElem hi')).1

/-! ### The parts of a transaction -/
section
variable {H : Type} {enc : TypeId × Value → H} {w : World} {base : Nat} {spare : Nat → Bool} {held : Bool}
theorem cells_todo : Tryz.prog.cellsOf 113 = 33 := by kernel_rfl
theorem cells_move : Tryz.prog.cellsOf 60 = 66 := by kernel_rfl
theorem cells_mem : Tryz.prog.cellsOf 62 = 33 := by kernel_rfl
theorem cells_seq : Tryz.prog.cellsOf 31 = 70 := by kernel_rfl
theorem cells_tx : Tryz.prog.cellsOf 34 = 75 := by kernel_rfl
theorem cells_bool : Tryz.prog.cellsOf 4 = 1 := by kernel_rfl
theorem cells_todos : Tryz.prog.cellsOf 29 = 1 := by kernel_rfl
theorem cells_moves : Tryz.prog.cellsOf 28 = 1 := by kernel_rfl
theorem cells_mems : Tryz.prog.cellsOf 32 = 1 := by kernel_rfl
/-- A list's cell at i, cut out. -/
theorem one_at {cs : List Value} {i n : Nat} (hl : cs.length = n) (hi : i < n) : ∃ v, (cs.drop i).take 1 = [v] ∧ cs[i]? = some v := by
  have hlt : i < cs.length := by omega
  refine ⟨cs[i], ?_, List.getElem?_eq_getElem hlt⟩
  rw [List.drop_eq_getElem_cons hlt]
  rfl
theorem cut_at {cs : List Value} {i k : Nat} {l : List Value} (h : (cs.drop i).take k = l) : cs.drop i = l ++ cs.drop (i + k) := by
  rw [← h, ← List.drop_drop, List.take_append_drop]
theorem open_bytesB {N : Nat} {A : Option Addr} {len cap : Nat} {fuel : Nat} {x : DataW H × List MemPlace} (h : DataW.trod enc Tryz.prog w base spare held fuel 36 [.slice A len cap] = some x) (hb : Rows.uptoBulk x.1 ≤ N) :
    ∃ l : List UInt8, l.length = len ∧ Reads w w.heap.size 1 A l.length (l.map bv) ∧ l.length ≤ cap ∧ cap ≤ maxLen ∧ l.length ≤ N := by
  obtain ⟨l, h1, h2, h3, h4, h5, _⟩ := open_listB (N := N) (f := fun a : UInt8 => [bv a]) (V := fun _ => True) Tryz.underlying36 cells_u8 (by decide) (fun _ => rfl) (fun _ _ _ h _ => open_byte h) h hb
  subst h1
  rw [flat_bv] at h2
  exact ⟨l, rfl, h2, h3, h4, h5⟩
set_option maxRecDepth 100000 in
theorem open_todo {n : Nat} {cs : List Value} {y : DataW H × List MemPlace} (h : DataW.trod enc Tryz.prog w base spare held n 113 cs = some y) : ∃ x : TodoD, cs = todoL x ∧ (Lit.int .i64 x.act).wf = true := by
  obtain ⟨xs, m, _, _, hlen, hxl, hx⟩ := DataW.trod_struct Tryz.underlying113 h
  rw [cells_todo] at hlen
  have h0 := hx 0 _ rfl
  have h1 := hx 1 _ rfl
  have hxl' : xs.length = 2 := hxl
  rw [List.getElem?_eq_getElem (by omega)] at h0 h1
  have h0 : DataW.trod enc Tryz.prog w base spare held m 3 ((cs.drop 0).take (Tryz.prog.cellsOf 3)) = _ := h0
  have h1 : DataW.trod enc Tryz.prog w base spare held m 24 ((cs.drop 1).take (Tryz.prog.cellsOf 24)) = _ := h1
  rw [cells_int] at h0
  rw [cells_id] at h1
  obtain ⟨v, e0, e0'⟩ := one_at (i := 0) hlen (by omega)
  rw [e0] at h0
  obtain ⟨a, e2, _, hw⟩ := DataW.trod_int Tryz.underlying3 h0
  obtain ⟨i, e1⟩ := open_id h1
  simp only [List.cons.injEq, and_true] at e2
  subst e2
  refine ⟨⟨a, i⟩, ?_, hw⟩
  have d1 := cut_at e0
  have d2 := cut_at e1
  rw [List.drop_of_length_le (show cs.length ≤ 1 + 32 by omega), List.append_nil] at d2
  have : cs = cs.drop 0 := rfl
  rw [this, d1, d2]
  rfl
set_option maxRecDepth 100000 in
theorem open_move {N n : Nat} {cs : List Value} {y : DataW H × List MemPlace} (h : DataW.trod enc Tryz.prog w base spare held n 60 cs = some y) (hb : Rows.uptoBulk y.1 ≤ N) : ∃ x : MoveD, cs = moveL x ∧ x.name.size ≤ N ∧ x.why.size ≤ N := by
  obtain ⟨xs, m, _, hy, hlen, hxl, hx⟩ := DataW.trod_struct Tryz.underlying60 h
  rw [hy] at hb
  rw [cells_move] at hlen
  have h0 := hx 0 _ rfl
  have h1 := hx 1 _ rfl
  have h2 := hx 2 _ rfl
  have h3 := hx 3 _ rfl
  have hxl' : xs.length = 4 := hxl
  have g0 := bulk_agg (i := 0) hb (List.getElem?_eq_getElem (by omega))
  have g3 := bulk_agg (i := 3) hb (List.getElem?_eq_getElem (by omega))
  rw [List.getElem?_eq_getElem (by omega)] at h0 h1 h2 h3
  have h0 : DataW.trod enc Tryz.prog w base spare held m 9 ((cs.drop 0).take (Tryz.prog.cellsOf 9)) = _ := h0
  have h1 : DataW.trod enc Tryz.prog w base spare held m 24 ((cs.drop 1).take (Tryz.prog.cellsOf 24)) = _ := h1
  have h2 : DataW.trod enc Tryz.prog w base spare held m 24 ((cs.drop 33).take (Tryz.prog.cellsOf 24)) = _ := h2
  have h3 : DataW.trod enc Tryz.prog w base spare held m 9 ((cs.drop 65).take (Tryz.prog.cellsOf 9)) = _ := h3
  rw [cells_str] at h0 h3
  rw [cells_id] at h1 h2
  obtain ⟨v, e0, _⟩ := one_at (i := 0) hlen (by omega)
  obtain ⟨v3, e3, _⟩ := one_at (i := 65) hlen (by omega)
  rw [e0] at h0
  rw [e3] at h3
  obtain ⟨a, f0, x0, _⟩ := DataW.trod_string Tryz.underlying9 h0
  obtain ⟨b, f3, x3, _⟩ := DataW.trod_string Tryz.underlying9 h3
  obtain ⟨i, e1⟩ := open_id h1
  obtain ⟨j, e2⟩ := open_id h2
  simp only [List.cons.injEq, and_true] at f0 f3
  subst f0 f3
  rw [x0] at g0
  rw [x3] at g3
  simp only [Rows.uptoBulk] at g0 g3
  refine ⟨⟨a, i, j, b⟩, ?_, by rw [Lib.size_eq]; show a.data.toList.length ≤ N; omega, by rw [Lib.size_eq]; show b.data.toList.length ≤ N; omega⟩
  have d0 := cut_at e0
  have d1 := cut_at e1
  have d2 := cut_at e2
  have d3 := cut_at e3
  rw [List.drop_of_length_le (show cs.length ≤ 65 + 1 by omega), List.append_nil] at d3
  have : cs = cs.drop 0 := rfl
  rw [this, d0, d1, d2, d3]
  simp [moveL]
set_option maxRecDepth 100000 in
theorem open_mem {N n : Nat} {cs : List Value} {y : DataW H × List MemPlace} (h : DataW.trod enc Tryz.prog w base spare held n 62 cs = some y) (hb : Rows.uptoBulk y.1 ≤ N) : ∃ x : MemD, cs = memL x ∧ Reads w w.heap.size 1 x.adr x.data.length (x.data.map bv) ∧ x.data.length ≤ N ∧ x.data.length ≤ maxLen := by
  obtain ⟨xs, m, _, hy, hlen, hxl, hx⟩ := DataW.trod_struct Tryz.underlying62 h
  rw [hy] at hb
  rw [cells_mem] at hlen
  have h0 := hx 0 _ rfl
  have h1 := hx 1 _ rfl
  have hxl' : xs.length = 2 := hxl
  have g1 := bulk_agg (i := 1) hb (List.getElem?_eq_getElem (by omega))
  rw [List.getElem?_eq_getElem (by omega)] at h0 h1
  have h0 : DataW.trod enc Tryz.prog w base spare held m 24 ((cs.drop 0).take (Tryz.prog.cellsOf 24)) = _ := h0
  have h1 : DataW.trod enc Tryz.prog w base spare held m 36 ((cs.drop 32).take (Tryz.prog.cellsOf 36)) = _ := h1
  rw [cells_id] at h0
  rw [cells_bytes] at h1
  obtain ⟨v, e1, _⟩ := one_at (i := 32) hlen (by omega)
  rw [e1] at h1
  obtain ⟨A, len, cap, rfl⟩ := slice_is Tryz.underlying36 h1
  obtain ⟨l, rfl, hr, hc, hm, hN⟩ := open_bytesB h1 g1
  obtain ⟨i, e0⟩ := open_id h0
  refine ⟨⟨i, l, A, cap⟩, ?_, hr, hN, Nat.le_trans hc hm⟩
  have d0 := cut_at e0
  have d1 := cut_at e1
  rw [List.drop_of_length_le (show cs.length ≤ 32 + 1 by omega), List.append_nil] at d1
  have : cs = cs.drop 0 := rfl
  rw [this, d0, d1]
  rfl
/-- A sequence's bounds. -/
structure SeqSmall (N : Nat) (q : SeqD) : Prop where
  branch : q.branch.size ≤ N
  todo : q.todo.length ≤ N
  kind : (Lit.int .i64 q.kind).wf = true
  done : (Lit.int .i64 q.done).wf = true
  made : (Lit.int .i64 q.made).wf = true
  acts : ∀ x ∈ q.todo, (Lit.int .i64 x.act).wf = true
structure TxSmall (N : Nat) (t : TxD) : Prop where
  head : t.head.size ≤ N
  moves : t.moves.length ≤ N
  mem : t.mem.length ≤ N
  move : ∀ m ∈ t.moves, m.name.size ≤ N ∧ m.why.size ≤ N
  data : ∀ m ∈ t.mem, m.data.length ≤ N
  seq : SeqSmall N t.seq
set_option maxRecDepth 100000 in
theorem open_seq {N n : Nat} {cs : List Value} {y : DataW H × List MemPlace} (h : DataW.trod enc Tryz.prog w base spare held n 31 cs = some y) (hb : Rows.uptoBulk y.1 ≤ N) :
    ∃ (q : SeqD) (A : Option Addr) (c : Nat), cs = seqL q (.slice A q.todo.length c) ∧ Reads w w.heap.size 33 A q.todo.length (todoLs q.todo) ∧ q.todo.length ≤ c ∧ c ≤ maxLen ∧ SeqSmall N q := by
  obtain ⟨xs, m, _, hy, hlen, hxl, hx⟩ := DataW.trod_struct Tryz.underlying31 h
  rw [hy] at hb
  rw [cells_seq] at hlen
  have h0 := hx 0 _ rfl
  have h1 := hx 1 _ rfl
  have h2 := hx 2 _ rfl
  have h3 := hx 3 _ rfl
  have h4 := hx 4 _ rfl
  have h5 := hx 5 _ rfl
  have h6 := hx 6 _ rfl
  have h7 := hx 7 _ rfl
  have hxl' : xs.length = 8 := hxl
  have g1 := bulk_agg (i := 1) hb (List.getElem?_eq_getElem (by omega))
  have g4 := bulk_agg (i := 4) hb (List.getElem?_eq_getElem (by omega))
  rw [List.getElem?_eq_getElem (by omega)] at h0 h1 h2 h3 h4 h5 h6 h7
  have h0 : DataW.trod enc Tryz.prog w base spare held m 3 ((cs.drop 0).take (Tryz.prog.cellsOf 3)) = _ := h0
  have h1 : DataW.trod enc Tryz.prog w base spare held m 9 ((cs.drop 1).take (Tryz.prog.cellsOf 9)) = _ := h1
  have h2 : DataW.trod enc Tryz.prog w base spare held m 24 ((cs.drop 2).take (Tryz.prog.cellsOf 24)) = _ := h2
  have h3 : DataW.trod enc Tryz.prog w base spare held m 24 ((cs.drop 34).take (Tryz.prog.cellsOf 24)) = _ := h3
  have h4 : DataW.trod enc Tryz.prog w base spare held m 29 ((cs.drop 66).take (Tryz.prog.cellsOf 29)) = _ := h4
  have h5 : DataW.trod enc Tryz.prog w base spare held m 3 ((cs.drop 67).take (Tryz.prog.cellsOf 3)) = _ := h5
  have h6 : DataW.trod enc Tryz.prog w base spare held m 3 ((cs.drop 68).take (Tryz.prog.cellsOf 3)) = _ := h6
  have h7 : DataW.trod enc Tryz.prog w base spare held m 4 ((cs.drop 69).take (Tryz.prog.cellsOf 4)) = _ := h7
  rw [cells_int] at h0 h5 h6
  rw [cells_str] at h1
  rw [cells_id] at h2 h3
  rw [cells_todos] at h4
  rw [cells_bool] at h7
  obtain ⟨v0, e0, _⟩ := one_at (i := 0) hlen (by omega)
  obtain ⟨v1, e1, _⟩ := one_at (i := 1) hlen (by omega)
  obtain ⟨v4, e4, _⟩ := one_at (i := 66) hlen (by omega)
  obtain ⟨v5, e5, _⟩ := one_at (i := 67) hlen (by omega)
  obtain ⟨v6, e6, _⟩ := one_at (i := 68) hlen (by omega)
  obtain ⟨v7, e7, _⟩ := one_at (i := 69) hlen (by omega)
  rw [e0] at h0
  rw [e1] at h1
  rw [e4] at h4
  rw [e5] at h5
  rw [e6] at h6
  rw [e7] at h7
  obtain ⟨kind, f0, _, w0⟩ := DataW.trod_int Tryz.underlying3 h0
  obtain ⟨br, f1, x1, _⟩ := DataW.trod_string Tryz.underlying9 h1
  obtain ⟨i, e2⟩ := open_id h2
  obtain ⟨j, e3⟩ := open_id h3
  obtain ⟨A, len, cap, rfl⟩ := slice_is Tryz.underlying29 h4
  obtain ⟨l, rfl, hr, hc, hm, hN, hV⟩ := open_listB (N := N) (f := todoL) (V := fun x => (Lit.int .i64 x.act).wf = true) Tryz.underlying29 cells_todo (by decide) todoL_len (fun _ _ _ h _ => open_todo h) h4 g4
  obtain ⟨dn, f5, _, w5⟩ := DataW.trod_int Tryz.underlying3 h5
  obtain ⟨mn, f6, _, w6⟩ := DataW.trod_int Tryz.underlying3 h6
  obtain ⟨st, f7, _⟩ := DataW.trod_bool Tryz.underlying4 h7
  simp only [List.cons.injEq, and_true] at f0 f1 f5 f6 f7
  subst f0 f1 f5 f6 f7
  rw [x1] at g1
  simp only [Rows.uptoBulk] at g1
  refine ⟨⟨kind, br, i, j, l, dn, mn, st⟩, A, cap, ?_, hr, hc, hm, ⟨by rw [Lib.size_eq]; show br.data.toList.length ≤ N; omega, hN, w0, w5, w6, hV⟩⟩
  have d0 := cut_at e0
  have d1 := cut_at e1
  have d2 := cut_at e2
  have d3 := cut_at e3
  have d4 := cut_at e4
  have d5 := cut_at e5
  have d6 := cut_at e6
  have d7 := cut_at e7
  rw [List.drop_of_length_le (show cs.length ≤ 69 + 1 by omega), List.append_nil] at d7
  have : cs = cs.drop 0 := rfl
  rw [this, d0, d1, d2, d3, d4, d5, d6, d7]
  simp [seqL]
set_option maxRecDepth 100000 in
theorem open_tx {N n : Nat} {cs : List Value} {y : DataW H × List MemPlace} (h : DataW.trod enc Tryz.prog w base spare held n 34 cs = some y) (hb : Rows.uptoBulk y.1 ≤ N) :
    ∃ (t : TxD) (mv tv ev : Value), cs = txL t mv tv ev ∧ TxIn w w.heap.size t mv tv ev ∧ TxSmall N t := by
  obtain ⟨xs, m, _, hy, hlen, hxl, hx⟩ := DataW.trod_struct Tryz.underlying34 h
  rw [hy] at hb
  rw [cells_tx] at hlen
  have h0 := hx 0 _ rfl
  have h1 := hx 1 _ rfl
  have h2 := hx 2 _ rfl
  have h3 := hx 3 _ rfl
  have h4 := hx 4 _ rfl
  have h5 := hx 5 _ rfl
  have hxl' : xs.length = 6 := hxl
  have g1 := bulk_agg (i := 1) hb (List.getElem?_eq_getElem (by omega))
  have g2 := bulk_agg (i := 2) hb (List.getElem?_eq_getElem (by omega))
  have g4 := bulk_agg (i := 4) hb (List.getElem?_eq_getElem (by omega))
  have g5 := bulk_agg (i := 5) hb (List.getElem?_eq_getElem (by omega))
  rw [List.getElem?_eq_getElem (by omega)] at h0 h1 h2 h3 h4 h5
  have h0 : DataW.trod enc Tryz.prog w base spare held m 4 ((cs.drop 0).take (Tryz.prog.cellsOf 4)) = _ := h0
  have h1 : DataW.trod enc Tryz.prog w base spare held m 9 ((cs.drop 1).take (Tryz.prog.cellsOf 9)) = _ := h1
  have h2 : DataW.trod enc Tryz.prog w base spare held m 28 ((cs.drop 2).take (Tryz.prog.cellsOf 28)) = _ := h2
  have h3 : DataW.trod enc Tryz.prog w base spare held m 4 ((cs.drop 3).take (Tryz.prog.cellsOf 4)) = _ := h3
  have h4 : DataW.trod enc Tryz.prog w base spare held m 31 ((cs.drop 4).take (Tryz.prog.cellsOf 31)) = _ := h4
  have h5 : DataW.trod enc Tryz.prog w base spare held m 32 ((cs.drop 74).take (Tryz.prog.cellsOf 32)) = _ := h5
  rw [cells_bool] at h0 h3
  rw [cells_str] at h1
  rw [cells_moves] at h2
  rw [cells_seq] at h4
  rw [cells_mems] at h5
  obtain ⟨v0, e0, _⟩ := one_at (i := 0) hlen (by omega)
  obtain ⟨v1, e1, _⟩ := one_at (i := 1) hlen (by omega)
  obtain ⟨v2, e2, _⟩ := one_at (i := 2) hlen (by omega)
  obtain ⟨v3, e3, _⟩ := one_at (i := 3) hlen (by omega)
  obtain ⟨v5, e5, _⟩ := one_at (i := 74) hlen (by omega)
  rw [e0] at h0
  rw [e1] at h1
  rw [e2] at h2
  rw [e3] at h3
  rw [e5] at h5
  obtain ⟨hh, f0, _⟩ := DataW.trod_bool Tryz.underlying4 h0
  obtain ⟨hd, f1, x1, _⟩ := DataW.trod_string Tryz.underlying9 h1
  obtain ⟨Am, lm, cm, rfl⟩ := slice_is Tryz.underlying28 h2
  obtain ⟨ms, rfl, hrm, hcm, hmm, hNm, hVm⟩ := open_listB (N := N) (f := moveL) (V := fun x => x.name.size ≤ N ∧ x.why.size ≤ N) Tryz.underlying28 cells_move (by decide) moveL_len (fun _ _ _ h hb => open_move h hb) h2 g2
  obtain ⟨hs, f3, _⟩ := DataW.trod_bool Tryz.underlying4 h3
  obtain ⟨q, At, ct, e4, hrt, hct, hmt, hsq⟩ := open_seq h4 g4
  obtain ⟨Ae, le, ce, rfl⟩ := slice_is Tryz.underlying32 h5
  obtain ⟨es, rfl, hre, hce, hme, hNe, hVe⟩ := open_listB (N := N) (f := memL) (V := fun x => Reads w w.heap.size 1 x.adr x.data.length (x.data.map bv) ∧ x.data.length ≤ N ∧ x.data.length ≤ maxLen) Tryz.underlying32 cells_mem (by decide) memL_len (fun _ _ _ h hb => open_mem h hb) h5 g5
  simp only [List.cons.injEq, and_true] at f0 f1 f3
  subst f0 f1 f3
  rw [x1] at g1
  simp only [Rows.uptoBulk] at g1
  refine ⟨⟨hh, hd, ms, hs, q, es⟩, .slice Am ms.length cm, .slice At q.todo.length ct, .slice Ae es.length ce, ?_, ⟨⟨Am, cm, rfl, hrm, hcm, hmm⟩, ⟨At, ct, rfl, hrt, hct, hmt⟩, ⟨Ae, ce, rfl, hre, hce, hme⟩, fun m hm => ⟨(hVe m hm).1, (hVe m hm).2.2⟩⟩, ⟨by rw [Lib.size_eq]; show hd.data.toList.length ≤ N; omega, hNm, hNe, hVm, fun m hm => (hVe m hm).2.1, hsq⟩⟩
  have d0 := cut_at e0
  have d1 := cut_at e1
  have d2 := cut_at e2
  have d3 := cut_at e3
  have d4 := cut_at e4
  have d5 := cut_at e5
  rw [List.drop_of_length_le (show cs.length ≤ 74 + 1 by omega), List.append_nil] at d5
  have : cs = cs.drop 0 := rfl
  rw [this, d0, d1, d2, d3, d4, d5]
  simp [txL]
set_option maxRecDepth 100000 in
theorem opened_tx {N b0 : Nat} {r : Reach} {v : Value} {d : DataW H} {p : List MemPlace} (hv : Value.okWide Tryz.prog w r b0 34 v) (h : DataW.Trod enc Tryz.prog w base spare held 34 v d p) (hb : Rows.uptoBulk d ≤ N) :
    ∃ (t : TxD) (mv tv ev : Value), v = .agg (txC t mv tv ev) ∧ TxIn w w.heap.size t mv tv ev ∧ TxSmall N t := by
  obtain ⟨cs, rfl, _⟩ := okWide_struct Tryz.underlying34 hv
  obtain ⟨fuel, hf⟩ := h
  obtain ⟨t, mv, tv, ev, h1, h2⟩ := open_tx hf hb
  refine ⟨t, mv, tv, ev, ?_, h2⟩
  have h1 : cs.toList = _ := h1
  unfold txC
  rw [← h1]
end
end Go.Proofs.YtppmolneklidfaaGreat

namespace Go.Proofs.YtppmolneklidfaaGreat
open Go.RowKit

/-! ### Bounds, and what the place of bytes does not matter for -/
theorem flatMap_le {α β : Type} {f : α → List β} {C : Nat} : ∀ (l : List α), (∀ a ∈ l, (f a).length ≤ C) → (l.flatMap f).length ≤ l.length * C
  | [], _ => by simp
  | x :: l, h => by
    have h1 := h x (by simp)
    have h2 := flatMap_le l (fun a ha => h a (by simp [ha]))
    rw [List.flatMap_cons, List.length_append, List.length_cons, Nat.succ_mul]
    omega
theorem seqB_le {q : SeqD} (h : SeqSmall 1048576 q) : (seqB q).length ≤ 36000000 := by
  have h1 := h.branch
  have h2 := h.todo
  have h3 := flat33 todoB_len q.todo
  unfold seqB
  split
  · simp [be_len]
  · simp only [List.length_append, be_len, h3, q.orig.2, q.cur.2, ← Lib.size_eq]
    omega
theorem encTxB_le {t : TxD} (h : TxSmall 1048576 t) : (encTxB t).length ≤ 140737488355328 := by
  have h1 : (headB t).length ≤ 1048577 := by
    unfold headB
    split
    · simp only [List.length_append, be_len, ← Lib.size_eq]; have := h.head; omega
    · simp
  have h2 : (t.moves.flatMap moveB).length ≤ t.moves.length * 2098000 := flatMap_le _ (fun m hm => by
    have := h.move m hm
    simp only [moveB, List.length_append, be_len, m.old.2, m.new_.2, ← Lib.size_eq]
    omega)
  have h3 : (t.mem.flatMap memB).length ≤ t.mem.length * 2098000 := flatMap_le _ (fun m hm => by
    have := h.data m hm
    simp only [memB, List.length_append, be_len, m.key.2]
    omega)
  have h4 : (seqsB t).length ≤ 36000000 := by
    unfold seqsB
    split
    · exact seqB_le h.seq
    · simp
  have h5 : t.moves.length * 2098000 ≤ 1048576 * 2098000 := Nat.mul_le_mul_right _ h.moves
  have h6 : t.mem.length * 2098000 ≤ 1048576 * 2098000 := Nat.mul_le_mul_right _ h.mem
  unfold encTxB
  simp only [List.length_append, be_len]
  omega
theorem eqL_map {α : Type} {f : α → α → Bool} {g : α → α} (hf : ∀ x y, f (g x) (g y) = f x y) : ∀ l m : List α, eqL f (l.map g) (m.map g) = eqL f l m
  | [], [] => rfl
  | [], _ :: _ => rfl
  | _ :: _, [] => rfl
  | x :: l, y :: m => by
    show (f (g x) (g y) && eqL f (l.map g) (m.map g)) = (f x y && eqL f l m)
    rw [hf, eqL_map hf l m]
theorem sameTxP_for (t u : TxD) : sameTxP (forT t) (forT u) = sameTxP t u := by
  have h := eqL_map (f := memEq) (g := forM) (fun _ _ => rfl) t.mem u.mem
  show (sameHeadP t u && ((asks t == asks u) && ((!asks t || sameSeqP t.seq u.seq) && eqL memEq (t.mem.map forM) (u.mem.map forM)))) = _
  rw [h]
  rfl
theorem sameTxP_of {t u : TxD} (h : forT t = forT u) : sameTxP t u = true := by
  rw [← sameTxP_for, h]
  exact sameTxP_refl _
def LdTx (v : Value) : Sem Value := Instr.loadAt 34 v
theorem ld_tx (v : Value) : Instr.loadAt 34 v = LdTx v := rfl
theorem LdTx.run {w : World} {g : Nat} {t : TypeId} {u : TxD} {mv tv ev : Value} (h : Blk w g t (txC u mv tv ev)) : (LdTx (.pointer (some ⟨g, 0, none⟩))).run Tryz.prog w = .ok (.agg (txC u mv tv ev)) w := load_whole h Tryz.underlying34 rfl (by rw [txC_size]; exact info_tx)
theorem LdTx.run' {w : World} {g : Nat} {t : TypeId} {u : TxD} {mv tv ev : Value} (h : Blk w g t (txC u mv tv ev)) : (Instr.loadAt 34 (.pointer (some ⟨g, 0, none⟩))).run Tryz.prog w = .ok (.agg (txC u mv tv ev)) w := LdTx.run h

theorem TR.in_ {base : Nat} {t : TxD} {mv tv ev : Value} {w : World} (h : TR base t mv tv ev w) : TxIn w w.heap.size t mv tv ev := by
  obtain ⟨⟨A, c, h1, h2⟩, ⟨A', c', h1', h2'⟩, ⟨A'', c'', h1'', h2''⟩, h4⟩ := h
  exact ⟨⟨A, c, h1, h2.reads, h2.cap_le⟩, ⟨A', c', h1', h2'.reads, h2'.cap_le⟩, ⟨A'', c'', h1'', h2''.reads, h2''.cap_le⟩, fun m hm => ⟨(h4 m hm).1.reads, (h4 m hm).2⟩⟩
theorem TR.one {base : Nat} {t : TxD} {mv tv ev : Value} {w : World} (h : TR base t mv tv ev w) : ∀ v ∈ (txC t mv tv ev).toList, v.oneCell' = true := by
  obtain ⟨⟨A, c, rfl, _⟩, ⟨A', c', rfl, _⟩, ⟨A'', c'', rfl, _⟩, _⟩ := h
  exact txL_one _ _ _ _ rfl rfl rfl
def zId (H : Type) : DataW H := .agg (List.replicate 32 (.lit (.int .u8 0)))
def zSeq (H : Type) : DataW H := .agg [.lit (.int .i64 0), .lit (.string []), zId H, zId H, .nil, .lit (.int .i64 0), .lit (.int .i64 0), .lit (.bool false)]
def zTx (H : Type) : DataW H := .agg [.lit (.bool false), .lit (.string []), .nil, .lit (.bool false), zSeq H, .nil]
end Go.Proofs.YtppmolneklidfaaGreat
