/-
  Texts of the codec joined (Tx2). No statement of the seat is proved here.
-/
import Derived.Test.YtppmolneklidfaaGreatZ22
namespace Go.Proofs.YtppmolneklidfaaGreat
open Go.RowKit

/-! ### Plain -/
def manyOk (t : TxD) : Bool := decide (t.moves.length ≤ 65535) && decide (t.mem.length ≤ 65535) && (!asks t || decide (t.seq.todo.length ≤ 65535))
def headOk (t : TxD) : Bool := !t.hasHead || decide (t.head.size ≤ 255)
def moveOk (m : MoveD) : Bool := decide (m.name.size ≤ 255) && decide (m.why.size ≤ 65535)
def dataOk (m : MemD) : Bool := decide (m.data.length ≤ 4294967295)
def branchOk (t : TxD) : Bool := !asks t || decide (t.seq.branch.size ≤ 255)
def numOk (n : Int) (k : Nat) : Bool := decide (0 ≤ n) && decide (n ≤ (k : Int))
def kindFits (t : TxD) : Bool := !t.hasSeq || numOk t.seq.kind 255
def longE (t : TxD) : Int := note (t.mem.foldl (fun e m => note e (dataOk m) 5) (t.moves.foldl (fun e m => note e (moveOk m) 5) (note (note 0 (manyOk t) 4) (headOk t) 5))) (branchOk t) 5
def argE (t : TxD) (e : Int) : Int := if asks t then t.seq.todo.foldl (fun e x => note e (numOk x.act 255) 1) (note (note e (numOk t.seq.done 65535) 1) (numOk t.seq.made 65535) 1) else e
def wrongE (t : TxD) : Int := argE t (note (longE t) (kindFits t) 1)

/-! ### The walk's state -/
structure WS (t : TxD) (mv tv ev : Value) (w : World) (q g p : Nat) (e : Int) (wr : World) : Prop where
  tx : Blk wr q 34 (txC t mv tv ev)
  src : Blk wr g 100 #[.slice none 0 0, .int .i64 0, .int .i64 e]
  sq : Blk wr p 31 (seqC t.seq tv)
  keep : Keep Nothing w wr
  new_ : w.heap.size ≤ g
section
variable {t : TxD} {mv tv ev : Value} {w : World} {q g p : Nat} {e : Int} {wr wr' : World}
theorem WS.drew (h : WS t mv tv ev w q g p e wr) : WS t mv tv ev w q g p e wr.drew := ⟨h.tx.drew, h.src.drew, h.sq.drew, h.keep.drew, h.new_⟩
theorem WS.alloc (h : WS t mv tv ev w q g p e wr) (o : Obj) : WS t mv tv ev w q g p e (wr.alloc o) := ⟨h.tx.alloc o, h.src.alloc o, h.sq.alloc o, h.keep.alloc o, h.new_⟩
theorem WS.kept (h : WS t mv tv ev w q g p e wr) (k : Keep Nothing wr wr') : WS t mv tv ev w q g p e wr' := ⟨h.tx.keep k (fun x => x), h.src.keep k (fun x => x), h.sq.keep k (fun x => x), h.keep.trans k, h.new_⟩
theorem WS.must (h : WS t mv tv ev w q g p e wr) (is : Bool) (c : Int) : Calls Tryz.prog 44 #[.pointer (some ⟨g, 0, none⟩), .bool is, .int .i64 c] wr fun r w' => r = .returned (.tuple #[]) ∧ WS t mv tv ev w q g p (note e is c) w' ∧ Keep (Only g) wr w' := by
  refine (must_any g 100 _ _ e c is wr h.src).mono ?_
  rintro r w' ⟨rfl, hb, hk⟩
  have n1 := h.tx.ne_ h.src (by decide)
  have n2 := h.sq.ne_ h.src (by decide)
  exact ⟨rfl, ⟨h.tx.keep hk n1, hb, h.sq.keep hk n2, h.keep.then_ hk (fun i hi x => by unfold Only at x; have := h.new_; omega), h.new_⟩, hk⟩
end

attribute [local go_sem ↓] ld_seq st_seq
set_option maxHeartbeats 16000000 in
set_option maxRecDepth 100000 in
theorem wrong_any (t : TxD) (mv tv ev : Value) (w : World) (hin : TxIn w w.heap.size t mv tv ev) (hh : t.head.size ≤ 9000000) :
    Calls Tryz.prog 69 #[.agg (txC t mv tv ev)] w fun r w' => r = .returned (.int .i64 (wrongE t)) ∧ Keep Nothing w w' := by
  obtain ⟨Am, cm, rfl, rm, lm1, lm2⟩ := hin.mv
  obtain ⟨At, ct, rfl, rt, lt1, lt2⟩ := hin.tv
  obtain ⟨Ae, ce, rfl, re, le1, le2⟩ := hin.ev
  unfold maxLen at lm2 lt2 le2
  have hdata := Lib.hid hin.data
  clear hin
  go_enter Tryz.func69, Tryz.ntmps69
  go_upto_region 2 with (first | (refine wpList_boxed rfl rfl (cs := txC t _ _ _) rfl ?_))
  have q0 : Blk ((w.alloc (.cells (txC t (.slice Am t.moves.length cm) (.slice At t.seq.todo.length ct) (.slice Ae t.mem.length ce)) 34)).alloc (.cells #[.slice none 0 0, .int .i64 0, .int .i64 0] 100)) w.heap.size 34 (txC t (.slice Am t.moves.length cm) (.slice At t.seq.todo.length ct) (.slice Ae t.mem.length ce)) := (Blk.new _ _ _).alloc _
  have g0 : Blk ((w.alloc (.cells (txC t (.slice Am t.moves.length cm) (.slice At t.seq.todo.length ct) (.slice Ae t.mem.length ce)) 34)).alloc (.cells #[.slice none 0 0, .int .i64 0, .int .i64 0] 100)) (w.heap.size + 1) 100 #[.slice none 0 0, .int .i64 0, .int .i64 0] := by
    have := Blk.new (w.alloc (.cells (txC t (.slice Am t.moves.length cm) (.slice At t.seq.todo.length ct) (.slice Ae t.mem.length ce)) 34)) 100 #[.slice none 0 0, .int .i64 0, .int .i64 0]
    simpa using this
  have k0 : Keep Nothing w ((w.alloc (.cells (txC t (.slice Am t.moves.length cm) (.slice At t.seq.todo.length ct) (.slice Ae t.mem.length ce)) 34)).alloc (.cells #[.slice none 0 0, .int .i64 0, .int .i64 0] 100)) := ((Keep.refl _ _).alloc _).alloc _
  generalize (w.alloc (.cells (txC t (.slice Am t.moves.length cm) (.slice At t.seq.todo.length ct) (.slice Ae t.mem.length ce)) 34)).alloc (.cells #[.slice none 0 0, .int .i64 0, .int .i64 0] 100) = w0 at *
  have hq := k0.size
  have hg : w.heap.size ≤ w.heap.size + 1 := by omega
  have hrk : ∀ W, Keep Nothing w W → Reads W w.heap.size 66 Am t.moves.length (moveLs t.moves) ∧ Reads W w.heap.size 33 At t.seq.todo.length (todoLs t.seq.todo) ∧ Reads W w.heap.size 33 Ae t.mem.length (memLs t.mem) := fun W h => ⟨rm.below h.all, rt.below h.all, re.below h.all⟩
  have HR := Lib.hid hrk
  clear hrk rm rt re
  generalize hgq : w.heap.size = q at *
  have HQ := Lib.hid hgq
  clear hgq
  generalize hgm : Value.slice Am t.moves.length cm = mv at *
  generalize hgt : Value.slice At t.seq.todo.length ct = tv at *
  generalize hge : Value.slice Ae t.mem.length ce = ev at *
  have htv : tv.oneCell' = true := by rw [← hgt]; rfl
  have HM := Lib.hid hgm
  have HT := Lib.hid hgt
  have HE := Lib.hid hge
  clear hgm hgt hge
  go_upto_region 3 with (first | (refine wpList_load rfl rfl rfl (load_whole q0 Tryz.underlying34 rfl (by rw [txC_size]; exact info_tx)) ?_) | (go_at_call 76; refine (asked_any t mv tv ev htv _).mono ?_; rintro r w1 ⟨rfl, k1⟩) | (refine wpList_allocAgg rfl rfl (zero_seq _) ?_) | (refine wpList_storeBlk rfl rfl (vs := seqC t.seq tv) rfl rfl (Blk.new _ _ _) (by rw [seqC_size, seqC_size]) (by rw [seqC_size]; exact info_seq) (seqL_one _ _ htv) ?_; intro w2 p2 kc zc))
  have h2 : WS t mv tv ev w q (q + 1) w1.heap.size 0 w2 := by
    have kn : Keep Nothing w1 w2 := Keep.ofNew kc
    exact ⟨(q0.keep k1 (fun x => x)).keep kn (fun x => x), (g0.keep k1 (fun x => x)).keep kn (fun x => x), p2, (k0.trans k1).trans kn, by rw [HQ.out]; omega⟩
  clear q0 g0 k0 k1 p2 kc zc
  generalize w1.heap.size = p at *
  generalize hgs : q + 1 = g at *
  clear hgs
  have HH := Lib.hid hh
  clear hh hq hg
  -- region 3
  go_cut [3] (fun s3 wx => s3 = .pointer (some ⟨g, 0, none⟩) ∧ WS t mv tv ev w q g p (note 0 (manyOk t) 4) wx)
  case first =>
    --<
    have a2 := (h2.tx.cell 2).trans txC_at.2.2.1
    have a74 := (h2.tx.cell 74).trans txC_at.2.2.2.2.2
    have a66 := (h2.sq.cell 66).trans (seqC_at _ _).2.2.1
    rw [← HM.out] at a2
    rw [← HE.out] at a74
    rw [← HT.out] at a66
    have HO := Lib.hid (show manyOk t = (decide (t.moves.length ≤ 65535) && decide (t.mem.length ≤ 65535) && (!asks t || decide (t.seq.todo.length ≤ 65535))) from rfl)
    have HW := Lib.hid h2.must
    clear h2
    generalize asks t = is at *
    by_cases b1 : t.moves.length ≤ 65535
    all_goals by_cases b2 : t.mem.length ≤ 65535
    all_goals by_cases b3 : t.seq.todo.length ≤ 65535
    all_goals cases is
    all_goals
      have ho := HO.out
      simp only [b1, b2, b3, decide_true, decide_false, Bool.and_true, Bool.and_false, Bool.not_true, Bool.not_false, Bool.or_true, Bool.or_false, Bool.and_self, Bool.or_self] at ho
      have HO2 := Lib.hid ho
      clear ho HO
      try have d1 := decide_eq_false b1
      try have d2 := decide_eq_false b2
      try have d3 := decide_eq_false b3
      go_wp2_with (first | (go_at_call 44; refine (HW.out _ _).mono ?_; rintro r w3 ⟨rfl, h3, _⟩))
      go_meet
      exact ⟨rfl, by rw [HO2.out]; first | exact h3 | (rw [decide_eq_true (by omega)] at h3; exact h3) | (rw [decide_eq_false (by omega)] at h3; exact h3)⟩
    -->
  case rest =>
    obtain ⟨rfl, h3⟩ := hcut
    clear h2
    generalize wc = w3 at *
    generalize hee : note 0 (manyOk t) 4 = e1 at *
    have H1 := Lib.hid hee
    clear hee
    -- region 4
    go_upto_region 4 with fail
    go_cut [3] (fun s3 wx => s3 = .pointer (some ⟨g, 0, none⟩) ∧ WS t mv tv ev w q g p (note e1 (headOk t) 5) wx)
    case first =>
      --<
      have a0 := (h3.tx.cell 0).trans txC_at.1
      have a1 := (h3.tx.cell 1).trans txC_at.2.1
      have HO := Lib.hid (show headOk t = (!t.hasHead || decide (t.head.size ≤ 255)) from rfl)
      have HW := Lib.hid h3.drew.must
      clear h3
      cases hhd : t.hasHead
      · have ho := HO.out
        rw [hhd] at ho a0
        have HO2 := Lib.hid (show headOk t = true from ho)
        clear ho HO hhd
        refine wp_region_still_tail 11 (by kernel_rfl) (by kernel_rfl) ?_; simp only [List.take_succ_cons, List.take_zero, List.drop_succ_cons, List.drop_zero]; repeat (first | ((with_reducible refine wpStill_step (fun K hK => ?_)); go_simp; with_reducible refine hK _ ?_; clear hK K) | ((with_reducible refine wpStill_skip ?_ ?_); (focus rfl)))
        (with_reducible refine wpStill_nil ?_); change wpList _ _ _ _ _ w3.drew
        go_wp2_with (first | (go_at_call 44; refine (HW.out _ _).mono ?_; rintro r w4 ⟨rfl, h4, _⟩))
        go_meet
        exact ⟨rfl, by rw [HO2.out]; exact h4⟩
      · have ho := HO.out
        rw [hhd] at ho a0
        have HO2 := Lib.hid (show headOk t = decide (t.head.size ≤ 255) from ho)
        clear ho HO hhd
        refine wp_region_still_tail 11 (by kernel_rfl) (by kernel_rfl) ?_; simp only [List.take_succ_cons, List.take_zero, List.drop_succ_cons, List.drop_zero]; repeat (first | ((with_reducible refine wpStill_step (fun K hK => ?_)); go_simp; with_reducible refine hK _ ?_; clear hK K) | ((with_reducible refine wpStill_skip ?_ ?_); (focus rfl)))
        (with_reducible refine wpStill_step (fun K hK => ?_)); go_simp; (with_reducible refine ⟨_, still1 _, hK _ ?_⟩); clear hK K; repeat (first | ((with_reducible refine wpStill_step (fun K hK => ?_)); go_simp; with_reducible refine hK _ ?_; clear hK K) | ((with_reducible refine wpStill_skip ?_ ?_); (focus rfl)))
        (with_reducible refine wpStill_nil ?_); change wpList _ _ _ _ _ w3.drew
        go_wp2_with (first | (go_at_call 44; refine (HW.out _ _).mono ?_; rintro r w4 ⟨rfl, h4, _⟩))
        go_meet
        exact ⟨rfl, by rw [HO2.out]; first | exact h4 | (rw [show decide ((t.head.size : Int) ≤ 255) = decide (t.head.size ≤ 255) from decide_eq_decide.2 (by omega)] at h4; exact h4)⟩
      -->
    case rest =>
      obtain ⟨rfl, h4⟩ := hcut
      clear h3
      generalize hee : note e1 (headOk t) 5 = e2 at *
      have H2 := Lib.hid hee
      clear hee
      -- the moves
      have a2 := (h4.tx.cell 2).trans txC_at.2.2.1
      rw [← HM.out] at a2
      go_upto_region 6 with fail
      go_loopg [58] t.moves.length (fun f i wr => ∃ k e, i = .int .i64 (k : Nat) ∧ k + f = t.moves.length ∧ (t.moves.drop k).foldl (fun e m => note e (moveOk m) 5) e = t.moves.foldl (fun e m => note e (moveOk m) 5) e2 ∧ WS t mv tv ev w q g p e wr)
      case atStart => exact ⟨0, e2, rfl, by omega, rfl, h4⟩
      case round =>
        obtain ⟨k, e, rfl, hkf, hfo, h5⟩ := hrel
        have HF := Lib.hid hfo
        have HKF := Lib.hid hkf
        have hkn : k ≤ t.moves.length := by omega
        clear hfo hkf h4 a2
        by_cases hlt : k < t.moves.length
        · cases gk with
          | zero => exact absurd HKF.out (by omega)
          | succ f =>
            --<
            obtain ⟨m, hm⟩ : ∃ m, t.moves[k]? = some m := ⟨t.moves[k], List.getElem?_eq_getElem hlt⟩
            obtain ⟨g0, off, rfl, _, hc0⟩ := (HR.out _ h5.keep).1.at0 (by omega) (by omega)
            have HF2 := Lib.hid (show (t.moves.drop (k + 1)).foldl (fun e m => note e (moveOk m) 5) (note e (moveOk m) 5) = t.moves.foldl (fun e m => note e (moveOk m) 5) e2 from by
              rw [← HF.out, List.drop_eq_getElem_cons hlt, List.foldl_cons, Option.some.inj ((List.getElem?_eq_getElem hlt).symm.trans hm)])
            have L0 := load_flat Tryz.underlying60 rfl info_move moveL_len hc0 hm
            have LL := Lib.hid L0
            clear L0 hc0 hm HF
            go_upto_region 8 with (first | (refine wpList_load rfl rfl rfl LL.out ?_) | (refine wpList_allocAgg rfl rfl (zero_move _) ?_) | (refine wpList_storeBlk rfl rfl (vs := moveC m) rfl rfl (Blk.new _ _ _) (by rw [moveC_size, moveC_size]) (by rw [moveC_size]; exact info_move) (moveL_one _) ?_; intro w6 x6 kc zc))
            have h6 := h5.kept (Keep.ofNew kc)
            generalize wr.heap.size = x at *
            have c0 := (x6.cell 0).trans (moveC_at m).1
            have c65 := (x6.cell 65).trans (moveC_at m).2
            have HW := Lib.hid h6.drew.must
            have HO := Lib.hid (show moveOk m = (decide (m.name.size ≤ 255) && decide (m.why.size ≤ 65535)) from rfl)
            clear kc zc x6 h6 h5
            by_cases b1 : m.name.size ≤ 255
            · have d1 : decide ((m.name.size : Int) ≤ 255) = true := decide_eq_true (by omega)
              refine wp_region_still_tail 13 (by kernel_rfl) (by kernel_rfl) ?_; simp only [List.take_succ_cons, List.take_zero, List.drop_succ_cons, List.drop_zero]; repeat (first | ((with_reducible refine wpStill_step (fun K hK => ?_)); go_simp; with_reducible refine hK _ ?_; clear hK K) | ((with_reducible refine wpStill_skip ?_ ?_); (focus rfl)))
              (with_reducible refine wpStill_step (fun K hK => ?_)); go_simp; (with_reducible refine ⟨_, still1 _, hK _ ?_⟩); clear hK K; repeat (first | ((with_reducible refine wpStill_step (fun K hK => ?_)); go_simp; with_reducible refine hK _ ?_; clear hK K) | ((with_reducible refine wpStill_skip ?_ ?_); (focus rfl)))
              (with_reducible refine wpStill_step (fun K hK => ?_)); go_simp; (with_reducible refine ⟨_, still2 _, hK _ ?_⟩); clear hK K; repeat (first | ((with_reducible refine wpStill_step (fun K hK => ?_)); go_simp; with_reducible refine hK _ ?_; clear hK K) | ((with_reducible refine wpStill_skip ?_ ?_); (focus rfl)))
              (with_reducible refine wpStill_nil ?_); change wpList _ _ _ _ _ w6.drew
              go_wp2_with (first | (go_at_call 44; refine (HW.out _ _).mono ?_; rintro r w7 ⟨rfl, h7, _⟩))
              go_roundg f
              case measure => omega
              case rel =>
                refine ⟨k + 1, _, by go_num, by have := HKF.out; omega, HF2.out, ?_⟩
                rw [HO.out, show (decide (m.name.size ≤ 255) && decide (m.why.size ≤ 65535)) = decide ((m.why.size : Int) ≤ 65535) from by rw [decide_eq_true b1, Bool.true_and]; exact decide_eq_decide.2 (by omega)]
                exact h7
            · have d1 : decide ((m.name.size : Int) ≤ 255) = false := decide_eq_false (by omega)
              refine wp_region_still_tail 13 (by kernel_rfl) (by kernel_rfl) ?_; simp only [List.take_succ_cons, List.take_zero, List.drop_succ_cons, List.drop_zero]; repeat (first | ((with_reducible refine wpStill_step (fun K hK => ?_)); go_simp; with_reducible refine hK _ ?_; clear hK K) | ((with_reducible refine wpStill_skip ?_ ?_); (focus rfl)))
              (with_reducible refine wpStill_step (fun K hK => ?_)); go_simp; (with_reducible refine ⟨_, still1 _, hK _ ?_⟩); clear hK K; repeat (first | ((with_reducible refine wpStill_step (fun K hK => ?_)); go_simp; with_reducible refine hK _ ?_; clear hK K) | ((with_reducible refine wpStill_skip ?_ ?_); (focus rfl)))
              (with_reducible refine wpStill_nil ?_); change wpList _ _ _ _ _ w6.drew
              go_wp2_with (first | (go_at_call 44; refine (HW.out _ _).mono ?_; rintro r w7 ⟨rfl, h7, _⟩))
              go_roundg f
              case measure => omega
              case rel =>
                refine ⟨k + 1, _, by go_num, by have := HKF.out; omega, HF2.out, ?_⟩
                rw [HO.out, show (decide (m.name.size ≤ 255) && decide (m.why.size ≤ 65535)) = false from by rw [decide_eq_false b1, Bool.false_and]]
                exact h7
            -->
        · have H3 := Lib.hid (show e = t.moves.foldl (fun e m => note e (moveOk m) 5) e2 from by rw [← HF.out, List.drop_of_length_le (by omega)]; rfl)
          clear HF HKF
          have a74 := (h5.tx.cell 74).trans txC_at.2.2.2.2.2
          rw [← HE.out] at a74
          go_upto_region 11 with fail
          go_loopg [80] t.mem.length (fun f i wx => ∃ k e', i = .int .i64 (k : Nat) ∧ k + f = t.mem.length ∧ (t.mem.drop k).foldl (fun e m => note e (dataOk m) 5) e' = t.mem.foldl (fun e m => note e (dataOk m) 5) e ∧ WS t mv tv ev w q g p e' wx)
          case atStart => exact ⟨0, e, rfl, by omega, rfl, h5⟩
          case round =>
            obtain ⟨k, e', rfl, hkf, hfo, h6⟩ := hrel
            have HF := Lib.hid hfo
            have HKF := Lib.hid hkf
            have hkn : k ≤ t.mem.length := by omega
            clear hfo hkf h5 a74
            by_cases hlt : k < t.mem.length
            · --<
              cases gk with
              | zero => exact absurd HKF.out (by omega)
              | succ f =>
                obtain ⟨m, hm⟩ : ∃ m, t.mem[k]? = some m := ⟨t.mem[k], List.getElem?_eq_getElem hlt⟩
                obtain ⟨g0, off, rfl, _, hc0⟩ := (HR.out _ h6.keep).2.2.at0 (by omega) (by omega)
                have HF2 := Lib.hid (show (t.mem.drop (k + 1)).foldl (fun e m => note e (dataOk m) 5) (note e' (dataOk m) 5) = t.mem.foldl (fun e m => note e (dataOk m) 5) e from by
                  rw [← HF.out, List.drop_eq_getElem_cons hlt, List.foldl_cons, Option.some.inj ((List.getElem?_eq_getElem hlt).symm.trans hm)])
                have L0 := load_flat Tryz.underlying62 rfl info_mem memL_len hc0 hm
                have hdl := hdata.out m (List.mem_of_getElem? hm)
                have hd1 : m.data.length ≤ 9223372036854775807 := by have := hdl.2; unfold maxLen at this; omega
                have LL := Lib.hid L0
                clear L0 hc0 hm HF hdl
                go_upto_region 13 with (first | (refine wpList_load rfl rfl rfl LL.out ?_) | (refine wpList_allocAgg rfl rfl (zero_mem _) ?_) | (refine wpList_storeBlk rfl rfl (vs := memC m) rfl rfl (Blk.new _ _ _) (by rw [memC_size, memC_size]) (by rw [memC_size]; exact info_mem) (memL_one _) ?_; intro w6 x6 kc zc))
                have h7 := h6.kept (Keep.ofNew kc)
                generalize wr.heap.size = x at *
                have c32 := (x6.cell 32).trans (memC_at m)
                have HW := Lib.hid h7.drew.must
                have HO := Lib.hid (show dataOk m = decide (m.data.length ≤ 4294967295) from rfl)
                clear kc zc x6 h7 h6
                refine wp_region_still_tail 6 (by kernel_rfl) (by kernel_rfl) ?_; simp only [List.take_succ_cons, List.take_zero, List.drop_succ_cons, List.drop_zero]; repeat (first | ((with_reducible refine wpStill_step (fun K hK => ?_)); go_simp; with_reducible refine hK _ ?_; clear hK K) | ((with_reducible refine wpStill_skip ?_ ?_); (focus rfl)))
                (with_reducible refine wpStill_step (fun K hK => ?_)); go_simp; (with_reducible refine ⟨_, still4 _, hK _ ?_⟩); clear hK K; repeat (first | ((with_reducible refine wpStill_step (fun K hK => ?_)); go_simp; with_reducible refine hK _ ?_; clear hK K) | ((with_reducible refine wpStill_skip ?_ ?_); (focus rfl)))
                (with_reducible refine wpStill_nil ?_); change wpList _ _ _ _ _ w6.drew
                go_wp2_with (first | (go_at_call 44; refine (HW.out _ _).mono ?_; rintro r w7 ⟨rfl, h7, _⟩))
                go_roundg f
                case measure => omega
                case rel =>
                  refine ⟨k + 1, _, by go_num, by have := HKF.out; omega, HF2.out, ?_⟩
                  rw [HO.out, show decide (m.data.length ≤ 4294967295) = decide ((m.data.length : Int) ≤ 4294967295) from decide_eq_decide.2 (by omega)]
                  exact h7
              -->
            · have H4 := Lib.hid (show e' = t.mem.foldl (fun e m => note e (dataOk m) 5) e from by rw [← HF.out, List.drop_of_length_le (by omega)]; rfl)
              clear HF HKF
              go_upto_region 15 with fail
              go_cut [3] (fun s3 wx => s3 = .pointer (some ⟨g, 0, none⟩) ∧ WS t mv tv ev w q g p (note e' (branchOk t) 5) wx)
              case first =>
                --<
                have a1 := (h6.sq.cell 1).trans (seqC_at _ _).2.1
                have HW := Lib.hid h6.drew.must
                have HO := Lib.hid (show branchOk t = (!asks t || decide (t.seq.branch.size ≤ 255)) from rfl)
                clear h6
                generalize asks t = is at *
                cases is
                · refine wp_region_still_tail 10 (by kernel_rfl) (by kernel_rfl) ?_; simp only [List.take_succ_cons, List.take_zero, List.drop_succ_cons, List.drop_zero]; repeat (first | ((with_reducible refine wpStill_step (fun K hK => ?_)); go_simp; with_reducible refine hK _ ?_; clear hK K) | ((with_reducible refine wpStill_skip ?_ ?_); (focus rfl)))
                  (with_reducible refine wpStill_nil ?_); change wpList _ _ _ _ _ wr.drew
                  go_wp2_with (first | (go_at_call 44; refine (HW.out _ _).mono ?_; rintro r w7 ⟨rfl, h7, _⟩))
                  go_meet
                  exact ⟨rfl, by rw [HO.out]; exact h7⟩
                · refine wp_region_still_tail 10 (by kernel_rfl) (by kernel_rfl) ?_; simp only [List.take_succ_cons, List.take_zero, List.drop_succ_cons, List.drop_zero]; repeat (first | ((with_reducible refine wpStill_step (fun K hK => ?_)); go_simp; with_reducible refine hK _ ?_; clear hK K) | ((with_reducible refine wpStill_skip ?_ ?_); (focus rfl)))
                  (with_reducible refine wpStill_step (fun K hK => ?_)); go_simp; (with_reducible refine ⟨_, still1 _, hK _ ?_⟩); clear hK K; repeat (first | ((with_reducible refine wpStill_step (fun K hK => ?_)); go_simp; with_reducible refine hK _ ?_; clear hK K) | ((with_reducible refine wpStill_skip ?_ ?_); (focus rfl)))
                  (with_reducible refine wpStill_nil ?_); change wpList _ _ _ _ _ wr.drew
                  go_wp2_with (first | (go_at_call 44; refine (HW.out _ _).mono ?_; rintro r w7 ⟨rfl, h7, _⟩))
                  go_meet
                  exact ⟨rfl, by rw [HO.out, show (!true || decide (t.seq.branch.size ≤ 255)) = decide ((t.seq.branch.size : Int) ≤ 255) from by rw [Bool.not_true, Bool.false_or]; exact decide_eq_decide.2 (by omega)]; exact h7⟩
                -->
              case rest =>
                obtain ⟨rfl, h7⟩ := hcut
                have H5 := Lib.hid (show note e' (branchOk t) 5 = longE t from by unfold longE; rw [H4.out, H3.out, ← H2.out, ← H1.out])
                rw [H5.out] at h7
                clear h6 H4 H3 H2 H1 H5
                generalize hge : longE t = e5 at *
                have H5 := Lib.hid hge
                clear hge
                generalize wc = w7 at *
                go_upto_region 16 with fail
                go_cut [3] (fun s3 wx => s3 = .pointer (some ⟨g, 0, none⟩) ∧ WS t mv tv ev w q g p (note e5 (kindFits t) 1) wx)
                case first =>
                  --<
                  have a3 := (h7.tx.cell 3).trans txC_at.2.2.2.1
                  have a0 := (h7.sq.cell 0).trans (seqC_at _ _).1
                  have HW := Lib.hid h7.drew.must
                  have HO := Lib.hid (show kindFits t = (!t.hasSeq || (decide (0 ≤ t.seq.kind) && decide (t.seq.kind ≤ 255))) from rfl)
                  clear h7
                  cases hhd : t.hasSeq
                  · rw [hhd] at a3 HO
                    clear hhd
                    refine wp_region_still_tail 15 (by kernel_rfl) (by kernel_rfl) ?_; simp only [List.take_succ_cons, List.take_zero, List.drop_succ_cons, List.drop_zero]; repeat (first | ((with_reducible refine wpStill_step (fun K hK => ?_)); go_simp; with_reducible refine hK _ ?_; clear hK K) | ((with_reducible refine wpStill_skip ?_ ?_); (focus rfl)))
                    (with_reducible refine wpStill_nil ?_); change wpList _ _ _ _ _ w7.drew
                    go_wp2_with (first | (go_at_call 44; refine (HW.out _ _).mono ?_; rintro r w8 ⟨rfl, h8, _⟩))
                    go_meet
                    exact ⟨rfl, by rw [HO.out]; exact h8⟩
                  · rw [hhd] at a3 HO
                    clear hhd
                    by_cases b1 : 0 ≤ t.seq.kind
                    · have HO2 := Lib.hid (show kindFits t = decide (t.seq.kind ≤ 255) from by rw [HO.out, decide_eq_true b1]; rfl)
                      refine wp_region_still_tail 15 (by kernel_rfl) (by kernel_rfl) ?_; simp only [List.take_succ_cons, List.take_zero, List.drop_succ_cons, List.drop_zero]; repeat (first | ((with_reducible refine wpStill_step (fun K hK => ?_)); go_simp; with_reducible refine hK _ ?_; clear hK K) | ((with_reducible refine wpStill_skip ?_ ?_); (focus rfl)))
                      (with_reducible refine wpStill_step (fun K hK => ?_)); go_simp; (with_reducible refine ⟨_, still1 _, hK _ ?_⟩); clear hK K; repeat (first | ((with_reducible refine wpStill_step (fun K hK => ?_)); go_simp; with_reducible refine hK _ ?_; clear hK K) | ((with_reducible refine wpStill_skip ?_ ?_); (focus rfl)))
                      (with_reducible refine wpStill_nil ?_); change wpList _ _ _ _ _ w7.drew
                      go_wp2_with (first | (go_at_call 44; refine (HW.out _ _).mono ?_; rintro r w8 ⟨rfl, h8, _⟩))
                      go_meet
                      exact ⟨rfl, by rw [HO2.out]; exact h8⟩
                    · have HO2 := Lib.hid (show kindFits t = false from by rw [HO.out, decide_eq_false b1]; rfl)
                      have d1 := decide_eq_false b1
                      refine wp_region_still_tail 15 (by kernel_rfl) (by kernel_rfl) ?_; simp only [List.take_succ_cons, List.take_zero, List.drop_succ_cons, List.drop_zero]; repeat (first | ((with_reducible refine wpStill_step (fun K hK => ?_)); go_simp; with_reducible refine hK _ ?_; clear hK K) | ((with_reducible refine wpStill_skip ?_ ?_); (focus rfl)))
                      (with_reducible refine wpStill_nil ?_); change wpList _ _ _ _ _ w7.drew
                      go_wp2_with (first | (go_at_call 44; refine (HW.out _ _).mono ?_; rintro r w8 ⟨rfl, h8, _⟩))
                      go_meet
                      exact ⟨rfl, by rw [HO2.out]; exact h8⟩
                  -->
                case rest =>
                  obtain ⟨rfl, h8⟩ := hcut
                  have HFIN := Lib.hid (show wrongE t = argE t (note e5 (kindFits t) 1) from by unfold wrongE; rw [← H5.out])
                  clear h7
                  generalize note e5 (kindFits t) 1 = e6 at *
                  generalize wc = w8 at *
                  have HA := Lib.hid (show argE t e6 = if asks t then t.seq.todo.foldl (fun e x => note e (numOk x.act 255) 1) (note (note e6 (numOk t.seq.done 65535) 1) (numOk t.seq.made 65535) 1) else e6 from rfl)
                  generalize asks t = is at *
                  cases is
                  · have a2 := h8.src.cell 2
                    simp at a2
                    go_wp2_with fail
                    go_ret
                    exact ⟨by rw [HFIN.out, HA.out]; rfl, h8.keep⟩
                  · have c67 := (h8.sq.cell 67).trans (seqC_at _ _).2.2.2.1
                    have c68 := (h8.sq.cell 68).trans (seqC_at _ _).2.2.2.2.1
                    go_upto_region 19 with fail
                    have h9 := h8.alloc (.cells #[.int .i64 t.seq.done, .int .i64 t.seq.made] 3)
                    have x9 := Blk.new w8 3 #[.int .i64 t.seq.done, .int .i64 t.seq.made]
                    have hgx : g < w8.heap.size := h8.src.lt
                    clear h8 c67 c68
                    generalize w8.alloc (.cells #[.int .i64 t.seq.done, .int .i64 t.seq.made] 3) = w9 at *
                    generalize w8.heap.size = x at *
                    go_loopg [126] 2 (fun f i wr => ∃ k e, i = .int .i64 (k : Nat) ∧ k + f = 2 ∧ ([t.seq.done, t.seq.made].drop k).foldl (fun e n => note e (numOk n 65535) 1) e = note (note e6 (numOk t.seq.done 65535) 1) (numOk t.seq.made 65535) 1 ∧ WS t mv tv ev w q g p e wr ∧ Blk wr x 3 #[.int .i64 t.seq.done, .int .i64 t.seq.made])
                    case atStart => exact ⟨0, e6, rfl, by omega, rfl, h9, x9⟩
                    case round =>
                      obtain ⟨k, e, rfl, hkf, hfo, h10, x10⟩ := hrel
                      have HF := Lib.hid hfo
                      have HKF := Lib.hid hkf
                      have hkn : k ≤ 2 := by omega
                      clear hfo hkf h9 x9
                      by_cases hlt : k < 2
                      · cases gk with
                        | zero => exact absurd HKF.out (by omega)
                        | succ f =>
                          --<
                          obtain ⟨n, hn⟩ : ∃ n, [t.seq.done, t.seq.made][k]? = some n := ⟨[t.seq.done, t.seq.made][k], List.getElem?_eq_getElem hlt⟩
                          have HF2 := Lib.hid (show ([t.seq.done, t.seq.made].drop (k + 1)).foldl (fun e n => note e (numOk n 65535) 1) (note e (numOk n 65535) 1) = note (note e6 (numOk t.seq.done 65535) 1) (numOk t.seq.made 65535) 1 from by
                            rw [← HF.out, List.drop_eq_getElem_cons (l := [t.seq.done, t.seq.made]) hlt, List.foldl_cons, Option.some.inj ((List.getElem?_eq_getElem hlt).symm.trans hn)])
                          have ck : wr.cell? ⟨x, k, none⟩ = some (.int .i64 n) := by
                            rw [x10.cell]
                            match k, hlt, hn with
                            | 0, _, hn => simpa using hn
                            | 1, _, hn => simpa using hn
                          have HW := Lib.hid h10.must
                          have HO := Lib.hid (show numOk n 65535 = (decide (0 ≤ n) && decide (n ≤ 65535)) from rfl)
                          have X10 := Lib.hid x10
                          clear hn HF h10 x10
                          by_cases b1 : 0 ≤ n
                          · have HO2 := Lib.hid (show numOk n 65535 = decide (n ≤ 65535) from by rw [HO.out, decide_eq_true b1]; rfl)
                            go_wp2_with (first | (go_at_call 88; refine (longest2 _).mono ?_; rintro r w12 ⟨rfl, rfl⟩) | (go_at_call 44; refine (HW.out _ _).mono ?_; rintro r w11 ⟨rfl, h11, k11⟩))
                            go_roundg f
                            case measure => omega
                            case rel => exact ⟨k + 1, _, by go_num, by have := HKF.out; omega, HF2.out, by rw [HO2.out]; exact h11, X10.out.keep k11 (by unfold Only; omega)⟩
                          · have HO2 := Lib.hid (show numOk n 65535 = false from by rw [HO.out, decide_eq_false b1]; rfl)
                            have d1 := decide_eq_false b1
                            go_wp2_with (first | (go_at_call 44; refine (HW.out _ _).mono ?_; rintro r w11 ⟨rfl, h11, k11⟩))
                            go_roundg f
                            case measure => omega
                            case rel => exact ⟨k + 1, _, by go_num, by have := HKF.out; omega, HF2.out, by rw [HO2.out]; exact h11, X10.out.keep k11 (by unfold Only; omega)⟩
                          -->
                      · have H7 := Lib.hid (show e = note (note e6 (numOk t.seq.done 65535) 1) (numOk t.seq.made 65535) 1 from by rw [← HF.out, List.drop_of_length_le (by simp; omega)]; rfl)
                        clear HF HKF x10
                        have c66 := (h10.sq.cell 66).trans (seqC_at _ _).2.2.1
                        rw [← HT.out] at c66
                        go_upto_region 24 with fail
                        go_loopg [143] t.seq.todo.length (fun f i wr => ∃ k e', i = .int .i64 (k : Nat) ∧ k + f = t.seq.todo.length ∧ (t.seq.todo.drop k).foldl (fun e x => note e (numOk x.act 255) 1) e' = t.seq.todo.foldl (fun e x => note e (numOk x.act 255) 1) e ∧ WS t mv tv ev w q g p e' wr)
                        case atStart => exact ⟨0, e, rfl, by omega, rfl, h10⟩
                        case round =>
                          obtain ⟨k, e', rfl, hkf, hfo, h11⟩ := hrel
                          have HF := Lib.hid hfo
                          have HKF := Lib.hid hkf
                          have hkn : k ≤ t.seq.todo.length := by omega
                          clear hfo hkf h10 c66
                          by_cases hlt : k < t.seq.todo.length
                          · cases gk with
                            | zero => exact absurd HKF.out (by omega)
                            | succ f =>
                              obtain ⟨m, hm⟩ : ∃ m, t.seq.todo[k]? = some m := ⟨t.seq.todo[k], List.getElem?_eq_getElem hlt⟩
                              obtain ⟨g0, off, rfl, _, hc0⟩ := (HR.out _ h11.keep).2.1.at0 (by omega) (by omega)
                              have HF2 := Lib.hid (show (t.seq.todo.drop (k + 1)).foldl (fun e x => note e (numOk x.act 255) 1) (note e' (numOk m.act 255) 1) = t.seq.todo.foldl (fun e x => note e (numOk x.act 255) 1) e from by
                                rw [← HF.out, List.drop_eq_getElem_cons hlt, List.foldl_cons, Option.some.inj ((List.getElem?_eq_getElem hlt).symm.trans hm)])
                              have L0 := load_flat Tryz.underlying113 rfl info_todo todoL_len hc0 hm
                              have LL := Lib.hid L0
                              clear L0 hc0 hm HF
                              go_upto_region 26 with (first | (refine wpList_load rfl rfl rfl LL.out ?_) | (refine wpList_allocAgg rfl rfl (zero_todo _) ?_) | (refine wpList_storeBlk rfl rfl (vs := todoC m) rfl rfl (Blk.new _ _ _) (by rw [todoC_size, todoC_size]) (by rw [todoC_size]; exact info_todo) (todoL_one _) ?_; intro w12 x12 kc zc))
                              have h12 := h11.kept (Keep.ofNew kc)
                              generalize wr.heap.size = x at *
                              have c0 := (x12.cell 0).trans (todoC_at m)
                              have HW := Lib.hid h12.drew.must
                              have HO := Lib.hid (show numOk m.act 255 = (decide (0 ≤ m.act) && decide (m.act ≤ 255)) from rfl)
                              clear kc zc x12 h12 h11
                              by_cases b1 : 0 ≤ m.act
                              · have HO2 := Lib.hid (show numOk m.act 255 = decide (m.act ≤ 255) from by rw [HO.out, decide_eq_true b1]; rfl)
                                refine wp_region_still_tail 10 (by kernel_rfl) (by kernel_rfl) ?_; simp only [List.take_succ_cons, List.take_zero, List.drop_succ_cons, List.drop_zero]; repeat (first | ((with_reducible refine wpStill_step (fun K hK => ?_)); go_simp; with_reducible refine hK _ ?_; clear hK K) | ((with_reducible refine wpStill_skip ?_ ?_); (focus rfl)))
                                (with_reducible refine wpStill_step (fun K hK => ?_)); go_simp; (with_reducible refine ⟨_, still1 _, hK _ ?_⟩); clear hK K; repeat (first | ((with_reducible refine wpStill_step (fun K hK => ?_)); go_simp; with_reducible refine hK _ ?_; clear hK K) | ((with_reducible refine wpStill_skip ?_ ?_); (focus rfl)))
                                (with_reducible refine wpStill_nil ?_); change wpList _ _ _ _ _ w12.drew
                                go_wp2_with (first | (go_at_call 44; refine (HW.out _ _).mono ?_; rintro r w13 ⟨rfl, h13, _⟩))
                                go_roundg f
                                case measure => omega
                                case rel => exact ⟨k + 1, _, by go_num, by have := HKF.out; omega, HF2.out, by rw [HO2.out]; exact h13⟩
                              · have HO2 := Lib.hid (show numOk m.act 255 = false from by rw [HO.out, decide_eq_false b1]; rfl)
                                have d1 := decide_eq_false b1
                                refine wp_region_still_tail 10 (by kernel_rfl) (by kernel_rfl) ?_; simp only [List.take_succ_cons, List.take_zero, List.drop_succ_cons, List.drop_zero]; repeat (first | ((with_reducible refine wpStill_step (fun K hK => ?_)); go_simp; with_reducible refine hK _ ?_; clear hK K) | ((with_reducible refine wpStill_skip ?_ ?_); (focus rfl)))
                                (with_reducible refine wpStill_nil ?_); change wpList _ _ _ _ _ w12.drew
                                go_wp2_with (first | (go_at_call 44; refine (HW.out _ _).mono ?_; rintro r w13 ⟨rfl, h13, _⟩))
                                go_roundg f
                                case measure => omega
                                case rel => exact ⟨k + 1, _, by go_num, by have := HKF.out; omega, HF2.out, by rw [HO2.out]; exact h13⟩
                          · have H8 := Lib.hid (show e' = t.seq.todo.foldl (fun e x => note e (numOk x.act 255) 1) e from by rw [← HF.out, List.drop_of_length_le (by omega)]; rfl)
                            have a2 := h11.src.cell 2
                            simp at a2
                            go_wp2_with fail
                            go_ret
                            exact ⟨by rw [HFIN.out, HA.out, H8.out, H7.out]; rfl, h11.keep⟩
end Go.Proofs.YtppmolneklidfaaGreat
