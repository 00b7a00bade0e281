/-
  Contract of codec.EncodeTx. No statement of the seat is proved here.
-/
import Derived.Test.YtppmolneklidfaaTx3
namespace Go.Proofs.Ytppmolneklidfaa
open Go.RowKit

/-! ### Plain -/
def moveB (m : MoveD) : List UInt8 := be 1 m.name.size ++ (m.name.data.toList ++ (m.old.1 ++ (m.new_.1 ++ (be 2 m.why.size ++ m.why.data.toList))))
def memB (m : MemD) : List UInt8 := m.key.1 ++ (be 4 m.data.length ++ m.data)
def flagsN (t : TxD) : Nat := (if t.hasHead then 1 else 0) + (if t.hasSeq then 2 else 0)
def headB (t : TxD) : List UInt8 := if t.hasHead then be 1 t.head.size ++ t.head.data.toList else []
def seqsB (t : TxD) : List UInt8 := if t.hasSeq then seqB t.seq else []
def encTxB (t : TxD) : List UInt8 := be 1 (flagsN t) ++ (headB t ++ (be 2 t.moves.length ++ (t.moves.flatMap moveB ++ (seqsB t ++ (be 2 t.mem.length ++ t.mem.flatMap memB)))))
def encTx (t : TxD) : List UInt8 × Int := if wrongE t = 0 then (encTxB t, 0) else ([], wrongE t)
def EncTxPost (t : TxD) (w : World) (r : Ending) (w' : World) : Prop := ∃ A c, r = .returned (.tuple #[.slice A (encTx t).1.length c, .int .i64 (encTx t).2]) ∧ Own w' w.heap.size 5 1 A (encTx t).1.length c ((encTx t).1.map bv) ∧ Below w.heap.size w w'

theorem fold_note {α : Type} {p : α → Bool} {c : Int} (hc : c ≠ 0) : ∀ (l : List α) (e : Int), l.foldl (fun e x => note e (p x) c) e = 0 ↔ e = 0 ∧ ∀ x ∈ l, p x = true
  | [], e => by simp
  | x :: l, e => by
    rw [List.foldl_cons, fold_note hc l, note_zero hc]
    simp [and_assoc]
theorem wrongE_zero {t : TxD} (h : wrongE t = 0) : longE t = 0 ∧ kindFits t = true ∧ (asks t = true → numOk t.seq.done 65535 = true ∧ numOk t.seq.made 65535 = true ∧ ∀ x ∈ t.seq.todo, numOk x.act 255 = true) := by
  unfold wrongE argE at h
  cases ha : asks t
  · rw [ha, if_neg (by decide), note_zero (by decide)] at h
    exact ⟨h.1, h.2, fun h => by cases h⟩
  · rw [ha, if_pos rfl, fold_note (by decide), note_zero (by decide), note_zero (by decide), note_zero (by decide)] at h
    obtain ⟨⟨⟨⟨h1, h2⟩, h3⟩, h4⟩, h5⟩ := h
    exact ⟨h1, h2, fun _ => ⟨h3, h4, h5⟩⟩
theorem longE_zero {t : TxD} (h : longE t = 0) : manyOk t = true ∧ headOk t = true ∧ (∀ m ∈ t.moves, moveOk m = true) ∧ (∀ m ∈ t.mem, dataOk m = true) ∧ branchOk t = true := by
  unfold longE at h
  rw [note_zero (by decide), fold_note (by decide), fold_note (by decide), note_zero (by decide), note_zero (by decide)] at h
  obtain ⟨⟨⟨⟨⟨_, h1⟩, h2⟩, h3⟩, h4⟩, h5⟩ := h
  exact ⟨h1, h2, h3, h4, h5⟩
theorem numOk_le {n : Int} {k : Nat} (h : numOk n k = true) : 0 ≤ n ∧ n ≤ k := by
  unfold numOk at h
  simpa using h
theorem seqFits {t : TxD} (h : wrongE t = 0) (hs : t.hasSeq = true) : SeqFits t.seq := by
  obtain ⟨_, h2, h3⟩ := wrongE_zero h
  unfold kindFits at h2
  rw [hs] at h2
  have hk := numOk_le (n := t.seq.kind) (k := 255) (by simpa using h2)
  refine ⟨by omega, fun hne => ?_⟩
  have ha : asks t = true := by unfold asks; rw [hs]; simpa using hne
  obtain ⟨h4, h5, h6⟩ := h3 ha
  have a1 := numOk_le h4
  have a2 := numOk_le h5
  exact ⟨by omega, by omega, by omega, by omega, fun x hx => by have := numOk_le (h6 x hx); omega⟩
theorem still_truth (b : Bool) (n : Int) (w : World) : Calls Try.prog 73 #[.bool b, .int .u64 n] w fun r w' => r = .returned (.int .u64 (if b then n else 0)) ∧ w' = w := (truth_any b n w).mono fun _ _ h => ⟨h.1, h.2.symm⟩
theorem flat_le {α β : Type} (f : α → List β) (l : List α) (k : Nat) : ((l.take k).flatMap f).length ≤ (l.flatMap f).length := by
  conv => rhs; rw [← List.take_append_drop k l, List.flatMap_append, List.length_append]
  omega

set_option maxHeartbeats 8000000 in
set_option maxRecDepth 100000 in
theorem encodeTx_any (t : TxD) (mv tv ev : Value) (w : World) (hin : TxIn w w.heap.size t mv tv ev) (hh : t.head.size ≤ 9000000) (hsz : (encTxB t).length ≤ 140737488355328) :
    Calls Try.prog 31 #[.agg (txC t mv tv ev)] w (EncTxPost t w) := by
  have q0 : Blk (w.alloc (.cells (txC t mv tv ev) 70)) w.heap.size 70 (txC t mv tv ev) := Blk.new _ _ _
  have k0 : Keep Nothing w (w.alloc (.cells (txC t mv tv ev) 70)) := (Keep.refl _ _).alloc _
  go_enter Try.func31, Try.ntmps31
  go_upto_region 1 with (first | (refine wpList_boxed rfl rfl (cs := txC t _ _ _) rfl ?_))
  generalize w.alloc (.cells (txC t mv tv ev) 70) = w0 at *
  have z0 := k0.size
  have hin0 := (hin.below k0.all).more z0
  go_upto_region 2 with (first | (refine wpList_load rfl rfl rfl (load_whole q0 Try.underlying70 rfl (by rw [txC_size]; exact info_tx)) ?_) | (go_at_call 72; refine (wrong_any t mv tv ev _ hin0 hh).mono ?_; rintro r w1 ⟨rfl, k1⟩))
  have q1 := q0.keep k1 (fun x => x)
  have kk1 := k0.trans k1
  have z1 := k1.size
  clear q0 k0 k1 hin0
  by_cases he : wrongE t = 0
  · have HE := Lib.hid he
    rw [he]
    have HP := Lib.hid (show EncTxPost t w = fun r w' => ∃ A c, r = .returned (.tuple #[.slice A (encTxB t).length c, .int .i64 0]) ∧ Own w' w.heap.size 5 1 A (encTxB t).length c ((encTxB t).map bv) ∧ Below w.heap.size w w' from by unfold EncTxPost encTx; rw [if_pos he])
    clear he
    obtain ⟨Am, cm, rfl, rm, lm1, lm2⟩ := hin.mv
    obtain ⟨At, ct, rfl, rt, lt1, lt2⟩ := hin.tv
    obtain ⟨Ae, ce, rfl, re, le1, le2⟩ := hin.ev
    unfold maxLen at lm2 lt2 le2
    have HDATA := Lib.hid hin.data
    have HRM := Lib.hid rm
    have HRT := Lib.hid rt
    have HRE := Lib.hid re
    clear hin rm rt re
    go_upto_region 5 with fail
    have gn : Blk (w1.alloc (.cells #[.slice none 0 0, .int .i64 0, .int .i64 0] 92)) w1.heap.size 92 #[.slice none 0 0, .int .i64 0, .int .i64 0] := Blk.new _ _ _
    have h2 : WQ w w1.heap.size w.heap.size w.heap.size 70 (txC t (.slice Am t.moves.length cm) (.slice At t.seq.todo.length ct) (.slice Ae t.mem.length ce)) [] 0 (w1.alloc (.cells #[.slice none 0 0, .int .i64 0, .int .i64 0] 92)) :=
      ⟨⟨none, 0, gn, Own.nil _ _ _ _, by omega⟩, q1.alloc _, Kept.ofKeep (kk1.alloc _) (by unfold Nothing; simp), by simp; omega, by decide, by decide⟩
    have HBL := Lib.hid (show ∀ bs' W, WQ w w1.heap.size w.heap.size w.heap.size 70 (txC t (.slice Am t.moves.length cm) (.slice At t.seq.todo.length ct) (.slice Ae t.mem.length ce)) bs' 0 W → Below w.heap.size w W from fun _ _ h => h.below (Nat.le_refl _) (Nat.le_refl _))
    clear gn q1 kk1
    generalize w1.alloc (.cells #[.slice none 0 0, .int .i64 0, .int .i64 0] 92) = w2 at *
    generalize w1.heap.size = g at *
    generalize hgq : w.heap.size = q at *
    have HQ := Lib.hid hgq
    clear hgq z0 z1
    generalize hgm : Value.slice Am t.moves.length cm = mv at *
    generalize hgt : Value.slice At t.seq.todo.length ct = tv at *
    generalize hge : Value.slice Ae t.mem.length ce = ev at *
    have HM := Lib.hid hgm
    have HT := Lib.hid hgt
    have HEV := Lib.hid hge
    clear hgm hgt hge
    have HL := Lib.hid (show encTxB t = be 1 (flagsN t) ++ (headB t ++ (be 2 t.moves.length ++ (t.moves.flatMap moveB ++ (seqsB t ++ (be 2 t.mem.length ++ t.mem.flatMap memB))))) from rfl)
    have hlen : (encTxB t).length = 1 + ((headB t).length + (2 + ((t.moves.flatMap moveB).length + ((seqsB t).length + (2 + (t.mem.flatMap memB).length))))) := by
      rw [HL.out]; simp only [List.length_append, be_len]
    go_cut [5] (fun s5 wx => s5 = .pointer (some ⟨g, 0, none⟩) ∧ WQ w g q q 70 (txC t mv tv ev) (be 1 (flagsN t)) 0 wx)
    case first =>
      have a0 := (h2.blk.cell 0).trans txC_at.1
      have a3 := (h2.blk.cell 3).trans txC_at.2.2.2.1
      have h2' : WQ w g q q 70 (txC t mv tv ev) [] 0 w2.drew := h2.next h2.wt (Kept.drew (Kept.refl _ _ _ _))
      have HF := Lib.hid (show flagsN t = (if t.hasHead then 1 else 0) + (if t.hasSeq then 2 else 0) from rfl)
      clear h2
      generalize hf : flagsN t = fn at *
      clear hf
      cases h1 : t.hasHead
      all_goals cases h3 : t.hasSeq
      all_goals
        rw [h1] at a0 HF
        rw [h3] at a3 HF
        clear h1 h3
        refine wp_region_still_tail 8 (by kernel_rfl) (by kernel_rfl) ?_; simp only [List.take_succ_cons, List.take_zero, List.drop_succ_cons, List.drop_zero]; repeat (first | ((with_reducible refine wpStill_step (fun K hK => ?_)); go_simp; with_reducible refine hK _ ?_; clear hK K) | ((with_reducible refine wpStill_skip ?_ ?_); (focus rfl)))
        (with_reducible refine wpStill_step (fun K hK => ?_)); go_simp; (with_reducible refine ⟨_, still_truth _ _ _, hK _ ?_⟩); clear hK K; repeat (first | ((with_reducible refine wpStill_step (fun K hK => ?_)); go_simp; with_reducible refine hK _ ?_; clear hK K) | ((with_reducible refine wpStill_skip ?_ ?_); (focus rfl)))
        (with_reducible refine wpStill_step (fun K hK => ?_)); go_simp; (with_reducible refine ⟨_, still_truth _ _ _, hK _ ?_⟩); clear hK K; repeat (first | ((with_reducible refine wpStill_step (fun K hK => ?_)); go_simp; with_reducible refine hK _ ?_; clear hK K) | ((with_reducible refine wpStill_skip ?_ ?_); (focus rfl)))
        (with_reducible refine wpStill_nil ?_); change wpList _ _ _ _ _ w2.drew
        go_wp2_with fail
        refine (h2'.number 1 _ (by omega) (by simp)).mono ?_
        rintro r w3 ⟨rfl, h4, _⟩
        go_wp2_with fail
        go_meet
        exact ⟨rfl, by rw [HF.out]; exact h4⟩
    case rest =>
      obtain ⟨rfl, h3⟩ := hcut
      generalize wc = w3 at *
      have le1' : (be 1 (flagsN t)).length ≤ 1 := by simp [be_len]
      generalize hb1 : be 1 (flagsN t) = b1 at *
      have B1 := Lib.hid hb1
      clear hb1 h2
      have a0 := (h3.blk.cell 0).trans txC_at.1
      go_upto_if 27 with fail
      have HH := Lib.hid (show headB t = if t.hasHead then be 1 t.head.size ++ t.head.data.toList else [] from rfl)
      go_cut [5] (fun s5 wx => s5 = .pointer (some ⟨g, 0, none⟩) ∧ WQ w g q q 70 (txC t mv tv ev) (b1 ++ headB t) 0 wx)
      case first =>
        have a1 := (h3.blk.cell 1).trans txC_at.2.1
        clear a0
        cases h1 : t.hasHead
        · rw [h1] at HH
          clear h1
          go_wp2_with fail
          go_meet
          exact ⟨rfl, by rw [HH.out, if_neg (by decide), List.append_nil]; exact h3⟩
        · rw [h1] at HH
          clear h1
          go_wp2_with fail
          refine (h3.text 1 t.head (by omega) (by omega)).mono ?_
          rintro r w4 ⟨rfl, h4, _⟩
          go_wp2_with fail
          go_meet
          exact ⟨rfl, by rw [HH.out, if_pos trivial, ← List.append_assoc]; exact h4⟩
      case rest =>
        obtain ⟨rfl, h4⟩ := hcut
        generalize wc = w4 at *
        have le2' : (b1 ++ headB t).length ≤ 1 + (headB t).length := by rw [List.length_append]; omega
        generalize hb2 : b1 ++ headB t = b2 at *
        have B2 := Lib.hid hb2
        clear hb2 h3 a0 HH
        have hv0 := conv_u64 t.moves.length (by omega)
        have a2 := (h4.blk.cell 2).trans txC_at.2.2.1
        rw [← HM.out] at a2
        go_wp2_with fail
        refine (h4.number 2 t.moves.length (by omega) (by omega)).mono ?_
        rintro r w5 ⟨rfl, h5, _⟩
        have le3' : (b2 ++ be 2 t.moves.length).length ≤ 3 + (headB t).length := by rw [List.length_append, be_len]; omega
        generalize hb3 : b2 ++ be 2 t.moves.length = b3 at *
        have B3 := Lib.hid hb3
        clear hb3 h4 a2
        have a2 := (h5.blk.cell 2).trans txC_at.2.2.1
        rw [← HM.out] at a2
        go_wp2_with fail
        go_loopg [41] t.moves.length (fun f i wr => ∃ k, i = .int .i64 (k : Nat) ∧ k + f = t.moves.length ∧ WQ w g q q 70 (txC t mv tv ev) (b3 ++ (t.moves.take k).flatMap moveB) 0 wr)
        case atStart => exact ⟨0, rfl, by omega, by simpa using h5⟩
        case round =>
          obtain ⟨k, rfl, hkf, h6⟩ := hrel
          have HKF := Lib.hid hkf
          have hkn : k ≤ t.moves.length := by omega
          clear hkf h5 a2
          by_cases hlt : k < t.moves.length
          · cases gk with
            | zero => exact absurd HKF.out (by omega)
            | succ f =>
              --<
              obtain ⟨m, hm⟩ : ∃ m, t.moves[k]? = some m := ⟨t.moves[k], List.getElem?_eq_getElem hlt⟩
              have hrd := HRM.out.below (HBL.out _ _ h6)
              obtain ⟨g0, off, rfl, _, hc0⟩ := hrd.at0 (by omega) (by omega)
              have LL := Lib.hid (load_flat Try.underlying128 rfl info_move moveL_len hc0 hm)
              have HS := Lib.hid (flat_snoc moveB t.moves k m hm)
              have ml : (moveB m).length = 1 + (m.name.size + (32 + (32 + (2 + m.why.size)))) := by simp only [moveB, List.length_append, be_len, m.old.2, m.new_.2, ← Lib.size_eq]
              have le6 : (b3 ++ (t.moves.take k).flatMap moveB).length + (moveB m).length ≤ 3 + (headB t).length + (t.moves.flatMap moveB).length := by
                have := flat_le moveB t.moves (k + 1)
                rw [HS.out, List.length_append] at this
                rw [List.length_append]
                omega
              generalize hb6 : b3 ++ (t.moves.take k).flatMap moveB = b6 at *
              have B6 := Lib.hid hb6
              clear hb6 hm hc0 hrd
              go_upto_region 12 with (first | (refine wpList_load rfl rfl rfl LL.out ?_) | (refine wpList_allocAgg rfl rfl (zero_move _) ?_) | (refine wpList_storeBlk rfl rfl (vs := moveC m) rfl rfl (Blk.new _ _ _) (by rw [moveC_size, moveC_size]) (by rw [moveC_size]; exact info_move) (moveL_one _) ?_; intro w7 x7 kc zc))
              have h7 := h6.keepN (Keep.ofNew kc)
              have hyg : g < wr.heap.size := h6.lt
              generalize wr.heap.size = y at *
              clear kc zc LL h6
              have c0 := (x7.cell 0).trans (moveC_at m).1
              go_wp2_with fail
              refine (h7.text 1 m.name (by omega) (by omega)).mono ?_
              rintro r w8 ⟨rfl, h8, k8⟩
              have x8 := k8.blk x7 (by simp; omega) (by decide)
              have le8 : (b6 ++ be 1 m.name.size ++ m.name.data.toList).length = b6.length + 1 + m.name.size := by simp only [List.length_append, be_len, ← Lib.size_eq]
              generalize hb8 : b6 ++ be 1 m.name.size ++ m.name.data.toList = b8 at *
              have B8 := Lib.hid hb8
              have le8' : b8.length ≤ b6.length + 1 + m.name.size := by omega
              clear hb8 c0 x7 k8 h7 le8
              go_wp2_with (first | (refine wpList_load rfl rfl rfl (ldId_mid x8 (moveC_old m)) ?_))
              refine (h8.id m.old (by omega)).mono ?_
              rintro r w9 ⟨rfl, h9, k9⟩
              have x9 := k9.blk x8 (by simp; omega) (by decide)
              have le9' : (b8 ++ m.old.1).length ≤ b6.length + 33 + m.name.size := by simp only [List.length_append, m.old.2]; omega
              generalize hb9 : b8 ++ m.old.1 = b9 at *
              have B9 := Lib.hid hb9
              clear hb9 x8 k9 h8
              go_wp2_with (first | (refine wpList_load rfl rfl rfl (ldId_mid x9 (moveC_new m)) ?_))
              refine (h9.id m.new_ (by omega)).mono ?_
              rintro r w10 ⟨rfl, h10, k10⟩
              have x10 := k10.blk x9 (by simp; omega) (by decide)
              have le10' : (b9 ++ m.new_.1).length ≤ b6.length + 65 + m.name.size := by simp only [List.length_append, m.new_.2]; omega
              generalize hb10 : b9 ++ m.new_.1 = b10 at *
              have B10 := Lib.hid hb10
              clear hb10 x9 k10 h9
              have c65 := (x10.cell 65).trans (moveC_at m).2
              go_wp2_with fail
              refine (h10.text 2 m.why (by omega) (by omega)).mono ?_
              rintro r w11 ⟨rfl, h11, k11⟩
              go_wp2_with fail
              go_roundg f
              case measure => omega
              case rel =>
                refine ⟨k + 1, by go_num, by have := HKF.out; omega, ?_⟩
                have eqf : b3 ++ (t.moves.take (k + 1)).flatMap moveB = b10 ++ be 2 m.why.size ++ m.why.data.toList := by
                  rw [HS.out, ← B10.out, ← B9.out, ← B8.out, ← B6.out]
                  simp only [moveB, List.append_assoc]
                rw [eqf]
                exact h11
              -->
          · have ek : t.moves.take k = t.moves := List.take_of_length_le (by omega)
            rw [ek] at h6
            have le6 : (b3 ++ t.moves.flatMap moveB).length ≤ 3 + (headB t).length + (t.moves.flatMap moveB).length := by rw [List.length_append]; omega
            generalize hb6 : b3 ++ t.moves.flatMap moveB = b6 at *
            have B6 := Lib.hid hb6
            clear hb6 ek HKF
            have a3 := (h6.blk.cell 3).trans txC_at.2.2.2.1
            go_upto_if 63 with fail
            go_cut [5] (fun s5 wx => s5 = .pointer (some ⟨g, 0, none⟩) ∧ WQ w g q q 70 (txC t mv tv ev) (b6 ++ seqsB t) 0 wx)
            case first =>
              have HS := Lib.hid (show seqsB t = if t.hasSeq then seqB t.seq else [] from rfl)
              clear a3
              cases h1 : t.hasSeq
              · rw [h1] at HS
                clear h1
                go_wp2_with fail
                go_meet
                exact ⟨rfl, by rw [HS.out, if_neg (by decide), List.append_nil]; exact h6⟩
              · have hfit := seqFits HE.out h1
                rw [h1] at HS
                clear h1
                have ls : (seqsB t).length = (seqB t.seq).length := by rw [HS.out, if_pos rfl]
                have HFIT := Lib.hid hfit
                have L4 : (Instr.loadAt 67 (.pointer (some ⟨q, 4, none⟩))).run Try.prog wr = .ok (.agg (seqC t.seq tv)) wr := LdSeq.tx h6.blk
                rw [← HT.out] at L4
                clear hfit
                go_wp2_with (first | (refine wpList_load rfl rfl rfl L4 ?_))
                refine (wseq_any t.seq At ct q HFIT.out g q b6 0 _ h6.wt (Nat.le_refl _) h6.size (HRT.out.below (HBL.out _ _ h6)) lt1 lt2 (by omega)).mono ?_
                rintro r w7 ⟨rfl, t7, k7⟩
                have h7 := h6.next t7 k7
                go_wp2_with fail
                go_meet
                exact ⟨rfl, by rw [HS.out, if_pos trivial]; exact h7⟩
            case rest =>
              obtain ⟨rfl, h7⟩ := hcut
              generalize wc = w7 at *
              have le7' : (b6 ++ seqsB t).length ≤ 3 + (headB t).length + (t.moves.flatMap moveB).length + (seqsB t).length := by rw [List.length_append]; omega
              generalize hb7 : b6 ++ seqsB t = b7 at *
              have B7 := Lib.hid hb7
              clear hb7 h6 a3
              have hv1 := conv_u64 t.mem.length (by omega)
              have a74 := (h7.blk.cell 74).trans txC_at.2.2.2.2.2
              rw [← HEV.out] at a74
              go_wp2_with fail
              refine (h7.number 2 t.mem.length (by omega) (by omega)).mono ?_
              rintro r w8 ⟨rfl, h8, _⟩
              have le8' : (b7 ++ be 2 t.mem.length).length ≤ 5 + (headB t).length + (t.moves.flatMap moveB).length + (seqsB t).length := by rw [List.length_append, be_len]; omega
              generalize hb8 : b7 ++ be 2 t.mem.length = b8 at *
              have B8 := Lib.hid hb8
              clear hb8 h7 a74
              have a74 := (h8.blk.cell 74).trans txC_at.2.2.2.2.2
              rw [← HEV.out] at a74
              go_wp2_with fail
              go_loopg [77] t.mem.length (fun f i wr => ∃ k, i = .int .i64 (k : Nat) ∧ k + f = t.mem.length ∧ WQ w g q q 70 (txC t mv tv ev) (b8 ++ (t.mem.take k).flatMap memB) 0 wr)
              case atStart => exact ⟨0, rfl, by omega, by simpa using h8⟩
              case round =>
                obtain ⟨k, rfl, hkf, h9⟩ := hrel
                have HKF := Lib.hid hkf
                have hkn : k ≤ t.mem.length := by omega
                clear hkf h8 a74
                by_cases hlt : k < t.mem.length
                · cases gk with
                  | zero => exact absurd HKF.out (by omega)
                  | succ f =>
                    obtain ⟨m, hm⟩ : ∃ m, t.mem[k]? = some m := ⟨t.mem[k], List.getElem?_eq_getElem hlt⟩
                    have hrd := HRE.out.below (HBL.out _ _ h9)
                    obtain ⟨g0, off, rfl, _, hc0⟩ := hrd.at0 (by omega) (by omega)
                    have LL := Lib.hid (load_flat Try.underlying130 rfl info_mem memL_len hc0 hm)
                    have HS := Lib.hid (flat_snoc memB t.mem k m hm)
                    have hdt := HDATA.out m (List.mem_of_getElem? hm)
                    have hd1 : m.data.length ≤ 9223372036854775807 := by have := hdt.2; unfold maxLen at this; omega
                    have HDT := Lib.hid (show ∀ W, Below q w W → Reads W q 1 m.adr m.data.length (m.data.map byteV) from fun W h => hdt.1.below h)
                    have ml : (memB m).length = 32 + (4 + m.data.length) := by simp only [memB, List.length_append, be_len, m.key.2]
                    have le9 : (b8 ++ (t.mem.take k).flatMap memB).length + (memB m).length ≤ 5 + (headB t).length + (t.moves.flatMap moveB).length + (seqsB t).length + (t.mem.flatMap memB).length := by
                      have := flat_le memB t.mem (k + 1)
                      rw [HS.out, List.length_append] at this
                      rw [List.length_append]
                      omega
                    generalize hb9 : b8 ++ (t.mem.take k).flatMap memB = b9 at *
                    have B9 := Lib.hid hb9
                    clear hb9 hm hc0 hrd hdt
                    go_upto_region 23 with (first | (refine wpList_load rfl rfl rfl LL.out ?_) | (refine wpList_allocAgg rfl rfl (zero_mem _) ?_) | (refine wpList_storeBlk rfl rfl (vs := memC m) rfl rfl (Blk.new _ _ _) (by rw [memC_size, memC_size]) (by rw [memC_size]; exact info_mem) (memL_one _) ?_; intro w10 x10 kc zc))
                    have h10 := h9.keepN (Keep.ofNew kc)
                    have hyg : g < wr.heap.size := h9.lt
                    generalize wr.heap.size = y at *
                    clear kc zc LL h9
                    go_wp2_with (first | (refine wpList_load rfl rfl rfl (ldId_mid x10 (memC_id m)) ?_))
                    refine (h10.id m.key (by omega)).mono ?_
                    rintro r w11 ⟨rfl, h11, k11⟩
                    have x11 := k11.blk x10 (by simp; omega) (by decide)
                    have le11 : (b9 ++ m.key.1).length ≤ b9.length + 32 := by simp only [List.length_append, m.key.2]; omega
                    generalize hb11 : b9 ++ m.key.1 = b11 at *
                    have B11 := Lib.hid hb11
                    clear hb11 x10 k11 h10
                    have c32 := (x11.cell 32).trans (memC_at m)
                    have rd := HDT.out _ (HBL.out _ _ h11)
                    go_wp2_with (first | (refine wpList_convStr rfl rfl Try.underlying23 Try.underlying5 Try.underlying9 (l := m.data) rfl rd ?_))
                    have es : (⟨m.data.toArray⟩ : ByteArray).size = m.data.length := by simp [ByteArray.size]
                    refine (h11.text 4 ⟨m.data.toArray⟩ (by omega) (by rw [es]; omega)).mono ?_
                    rintro r w12 ⟨rfl, h12, _⟩
                    rw [es] at h12
                    clear es
                    go_wp2_with fail
                    go_roundg f
                    case measure => omega
                    case rel =>
                      refine ⟨k + 1, by go_num, by have := HKF.out; omega, ?_⟩
                      have eqf : b8 ++ (t.mem.take (k + 1)).flatMap memB = b11 ++ be 4 m.data.length ++ m.data := by
                        rw [HS.out, ← B11.out, ← B9.out]
                        simp only [memB, List.append_assoc]
                      rw [eqf]
                      simpa using h12
                · have ek : t.mem.take k = t.mem := List.take_of_length_le (by omega)
                  rw [ek] at h9
                  go_wp2_with fail
                  refine (wdone_any g q _ 0 _ h9.wt).mono ?_
                  rintro r w10 ⟨A, c, rfl, ho, k10⟩
                  have hdn : doneL (b8 ++ t.mem.flatMap memB) 0 = encTxB t := by
                    show (if (0 : Int) = 0 then _ else _) = _
                    rw [if_pos rfl, HL.out, ← B8.out, ← B7.out, ← B6.out, ← B3.out, ← B2.out, ← B1.out]
                    simp only [List.append_assoc]
                  rw [hdn] at ho ⊢
                  clear hdn hlen
                  have kf : Below q w w10 := (HBL.out _ _ h9).trans (k10.all.mono h9.size)
                  go_wp2_with fail
                  go_ret2
                  rw [HP.out]
                  exact ⟨A, c, rfl, ho, kf⟩
  · have h01 : (wrongE t != 0) = true := by simpa using he
    have HP := Lib.hid (show EncTxPost t w = fun r w' => ∃ A c, r = .returned (.tuple #[.slice A 0 c, .int .i64 (wrongE t)]) ∧ Own w' w.heap.size 5 1 A 0 c [] ∧ Below w.heap.size w w' from by unfold EncTxPost encTx; rw [if_neg he]; rfl)
    clear he
    go_wp2_with fail
    go_ret2
    rw [HP.out]
    exact ⟨none, 0, rfl, Own.nil _ _ _ _, kk1.all⟩
end Go.Proofs.Ytppmolneklidfaa
