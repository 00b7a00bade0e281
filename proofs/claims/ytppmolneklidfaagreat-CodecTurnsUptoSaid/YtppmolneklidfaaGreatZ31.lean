/-
  Texts of the codec joined (Tr3). No statement of the seat is proved here.
-/
import Derived.Test.YtppmolneklidfaaGreatZ30
namespace Go.Proofs.YtppmolneklidfaaGreat
open Go.RowKit

/-! ### What is wrong, in the reference's order -/
theorem note_er {e c : Int} {is : Bool} (h : e ≠ 0) : note e is c = e := by unfold note; rw [if_neg h]
theorem note_0 (is : Bool) (c : Int) : note 0 is c = if is then 0 else c := by unfold note; rw [if_pos rfl]
theorem fold_err {α : Type} {p : α → Bool} {c : Int} : ∀ (l : List α) {e : Int}, e ≠ 0 → l.foldl (fun e x => note e (p x) c) e = e
  | [], _, _ => rfl
  | x :: l, e, h => by rw [List.foldl_cons, note_er h, fold_err l h]
theorem fold_val {α : Type} {p : α → Bool} {c : Int} (hc : c ≠ 0) : ∀ (l : List α), l.foldl (fun e x => note e (p x) c) 0 = if l.all p then 0 else c
  | [] => rfl
  | x :: l => by
    rw [List.foldl_cons, note_0, List.all_cons]
    cases hx : p x
    · rw [if_neg (by decide), fold_err l hc, Bool.false_and, if_neg (by decide)]
    · rw [if_pos rfl, fold_val hc l, Bool.true_and]
theorem wrong_of {t : TxD} {e : Int} (h : longE t = e) (he : e ≠ 0) : wrongE t = e := by
  have hn := fun is c => note_er (is := is) (c := c) he
  unfold wrongE argE
  rw [h]
  simp only [hn, fold_err t.seq.todo he]
  split <;> rfl
theorem wrong_many {t : TxD} (h : manyOk t = false) : wrongE t = 4 := by
  refine wrong_of ?_ (by decide)
  have hn := fun is c => note_er (e := 4) (is := is) (c := c) (by decide)
  unfold longE
  rw [h, note_0, if_neg (by decide)]
  simp only [hn, fold_err t.moves (e := 4) (by decide), fold_err t.mem (e := 4) (by decide)]
theorem long_val {t : TxD} (h : manyOk t = true) (hd : ∀ m ∈ t.mem, dataOk m = true) : longE t = if longB t then 5 else 0 := by
  have hda : t.mem.all dataOk = true := List.all_eq_true.2 hd
  unfold longE longB
  rw [h, note_0, if_pos rfl, note_0]
  have hn := fun is c => note_er (e := 5) (is := is) (c := c) (by decide)
  cases h1 : headOk t
  · rw [if_neg (by decide)]
    simp only [hn, fold_err t.moves (e := 5) (by decide), fold_err t.mem (e := 5) (by decide)]
    rfl
  · rw [if_pos rfl, fold_val (by decide)]
    cases h2 : t.moves.all moveOk
    · rw [if_neg (by decide), Bool.and_false]
      simp only [hn, fold_err t.mem (e := 5) (by decide)]
      rfl
    · rw [if_pos rfl, fold_val (by decide), hda, if_pos rfl, note_0]
      cases h3 : branchOk t <;> rfl
theorem wrong_long {t : TxD} (h : manyOk t = true) (hl : longB t = true) (hd : ∀ m ∈ t.mem, dataOk m = true) : wrongE t = 5 := wrong_of (by rw [long_val h hd, if_pos hl]) (by decide)
theorem wrong_arg {t : TxD} (h : manyOk t = true) (hl : longB t = false) (hd : ∀ m ∈ t.mem, dataOk m = true) : wrongE t = if (!t.hasSeq || seqOk t.seq) then 0 else 1 := by
  have h1 : longE t = 0 := by rw [long_val h hd, if_neg (by rw [hl]; decide)]
  have hn := fun is c => note_er (e := 1) (is := is) (c := c) (by decide)
  have hf := fold_err (p := fun x : TodoD => numOk x.act 255) (c := 1) t.seq.todo (e := 1) (by decide)
  unfold wrongE argE seqOk
  rw [h1, note_0]
  unfold asks kindFits
  cases h2 : t.hasSeq
  · rfl
  · simp only [Bool.true_and, Bool.not_true, Bool.false_or]
    have hk : (t.seq.kind != 0) = !decide (t.seq.kind = 0) := rfl
    rw [hk]
    cases h3 : numOk t.seq.kind 255
    · simp only [Bool.false_and, Bool.false_eq_true, if_false]
      simp only [hn, hf]
      split <;> rfl
    · simp only [Bool.true_and, if_true]
      by_cases h4 : t.seq.kind = 0
      · simp [h4]
      · simp only [h4, decide_false, Bool.not_false, if_true, Bool.false_or, note_0]
        cases h5 : numOk t.seq.done 65535
        · simp only [Bool.false_eq_true, if_false, Bool.false_and, Bool.and_false]
          rw [hn, hf]
        · simp only [if_true, Bool.true_and, note_0]
          cases h6 : numOk t.seq.made 65535
          · simp only [Bool.false_eq_true, if_false, Bool.and_false]
            rw [hf]
          · simp only [if_true, Bool.and_true]
            rw [fold_val (p := fun x : TodoD => numOk x.act 255) (by decide)]

theorem Own.fresh1 {w : World} {g base : Nat} {e : TypeId} {v : Value} (h : w.heap[g]? = some (.cells #[v] e (0, 0))) (hb : base ≤ g) : Own w base e 1 (some ⟨g, 0, none⟩) 1 1 [v] :=
  ⟨by simp, .inr ⟨g, 1, #[v], rfl, hb, h, Nat.le_refl _, by unfold maxLen; omega, by simp, by simp⟩⟩

theorem Reads.row {w : World} {B C n g off : Nat} {xs : List Value} (h : Reads w B C (some ⟨g, off, none⟩) n xs) (hn : 0 < n) : ∀ j u, xs[j]? = some u → w.cell? ⟨g, off + j, none⟩ = some u := by
  obtain ⟨ad, e, _, hc⟩ := h.2 hn
  injection e with e
  subst e
  exact fun j u hj => by rw [← add_at]; exact hc j u hj
theorem moveL_ids (m : MoveD) : (∀ r u, (idL m.old)[r]? = some u → (moveL m)[1 + r]? = some u) ∧ (∀ r u, (idL m.new_)[r]? = some u → (moveL m)[33 + r]? = some u) := by
  have h1 := idL_len m.old
  have h2 := idL_len m.new_
  constructor
  · intro r u hr
    have hlt : r < 32 := by
      rcases Nat.lt_or_ge r 32 with q | q
      · exact q
      · rw [List.getElem?_eq_none (by rw [h1]; exact q)] at hr; cases hr
    rw [Nat.add_comm]
    simp only [moveL, List.getElem?_cons_succ]
    rw [List.getElem?_append_left (by rw [h1]; exact hlt)]
    exact hr
  · intro r u hr
    have hlt : r < 32 := by
      rcases Nat.lt_or_ge r 32 with q | q
      · exact q
      · rw [List.getElem?_eq_none (by rw [h2]; exact q)] at hr; cases hr
    rw [show 33 + r = (32 + r) + 1 from by omega]
    simp only [moveL, List.getElem?_cons_succ]
    rw [List.getElem?_append_right (by rw [h1]; omega), h1, show 32 + r - 32 = r from by omega, List.getElem?_append_left (by rw [h2]; exact hlt)]
    exact hr
theorem EncTxPost.bad {t : TxD} {w w' : World} {e : Int} (h : wrongE t = e) (he : e ≠ 0) (hk : Below w.heap.size w w') : EncTxPost t w (.returned (.tuple #[.slice none 0 0, .int .i64 e])) w' := by
  unfold EncTxPost encTx
  rw [h, if_neg he]
  exact ⟨none, 0, rfl, Own.nil _ _ _ _, hk⟩
theorem EncTxPost.good {t : TxD} {w w' : World} {l : List UInt8} {A : Option Addr} {c : Nat} (h : wrongE t = 0) (hl : encTxB t = l) (ho : Own w' w.heap.size 5 1 A l.length c (l.map bv)) (hk : Below w.heap.size w w') : EncTxPost t w (.returned (.tuple #[.slice A l.length c, .int .i64 0])) w' := by
  unfold EncTxPost encTx
  rw [h, if_pos rfl, hl]
  exact ⟨A, c, rfl, ho, hk⟩

attribute [local go_sem ↓] ld_id
set_option maxHeartbeats 16000000 in
set_option maxRecDepth 100000 in
theorem rencodeTx_any (t : TxD) (mv tv ev : Value) (w : World) (hin : TxIn w w.heap.size t mv tv ev) (hdat : ∀ m ∈ t.mem, dataOk m = true) (hsz : (encTxB t).length ≤ 140737488355328) :
    Calls Tryz.prog 8 #[.agg (txC t mv tv ev)] w (EncTxPost t w) := by
  have q0 : Blk (w.alloc (.cells (txC t mv tv ev) 34)) w.heap.size 34 (txC t mv tv ev) := Blk.new _ _ _
  have k0 : Keep Nothing w (w.alloc (.cells (txC t mv tv ev) 34)) := (Keep.refl _ _).alloc _
  go_enter Tryz.func8, Tryz.ntmps8
  go_upto_region 1 with (first | (refine wpList_boxed rfl rfl (cs := txC t _ _ _) rfl ?_))
  generalize w.alloc (.cells (txC t mv tv ev) 34) = w0 at *
  have z0 := k0.size
  have HIN := Lib.hid ((hin.below k0.all).more z0)
  have HWM := Lib.hid (wrong_many (t := t))
  have HWL := Lib.hid (fun h1 h2 => wrong_long (t := t) h1 h2 hdat)
  have HWA := Lib.hid (fun h1 h2 => wrong_arg (t := t) h1 h2 hdat)
  have HDOK := Lib.hid hdat
  obtain ⟨Am, cm, rfl, rm, lm1, lm2⟩ := hin.mv
  obtain ⟨At, ct, rfl, rt, lt1, lt2⟩ := hin.tv
  obtain ⟨Ae, ce, rfl, re, le1, le2⟩ := hin.ev
  unfold maxLen at lm2 lt2 le2
  have HDATA := Lib.hid hin.data
  have HRM := Lib.hid rm
  have HRT := Lib.hid rt
  have HRE := Lib.hid re
  clear hin rm rt re hdat
  have HFB := Lib.hid (show ∀ e W, wrongE t = e → e ≠ 0 → Keep Nothing w W → EncTxPost t w (.returned (.tuple #[.slice none 0 0, .int .i64 e])) W from fun e W h1 h2 h3 => EncTxPost.bad h1 h2 h3.all)
  have a2 := (q0.cell 2).trans txC_at.2.2.1
  have a3 := (q0.cell 3).trans txC_at.2.2.2.1
  have a4 := (q0.cell 4).trans txC_at.2.2.2.2.1
  have a74 := (q0.cell 74).trans txC_at.2.2.2.2.2
  have a70 := (q0.cell 70).trans (show (txC t (.slice Am t.moves.length cm) (.slice At t.seq.todo.length ct) (.slice Ae t.mem.length ce))[70]? = some (.slice At t.seq.todo.length ct) from by
    have h := (seqC_at t.seq (.slice At t.seq.todo.length ct)).2.2.1
    have e : (txC t (.slice Am t.moves.length cm) (.slice At t.seq.todo.length ct) (.slice Ae t.mem.length ce))[70]? = (seqL t.seq (.slice At t.seq.todo.length ct) ++ [.slice Ae t.mem.length ce])[66]? := by simp only [txC, txL, List.getElem?_toArray, List.getElem?_cons_succ]
    rw [e, List.getElem?_append_left (by rw [seqL_len]; omega)]
    simpa only [seqC, List.getElem?_toArray] using h)
  go_cut [35] (fun s35 wx => s35 = .bool (!manyOk t) ∧ w0 = wx)
  case first =>
    --<
    have HMO := Lib.hid (show manyOk t = (decide (t.moves.length ≤ 65535) && decide (t.mem.length ≤ 65535) && (!asks t || decide (t.seq.todo.length ≤ 65535))) from rfl)
    have HAS := Lib.hid (show asks t = (t.hasSeq && (t.seq.kind != 0)) from rfl)
    have HB := Lib.hid (show ∀ z, (!manyOk t) = z → Value.bool z = Value.bool (!manyOk t) from fun z h => by rw [h])
    clear q0 k0 HIN HWM HWL HWA HDATA HRM HRT HRE HFB
    by_cases b1 : t.moves.length ≤ 65535
    all_goals by_cases b2 : t.mem.length ≤ 65535
    all_goals by_cases b4 : t.seq.todo.length ≤ 65535
    all_goals by_cases b3 : t.seq.kind = 0
    all_goals cases h2 : t.hasSeq
    all_goals
      rw [h2] at a3 HAS
      have hk : (t.seq.kind != 0) = !decide (t.seq.kind = 0) := rfl
      have d1 : decide ((65535 : Int) < (t.moves.length : Int)) = !decide (t.moves.length ≤ 65535) := by rw [← decide_not]; exact decide_eq_decide.2 (by omega)
      have d2 : decide ((65535 : Int) < (t.mem.length : Int)) = !decide (t.mem.length ≤ 65535) := by rw [← decide_not]; exact decide_eq_decide.2 (by omega)
      have d4 : decide ((65535 : Int) < (t.seq.todo.length : Int)) = !decide (t.seq.todo.length ≤ 65535) := by rw [← decide_not]; exact decide_eq_decide.2 (by omega)
      have HK := Lib.hid hk
      simp only [b1, b2, b3, b4, decide_true, decide_false, Bool.not_true, Bool.not_false] at hk d1 d2 d4
      clear h2
      go_wp2_with fail
      go_meet
      refine ⟨HB.out _ ?_, rfl⟩
      rw [HMO.out, HAS.out, HK.out]
      simp only [b1, b2, b3, b4, decide_true, decide_false]
      rfl
    -->
  case rest =>
    obtain ⟨rfl, rfl⟩ := hcut
    clear a2 a3 a4 a74 a70
    cases hmo : manyOk t with
    | false =>
      have HW := Lib.hid (HWM.out hmo)
      clear hmo
      go_wp2_with fail
      go_ret2
      exact HFB.out 4 _ HW.out (by decide) k0
    | true =>
      have HMO := Lib.hid hmo
      clear hmo
      go_upto_if 37 with (first | (refine wpList_load rfl rfl rfl (load_whole q0 Tryz.underlying34 rfl (by rw [txC_size]; exact info_tx)) ?_) | (go_at_call 21; refine (long_any t _ _ _ _ HIN.out).mono ?_; rintro r w1 ⟨rfl, k1⟩))
      have q1 := q0.keep k1 (fun x => x)
      have kk1 := k0.trans k1
      have z1 := k1.size
      clear q0 k0 k1 HIN
      cases hlb : longB t with
      | true =>
        have HW := Lib.hid (HWL.out HMO.out hlb)
        clear hlb
        go_wp2_with fail
        go_ret2
        exact HFB.out 5 _ HW.out (by decide) kk1
      | false =>
        have HW := Lib.hid (HWA.out HMO.out hlb)
        have HLB := Lib.hid hlb
        clear hlb HWL HWA HWM
        have a0 := (q1.cell 0).trans txC_at.1
        have a3 := (q1.cell 3).trans txC_at.2.2.2.1
        go_upto_if 39 with fail
        go_cut [4] (fun s4 wx => s4 = .int .u8 (((if t.hasHead then 1 else 0 : Nat) : Nat) : Int) ∧ w1 = wx)
        case first =>
          clear a0
          cases h1 : t.hasHead
          all_goals
            have H1 := Lib.hid h1
            clear h1
            go_wp2_with fail
            go_meet
            exact ⟨by rw [H1.out]; rfl, rfl⟩
        case rest =>
          obtain ⟨rfl, rfl⟩ := hcut
          generalize hf1 : (if t.hasHead then 1 else 0 : Nat) = f1 at *
          have hf1l : f1 ≤ 1 := by rw [← hf1]; split <;> omega
          have HF1 := Lib.hid hf1
          clear hf1
          go_upto_if 41 with fail
          go_cut [4] (fun s4 wx => s4 = .int .u8 ((flagsN t : Nat) : Int) ∧ w1 = wx)
          case first =>
            have HFN := Lib.hid (show flagsN t = f1 + (if t.hasSeq then 2 else 0) from by unfold flagsN; rw [HF1.out])
            clear a3
            cases h1 : t.hasSeq
            · rw [h1] at HFN
              clear h1
              go_wp2_with fail
              go_meet
              exact ⟨by rw [HFN.out]; rfl, rfl⟩
            · rw [h1] at HFN
              clear h1
              have hwf : IntKind.u8.wrap ((f1 : Int) + 2) = (f1 : Int) + 2 := by simp [IntKind.wrap, IntKind.signed, IntKind.bits]; omega
              go_wp2_with fail
              go_meet
              exact ⟨by rw [HFN.out]; rfl, rfl⟩
          case rest =>
            obtain ⟨rfl, rfl⟩ := hcut
            have hfl : flagsN t ≤ 3 := by unfold flagsN; split <;> split <;> omega
            generalize hfn : flagsN t = fn at *
            have HFN := Lib.hid hfn
            clear hfn HF1 hf1l a0 a3
            go_upto_region 11 with fail
            have ebv : Value.int .u8 (fn : Int) = bv (UInt8.ofNat fn) := by
              have e : (UInt8.ofNat fn).toNat = fn := by simp; omega
              unfold bv
              rw [e]
            have h2 : SQ w w.heap.size w.heap.size 34 (txC t (.slice Am t.moves.length cm) (.slice At t.seq.todo.length ct) (.slice Ae t.mem.length ce)) (be 1 fn) (some ⟨w1.heap.size, 0, none⟩) 1 (w1.alloc (.cells #[.int .u8 (fn : Int)] 5)) := by
              refine ⟨?_, q1.alloc _, Kept.ofKeep (kk1.alloc _) (by unfold Nothing; simp), by simp; omega, by decide⟩
              have := Own.fresh1 (e := 5) (base := w.heap.size) (heap_alloc_new w1 (.cells #[.int .u8 (fn : Int)] 5)) (by omega)
              rw [ebv] at this ⊢
              simpa [be] using this
            have HBL := Lib.hid (show ∀ bs' A' c' W, SQ w w.heap.size w.heap.size 34 (txC t (.slice Am t.moves.length cm) (.slice At t.seq.todo.length ct) (.slice Ae t.mem.length ce)) bs' A' c' W → Below w.heap.size w W from fun _ _ _ _ h => h.below (Nat.le_refl _) (Nat.le_refl _))
            clear ebv
            have HGB := Lib.hid (show ∀ W, wrongE t = 1 → Below w.heap.size w W → EncTxPost t w (.returned (.tuple #[.slice none 0 0, .int .i64 1])) W from fun W h1 h3 => EncTxPost.bad h1 (by decide) h3)
            have HGG := Lib.hid (show ∀ l A c W, wrongE t = 0 → encTxB t = l → Own W w.heap.size 5 1 A l.length c (l.map bv) → Below w.heap.size w W → EncTxPost t w (.returned (.tuple #[.slice A l.length c, .int .i64 0])) W from fun l A c W h1 h2 h3 h4 => EncTxPost.good h1 h2 h3 h4)
            clear q1 kk1 HFB
            generalize w1.alloc (.cells #[.int .u8 (fn : Int)] 5) = w2 at *
            generalize w1.heap.size = g1 at *
            generalize hgq : w.heap.size = q at *
            clear hgq z0 z1
            have HL := Lib.hid (show encTxB t = be 1 fn ++ (headB t ++ (be 2 t.moves.length ++ (t.moves.flatMap moveB ++ (seqsB t ++ (be 2 t.mem.length ++ t.mem.flatMap memB))))) from by unfold encTxB; rw [HFN.out])
            have hlen : (encTxB t).length = 1 + ((headB t).length + (2 + ((t.moves.flatMap moveB).length + ((seqsB t).length + (2 + (t.mem.flatMap memB).length))))) := by
              rw [HL.out]; simp only [List.length_append, be_len]
            have HLN := Lib.hid hlen
            have hle : 1 + ((headB t).length + (2 + ((t.moves.flatMap moveB).length + ((seqsB t).length + (2 + (t.mem.flatMap memB).length))))) ≤ 140737488355328 := by omega
            clear hlen
            have le1' : (be 1 fn).length = 1 := by simp [be_len]
            have E1 := Lib.hid le1'
            generalize hb1 : be 1 fn = b1 at *
            have B1 := Lib.hid hb1
            have le1 : b1.length ≤ 1 := by omega
            clear hb1 le1'
            have HLX := Lib.hid (show headOk t = true ∧ branchOk t = true ∧ t.moves.all moveOk = true from by
              have := HLB.out
              unfold longB at this
              simp only [Bool.not_eq_false', Bool.and_eq_true] at this
              exact ⟨this.1.1, this.1.2, this.2⟩)
            have a0 := (h2.blk.cell 0).trans txC_at.1
            go_upto_if 47 with fail
            have e5 : Value.slice (some ⟨g1, 0, none⟩) 1 1 = Value.slice (some ⟨g1, 0, none⟩) b1.length 1 := by rw [E1.out]
            rw [e5]
            clear e5
            go_cut [5] (fun s5 wx => ∃ A3 c3, s5 = .slice A3 (b1 ++ headB t).length c3 ∧ SQ w q q 34 (txC t (.slice Am t.moves.length cm) (.slice At t.seq.todo.length ct) (.slice Ae t.mem.length ce)) (b1 ++ headB t) A3 c3 wx)
            case first =>
              --<
              have HH := Lib.hid (show headB t = if t.hasHead then be 1 t.head.size ++ t.head.data.toList else [] from rfl)
              have HHO := Lib.hid (show (!t.hasHead || decide (t.head.size ≤ 255)) = true from HLX.out.1)
              clear a0
              have a1 := (h2.blk.cell 1).trans txC_at.2.1
              cases h1 : t.hasHead
              · rw [h1] at HH
                have eh : b1 ++ headB t = b1 := by rw [HH.out, if_neg (by decide), List.append_nil]
                have EH := Lib.hid eh
                clear h1 eh
                go_wp2_with fail
                go_meet
                exact ⟨_, 1, by rw [EH.out], by rw [EH.out]; exact h2⟩
              · rw [h1] at HH HHO
                have hh : t.head.size ≤ 255 := by have := HHO.out; simpa using this
                have eh : b1 ++ headB t = b1 ++ be 1 t.head.size ++ t.head.data.toList := by rw [HH.out, if_pos rfl, List.append_assoc]
                have EH := Lib.hid eh
                clear h1 eh
                go_wp2_with fail
                refine (h2.text 1 t.head (.inl ⟨rfl, hh⟩) (by omega)).mono ?_
                rintro r w3 ⟨A3, c3, rfl, h3, _⟩
                generalize b1 ++ be 1 t.head.size ++ t.head.data.toList = b3 at *
                go_wp2_with fail
                go_meet
                exact ⟨A3, c3, by rw [EH.out], by rw [EH.out]; exact h3⟩
              -->
            case rest =>
              obtain ⟨A3, c3, rfl, h3⟩ := hcut
              generalize wc = w3 at *
              have le2' : (b1 ++ headB t).length ≤ 1 + (headB t).length := by rw [List.length_append]; omega
              generalize hb2 : b1 ++ headB t = b2 at *
              have B2 := Lib.hid hb2
              clear hb2 h2 a0
              have hv0 := conv_u64 t.moves.length (by omega)
              have a2 := (h3.blk.cell 2).trans txC_at.2.2.1
              go_wp2_with fail
              refine (h3.num 2 t.moves.length (by omega) (by omega)).mono ?_
              rintro r w4 ⟨A4, c4, rfl, h4, _⟩
              have le3' : (b2 ++ be 2 t.moves.length).length ≤ 3 + (headB t).length := by rw [List.length_append, be_len]; omega
              generalize hb3 : b2 ++ be 2 t.moves.length = b3 at *
              have B3 := Lib.hid hb3
              clear hb3 h3 a2
              go_wp2_with fail
              go_loopg [5, 6] t.moves.length (fun f s5 i wr => ∃ k A5 c5, i = .int .i64 (k : Nat) ∧ k + f = t.moves.length ∧ s5 = .slice A5 (b3 ++ (t.moves.take k).flatMap moveB).length c5 ∧ SQ w q q 34 (txC t (.slice Am t.moves.length cm) (.slice At t.seq.todo.length ct) (.slice Ae t.mem.length ce)) (b3 ++ (t.moves.take k).flatMap moveB) A5 c5 wr)
              case atStart => exact ⟨0, A4, c4, rfl, by omega, by simp, by simpa using h4⟩
              case round =>
                obtain ⟨k, A5, c5, rfl, hkf, rfl, h5⟩ := hrel
                have HKF := Lib.hid hkf
                have hkn' : k ≤ t.moves.length := by omega
                clear hkf h4
                by_cases hlt : k < t.moves.length
                · cases gk with
                  | zero => exact absurd HKF.out (by omega)
                  | succ f =>
                    --<
                    obtain ⟨m, hm⟩ : ∃ m, t.moves[k]? = some m := ⟨t.moves[k], List.getElem?_eq_getElem hlt⟩
                    have hrd := HRM.out.below (HBL.out _ _ _ _ h5)
                    obtain ⟨g0, off, rfl, _, hc0⟩ := hrd.at0 (by omega) (by omega)
                    have HROW := Lib.hid (show ∀ bs' A' c' W, SQ w q q 34 (txC t (.slice (some ⟨g0, off, none⟩) t.moves.length cm) (.slice At t.seq.todo.length ct) (.slice Ae t.mem.length ce)) bs' A' c' W → ∀ j u, (moveLs t.moves)[j]? = some u → W.cell? ⟨g0, off + j, none⟩ = some u from fun bs' A' c' W h => (HRM.out.below (HBL.out _ _ _ _ h)).row (by omega))
                    have HMM := Lib.hid hm
                    have hok : moveOk m = true := List.all_eq_true.1 HLX.out.2.2 m (List.mem_of_getElem? hm)
                    have hn1 : m.name.size ≤ 255 ∧ m.why.size ≤ 65535 := by unfold moveOk at hok; simpa using hok
                    obtain ⟨hn1, hn2⟩ := hn1
                    have HS := Lib.hid (flat_snoc moveB t.moves k m hm)
                    have ml : (moveB m).length = 1 + (m.name.size + (32 + (32 + (2 + m.why.size)))) := by simp only [moveB, List.length_append, be_len, m.old.2, m.new_.2, ← Lib.size_eq]
                    have le6 : (b3 ++ (t.moves.take k).flatMap moveB).length + (moveB m).length ≤ 3 + (headB t).length + (t.moves.flatMap moveB).length := by
                      have := flat_le moveB t.moves (k + 1)
                      rw [HS.out, List.length_append] at this
                      rw [List.length_append]
                      omega
                    have le6b : (b3 ++ (t.moves.take k).flatMap moveB).length + (69 + m.name.size + m.why.size - 2) ≤ 140737488355328 := by omega
                    clear ml le6 hok hm hc0 hrd
                    generalize hb6 : b3 ++ (t.moves.take k).flatMap moveB = b6 at *
                    have B6 := Lib.hid hb6
                    clear hb6
                    have c2 := (h5.blk.cell 2).trans txC_at.2.2.1
                    have e0 := HROW.out _ _ _ _ h5 _ _ (flat_at moveL_len t.moves k 0 m HMM.out (.string m.name) (by simp [moveL]))
                    rw [Nat.add_zero] at e0
                    go_wp2_with fail
                    refine (h5.text 1 m.name (.inl ⟨rfl, hn1⟩) (by omega)).mono ?_
                    rintro r w7 ⟨A7, c7, rfl, h7, _⟩
                    have le7 : (b6 ++ be 1 m.name.size ++ m.name.data.toList).length ≤ b6.length + 1 + m.name.size := by simp only [List.length_append, be_len, ← Lib.size_eq]; omega
                    generalize hb7 : b6 ++ be 1 m.name.size ++ m.name.data.toList = b7 at *
                    have B7 := Lib.hid hb7
                    clear hb7 c2 e0 h5
                    go_upto_region 18 with fail
                    go_cut [5] (fun s5 wx => ∃ A9 c9, s5 = .slice A9 (b7 ++ m.old.1 ++ m.new_.1).length c9 ∧ SQ w q q 34 (txC t (.slice (some ⟨g0, off, none⟩) t.moves.length cm) (.slice At t.seq.todo.length ct) (.slice Ae t.mem.length ce)) (b7 ++ m.old.1 ++ m.new_.1) A9 c9 wx)
                    case first =>
                      have hd := h7.drew
                      have c2 := (h7.blk.cell 2).trans txC_at.2.2.1
                      have L1 : (LdId (.pointer (some ⟨g0, off + k * 66 + 1, none⟩))).run Tryz.prog w7.drew = _ := ldId_row moveL_len (HROW.out _ _ _ _ hd) HMM.out (moveL_ids m).1
                      have L2 : (LdId (.pointer (some ⟨g0, off + k * 66 + 33, none⟩))).run Tryz.prog w7.drew = _ := ldId_row moveL_len (HROW.out _ _ _ _ hd) HMM.out (moveL_ids m).2
                      have P1 := Lib.hid (hd.put m.old (by omega))
                      have hi1 : (k : Int) < (t.moves.length : Int) := by omega
                      have le3 : (b7 ++ m.old.1).length ≤ b7.length + 32 := by simp only [List.length_append, m.old.2]; omega
                      generalize hb8 : b7 ++ m.old.1 = b8 at *
                      clear hb8
                      go_region_law (first | (go_simp; go_at_call 18; (with_reducible refine P1.out.mono ?_); rintro r w8 ⟨A8, c8, rfl, h8, _⟩; have L3 : (LdId (.pointer (some ⟨g0, off + k * 66 + 33, none⟩))).run Tryz.prog w8 = _ := ldId_row moveL_len (HROW.out _ _ _ _ h8) HMM.out (moveL_ids m).2; have c2' := (h8.blk.cell 2).trans txC_at.2.2.1) | (go_simp; go_at_call 18; (with_reducible refine (h8.put m.new_ (by omega)).mono ?_); rintro r w9 ⟨A9, c9, rfl, h9, _⟩))
                      all_goals
                        go_wp2_with fail
                        go_meet
                        exact ⟨A9, c9, by rw [List.length_append], h9⟩
                    case rest =>
                      obtain ⟨A9, c9, rfl, h9⟩ := hcut
                      generalize wc = w9 at *
                      have le9 : (b7 ++ m.old.1 ++ m.new_.1).length ≤ b7.length + 64 := by simp only [List.length_append, m.old.2, m.new_.2]; omega
                      generalize hb9 : b7 ++ m.old.1 ++ m.new_.1 = b9 at *
                      have B9 := Lib.hid hb9
                      clear hb9 h7
                      have c2 := (h9.blk.cell 2).trans txC_at.2.2.1
                      have e65 := HROW.out _ _ _ _ h9 _ _ (flat_at moveL_len t.moves k 65 m HMM.out (.string m.why) (by have := (moveC_at m).2; simpa [moveC] using this))
                      rw [← Nat.add_assoc] at e65
                      go_wp2_with fail
                      refine (h9.text 2 m.why (.inr (.inl ⟨rfl, hn2⟩)) (by omega)).mono ?_
                      rintro r w10 ⟨A10, c10, rfl, h10, _⟩
                      have eqf : b3 ++ (t.moves.take (k + 1)).flatMap moveB = b9 ++ be 2 m.why.size ++ m.why.data.toList := by
                        rw [HS.out, ← B9.out, ← B7.out, ← B6.out]
                        simp only [moveB, List.append_assoc]
                      have EQF := Lib.hid eqf
                      clear eqf
                      generalize b9 ++ be 2 m.why.size ++ m.why.data.toList = b10 at *
                      go_wp2_with fail
                      go_roundg f
                      case measure => omega
                      case rel => exact ⟨k + 1, A10, c10, by go_num, by have := HKF.out; omega, by rw [EQF.out], by rw [EQF.out]; exact h10⟩
                    -->
                · have ek : t.moves.take k = t.moves := List.take_of_length_le (by omega)
                  rw [ek] at h5 ⊢
                  have le6 : (b3 ++ t.moves.flatMap moveB).length ≤ 3 + (headB t).length + (t.moves.flatMap moveB).length := by rw [List.length_append]; omega
                  generalize hb6 : b3 ++ t.moves.flatMap moveB = b6 at *
                  have B6 := Lib.hid hb6
                  clear hb6 ek HKF
                  have a3 := (h5.blk.cell 3).trans txC_at.2.2.2.1
                  have c2 := (h5.blk.cell 2).trans txC_at.2.2.1
                  go_upto_if 106 with fail
                  go_cut [5] (fun s5 wx => wrongE t = 0 ∧ ∃ A7 c7, s5 = .slice A7 (b6 ++ seqsB t).length c7 ∧ SQ w q q 34 (txC t (.slice Am t.moves.length cm) (.slice At t.seq.todo.length ct) (.slice Ae t.mem.length ce)) (b6 ++ seqsB t) A7 c7 wx)
                  case first =>
                    --<
                    have HS := Lib.hid (show seqsB t = if t.hasSeq then seqB t.seq else [] from rfl)
                    have HBO := Lib.hid (show (!(t.hasSeq && (t.seq.kind != 0)) || decide (t.seq.branch.size ≤ 255)) = true from HLX.out.2.1)
                    clear a3 c2
                    cases h1 : t.hasSeq
                    · rw [h1] at HS HW
                      have EH := Lib.hid (show b6 ++ seqsB t = b6 from by rw [HS.out, if_neg (by decide), List.append_nil])
                      clear h1
                      go_wp2_with fail
                      go_meet
                      exact ⟨HW.out, A5, c5, by rw [EH.out], by rw [EH.out]; exact h5⟩
                    · rw [h1] at HS HW HBO
                      have EH := Lib.hid (show b6 ++ seqsB t = b6 ++ seqB t.seq from by rw [HS.out, if_pos rfl])
                      have ls : (seqsB t).length = (seqB t.seq).length := by rw [HS.out, if_pos rfl]
                      have L4 : (Instr.loadAt 31 (.pointer (some ⟨q, 4, none⟩))).run Tryz.prog wr = .ok (.agg (seqC t.seq (.slice At t.seq.todo.length ct))) wr := LdSeq.tx h5.blk
                      have hbr : t.seq.kind ≠ 0 → t.seq.branch.size ≤ 255 := fun h => by
                        have hk : (t.seq.kind != 0) = true := by simpa using h
                        have := HBO.out
                        rw [hk] at this
                        simpa using this
                      have HBR := Lib.hid hbr
                      clear h1 hbr
                      go_wp2_with (first | (refine wpList_load rfl rfl rfl L4 ?_))
                      refine (rseqB_any t.seq At ct q q b6 A5 c5 _ h5.own (Nat.le_refl _) h5.size (HRT.out.below (HBL.out _ _ _ _ h5)) lt1 lt2 HBR.out (by omega)).mono ?_
                      rintro r w7 ⟨A7, c7, n7, rfl, ho7, k7⟩
                      cases hso : seqOk t.seq with
                      | false =>
                        rw [hso] at HW
                        have hb7 := (HBL.out _ _ _ _ h5).trans (k7.below (Nat.le_refl _) h5.size (by simp))
                        clear ho7 hso
                        go_wp2_with fail
                        go_ret2
                        exact HGB.out _ HW.out hb7
                      | true =>
                        rw [hso] at HW
                        obtain ⟨rfl, o7⟩ := ho7 hso
                        have h7 := h5.next o7 k7
                        clear ho7 hso
                        generalize b6 ++ seqB t.seq = b7 at *
                        go_wp2_with fail
                        go_meet
                        exact ⟨HW.out, A7, c7, by rw [EH.out], by rw [EH.out]; exact h7⟩
                    -->
                  case rest =>
                    obtain ⟨hw0, A7, c7, rfl, h7⟩ := hcut
                    have HW0 := Lib.hid hw0
                    clear hw0 HW h5 a3 c2
                    generalize wc = w7 at *
                    have le7' : (b6 ++ seqsB t).length ≤ 3 + (headB t).length + (t.moves.flatMap moveB).length + (seqsB t).length := by rw [List.length_append]; omega
                    generalize hb7 : b6 ++ seqsB t = b7 at *
                    have B7 := Lib.hid hb7
                    clear hb7
                    have hv1 := conv_u64 t.mem.length (by omega)
                    have a74 := (h7.blk.cell 74).trans txC_at.2.2.2.2.2
                    go_wp2_with fail
                    refine (h7.num 2 t.mem.length (by omega) (by omega)).mono ?_
                    rintro r w8 ⟨A8, c8, rfl, h8, _⟩
                    have le8' : (b7 ++ be 2 t.mem.length).length ≤ 5 + (headB t).length + (t.moves.flatMap moveB).length + (seqsB t).length := by rw [List.length_append, be_len]; omega
                    generalize hb8 : b7 ++ be 2 t.mem.length = b8 at *
                    have B8 := Lib.hid hb8
                    clear hb8 h7 a74
                    go_wp2_with fail
                    go_loopg [5, 8] t.mem.length (fun f s5 i wr => ∃ k A9 c9, i = .int .i64 (k : Nat) ∧ k + f = t.mem.length ∧ s5 = .slice A9 (b8 ++ (t.mem.take k).flatMap memB).length c9 ∧ SQ w q q 34 (txC t (.slice Am t.moves.length cm) (.slice At t.seq.todo.length ct) (.slice Ae t.mem.length ce)) (b8 ++ (t.mem.take k).flatMap memB) A9 c9 wr)
                    case atStart => exact ⟨0, A8, c8, rfl, by omega, by simp, by simpa using h8⟩
                    case round =>
                      obtain ⟨k, A9, c9, rfl, hkf, rfl, h9⟩ := hrel
                      have HKF := Lib.hid hkf
                      have hkn' : k ≤ t.mem.length := by omega
                      clear hkf h8
                      by_cases hlt : k < t.mem.length
                      · cases gk with
                        | zero => exact absurd HKF.out (by omega)
                        | succ f =>
                          --<
                          obtain ⟨m, hm⟩ : ∃ m, t.mem[k]? = some m := ⟨t.mem[k], List.getElem?_eq_getElem hlt⟩
                          have hrd := HRE.out.below (HBL.out _ _ _ _ h9)
                          obtain ⟨g0, off, rfl, _, hc0⟩ := hrd.at0 (by omega) (by omega)
                          have HROW := Lib.hid (show ∀ bs' A' c' W, SQ w q q 34 (txC t (.slice Am t.moves.length cm) (.slice At t.seq.todo.length ct) (.slice (some ⟨g0, off, none⟩) t.mem.length ce)) bs' A' c' W → ∀ j u, (memLs t.mem)[j]? = some u → W.cell? ⟨g0, off + j, none⟩ = some u from fun bs' A' c' W h => (HRE.out.below (HBL.out _ _ _ _ h)).row (by omega))
                          have HMM := Lib.hid hm
                          have HS := Lib.hid (flat_snoc memB t.mem k m hm)
                          have hdt := HDATA.out m (List.mem_of_getElem? hm)
                          have hd1 : m.data.length ≤ 9223372036854775807 := by have := hdt.2; unfold maxLen at this; omega
                          have HDT := Lib.hid (show ∀ W, Below q w W → Reads W q 1 m.adr m.data.length (m.data.map byteV) from fun W h => hdt.1.below h)
                          have ml : (memB m).length = 32 + (4 + m.data.length) := by simp only [memB, List.length_append, be_len, m.key.2]
                          have le9 : (b8 ++ (t.mem.take k).flatMap memB).length + (memB m).length ≤ 5 + (headB t).length + (t.moves.flatMap moveB).length + (seqsB t).length + (t.mem.flatMap memB).length := by
                            have := flat_le memB t.mem (k + 1)
                            rw [HS.out, List.length_append] at this
                            rw [List.length_append]
                            omega
                          have le9b : (b8 ++ (t.mem.take k).flatMap memB).length + (36 + m.data.length) ≤ 140737488355328 := by omega
                          clear ml le9 hm hc0 hrd hdt
                          generalize hb9 : b8 ++ (t.mem.take k).flatMap memB = b9 at *
                          have B9 := Lib.hid hb9
                          clear hb9
                          have c74 := (h9.blk.cell 74).trans txC_at.2.2.2.2.2
                          have L1 : (Instr.loadAt 24 (.pointer (some ⟨g0, off + k * 33, none⟩))).run Tryz.prog wr = _ := ldId_row (j := 0) memL_len (HROW.out _ _ _ _ h9) HMM.out (i := m.key) (fun r u hr => by
                            rw [Nat.zero_add]
                            unfold memL
                            have hlt : r < (idL m.key).length := by
                              rcases Nat.lt_or_ge r (idL m.key).length with q | q
                              · exact q
                              · rw [List.getElem?_eq_none q] at hr; cases hr
                            rw [List.getElem?_append_left hlt]
                            exact hr)
                          go_wp2_with (first | (refine wpList_load rfl rfl rfl L1 ?_))
                          refine (h9.put m.key (by omega)).mono ?_
                          rintro r w10 ⟨A10, c10, rfl, h10, _⟩
                          have le10 : (b9 ++ m.key.1).length ≤ b9.length + 32 := by simp only [List.length_append, m.key.2]; omega
                          generalize hb10 : b9 ++ m.key.1 = b10 at *
                          have B10 := Lib.hid hb10
                          clear hb10 c74 L1
                          have c74 := (h10.blk.cell 74).trans txC_at.2.2.2.2.2
                          have e32 := HROW.out _ _ _ _ h10 _ _ (flat_at memL_len t.mem k 32 m HMM.out (.slice m.adr m.data.length m.cap) (by have := memC_at m; simpa [memC] using this))
                          rw [← Nat.add_assoc] at e32
                          have rd := HDT.out _ (HBL.out _ _ _ _ h10)
                          go_wp2_with (first | (refine wpList_convStr rfl rfl Tryz.underlying36 Tryz.underlying5 Tryz.underlying9 (l := m.data) rfl rd ?_))
                          have es : (⟨m.data.toArray⟩ : ByteArray).size = m.data.length := by simp [ByteArray.size]
                          refine (h10.text 4 ⟨m.data.toArray⟩ (.inr (.inr rfl)) (by rw [es]; omega)).mono ?_
                          rintro r w11 ⟨A11, c11, rfl, h11, _⟩
                          have eqf : b8 ++ (t.mem.take (k + 1)).flatMap memB = b10 ++ be 4 (⟨m.data.toArray⟩ : ByteArray).size ++ (⟨m.data.toArray⟩ : ByteArray).data.toList := by
                            rw [es, HS.out, ← B10.out, ← B9.out]
                            simp only [memB, List.append_assoc]
                          have EQF := Lib.hid eqf
                          clear eqf es
                          generalize b10 ++ be 4 (⟨m.data.toArray⟩ : ByteArray).size ++ (⟨m.data.toArray⟩ : ByteArray).data.toList = b11 at *
                          go_wp2_with fail
                          go_roundg f
                          case measure => omega
                          case rel => exact ⟨k + 1, A11, c11, by go_num, by have := HKF.out; omega, by rw [EQF.out], by rw [EQF.out]; exact h11⟩
                          -->
                      · have ek : t.mem.take k = t.mem := List.take_of_length_le (by omega)
                        rw [ek] at h9 ⊢
                        have HEQ := Lib.hid (show encTxB t = b8 ++ t.mem.flatMap memB from by
                          rw [HL.out, ← B8.out, ← B7.out, ← B6.out, ← B3.out, ← B2.out]
                          simp only [List.append_assoc])
                        clear ek
                        generalize b8 ++ t.mem.flatMap memB = b9 at *
                        have c74 := (h9.blk.cell 74).trans txC_at.2.2.2.2.2
                        go_wp2_with fail
                        go_ret2
                        exact HGG.out _ _ _ _ HW0.out HEQ.out h9.own (HBL.out _ _ _ _ h9)
end Go.Proofs.YtppmolneklidfaaGreat
