/-
  Texts of the codec joined (Sm6). No statement of the seat is proved here.
-/
import Derived.Test.YtppmolneklidfaaGreatZ34
namespace Go.Proofs.YtppmolneklidfaaGreat
open Go.RowKit

def headR (t u : TxD) : Bool := (t.hasHead == u.hasHead) && ((!t.hasHead || (t.head.toList == u.head.toList)) && ((t.hasSeq == u.hasSeq) && ((!t.hasSeq || sameSeqR t.seq u.seq) && ((t.moves.length == u.moves.length) && (t.mem.length == u.mem.length)))))
def sameTxR (t u : TxD) : Bool := headR t u && (eqL moveEq t.moves u.moves && eqL memEq t.mem u.mem)
theorem eqL_beqLen {α : Type} {f : α → α → Bool} (l m : List α) : ((l.length == m.length) && eqL f l m) = eqL f l m := by
  by_cases h : l.length = m.length
  · rw [h]; simp
  · rw [eqL_len h, Bool.and_false]
theorem seqR_eq (p q : SeqD) : sameSeqR p q = ((p.kind == q.kind) && ((p.kind == 0) || sameSeqP p q)) := by
  unfold sameSeqR restR sameSeqP
  rw [← eqL_beqLen p.todo q.todo]
  cases p.kind == q.kind <;> cases p.kind == 0 <;> cases p.branch.toList == q.branch.toList <;> cases p.orig == q.orig <;> cases p.cur == q.cur <;> cases p.done == q.done <;> cases p.made == q.made <;> cases p.stopped == q.stopped <;> cases p.todo.length == q.todo.length <;> cases eqL todoEq p.todo q.todo <;> rfl
theorem asks_eq (t u : TxD) (h : t.hasSeq = u.hasSeq) : ((asks t == asks u) && (!asks t || sameSeqP t.seq u.seq)) = (!t.hasSeq || sameSeqR t.seq u.seq) := by
  rw [seqR_eq]
  unfold asks
  rw [← h]
  cases t.hasSeq
  · rfl
  · simp only [Bool.true_and, Bool.not_true, Bool.false_or]
    have e1 : (t.seq.kind != 0) = !(t.seq.kind == 0) := rfl
    have e2 : (u.seq.kind != 0) = !(u.seq.kind == 0) := rfl
    rw [e1, e2]
    have hk : (t.seq.kind == u.seq.kind) = true → (t.seq.kind == 0) = (u.seq.kind == 0) := fun h => by rw [eq_of_beq h]
    have hz : (t.seq.kind == 0) = true → (u.seq.kind == 0) = true → (t.seq.kind == u.seq.kind) = true := fun h1 h2 => by rw [eq_of_beq h1, eq_of_beq h2]; rfl
    have hs : sameSeqP t.seq u.seq = true → (t.seq.kind == u.seq.kind) = true := fun h => by unfold sameSeqP at h; simp only [Bool.and_eq_true] at h; exact h.1
    revert hk hz hs
    generalize (t.seq.kind == u.seq.kind) = a
    generalize (t.seq.kind == 0) = b
    generalize (u.seq.kind == 0) = c
    generalize sameSeqP t.seq u.seq = d
    cases a <;> cases b <;> cases c <;> cases d <;> simp
theorem sameTxR_eq (t u : TxD) : sameTxR t u = sameTxP t u := by
  unfold sameTxR sameTxP headR sameHeadP
  by_cases hs : t.hasSeq = u.hasSeq
  · have := asks_eq t u hs
    rw [← eqL_beqLen t.moves u.moves, ← eqL_beqLen t.mem u.mem, ← Bool.and_assoc (asks t == asks u), this]
    generalize (!t.hasSeq || sameSeqR t.seq u.seq) = a
    generalize (t.hasHead == u.hasHead) = b
    generalize (!t.hasHead || (t.head.toList == u.head.toList)) = c
    generalize (t.hasSeq == u.hasSeq) = d
    generalize (t.moves.length == u.moves.length) = e
    generalize (t.mem.length == u.mem.length) = f
    generalize eqL moveEq t.moves u.moves = g
    generalize eqL memEq t.mem u.mem = h
    cases a <;> cases b <;> cases c <;> cases d <;> cases e <;> cases f <;> cases g <;> cases h <;> rfl
  · have : (t.hasSeq == u.hasSeq) = false := by simpa using hs
    rw [this]
    simp only [Bool.false_and, Bool.and_false]

theorem ldId_rowM {w : World} {l : List MemD} {k : Nat} {x : MemD} {g off : Nat} (hc : ∀ j u, (l.flatMap memL)[j]? = some u → w.cell? ⟨g, off + j, none⟩ = some u) (hk : l[k]? = some x) : (Instr.loadAt 24 (.pointer (some ⟨g, off + k * 33, none⟩))).run Tryz.prog w = .ok (idV x.key) w :=
  run_loadAt_cells (P := Tryz.prog) w _ (idC x.key) Tryz.underlying24 rfl (by rw [idC_size]; exact info42) (fun r v hr => by
    rw [add_at, Nat.add_assoc]
    refine hc _ _ (flat_at memL_len l k r x hk v ?_)
    have hr' : (idL x.key)[r]? = some v := by simpa [idC] using hr
    have hlt : r < (idL x.key).length := (List.getElem?_eq_some_iff.1 hr').1
    unfold memL
    rw [List.getElem?_append_left hlt]
    exact hr')
theorem bytes_toList (l : List UInt8) : (⟨l.toArray⟩ : ByteArray).toList = l := by rw [ByteArray.toList_eq]

attribute [local go_sem ↓] ld_id eq_id ne_id ldm_move nem_move ld_seq cv_bs
set_option maxHeartbeats 16000000 in
set_option maxRecDepth 100000 in
theorem rsameTx_any (t u : TxD) (mv tv ev mv' tv' ev' : Value) (w : World) (hin : TxIn w w.heap.size t mv tv ev) (hin' : TxIn w w.heap.size u mv' tv' ev') :
    Calls Tryz.prog 39 #[.agg (txC t mv tv ev), .agg (txC u mv' tv' ev')] w fun r w' => r = .returned (.bool (sameTxP t u)) ∧ Keep Nothing w w' := by
  rw [← sameTxR_eq]
  have q1 : Blk ((w.alloc (.cells (txC t mv tv ev) 34)).alloc (.cells (txC u mv' tv' ev') 34)) w.heap.size 34 (txC t mv tv ev) := (Blk.new _ _ _).alloc _
  have q2 : Blk ((w.alloc (.cells (txC t mv tv ev) 34)).alloc (.cells (txC u mv' tv' ev') 34)) (w.heap.size + 1) 34 (txC u mv' tv' ev') := by
    have := Blk.new (w.alloc (.cells (txC t mv tv ev) 34)) 34 (txC u mv' tv' ev')
    simpa using this
  have k0 : Keep Nothing w ((w.alloc (.cells (txC t mv tv ev) 34)).alloc (.cells (txC u mv' tv' ev') 34)) := ((Keep.refl _ _).alloc _).alloc _
  go_enter Tryz.func39, Tryz.ntmps39
  go_upto_region 1 with (first | (refine wpList_boxed rfl rfl (cs := txC t mv tv ev) rfl ?_) | (refine wpList_boxed rfl rfl (cs := txC u mv' tv' ev') rfl ?_))
  generalize (w.alloc (.cells (txC t mv tv ev) 34)).alloc (.cells (txC u mv' tv' ev') 34) = w0 at *
  have HIN := Lib.hid (show ∀ W, Keep Nothing w W → TxIn W w.heap.size t mv tv ev ∧ TxIn W w.heap.size u mv' tv' ev' from fun W k => ⟨hin.below k.all, hin'.below k.all⟩)
  have HZ := Lib.hid (show ∀ W, Keep Nothing w W → w.heap.size ≤ W.heap.size from fun W k => k.size)
  clear hin hin'
  generalize hgq : w.heap.size = q at *
  clear hgq
  have HM := Lib.hid (show sameTxR t u = (headR t u && (eqL moveEq t.moves u.moves && eqL memEq t.mem u.mem)) from rfl)
  have HF := Lib.hid (show ∀ z W, sameTxR t u = z → Keep Nothing w W → (Ending.returned (.bool z) = .returned (.bool (sameTxR t u)) ∧ Keep Nothing w W) from fun z W h k => ⟨by rw [h], k⟩)
  obtain ⟨Am, cm, rfl, _, lm1, lm2⟩ := (HIN.out _ k0).1.mv
  obtain ⟨Am', cm', rfl, _, lm1', lm2'⟩ := (HIN.out _ k0).2.mv
  obtain ⟨Ae, ce, rfl, _, le1, le2⟩ := (HIN.out _ k0).1.ev
  obtain ⟨Ae', ce', rfl, _, le1', le2'⟩ := (HIN.out _ k0).2.ev
  unfold maxLen at lm2 lm2' le2 le2'
  have HSH := Lib.hid (show headR t u = ((t.hasHead == u.hasHead) && ((!t.hasHead || (t.head.toList == u.head.toList)) && ((t.hasSeq == u.hasSeq) && ((!t.hasSeq || sameSeqR t.seq u.seq) && ((t.moves.length == u.moves.length) && (t.mem.length == u.mem.length)))))) from rfl)
  go_cut [59] (fun s59 wx => s59 = .bool (!headR t u) ∧ Keep Nothing w wx ∧ Blk wx q 34 (txC t (.slice Am t.moves.length cm) tv (.slice Ae t.mem.length ce)) ∧ Blk wx (q + 1) 34 (txC u (.slice Am' u.moves.length cm') tv' (.slice Ae' u.mem.length ce')))
  case first =>
    --<
    obtain ⟨hi1, hi2⟩ := HIN.out _ k0
    obtain ⟨At, ct, htv, rt, lt1, lt2⟩ := hi1.tv
    obtain ⟨At', ct', htv', rt', lt1', lt2'⟩ := hi2.tv
    unfold maxLen at lt2 lt2'
    have HSQ := Lib.hid (rsameSeq_any t.seq u.seq At At' ct ct' q w0 (HZ.out _ k0) rt rt' (by omega) (by omega))
    rw [← htv, ← htv'] at HSQ
    clear htv htv' rt rt' hi1 hi2
    have a0 := (q1.cell 0).trans txC_at.1
    have a1 := (q1.cell 1).trans txC_at.2.1
    have a2 := (q1.cell 2).trans txC_at.2.2.1
    have a3 := (q1.cell 3).trans txC_at.2.2.2.1
    have a74 := (q1.cell 74).trans txC_at.2.2.2.2.2
    have b0 := (q2.cell 0).trans txC_at.1
    have b1 := (q2.cell 1).trans txC_at.2.1
    have b2 := (q2.cell 2).trans txC_at.2.2.1
    have b3 := (q2.cell 3).trans txC_at.2.2.2.1
    have b74 := (q2.cell 74).trans txC_at.2.2.2.2.2
    have L1 := LdSeq.tx q1
    have L2 := LdSeq.tx q2
    have HB := Lib.hid (show ∀ z, headR t u = z → Value.bool (!z) = Value.bool (!headR t u) from fun z h => by rw [h])
    obtain ⟨z2, h2⟩ : ∃ z, (t.head.toList == u.head.toList) = z := ⟨_, rfl⟩
    obtain ⟨z5, h5⟩ : ∃ z, sameSeqR t.seq u.seq = z := ⟨_, rfl⟩
    obtain ⟨z6, h6⟩ : ∃ z, (t.moves.length == u.moves.length) = z := ⟨_, rfl⟩
    obtain ⟨z7, h7⟩ : ∃ z, (t.mem.length == u.mem.length) = z := ⟨_, rfl⟩
    have h2n : (t.head.toList != u.head.toList) = !z2 := by rw [← h2]; rfl
    have h6n : ((t.moves.length : Int) != (u.moves.length : Int)) = !z6 := by rw [← h6, Bool.eq_iff_iff]; simp only [bne, Bool.not_eq_true', beq_eq_false_iff_ne, ne_eq, Int.ofNat_inj]
    have h7n : ((t.mem.length : Int) != (u.mem.length : Int)) = !z7 := by rw [← h7, Bool.eq_iff_iff]; simp only [bne, Bool.not_eq_true', beq_eq_false_iff_ne, ne_eq, Int.ofNat_inj]
    rw [h5] at HSQ HSH
    rw [h2, h6, h7] at HSH
    clear h5 h6 h7 HM HF HIN HZ
    generalize headR t u = sh at *
    cases hh : t.hasHead <;> cases hh' : u.hasHead
    all_goals
      rw [hh] at a0 HSH
      rw [hh'] at b0 HSH
      clear hh hh'
    all_goals cases z2
    all_goals cases hs : t.hasSeq <;> cases hs' : u.hasSeq
    all_goals
      rw [hs] at a3 HSH
      rw [hs'] at b3 HSH
      clear hs hs'
    all_goals cases z6
    all_goals
      go_wp2_with (first | (go_at_call 74; refine HSQ.out.mono ?_; rintro r w1 ⟨rfl, k1⟩; have c2 := ((q1.keep k1 (fun h => h)).cell 2).trans txC_at.2.2.1; have d2 := ((q2.keep k1 (fun h => h)).cell 2).trans txC_at.2.2.1; have c74 := ((q1.keep k1 (fun h => h)).cell 74).trans txC_at.2.2.2.2.2; have d74 := ((q2.keep k1 (fun h => h)).cell 74).trans txC_at.2.2.2.2.2; have kk := k0.trans k1; have y1 := q1.keep k1 (fun h => h); have y2 := q2.keep k1 (fun h => h); cases z5))
      all_goals
        go_meet
        first
          | exact ⟨HB.out _ HSH.out, k0, q1, q2⟩
          | exact ⟨HB.out _ HSH.out, kk, y1, y2⟩
          | exact ⟨by rw [HSH.out]; rfl, kk, y1, y2⟩
          | exact ⟨by rw [HSH.out]; rfl, k0, q1, q2⟩
          | exact ⟨by rw [HSH.out]; cases z7 <;> rfl, kk, y1, y2⟩
          | exact ⟨by rw [HSH.out]; cases z7 <;> rfl, k0, q1, q2⟩
    -->
  case rest =>
    obtain ⟨rfl, k1, x1, x2⟩ := hcut
    generalize wc = w1 at *
    have HLEN := Lib.hid (show headR t u = true → t.moves.length = u.moves.length ∧ t.mem.length = u.mem.length from fun h => by
      rw [HSH.out] at h
      simp only [Bool.and_eq_true] at h
      exact ⟨eq_of_beq h.2.2.2.2.1, eq_of_beq h.2.2.2.2.2⟩)
    clear q1 q2 k0 HSH
    generalize headR t u = sh at *
    cases sh
    · go_wp2_with fail
      go_ret
      exact HF.out _ _ HM.out k1
    have HLM := Lib.hid (HLEN.out rfl)
    have hlm1 : t.moves.length ≤ u.moves.length := by rw [HLM.out.1]; exact Nat.le_refl _
    have hlm2 : t.mem.length ≤ u.mem.length := by rw [HLM.out.2]; exact Nat.le_refl _
    have HM2 := Lib.hid (show sameTxR t u = (eqL moveEq t.moves u.moves && eqL memEq t.mem u.mem) from by rw [HM.out, Bool.true_and])
    clear HLEN HM
    go_wp2_with fail
    go_loopg [5] t.moves.length (fun f i wr => ∃ k : Nat, k + f = t.moves.length ∧ i = .int .i64 k ∧ Keep Nothing w wr ∧ Blk wr q 34 (txC t (.slice Am t.moves.length cm) tv (.slice Ae t.mem.length ce)) ∧ Blk wr (q + 1) 34 (txC u (.slice Am' u.moves.length cm') tv' (.slice Ae' u.mem.length ce')) ∧ ∀ (j : Nat) (x y : MoveD), j < k → t.moves[j]? = some x → u.moves[j]? = some y → moveEq x y = true)
    case atStart => exact ⟨0, by omega, rfl, k1, x1, x2, fun j x y h => absurd h (by omega)⟩
    case round =>
      clear k1 x1 x2
      obtain ⟨k, hkf, rfl, hkw, x1, x2, hall⟩ := hrel
      have HKF := Lib.hid hkf
      have hk : k ≤ t.moves.length := by omega
      have HALL := Lib.hid hall
      clear hkf hall
      have a2 := (x1.cell 2).trans txC_at.2.2.1
      have b2 := (x2.cell 2).trans txC_at.2.2.1
      by_cases hlt : k < t.moves.length
      · --<
        obtain ⟨x, hx⟩ : ∃ x, t.moves[k]? = some x := ⟨_, List.getElem?_eq_getElem hlt⟩
        obtain ⟨y, hy⟩ : ∃ y, u.moves[k]? = some y := ⟨_, List.getElem?_eq_getElem (by omega : k < u.moves.length)⟩
        obtain ⟨_, _, e1, r1, _⟩ := (HIN.out _ hkw).1.mv
        obtain ⟨_, _, e2, r2, _⟩ := (HIN.out _ hkw).2.mv
        injection e1 with e1 _ e1c
        injection e2 with e2 _ e2c
        subst e1 e2 e1c e2c
        obtain ⟨g1, o1, rfl, _, hc1⟩ := r1.at0 (by omega) (by omega)
        obtain ⟨g2, o2, rfl, _, hc2⟩ := r2.at0 (by omega) (by omega)
        have L1 : (LdMove (.pointer (some ⟨g1, o1 + k * 66, none⟩))).run Tryz.prog wr.drew = .ok (.agg (moveC x)) wr.drew := load_flat Tryz.underlying60 rfl info_move moveL_len (fun j u hj => hc1 j u hj) hx
        have L2 : (LdMove (.pointer (some ⟨g2, o2 + k * 66, none⟩))).run Tryz.prog wr.drew = .ok (.agg (moveC y)) wr.drew := load_flat Tryz.underlying60 rfl info_move moveL_len (fun j u hj => hc2 j u hj) hy
        have G1 := fun (a b : Operand) (W : World) => guard_move .neq a b x y W
        have E1 := fun W => NeMove.run W x y
        have hi0 : (0 : Int) ≤ (k : Int) := Int.natCast_nonneg _
        have hi1 : (k : Int) < (t.moves.length : Int) := by omega
        have hi2 : (k : Int) < (u.moves.length : Int) := by omega
        have HX := Lib.hid hx
        have HY := Lib.hid hy
        clear hc1 hc2 hx hy r1 r2
        generalize hz : moveEq x y = z at *
        have HZZ := Lib.hid hz
        clear hz
        go_wp2_with fail
        refine wp_region_still_lit (by kernel_rfl) (by kernel_rfl) ?_
        repeat (first | ((with_reducible refine wpStill_step (fun K hK => ?_)); go_simp; with_reducible refine hK _ ?_; clear hK K) | ((with_reducible refine wpStill_skip ?_ ?_); (focus rfl)))
        (with_reducible refine wpStill_nil ?_)
        change Exit.then _ _ _ _ wr.drew
        cases z
        · go_wp2_with fail
          go_ret
          exact HF.out _ _ (by rw [HM2.out, eqL_false k x y HX.out HY.out HZZ.out, Bool.false_and]) hkw.drew
        · go_wp2_with fail
          go_roundg (gk - 1)
          case measure => have := HKF.out; omega
          case rel =>
            refine ⟨k + 1, by have := HKF.out; omega, by go_num, hkw.drew, x1.drew, x2.drew, fun j a b hj h1 h2 => ?_⟩
            rcases Nat.lt_or_ge j k with q | q
            · exact HALL.out j a b q h1 h2
            · obtain rfl : j = k := by omega
              rw [HX.out] at h1
              rw [HY.out] at h2
              injection h1 with h1
              injection h2 with h2
              subst h1 h2
              exact HZZ.out
        -->
      · have HM3 := Lib.hid (show sameTxR t u = eqL memEq t.mem u.mem from by rw [HM2.out, eqL_true HLM.out.1 (fun j x y h1 h2 => HALL.out j x y (by have := (List.getElem?_eq_some_iff.1 h1).1; omega) h1 h2), Bool.true_and])
        clear HALL HKF HM2
        go_wp2_with fail
        go_loopg [6] t.mem.length (fun f i wr => ∃ k : Nat, k + f = t.mem.length ∧ i = .int .i64 k ∧ Keep Nothing w wr ∧ Blk wr q 34 (txC t (.slice Am t.moves.length cm) tv (.slice Ae t.mem.length ce)) ∧ Blk wr (q + 1) 34 (txC u (.slice Am' u.moves.length cm') tv' (.slice Ae' u.mem.length ce')) ∧ ∀ (j : Nat) (x y : MemD), j < k → t.mem[j]? = some x → u.mem[j]? = some y → memEq x y = true)
        case atStart => exact ⟨0, by omega, rfl, hkw, x1, x2, fun j x y h => absurd h (by omega)⟩
        case round =>
          clear hkw x1 x2 a2 b2
          obtain ⟨k, hkf, rfl, hkw, x1, x2, hall⟩ := hrel
          have HKF := Lib.hid hkf
          have hk : k ≤ t.mem.length := by omega
          have HALL := Lib.hid hall
          clear hkf hall
          have a2 := (x1.cell 74).trans txC_at.2.2.2.2.2
          have b2 := (x2.cell 74).trans txC_at.2.2.2.2.2
          by_cases hlt : k < t.mem.length
          · obtain ⟨x, hx⟩ : ∃ x, t.mem[k]? = some x := ⟨_, List.getElem?_eq_getElem hlt⟩
            obtain ⟨y, hy⟩ : ∃ y, u.mem[k]? = some y := ⟨_, List.getElem?_eq_getElem (by omega : k < u.mem.length)⟩
            obtain ⟨_, _, e1, r1, _⟩ := (HIN.out _ hkw).1.ev
            obtain ⟨_, _, e2, r2, _⟩ := (HIN.out _ hkw).2.ev
            have dx := (HIN.out _ hkw).1.data x (List.mem_of_getElem? hx)
            have dy := (HIN.out _ hkw).2.data y (List.mem_of_getElem? hy)
            injection e1 with e1 _ e1c
            injection e2 with e2 _ e2c
            subst e1 e2 e1c e2c
            obtain ⟨g1, o1, rfl, _, hc1⟩ := r1.at0 (by omega) (by omega)
            obtain ⟨g2, o2, rfl, _, hc2⟩ := r2.at0 (by omega) (by omega)
            have L1 : (LdId (.pointer (some ⟨g1, o1 + k * 33, none⟩))).run Tryz.prog wr.drew = _ := ldId_rowM (hc := fun j u hj => hc1 j u hj) hx
            have L2 : (LdId (.pointer (some ⟨g2, o2 + k * 33, none⟩))).run Tryz.prog wr.drew = _ := ldId_rowM (hc := fun j u hj => hc2 j u hj) hy
            have G1 := fun (a b : Operand) (W : World) => guard_id .neq a b x.key y.key W
            have E1 := fun W => run_NeId W x.key y.key
            have f1 := hc1 _ _ (flat_at memL_len t.mem k 32 x hx (.slice x.adr x.data.length x.cap) (by have := memC_at x; simpa [memC] using this))
            have f2 := hc2 _ _ (flat_at memL_len u.mem k 32 y hy (.slice y.adr y.data.length y.cap) (by have := memC_at y; simpa [memC] using this))
            rw [← Nat.add_assoc] at f1 f2
            have C1 := CvBS.run (c := x.cap) dx.1.drew
            have C2 := CvBS.run (c := y.cap) dy.1.drew
            have hi0 : (0 : Int) ≤ (k : Int) := Int.natCast_nonneg _
            have hi1 : (k : Int) < (t.mem.length : Int) := by omega
            have hi2 : (k : Int) < (u.mem.length : Int) := by omega
            have HX := Lib.hid hx
            have HY := Lib.hid hy
            have HME := Lib.hid (show memEq x y = ((x.key == y.key) && (x.data == y.data)) from rfl)
            clear hc1 hc2 hx hy r1 r2 dx dy
            obtain ⟨zk, hzk⟩ : ∃ z, (x.key == y.key) = z := ⟨_, rfl⟩
            obtain ⟨zd, hzd⟩ : ∃ z, (x.data == y.data) = z := ⟨_, rfl⟩
            rw [hzk] at E1 HME
            rw [hzd] at HME
            have hs1 : ((⟨x.data.toArray⟩ : ByteArray).toList == (⟨y.data.toArray⟩ : ByteArray).toList) = zd := by rw [bytes_toList, bytes_toList]; exact hzd
            have hs2 : ((⟨x.data.toArray⟩ : ByteArray).toList != (⟨y.data.toArray⟩ : ByteArray).toList) = !zd := by rw [← hs1]; rfl
            clear hzk hzd
            generalize (⟨x.data.toArray⟩ : ByteArray) = sx at *
            generalize (⟨y.data.toArray⟩ : ByteArray) = sy at *
            cases zk
            · go_wp2_with fail
              refine wp_region_still_lit (by kernel_rfl) (by kernel_rfl) ?_
              repeat (first | ((with_reducible refine wpStill_step (fun K hK => ?_)); go_simp; with_reducible refine hK _ ?_; clear hK K) | ((with_reducible refine wpStill_skip ?_ ?_); (focus rfl)))
              (with_reducible refine wpStill_nil ?_)
              change Exit.then _ _ _ _ wr.drew
              go_wp2_with fail
              go_ret
              exact HF.out _ _ (by rw [HM3.out, eqL_false k x y HX.out HY.out (by rw [HME.out]; rfl)]) hkw.drew
            · go_wp2_with fail
              refine wp_region_still_lit (by kernel_rfl) (by kernel_rfl) ?_
              repeat (first | ((with_reducible refine wpStill_step (fun K hK => ?_)); go_simp; with_reducible refine hK _ ?_; clear hK K) | ((with_reducible refine wpStill_skip ?_ ?_); (focus rfl)))
              (with_reducible refine wpStill_nil ?_)
              change Exit.then _ _ _ _ wr.drew
              cases zd
              · go_wp2_with fail
                go_ret
                exact HF.out _ _ (by rw [HM3.out, eqL_false k x y HX.out HY.out (by rw [HME.out]; rfl)]) hkw.drew
              · go_wp2_with fail
                go_roundg (gk - 1)
                case measure => have := HKF.out; omega
                case rel =>
                  refine ⟨k + 1, by have := HKF.out; omega, by go_num, hkw.drew, x1.drew, x2.drew, fun j a b hj h1 h2 => ?_⟩
                  rcases Nat.lt_or_ge j k with q | q
                  · exact HALL.out j a b q h1 h2
                  · obtain rfl : j = k := by omega
                    rw [HX.out] at h1
                    rw [HY.out] at h2
                    injection h1 with h1
                    injection h2 with h2
                    subst h1 h2
                    rw [HME.out]; rfl
          · go_wp2_with fail
            go_ret
            exact HF.out _ _ (by rw [HM3.out, eqL_true HLM.out.2 (fun j x y h1 h2 => HALL.out j x y (by have := (List.getElem?_eq_some_iff.1 h1).1; omega) h1 h2)]) hkw
end Go.Proofs.YtppmolneklidfaaGreat
