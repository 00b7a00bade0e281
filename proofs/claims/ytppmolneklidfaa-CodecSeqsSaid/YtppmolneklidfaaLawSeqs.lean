/-
  CodecSeqs: a sequence that may be is written, and read, as it is, in everything. No condition.
-/
import Derived.Test.YtppmolneklidfaaSq1
import Derived.Test.YtppmolneklidfaaKnown
import Derived.Test.YtppmolneklidfaaOpenCom
import Derived.Deep.DeepCutAuto
import Derived.Deep.RegionHeld3
namespace Go.Proofs.Ytppmolneklidfaa
open Go.ChangeShapes Go.WideShapes Go.ChangeAt Go.RowKit

def I64 (a : Int) : Prop := -9223372036854775808 ≤ a ∧ a ≤ 9223372036854775807
attribute [local go_sem ↓] ld_id bd_todo bs_todo ld_tx ld_seq bd_tx eq_id ne_id
set_option maxHeartbeats 16000000 in
set_option maxRecDepth 100000 in
theorem seqs_walk (s : SeqD) (A : Option Addr) (c : Nat) (fl : Int) (w : World) (hr : Reads w w.heap.size 33 A s.todo.length (todoLs s.todo)) (_hc1 : s.todo.length ≤ c) (_hc2 : c ≤ maxLen) (hb : s.branch.size ≤ maxLen)
    (hk : I64 s.kind) (hd : I64 s.done) (hm : I64 s.made) (hx : ∀ x ∈ s.todo, I64 x.act) (hf : I64 fl) :
    Calls Try.prog 9 #[.agg (seqC s (.slice A s.todo.length c)), .int .i64 fl] w (TruePost w) := by
  unfold maxLen at _hc2 hb
  have q0 : Blk (w.alloc (.cells (seqC s (.slice A s.todo.length c)) 67)) w.heap.size 67 (seqC s (.slice A s.todo.length c)) := Blk.new _ _ _
  have k0 : Below w.heap.size w (w.alloc (.cells (seqC s (.slice A s.todo.length c)) 67)) := (Below.refl _ _).alloc (Nat.le_refl _) _
  go_enter Try.func9, Try.ntmps9
  go_upto_region 1 with (first | (refine wpList_boxed rfl rfl (cs := seqC s (.slice A s.todo.length c)) rfl ?_))
  generalize w.alloc (.cells (seqC s (.slice A s.todo.length c)) 67) = w0 at *
  go_wp2_with fail
  refine (known_any _).mono ?_
  rintro r w1 ⟨rfl, hbe1⟩
  have q1 := q0.below hbe1 q0.lt
  have k1 := k0.trans (hbe1.mono k0.size)
  have HF := Lib.hid (show ∀ W : World, Below w.heap.size w W → TruePost w (.returned (.bool true)) W from fun W h => ⟨rfl, h⟩)
  have HR := Lib.hid (show ∀ W, Below w.heap.size w W → Reads W w.heap.size 33 A s.todo.length (todoLs s.todo) from fun W k => hr.below k)
  have ql := q1.lt
  clear q0 k0 hbe1 hr
  generalize hq : w.heap.size = q at *
  clear hq
  have p66 := (q1.cell 66).trans (seqC_at _ _).2.2.1
  have p1 := (q1.cell 1).trans (seqC_at _ _).2.1
  by_cases h1 : 200 < s.todo.length
  · have d1 : decide ((200 : Int) < (s.todo.length : Int)) = true := decide_eq_true (by omega)
    go_wp2_with fail
    go_ret
    exact HF.out _ k1
  have d1 : decide ((200 : Int) < (s.todo.length : Int)) = false := decide_eq_false (by omega)
  by_cases h2 : 255 < s.branch.size
  · have d2 : decide ((255 : Int) < (s.branch.size : Int)) = true := decide_eq_true (by omega)
    go_wp2_with fail
    go_ret
    exact HF.out _ k1
  have d2 : decide ((255 : Int) < (s.branch.size : Int)) = false := decide_eq_false (by omega)
  have p0 := (q1.cell 0).trans (seqC_at _ _).1
  obtain ⟨k, hk'⟩ : ∃ k, s.kind % 255 = k := ⟨_, rfl⟩
  obtain ⟨d, hd'⟩ : ∃ k, s.done % 65536 = k := ⟨_, rfl⟩
  obtain ⟨m, hm'⟩ : ∃ k, s.made % 65536 = k := ⟨_, rfl⟩
  have hk1 : 0 ≤ k := by omega
  have hk2 : k ≤ 254 := by omega
  have hd1 : 0 ≤ d := by omega
  have hd2 : d ≤ 65535 := by omega
  have hm1 : 0 ≤ m := by omega
  have hm2 : m ≤ 65535 := by omega
  have WK := Lib.hid (show ∀ W, Calls Try.prog 37 #[.int .i64 s.kind, .int .i64 255] W (fun r w' => r = .returned (.int .i64 k) ∧ W = w') from fun W => hk' ▸ within_any _ _ (by omega) (by omega) hk W)
  have WD := Lib.hid (show ∀ W, Calls Try.prog 37 #[.int .i64 s.done, .int .i64 65536] W (fun r w' => r = .returned (.int .i64 d) ∧ W = w') from fun W => hd' ▸ within_any _ _ (by omega) (by omega) hd W)
  have WM := Lib.hid (show ∀ W, Calls Try.prog 37 #[.int .i64 s.made, .int .i64 65536] W (fun r w' => r = .returned (.int .i64 m) ∧ W = w') from fun W => hm' ▸ within_any _ _ (by omega) (by omega) hm W)
  have HLS := Lib.hid (show lawSeq s = { s with kind := 1 + k, done := d, made := m, todo := s.todo.map actTodo } from by rw [← hk', ← hd', ← hm']; rfl)
  clear hk' hd' hm' hk hd hm
  have f0 := q1.frozen 0
  go_upto_region 6 with (first | (go_at_call 37; (with_reducible refine (WK.out _).mono ?_); rintro r w' ⟨rfl, rfl⟩))
  have q2 := q1.set_ 0 (.int .i64 (1 + k))
  rw [seqC_kind] at q2
  have k2 := k1.setCell (p := ⟨q, 0, none⟩) (Nat.le_refl _) (.int .i64 (1 + k))
  clear q1 k1 p0 p1 p66 d1 d2 f0 ql
  generalize w1.setCell ⟨q, 0, none⟩ (.int .i64 (1 + k)) = w2 at *
  have p5 := (q2.cell 67).trans (seqC_at _ _).2.2.2.1
  have p6 := (q2.cell 68).trans (seqC_at _ _).2.2.2.2.1
  have f5 := q2.frozen 67
  have f6 := q2.frozen 68
  go_cut [4] (fun s4 wx => s4 = .bool false ∧ Blk wx q 67 (seqC { s with kind := 1 + k, done := d, made := m } (.slice A s.todo.length c)) ∧ Below q w wx)
  case first =>
    --<
    have b1 := (q2.set_ 67 (.int .i64 d)).set_ 68 (.int .i64 m)
    rw [(seqC_set _ _).2.2.1, (seqC_set _ _).2.2.2.1] at b1
    have b2 := (q2.set_ 68 (.int .i64 m)).set_ 67 (.int .i64 d)
    rw [(seqC_set _ _).2.2.2.1, (seqC_set _ _).2.2.1] at b2
    have B1 := Lib.hid b1
    have B2 := Lib.hid b2
    have k1 := (k2.setCell (p := ⟨q, 67, none⟩) (Nat.le_refl _) (.int .i64 d)).setCell (p := ⟨q, 68, none⟩) (Nat.le_refl _) (.int .i64 m)
    have k2' := (k2.setCell (p := ⟨q, 68, none⟩) (Nat.le_refl _) (.int .i64 m)).setCell (p := ⟨q, 67, none⟩) (Nat.le_refl _) (.int .i64 d)
    clear b1 b2 k2
    have q2d := q2.drew
    have G1 := fun (u : Value) => ((q2d.set_ 67 u).cell 68)
    go_region_law (first | (go_simp; go_at_call 37; (with_reducible refine (WD.out _).mono ?_); rintro r w' ⟨rfl, rfl⟩) | (go_simp; go_at_call 37; (with_reducible refine (WM.out _).mono ?_); rintro r w' ⟨rfl, rfl⟩))
    all_goals
      go_wp2_with fail
      go_meet
      first
        | exact ⟨rfl, B1.out, ⟨k1.os, k1.tape, k1.output, k1.size, k1.block⟩⟩
        | exact ⟨rfl, B2.out, ⟨k2'.os, k2'.tape, k2'.output, k2'.size, k2'.block⟩⟩
    -->
  case rest =>
    obtain ⟨rfl, q3, k3⟩ := hcut
    generalize wc = w3 at *
    clear p5 p6 f5 f6 q2 k2
    obtain ⟨s1, hs1⟩ : ∃ x : SeqD, x = { s with kind := 1 + k, done := d, made := m } := ⟨_, rfl⟩
    rw [← hs1] at q3
    have HZ := Lib.hid (show lawSeq s = { s1 with todo := s.todo.map actTodo } from by rw [HLS.out, hs1])
    have HS1 := Lib.hid hs1
    have ql := q3.lt
    clear hs1 HLS WK WD WM
    go_wp2_with fail
    go_loopg [5, 6] s.todo.length (fun f s5 i wr => ∃ (j : Nat) (A' : Option Addr) (c' : Nat), j + f = s.todo.length ∧ i = .int .i64 j ∧ s5 = .slice A' j c' ∧ Own wr w3.heap.size 82 33 A' j c' (todoLs ((s.todo.take j).map actTodo)) ∧ Kept w3.heap.size [82] [] w3 wr)
    case atStart => exact ⟨0, none, 0, by omega, rfl, rfl, Own.nil _ _ _ _, Kept.refl _ _ _ _⟩
    case round =>
      obtain ⟨j, A', c', hjf, rfl, rfl, ho, hkw⟩ := hrel
      have HJF := Lib.hid hjf
      have hjn : j ≤ s.todo.length := by omega
      have q4 := hkw.blk q3 (by simp) (by decide)
      have k4 := k3.trans (hkw.all.mono (by omega))
      have hz4 := hkw.size
      clear hjf q3
      have p66 := (q4.cell 66).trans (seqC_at _ _).2.2.1
      by_cases hlt : j < s.todo.length
      · skip
        --<
        obtain ⟨x, hx'⟩ : ∃ x, s.todo[j]? = some x := ⟨_, List.getElem?_eq_getElem hlt⟩
        obtain ⟨g1, o1, rfl, _, hc⟩ := (HR.out _ k4).at0 (by omega) (by omega)
        have e0 := hc _ _ (flat_at todoL_len s.todo j 0 x hx' (.int .i64 x.act) (by simp [todoL]))
        rw [Nat.add_zero] at e0
        have L1 : (LdId (.pointer (some ⟨g1, o1 + j * 33 + 1, none⟩))).run Try.prog wr.drew = .ok (idV x.id) wr.drew := ldId_rowT (w := wr.drew) hc hx'
        obtain ⟨a, ha⟩ : ∃ a, x.act % 256 = a := ⟨_, rfl⟩
        have WA := Lib.hid (show ∀ W, Calls Try.prog 37 #[.int .i64 x.act, .int .i64 256] W (fun r w' => r = .returned (.int .i64 a) ∧ W = w') from fun W => ha ▸ within_any _ _ (by omega) (by omega) (hx x (List.mem_of_getElem? hx')) W)
        have HTK := Lib.hid (show (s.todo.take (j + 1)).map actTodo = (s.todo.take j).map actTodo ++ [⟨a, x.id⟩] from by rw [List.take_add_one, hx', List.map_append]; simp [actTodo, ha])
        have BD := BdTodo.run a x.id
        have BS := BsTodo.run ⟨a, x.id⟩
        have hi0 : (0 : Int) ≤ (j : Int) := Int.natCast_nonneg _
        have hi1 : (j : Int) < (s.todo.length : Int) := by omega
        clear hc hx' ha
        go_wp2_with fail
        have zd : w3.heap.size ≤ wr.drew.heap.size := hz4
        go_region_law (first
          | (go_simp; go_at_call 37; (with_reducible refine (WA.out _).mono ?_); rintro r w' ⟨rfl, rfl⟩)
          | ((refine step_append_sl (by rfl) elemTodo (by rfl) (by rfl) (ho.drew.alloc _) (by rfl) (Reads.of_cells (n := 1) (xs := todoL ⟨a, x.id⟩) (heap_alloc_new _ _) rfl (by rw [todoL_len])) (todoL_one _) (by unfold maxLen; omega) (by omega) (by simp; omega) ?_); intro A5 c5 w5 o5 kk5))
        all_goals
          go_wp2_with fail
          go_roundg (gk - 1)
          case measure => have := HJF.out; omega
          case rel =>
            refine ⟨j + 1, A5, c5, by have := HJF.out; omega, by go_num, rfl, ?_, ((hkw.drew.alloc _).trans kk5)⟩
            rw [HTK.out]
            simpa [todoLs] using o5
        -->
      · obtain rfl : j = s.todo.length := by omega
        rw [List.take_length] at ho
        have f66 := q4.frozen 66
        go_upto_region 13 with fail
        have q5 := q4.set_ 66 (.slice A' s.todo.length c')
        rw [(seqC_set _ _).2.1] at q5
        have ho5 := ho.setCell (p := ⟨q, 66, none⟩) q4 (by decide) (.slice A' s.todo.length c')
        have k5 := k4.setCell (p := ⟨q, 66, none⟩) (Nat.le_refl _) (.slice A' s.todo.length c')
        clear q4 k4 ho p66 f66 hkw HJF hjn hlt hz4
        generalize wr.setCell ⟨q, 66, none⟩ (.slice A' s.todo.length c') = w5 at *
        have hok := lawTx_ok s (by omega) (by omega)
        have hlen := lawTx_len s (by omega) (by omega)
        have hcan := lawTx_canon s
        have hask := lawTx_asks s
        have HTL := Lib.hid (show s.todo.length = (lawTx s).seq.todo.length ∧ todoLs (s.todo.map actTodo) = todoLs (lawTx s).seq.todo ∧ seqC s1 = seqC (lawTx s).seq from ⟨by simp [lawTx, lawSeq], rfl, by funext tv; rw [show (lawTx s).seq = lawSeq s from rfl, HZ.out]; rfl⟩)
        have HTX := Lib.hid (show ({ tx0 with hasSeq := true, seq := (lawTx s).seq } : TxD) = lawTx s from rfl)
        have HRD := Lib.hid (fun u h => law_read (u := u) (s := s) h)
        have hdn : 0 ≤ (lawTx s).seq.done ∧ (lawTx s).seq.done ≤ 65535 := by simp [lawTx, lawSeq]; omega
        rw [HTL.out.2.1, HTL.out.1] at ho5
        rw [HTL.out.2.2, HTL.out.1] at q5
        rw [HTL.out.1]
        have htl : (lawTx s).seq.todo.length ≤ 200 := by have := HTL.out.1; omega
        have hbr : (lawTx s).seq.branch.size ≤ 255 := by show s.branch.size ≤ 255; omega
        have hhd : (lawTx s).head.size ≤ 9000000 := by show (0 : Nat) ≤ 9000000; omega
        clear HZ HS1 HTL h1 h2
        generalize lawTx s = t at *
        have hcp := ho5.cap_le
        have HB : ∀ W, (BdTx #[(3, .bool true), (4, .agg (seqC t.seq (.slice A' t.seq.todo.length c')))]).run Try.prog W = .ok (.agg (txC t nilS (.slice A' t.seq.todo.length c') nilS)) W := fun W => by have h := BdTx.seq t.seq (.slice A' t.seq.todo.length c') W; rw [HTX.out] at h; exact h
        have HEC := Lib.hid (show ∀ W, TxIn W W.heap.size t nilS (.slice A' t.seq.todo.length c') nilS → Calls Try.prog 31 #[.agg (txC t nilS (.slice A' t.seq.todo.length c') nilS)] W (fun r w' => ∃ A c, r = .returned (.tuple #[.slice A (encTxB t).length c, .int .i64 0]) ∧ Own w' W.heap.size 5 1 A (encTxB t).length c ((encTxB t).map bv) ∧ Below W.heap.size W w')
          from fun W h => by have h := encodeTx_any t _ _ _ W h hhd (by omega); unfold EncTxPost at h; rw [show encTx t = (encTxB t, 0) from by rw [encTx, if_pos hok]] at h; exact h)
        have HPC := Lib.hid (show ∀ (A0 : Option Addr) (c0 : Nat) (W : World), Reads W W.heap.size 1 A0 (encTxB t).length ((encTxB t).map bv) → (encTxB t).length ≤ c0 → c0 ≤ maxLen → Calls Try.prog 33 #[.slice A0 (encTxB t).length c0] W (fun r w' => ∃ mv tv ev, r = .returned (.tuple #[.agg (txC t mv tv ev), .int .i64 0]) ∧ TR W.heap.size t mv tv ev w' ∧ Below W.heap.size W w')
          from fun A0 c0 W h1 h2 h3 => (parseTx_any (encTxB t) A0 c0 W h1 (by omega) h2 h3).mono fun r w' ⟨u, mv, tv, ev, e1, e2, e3, e4⟩ => by
            have hp : parseTx (encTxB t) = (t, 0) := by rw [parse_enc t hok, hcan]
            rw [hp] at e1 e2
            have := HRD.out u e1
            subst this
            exact ⟨mv, tv, ev, e2, e3, e4⟩)
        have HIN := Lib.hid (show ∀ W, Below w5.heap.size w5 W → TxIn W W.heap.size t nilS (.slice A' t.seq.todo.length c') nilS ∧ Blk W q 67 (seqC t.seq (.slice A' t.seq.todo.length c')) ∧ Below q w W from fun W k => by
          have hmv : t.moves = [] := by rw [← HTX.out]; rfl
          have hme : t.mem = [] := by rw [← HTX.out]; rfl
          refine ⟨⟨⟨none, 0, by rw [hmv]; rfl, by rw [hmv]; exact Reads.none_, by rw [hmv]; exact Nat.le_refl _, by unfold maxLen; omega⟩, ⟨A', c', rfl, (ho5.reads.below k).more k.size, hcp⟩, ⟨none, 0, by rw [hme]; rfl, by rw [hme]; exact Reads.none_, by rw [hme]; exact Nat.le_refl _, by unfold maxLen; omega⟩, fun m hm => by rw [hme] at hm; simp at hm⟩, q5.below k q5.lt, k5.trans (k.mono ?_)⟩
          exact Nat.le_of_lt q5.lt)
        have L5 := LdSeq.whole q5
        have hlen2 := hlen
        have hq5l := q5.lt
        generalize (encTxB t).length = bl at *
        clear HTX HRD hok hcan ho5 hlen hcp
        go_upto_region 14 with (first | (refine wpList_allocAgg rfl rfl (zero_tx _) ?_) | (refine wpList_storeBlk rfl rfl (vs := txC t nilS (.slice A' t.seq.todo.length c') nilS) rfl rfl (Blk.new _ _ _) (by rw [txC_size, txC_size]) (by rw [txC_size]; exact info_tx) (txL_one _ _ _ _ rfl rfl rfl) ?_; intro w6 x6 hkc hzc))
        have kN : Keep Nothing w5 w6 := Keep.ofNew hkc
        have b6 : Below w5.heap.size w5 w6 := kN.all
        have hz6 := b6.size
        have l6 := x6.lt
        have hzq : q < w5.heap.size := hq5l
        clear L5 hkc hzc kN HB q5 k5
        generalize h5e : w5.heap.size = h5 at *
        go_wp2_with (first | (refine wpList_load rfl rfl rfl (LdTx.run' x6) ?_))
        refine (HEC.out _ (HIN.out _ b6).1).mono ?_
        rintro r w7 ⟨A7, c7, rfl, o7, be7⟩
        have hz7 := be7.size
        have b7 := b6.trans (be7.mono hz6)
        have x7 := x6.below be7 l6
        have hcap7 := o7.cap_le
        clear x6 be7 HEC
        go_wp2_with fail
        refine (HPC.out _ _ _ o7.reads hcap7.1 hcap7.2).mono ?_
        rintro r w8 ⟨pm, pt, pe, rfl, T8, be8⟩
        have hz8 := be8.size
        have b8 := b7.trans (be8.mono (by omega))
        have x8 := x7.below be8 (by omega)
        clear x7 be8 HPC o7 hcap7
        go_upto_region 16 with (first | (refine wpList_allocAgg rfl rfl (zero_tx _) ?_) | (refine wpList_storeBlk rfl rfl (vs := txC t pm pt pe) rfl rfl (Blk.new _ _ _) (by rw [txC_size, txC_size]) (by rw [txC_size]; exact info_tx) T8.one ?_; intro w9 y9 hkc hzc))
        have kN : Keep Nothing w8 w9 := Keep.ofNew hkc
        have hz9 := kN.all.size
        have b9 := b8.trans (kN.all.mono (by omega))
        have x9 := x8.keep kN (fun h => h)
        have T9 := T8.kept (b' := 0) (E := []) (G := []) (Kept.ofBelow kN.all) (by simp) (by simp)
        have y9l := y9.lt
        clear x8 T8 hkc hzc kN b6
        have hy7 : w7.heap.size ≤ w8.heap.size := hz8
        generalize h8e : w8.heap.size = h8 at *
        generalize h7e : w7.heap.size = h7 at *
        have hT : ∀ W, Keep Nothing w9 W → TxIn W W.heap.size t pm pt pe := fun W k => (T9.kept (b' := 0) (E := []) (G := []) (Kept.ofBelow k.all) (by simp) (by simp)).in_
        obtain ⟨A8, c8, hpt, O8⟩ := T9.tv
        subst hpt
        have SM := Lib.hid (show ∀ W, Below h5 w5 W → TxIn W W.heap.size t pm (.slice A8 t.seq.todo.length c8) pe → Calls Try.prog 36 #[.agg (txC t nilS (.slice A' t.seq.todo.length c') nilS), .agg (txC t pm (.slice A8 t.seq.todo.length c8) pe)] W (fun r w' => r = .returned (.bool true) ∧ Keep Nothing W w') from fun W h1 h2 => by have h := sameTx_any t t _ _ _ _ _ _ W (HIN.out _ h1).1 h2; rw [sameTxP_refl] at h; exact h)
        have HT := Lib.hid hT
        have q9 := (HIN.out _ b9).2.1
        have h58 : h5 < h8 := by omega
        have h57' : h5 < h7 := by omega
        clear hT h5e h7e h8e
        -- the long test
        have SM9 := Lib.hid (SM.out w9 b9 (HT.out _ (Keep.refl _ _)))
        have G1 := fun (a b : Operand) (W : World) => guard_id .neq a b t.seq.cur t.seq.cur W
        have E1 : ∀ W, (NeId (idV t.seq.cur) (idV t.seq.cur)).run Try.prog W = .ok (.bool false) W := fun W => by simpa using run_NeId W t.seq.cur t.seq.cur
        go_wp2_with (first | (refine wpList_loadG (o := ⟨some 82, _, _, _, _, _⟩) (by rfl) rfl rfl (LdTx.run' x9) ?_) | (refine wpList_loadG (o := ⟨some 83, _, _, _, _, _⟩) (by rfl) rfl rfl (LdTx.run' y9) ?_))
        refine SM9.out.mono ?_
        rintro r w10 ⟨rfl, k10⟩
        have x10 := x9.keep k10 (fun h => h)
        have y10 := y9.keep k10 (fun h => h)
        have q10 := q9.keep k10 (fun h => h)
        have a71 := (y10.cell 71).trans (txC_at7 _ _ _ _).2.2.1
        have a72 := (y10.cell 72).trans (txC_at7 _ _ _ _).2.2.2.1
        have a73 := (y10.cell 73).trans (txC_at7 _ _ _ _).2.2.2.2
        have a70 := (y10.cell 70).trans (txC_at7 _ _ _ _).2.1
        have b67 := (q10.cell 67).trans (seqC_at _ _).2.2.2.1
        have b68 := (q10.cell 68).trans (seqC_at _ _).2.2.2.2.1
        have b69 := (q10.cell 69).trans (seqC_at _ _).2.2.2.2.2
        have L114 : (LdId (.pointer (some ⟨h8, 38, none⟩))).run Try.prog w10 = .ok (idV t.seq.cur) w10 := ldId_mid y10 (txC_cur _ _ _ _)
        have L116 : (LdId (.pointer (some ⟨q, 34, none⟩))).run Try.prog w10 = .ok (idV t.seq.cur) w10 := ldId_mid q10 (seqC_ids _ _).2
        clear x9 y9 q9 SM9
        go_upto_region 18 with fail
        have b10 := b9.trans (k10.all.mono (by omega))
        have T10 := T9.kept (b' := 0) (E := []) (G := []) (Kept.ofBelow k10.all) (by simp) (by simp)
        clear a71 a72 a70 a73 b67 b68 b69 L114 L116 G1 E1 q10 T9 HT SM k10
        have a71 := (y10.cell 71).trans (txC_at7 _ _ _ _).2.2.1
        have a73 := (y10.cell 73).trans (txC_at7 _ _ _ _).2.2.2.2
        have a70 := (y10.cell 70).trans (txC_at7 _ _ _ _).2.1
        obtain ⟨f, hf5⟩ : ∃ f, fl % 5 = f := ⟨_, rfl⟩
        have hf' : f = 0 ∨ f = 1 ∨ f = 2 ∨ f = 3 ∨ f = 4 := by omega
        have WF := Lib.hid (show Calls Try.prog 37 #[.int .i64 fl, .int .i64 5] w10 (fun r w' => r = .returned (.int .i64 f) ∧ w10 = w') from hf5 ▸ within_any fl 5 (by omega) (by omega) hf w10)
        clear hf5 hf
        rcases hf' with rfl | rfl | rfl | rfl | rfl
        -- cases (mk_seqs.py)
        · obtain ⟨n, hn⟩ : ∃ n : Nat, t.seq.done = n := ⟨t.seq.done.toNat, by omega⟩
          obtain ⟨m, hm, hmn⟩ := xor_ne n (by omega)
          rw [← hn] at hm
          have hne := sameTxP_seq_ne (u := { t with seq := { t.seq with done := (m : Int) } }) hask (same_done (by omega))
          clear hn
          have f0 := y10.frozen 71
          go_wp2_with fail
          refine WF.out.mono ?_
          rintro r w' ⟨rfl, rfl⟩
          go_upto_region 29 with fail
          have y11 := y10.set_ 71 (.int .i64 (m : Int))
          rw [(txC_put7 _ _ _ _).2.2.1] at y11
          have x11 := x10.far (p := ⟨h8, 71, none⟩) (Nat.ne_of_lt h58) (.int .i64 (m : Int))
          have b11 := b10.setCell (p := ⟨h8, 71, none⟩) (Nat.le_of_lt h58) (.int .i64 (m : Int))
          have T11 : TR h7 ({ t with seq := { t.seq with done := (m : Int) } }) pm (.slice A8 t.seq.todo.length c8) pe (w10.setCell ⟨h8, 71, none⟩ (.int .i64 (m : Int))) := ⟨(T10.set y10 _).mv, (T10.set y10 _).tv, (T10.set y10 _).ev, (T10.set y10 _).dat⟩
          clear y10 x10 b10 T10 f0
          have hin := HIN.out _ b11
          have hin2 := hin.2.2
          have hinl := hin.2.1.lt
          have SMx := Lib.hid (sameTx_any t _ _ _ _ _ _ _ _ hin.1 T11.in_)
          clear hin
          generalize (w10.setCell ⟨h8, 71, none⟩ (.int .i64 (m : Int))) = w11 at *
          go_wp2_with (first | (refine wpList_load (o := ⟨some 174, _, _, _, _, _⟩) rfl rfl rfl (LdTx.run' x11) ?_) | (refine wpList_load (o := ⟨some 175, _, _, _, _, _⟩) rfl rfl rfl (LdTx.run' y11) ?_))
          refine SMx.out.mono ?_
          rintro r w12 ⟨rfl, k12⟩
          rw [hne]
          go_wp2_with fail
          go_ret
          exact HF.out _ (hin2.trans (k12.all.mono (by omega)))
        · have hne := sameTxP_seq_ne (u := { t with seq := { t.seq with stopped := !t.seq.stopped } }) hask (same_stopped _)
          have f0 := y10.frozen 73
          go_wp2_with fail
          refine WF.out.mono ?_
          rintro r w' ⟨rfl, rfl⟩
          go_upto_region 29 with fail
          have y11 := y10.set_ 73 (.bool (!t.seq.stopped))
          rw [(txC_put7 _ _ _ _).2.2.2] at y11
          have x11 := x10.far (p := ⟨h8, 73, none⟩) (Nat.ne_of_lt h58) (.bool (!t.seq.stopped))
          have b11 := b10.setCell (p := ⟨h8, 73, none⟩) (Nat.le_of_lt h58) (.bool (!t.seq.stopped))
          have T11 : TR h7 ({ t with seq := { t.seq with stopped := !t.seq.stopped } }) pm (.slice A8 t.seq.todo.length c8) pe (w10.setCell ⟨h8, 73, none⟩ (.bool (!t.seq.stopped))) := ⟨(T10.set y10 _).mv, (T10.set y10 _).tv, (T10.set y10 _).ev, (T10.set y10 _).dat⟩
          clear y10 x10 b10 T10 f0
          have hin := HIN.out _ b11
          have hin2 := hin.2.2
          have hinl := hin.2.1.lt
          have SMx := Lib.hid (sameTx_any t _ _ _ _ _ _ _ _ hin.1 T11.in_)
          clear hin
          generalize (w10.setCell ⟨h8, 73, none⟩ (.bool (!t.seq.stopped))) = w11 at *
          go_wp2_with (first | (refine wpList_load (o := ⟨some 174, _, _, _, _, _⟩) rfl rfl rfl (LdTx.run' x11) ?_) | (refine wpList_load (o := ⟨some 175, _, _, _, _, _⟩) rfl rfl rfl (LdTx.run' y11) ?_))
          refine SMx.out.mono ?_
          rintro r w12 ⟨rfl, k12⟩
          rw [hne]
          go_wp2_with fail
          go_ret
          exact HF.out _ (hin2.trans (k12.all.mono (by omega)))
        · obtain ⟨x, hx1, hx2⟩ := txC_lastAt t pm (.slice A8 t.seq.todo.length c8) pe
          have a37 := (y10.cell 37).trans hx2
          have hsu := Lib.hid (show (txC t pm (.slice A8 t.seq.todo.length c8) pe).setIfInBounds 37 (.int .u8 (((x.toNat : Int) + 1) % 256)) = txC { t with seq := { t.seq with orig := lastId t.seq.orig (x + 1) } } pm (.slice A8 t.seq.todo.length c8) pe from by rw [show Value.int .u8 (((x.toNat : Int) + 1) % 256) = bv (x + 1) from congrArg (Value.int .u8) (u8_succ x), txC_last])
          have hne := sameTxP_seq_ne (u := { t with seq := { t.seq with orig := lastId t.seq.orig (x + 1) } }) hask (same_orig (lastId_ne _ _ _ hx1 (succ_ne x)))
          clear hx1 hx2
          have f0 := y10.frozen 37
          go_wp2_with fail
          refine WF.out.mono ?_
          rintro r w' ⟨rfl, rfl⟩
          go_upto_region 29 with fail
          have y11 := y10.set_ 37 (.int .u8 (((x.toNat : Int) + 1) % 256))
          rw [hsu.out] at y11
          have x11 := x10.far (p := ⟨h8, 37, none⟩) (Nat.ne_of_lt h58) (.int .u8 (((x.toNat : Int) + 1) % 256))
          have b11 := b10.setCell (p := ⟨h8, 37, none⟩) (Nat.le_of_lt h58) (.int .u8 (((x.toNat : Int) + 1) % 256))
          have T11 : TR h7 ({ t with seq := { t.seq with orig := lastId t.seq.orig (x + 1) } }) pm (.slice A8 t.seq.todo.length c8) pe (w10.setCell ⟨h8, 37, none⟩ (.int .u8 (((x.toNat : Int) + 1) % 256))) := ⟨(T10.set y10 _).mv, (T10.set y10 _).tv, (T10.set y10 _).ev, (T10.set y10 _).dat⟩
          clear y10 x10 b10 T10 f0
          have hin := HIN.out _ b11
          have hin2 := hin.2.2
          have hinl := hin.2.1.lt
          have SMx := Lib.hid (sameTx_any t _ _ _ _ _ _ _ _ hin.1 T11.in_)
          clear hin
          generalize (w10.setCell ⟨h8, 37, none⟩ (.int .u8 (((x.toNat : Int) + 1) % 256))) = w11 at *
          go_wp2_with (first | (refine wpList_load (o := ⟨some 174, _, _, _, _, _⟩) rfl rfl rfl (LdTx.run' x11) ?_) | (refine wpList_load (o := ⟨some 175, _, _, _, _, _⟩) rfl rfl rfl (LdTx.run' y11) ?_))
          refine SMx.out.mono ?_
          rintro r w12 ⟨rfl, k12⟩
          rw [hne]
          go_wp2_with fail
          go_ret
          exact HF.out _ (hin2.trans (k12.all.mono (by omega)))
        · have hne := sameTxP_seq_ne (u := { t with seq := { t.seq with branch := t.seq.branch ++ ⟨#[120]⟩ } }) hask (same_branch (by rw [ByteArray.size_append]; show t.seq.branch.size + 1 ≠ t.seq.branch.size; omega))
          have a5 := (y10.cell 5).trans (txC_at7 _ _ _ _).1
          have f0 := y10.frozen 5
          go_wp2_with fail
          refine WF.out.mono ?_
          rintro r w' ⟨rfl, rfl⟩
          go_upto_region 29 with fail
          have y11 := y10.set_ 5 (.string (t.seq.branch ++ ⟨#[120]⟩))
          rw [(txC_put7 _ _ _ _).1] at y11
          have x11 := x10.far (p := ⟨h8, 5, none⟩) (Nat.ne_of_lt h58) (.string (t.seq.branch ++ ⟨#[120]⟩))
          have b11 := b10.setCell (p := ⟨h8, 5, none⟩) (Nat.le_of_lt h58) (.string (t.seq.branch ++ ⟨#[120]⟩))
          have T11 : TR h7 ({ t with seq := { t.seq with branch := t.seq.branch ++ ⟨#[120]⟩ } }) pm (.slice A8 t.seq.todo.length c8) pe (w10.setCell ⟨h8, 5, none⟩ (.string (t.seq.branch ++ ⟨#[120]⟩))) := ⟨(T10.set y10 _).mv, (T10.set y10 _).tv, (T10.set y10 _).ev, (T10.set y10 _).dat⟩
          clear y10 x10 b10 T10 f0
          have hin := HIN.out _ b11
          have hin2 := hin.2.2
          have hinl := hin.2.1.lt
          have SMx := Lib.hid (sameTx_any t _ _ _ _ _ _ _ _ hin.1 T11.in_)
          clear hin
          generalize (w10.setCell ⟨h8, 5, none⟩ (.string (t.seq.branch ++ ⟨#[120]⟩))) = w11 at *
          go_wp2_with (first | (refine wpList_load (o := ⟨some 174, _, _, _, _, _⟩) rfl rfl rfl (LdTx.run' x11) ?_) | (refine wpList_load (o := ⟨some 175, _, _, _, _, _⟩) rfl rfl rfl (LdTx.run' y11) ?_))
          refine SMx.out.mono ?_
          rintro r w12 ⟨rfl, k12⟩
          rw [hne]
          go_wp2_with fail
          go_ret
          exact HF.out _ (hin2.trans (k12.all.mono (by omega)))
        · have hne := sameTxP_seq_ne (u := { t with seq := { t.seq with todo := t.seq.todo ++ [⟨1, noId⟩] } }) hask (same_todo _ _)
          have BD : ∀ W, (BdTodo #[(0, .int .i64 1)]).run Try.prog W = .ok (.agg (todoC ⟨1, noId⟩)) W := fun W => bd_todo1 W
          have BS := BsTodo.run ⟨1, noId⟩
          have z7 : h7 ≤ w10.heap.size := by have := y10.lt; omega
          have h57 : h5 ≤ h7 := by omega
          have O10 : Own w10 h7 82 33 A8 t.seq.todo.length c8 (todoLs t.seq.todo) := by
            obtain ⟨_, _, e, h⟩ := T10.tv
            injection e with e1 _ e2
            subst e1 e2
            exact h
          go_wp2_with fail
          refine WF.out.mono ?_
          rintro r w' ⟨rfl, rfl⟩
          go_upto_region 29 with (first | (at_builtin; refine wpList_append_sl rfl elemTodo rfl rfl (O10.alloc _) rfl (Reads.of_cells (n := 1) (xs := todoL ⟨1, noId⟩) (heap_alloc_new _ _) rfl (by rw [todoL_len])) (todoL_one _) (by unfold maxLen; omega) (by omega) (by simp; omega) ?_; intro A11 c11 w11' o11 kk11; have y10' := kk11.blk (y10.alloc _) (by simp) (by decide); have f70 := y10'.frozen 70; have c70 := (y10'.cell 70).trans (txC_at7 _ _ _ _).2.1))
          have y11 := y10'.set_ 70 (.slice A11 (t.seq.todo.length + 1) c11)
          rw [(txC_put7 _ _ _ _).2.1] at y11
          have x11 := (kk11.blk (x10.alloc _) (by simp) (by decide)).far (p := ⟨h8, 70, none⟩) (Nat.ne_of_lt h58) (.slice A11 (t.seq.todo.length + 1) c11)
          have b11 := ((b10.alloc (by omega) (.cells (todoC ⟨1, noId⟩) 82)).trans (kk11.below (B := h5) h57 (by simp; omega) (by simp))).setCell (p := ⟨h8, 70, none⟩) (Nat.le_of_lt h58) (.slice A11 (t.seq.todo.length + 1) c11)
          have T11 : TR h7 ({ t with seq := { t.seq with todo := t.seq.todo ++ [⟨1, noId⟩] } }) pm (.slice A11 (t.seq.todo.length + 1) c11) pe (w11'.setCell ⟨h8, 70, none⟩ (.slice A11 (t.seq.todo.length + 1) c11)) := (TR.todo (q := { t.seq with todo := t.seq.todo ++ [⟨1, noId⟩] }) (T10.alloc _) kk11 (by simp) (by simpa [todoLs] using o11) (Nat.le_refl _)).set y10' _
          clear y10 x10 b10 T10 y10' f70 c70 O10 o11 kk11
          have hin := HIN.out _ b11
          have hin2 := hin.2.2
          have hinl := hin.2.1.lt
          have SMx := Lib.hid (sameTx_any t _ _ _ _ _ _ _ _ hin.1 T11.in_)
          clear hin
          generalize (w11'.setCell ⟨h8, 70, none⟩ (.slice A11 (t.seq.todo.length + 1) c11)) = w11 at *
          go_wp2_with (first | (refine wpList_load (o := ⟨some 174, _, _, _, _, _⟩) rfl rfl rfl (LdTx.run' x11) ?_) | (refine wpList_load (o := ⟨some 175, _, _, _, _, _⟩) rfl rfl rfl (LdTx.run' y11) ?_))
          refine SMx.out.mono ?_
          rintro r w12 ⟨rfl, k12⟩
          rw [hne]
          go_wp2_with fail
          go_ret
          exact HF.out _ (hin2.trans (k12.all.mono (by omega)))
        -- end of cases
section
variable {H : Type} {enc : TypeId × Value → H} {w : World} {base : Nat} {spare : Nat → Bool} {held : Bool}
set_option maxRecDepth 100000 in
theorem branch_le {n : Nat} {q : SeqD} {tv : Value} {y : DataW H × List MemPlace} (h : DataW.trod enc Try.prog w base spare held n 67 (seqL q tv) = some y) : q.branch.size ≤ maxLen := by
  obtain ⟨xs, m, _, _, _, hxl, hx⟩ := DataW.trod_struct Try.underlying67 h
  have h1 := hx 1 _ rfl
  have hxl' : xs.length = 8 := hxl
  rw [List.getElem?_eq_getElem (by omega)] at h1
  have h1 : DataW.trod enc Try.prog w base spare held m 9 (((seqL q tv).drop 1).take (Try.prog.cellsOf 9)) = _ := h1
  rw [cells_str, show ((seqL q tv).drop 1).take 1 = [.string q.branch] from rfl] at h1
  obtain ⟨s, f, _, hs⟩ := DataW.trod_string Try.underlying9 h1
  simp only [List.cons.injEq, Value.string.injEq, and_true] at f
  rw [f]
  exact hs
set_option maxRecDepth 100000 in
theorem opened_seq {b0 : Nat} {r : Reach} {v : Value} {d : DataW H} {p : List MemPlace} (hv : Value.okWide Try.prog w r b0 67 v) (h : DataW.Trod enc Try.prog w base spare held 67 v d p) :
    ∃ (q : SeqD) (A : Option Addr) (c : Nat), v = .agg (seqC q (.slice A q.todo.length c)) ∧ Reads w w.heap.size 33 A q.todo.length (todoLs q.todo) ∧ q.todo.length ≤ c ∧ c ≤ maxLen ∧ q.branch.size ≤ maxLen ∧ I64 q.kind ∧ I64 q.done ∧ I64 q.made ∧ ∀ x ∈ q.todo, I64 x.act := by
  obtain ⟨cs, rfl, _⟩ := okWide_struct Try.underlying67 hv
  obtain ⟨fuel, hf⟩ := h
  obtain ⟨q, A, c, h1, h2, h3, h4, h5⟩ := open_seq hf (Nat.le_refl _)
  have h1 : cs.toList = _ := h1
  have hw : ∀ {a : Int}, (Lit.int .i64 a).wf = true → I64 a := fun {a} h => by simpa [I64, Lit.wf, IntKind.min, IntKind.max, IntKind.signed, IntKind.bits] using h
  have hf' : DataW.trod enc Try.prog w base spare held fuel 67 cs.toList = some (d, p) := hf
  rw [h1] at hf'
  refine ⟨q, A, c, ?_, h2, h3, h4, branch_le hf', hw h5.kind, hw h5.done, hw h5.made, fun x hx => hw (h5.acts x hx)⟩
  unfold seqC
  rw [← h1]
end
set_option maxRecDepth 100000 in
theorem codecSeqs_lifted (os : Os) (started : os.Started) (H : Type) (enc : TypeId × Value → H) :
    ReturnsInHanded {} Try.checked os 9 .any (Rows.codecSeqsSpec.pre6 enc Try.prog Try.f9 Rows.codecSeqsRow.domain false) (Rows.codecSeqsSpec.post enc Try.prog Try.f9 false true false false) := by
  refine returnsInHanded_of_change (C := Try.checked) own started (by kernel_rfl) Try.func9
    (ChangeSpec.witness6 (enc := enc) (C := Try.checked) false ⟨#[], #[(.agg (seqC noSeq nilS)), (.int .i64 0)], []⟩ 8 (by kernel_rfl) (by kernel_rfl) (by kernel_rfl) (by kernel_rfl)) ?_
  intro W base args ds gs before hval0 hW hcnd _
  have hval : ∀ (j : Nat) t v, Try.f9.params[j]? = some t → args[j]? = some v → Value.okWide Try.prog W .any base t v := hval0
  have hW' := hW
  obtain ⟨p, q, hA0, hV, rfl, hfz, hnd⟩ := hW
  have hA : DataW.TrodAll enc Try.prog W 0 (fun _ => true) true Try.f9.params.toList args.toList ds p := hA0
  rw [Try.params9] at hA hval
  obtain ⟨v0, vs0, d0, ds0, p0, q0, hargs, rfl, rfl, h0, r0⟩ := trodAll_cons hA
  obtain ⟨v1, vs1, d1, ds1, p1, q1, rfl, rfl, rfl, h1, r1⟩ := trodAll_cons r0
  obtain ⟨rfl, rfl, rfl⟩ := trodAll_nil r1
  obtain rfl : args = #[v0, v1] := by cases args; simp_all
  obtain ⟨rfl, rfl⟩ := trodVars_none hV
  have k0 := h0
  have lt0 : ∀ x ∈ p0, x.block < W.heap.size := by obtain ⟨m, hm⟩ := k0; exact DataW.trod_lt m _ _ _ hm
  have k1 := h1
  have lt1 : ∀ x ∈ p1, x.block < W.heap.size := by obtain ⟨m, hm⟩ := k1; exact DataW.trod_lt m _ _ _ hm
  obtain ⟨q0', a0, c0, rfl, hr0, hc0, hm0, hb0, hk0, hd0, hm0', hx0⟩ := opened_seq (hval 0 67 v0 rfl rfl) h0
  obtain ⟨f0, rfl, _, _, w1⟩ := open_int Try.underlying3 (hval 1 3 v1 rfl rfl) h1
  have hf0 : I64 f0 := by simpa [I64, Lit.wf, IntKind.min, IntKind.max, IntKind.signed, IntKind.bits] using w1
  clear hA0 hval0
  refine (seqs_walk q0' a0 c0 f0 W hr0 hc0 hm0 hb0 hk0 hd0 hm0' hx0 hf0).mono fun e W' ⟨he, bel⟩ => ?_
  subst he
  exact ⟨_, rfl, _, _, _, [], _, [], hW', trodAll_mk1 (shut_bool Try.underlying4 _), (trodAll_cons_mk (Below.trod laidOut (by kernel_rfl) (of_decide_eq_true (by kernel_rfl)) k0 bel lt0) (trodAll_cons_mk (Below.trod laidOut (by kernel_rfl) (of_decide_eq_true (by kernel_rfl)) k1 bel lt1) trodAll_mk0)), rfl, bel.frame _, fun h => by cases h⟩

theorem codecSeqs_over : Rows.codecSeqsRow.holds Try.pinned (OpenSpec.ofChange Rows.codecSeqsSpec) :=
  OpenClaim.holds_of_wide 9 Try.f9 rfl rfl rfl rfl rfl rfl rfl ⟨rfl, rfl, rfl, rfl, rfl⟩ rfl rfl rfl rfl rfl (by kernel_rfl) Try.func9 (by kernel_rfl)
    (of_decide_eq_true (by kernel_rfl)) (by unfold Func.isWrapper; first | (rw [if_pos (by decide +kernel)]; kernel_rfl) | (rw [if_neg (by decide +kernel)]; exact ⟨rfl, rfl⟩))
    (fun os started H enc _ => codecSeqs_lifted os started H enc)

theorem codecSeqs_holds : Rows.CodecSeqsSaid := codecSeqs_over
#print axioms codecSeqs_holds
end Go.Proofs.Ytppmolneklidfaa
