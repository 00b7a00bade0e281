/-
  Texts of the codec joined (Tr7). No statement of the seat is proved here.
-/
import Derived.Test.YtppmolneklidfaaGreatZ32
namespace Go.Proofs.YtppmolneklidfaaGreat
open Go.RowKit

theorem TR.seqC {base b' g x c : Nat} {t : TxD} {mv tv ev : Value} {wr w' : World} {A : Option Addr} {rc cs : Array Value} (h : TR base t mv tv ev wr) (hk : Kept b' [113] [g, x] wr w') (hg : Blk wr g 121 rc) (hx : Blk wr x 34 cs) {q : SeqD} (ho : Own w' b' 113 33 A q.todo.length c (todoLs q.todo)) (hb : base ≤ b') : TR base { t with seq := q } mv (.slice A q.todo.length c) ev w' := by
  have hB : ∀ e, e ≠ 121 → e ≠ 34 → ∀ g' ∈ [g, x], ∃ t cs, Blk wr g' t cs ∧ t ≠ e := fun e h1 h2 g' hg' => by
    simp at hg'
    rcases hg' with rfl | rfl
    · exact ⟨_, _, hg, fun q => h1 q.symm⟩
    · exact ⟨_, _, hx, fun q => h2 q.symm⟩
  obtain ⟨⟨A, c, h1, h2⟩, _, ⟨A'', c'', h1'', h2''⟩, h4⟩ := h
  exact ⟨⟨A, c, h1, h2.kept hk (by decide) (hB _ (by decide) (by decide))⟩, ⟨_, _, rfl, ho.mono hb⟩, ⟨A'', c'', h1'', h2''.kept hk (by decide) (hB _ (by decide) (by decide))⟩, fun m hm => ⟨(h4 m hm).1.kept hk (by decide) (hB _ (by decide) (by decide)), (h4 m hm).2⟩⟩
theorem TR.zero (base : Nat) (w : World) : TR base tx0 nilS nilS nilS w := ⟨⟨none, 0, rfl, Own.nil _ _ _ _⟩, ⟨none, 0, rfl, Own.nil _ _ _ _⟩, ⟨none, 0, rfl, Own.nil _ _ _ _⟩, fun m hm => by simp [tx0] at hm⟩
theorem PtPost.bad {b : List UInt8} {w w' : World} {c : Int} (h : parseTx b = (tx0, c)) (hk : Below w.heap.size w w') : PtPost b w (.returned (.tuple #[.agg (txC tx0 nilS nilS nilS), .int .i64 c])) w' := by
  refine ⟨tx0, nilS, nilS, nilS, ?_, ?_, TR.zero _ _, hk⟩
  · rw [h]; rfl
  · rw [h]

set_option maxHeartbeats 16000000 in
set_option maxRecDepth 100000 in
theorem rparseTx_any (b : List UInt8) (A : Option Addr) (c : Nat) (w : World) (hr : Reads w w.heap.size 1 A b.length (b.map bv)) (_hl : b.length ≤ 1000000) (hc1 : b.length ≤ c) (hc2 : c ≤ maxLen) :
    Calls Tryz.prog 38 #[.slice A b.length c] w (PtPost b w) := by
  have hcm := hc2
  unfold maxLen at hcm
  go_enter Tryz.func38, Tryz.ntmps38
  go_upto_region 2 with (first | (refine wpList_allocAgg rfl rfl (zero_tx _) ?_))
  have y0 : Blk ((w.alloc (.cells (txC tx0 nilS nilS nilS) 34)).alloc (.cells #[.slice A b.length c, .int .i64 0, .bool false] 121)) w.heap.size 34 (txC tx0 nilS nilS nilS) := (Blk.new _ _ _).alloc _
  have r0 : Cu ((w.alloc (.cells (txC tx0 nilS nilS nilS) 34)).alloc (.cells #[.slice A b.length c, .int .i64 0, .bool false] 121)) (w.heap.size + 1) w.heap.size b 0 0 := by
    refine ⟨A, c, ?_, (hr.alloc (Nat.le_refl _) _).alloc (by simp) _, Nat.zero_le _, hc1, hc2, by omega⟩
    have := Blk.new (w.alloc (.cells (txC tx0 nilS nilS nilS) 34)) 121 #[.slice A b.length c, .int .i64 0, .bool false]
    simpa using this
  have k0 : Keep Nothing w ((w.alloc (.cells (txC tx0 nilS nilS nilS) 34)).alloc (.cells #[.slice A b.length c, .int .i64 0, .bool false] 121)) := ((Keep.refl _ _).alloc _).alloc _
  generalize (w.alloc (.cells (txC tx0 nilS nilS nilS) 34)).alloc (.cells #[.slice A b.length c, .int .i64 0, .bool false] 121) = v0 at *
  have z0 := k0.size
  have l0 := y0.lt
  go_upto_region 3 with (first | (refine wpList_allocAgg rfl rfl (zero_tx _) ?_))
  have q0 : CQ w (w.heap.size + 1) w.heap.size b v0.heap.size w.heap.size 34 [113, 60, 62] (txC tx0 nilS nilS nilS) (txC tx0 nilS nilS nilS) 0 0 (v0.alloc (.cells (txC tx0 nilS nilS nilS) 34)) :=
    ⟨r0.alloc (by omega) _, Blk.new _ _ _, y0.alloc _, Kept.ofKeep (k0.alloc _) (by unfold Nothing; simp), Nat.le_refl _, by omega, Nat.le_refl _, by omega, by decide, by omega⟩
  clear y0 r0 k0
  generalize v0.alloc (.cells (txC tx0 nilS nilS nilS) 34) = w0 at *
  have hgn : w.heap.size ≤ w.heap.size + 1 := by omega
  generalize v0.heap.size = x at *
  generalize hgg : w.heap.size + 1 = g at *
  generalize hgy : w.heap.size = y at *
  have HY := Lib.hid hgy
  clear hgy hgg
  have HBL := Lib.hid (show ∀ E cs at' e' W, CQ w g y b x y 34 E (txC tx0 nilS nilS nilS) cs at' e' W → Below w.heap.size w W from fun E cs at' e' W h => h.kept.below (Nat.le_refl _) (Nat.le_refl _) (by simp; rw [HY.out]; exact h.Bg))
  have HFIN := Lib.hid (show ∀ c W, parseTx b = (tx0, c) → Below w.heap.size w W → PtPost b w (.returned (.tuple #[.agg (txC tx0 nilS nilS nilS), .int .i64 c])) W from fun c W h k => PtPost.bad h k)
  have HP := Lib.hid (show parseTx b = ptA b { tx0 with hasHead := bit1 (num (takeL b 0 0 1)), hasSeq := bit2 (num (takeL b 0 0 1)) } (takeAt b 0 0 1) (note (takeE b 0 0 1) (decide ((num (takeL b 0 0 1) : Int) ≤ 3)) 16) from rfl)
  have HFL := Lib.hid (parseTx_flags (b := b))
  go_wp2_with fail
  refine q0.number1.mono ?_
  rintro r w1 ⟨rfl, q1, k1⟩
  have hn := num1 b 0 0
  have HE1 := Lib.hid (E14.take (b := b) (at_ := 0) (n := 1) (.inl rfl : E14 0))
  clear q0 k1
  generalize num (takeL b 0 0 1) = n at *
  generalize takeAt b 0 0 1 = a1 at *
  generalize takeE b 0 0 1 = e1 at *
  by_cases h3 : 3 < n
  · have HR := Lib.hid (HFL.out h3)
    have d3 : decide ((3 : Int) < (n : Int)) = true := decide_eq_true (by omega)
    go_wp2_with (first | (refine wpList_load rfl rfl rfl (load_whole q1.blk Tryz.underlying34 rfl (by rw [txC_size]; exact info_tx)) ?_) | (refine wpList_storeBlk rfl rfl (vs := (txC tx0 nilS nilS nilS)) rfl rfl q1.res (by rw [txC_size]) (by rw [txC_size]; exact info_tx) (txL_one _ _ _ _ rfl rfl rfl) ?_; intro w2 y2 k2 z2))
    refine bodyPost_ret (results_cell_tmp rfl _ _ rfl (run_loadVar_cells w2 _ (txC tx0 nilS nilS nilS) Tryz.underlying34 rfl (by rw [txC_size]; exact info_tx) (fun j v hj => by rw [add_at, y2.cell, ← hj]; simp))) rfl ?_
    exact HFIN.out 16 _ HR.out ((HBL.out _ _ _ _ _ q1).trans (k2.below (by have := q1.kept.size; omega) (by unfold Only; intro i hi; rw [HY.out] at hi; omega)))
  · have d3 : decide ((3 : Int) < (n : Int)) = false := decide_eq_false (by omega)
    have hand := andI (n := n) (by omega)
    have HP2 := Lib.hid (show parseTx b = ptA b { tx0 with hasHead := bit1 n, hasSeq := bit2 n } a1 e1 from by
      rw [HP.out, decide_eq_true (by omega), note_tt])
    obtain ⟨v1, hv1⟩ : ∃ v : Int, bits .and .i64 (n : Int) 1 = v := ⟨_, rfl⟩
    obtain ⟨v2, hv2⟩ : ∃ v : Int, bits .and .i64 (n : Int) 2 = v := ⟨_, rfl⟩
    have hd1 : (v1 == 1) = bit1 n := by rw [← hv1]; exact hand.1
    have hd2 : (v2 == 2) = bit2 n := by rw [← hv2]; exact hand.2
    clear hand HP HFL
    generalize bit1 n = h1 at *
    generalize bit2 n = h2 at *
    have c0 := (q1.blk.cell 0).trans txC_at.1
    have f0 := q1.blk.frozen 0
    have q2 := q1.set 0 (.bool h1)
    have e2 : (txC tx0 nilS nilS nilS).setIfInBounds 0 (.bool h1) = txC { tx0 with hasHead := h1 } nilS nilS nilS := by apply Array.ext'; simp [txC, txL]
    rw [e2] at q2
    have c3 := (q2.blk.cell 3).trans txC_at.2.2.2.1
    have f3 := q2.blk.frozen 3
    have q3 := q2.set 3 (.bool h2)
    have e3 : (txC { tx0 with hasHead := h1 } nilS nilS nilS).setIfInBounds 3 (.bool h2) = txC { tx0 with hasHead := h1, hasSeq := h2 } nilS nilS nilS := by apply Array.ext'; simp [txC, txL]
    rw [e3] at q3
    clear e2 e3
    go_upto_region 9 with fail
    clear hv1 hv2 hd1 hd2 c0 f0 c3 f3 q1 q2
    generalize (w1.setCell ⟨x, 0, none⟩ (.bool h1)).setCell ⟨x, 3, none⟩ (.bool h2) = w3 at *
    obtain ⟨t, ht⟩ : ∃ t : TxD, t = { tx0 with hasHead := h1, hasSeq := h2 } := ⟨_, rfl⟩
    rw [← ht] at q3
    have tr3 : TR y t nilS nilS nilS w3 := by rw [ht]; exact ⟨(TR.zero y w3).mv, (TR.zero y w3).tv, (TR.zero y w3).ev, (TR.zero y w3).dat⟩
    have HP2' := Lib.hid (show parseTx b = ptA b t a1 e1 from by rw [HP2.out, ht])
    have HT1 := Lib.hid (show t.hasHead = h1 ∧ t.hasSeq = h2 ∧ t.moves = [] ∧ t.mem = [] ∧ t.seq = noSeq from by rw [ht]; exact ⟨rfl, rfl, rfl, rfl, rfl⟩)
    clear ht HP2
    have c0 := (q3.blk.cell 0).trans txC_at.1
    rw [HT1.out.1] at c0
    go_upto_if 31 with fail
    go_cut [5] (fun s5 wx => s5 = .pointer (some ⟨x, 0, none⟩) ∧ ∃ t at' e', E14 e' ∧ parseTx b = ptB b t at' e' ∧ t.hasSeq = h2 ∧ t.moves = [] ∧ t.mem = [] ∧ t.seq = noSeq ∧ CQ w g y b x y 34 [113, 60, 62] (txC tx0 nilS nilS nilS) (txC t nilS nilS nilS) at' e' wx ∧ TR y t nilS nilS nilS wx)
    case first =>
      --<
      clear c0
      have HP3 := Lib.hid (show parseTx b = if h1 then ptB b { t with head := str (textL b a1 e1 1) } (textAt b a1 e1 1) (textE b a1 e1 1) else ptB b t a1 e1 from by rw [HP2'.out]; unfold ptA; rw [HT1.out.1])
      cases h1
      · go_wp2_with fail
        go_meet
        exact ⟨rfl, t, a1, e1, HE1.out, HP3.out, HT1.out.2.1, HT1.out.2.2.1, HT1.out.2.2.2.1, HT1.out.2.2.2.2, q3, tr3⟩
      · go_wp2_with fail
        refine q3.text1.mono ?_
        rintro r w4 ⟨rfl, q4, k4⟩
        obtain ⟨rA, rc, rb⟩ := q3.rblk
        have tr4 := tr3.only k4 rb (by decide)
        have HE2 := Lib.hid (E14.text (b := b) (at_ := a1) (n := 1) HE1.out)
        generalize textL b a1 e1 1 = tl at *
        generalize textAt b a1 e1 1 = a3 at *
        generalize textE b a1 e1 1 = e3 at *
        have c1 := (q4.blk.cell 1).trans txC_at.2.1
        have f1 := q4.blk.frozen 1
        go_wp2_with fail
        go_meet
        have q5 := q4.set 1 (.string (str tl))
        rw [(txC_set _ _ _ _).1] at q5
        have tr5 := tr4.set (i := 1) q4.blk (.string (str tl))
        exact ⟨rfl, { t with head := str tl }, a3, e3, HE2.out, HP3.out, HT1.out.2.1, HT1.out.2.2.1, HT1.out.2.2.2.1, HT1.out.2.2.2.2, q5, ⟨tr5.mv, tr5.tv, tr5.ev, tr5.dat⟩⟩
      -->
    case rest =>
      obtain ⟨rfl, t, a3, e3, he3, hp, hs, hmv, hme, hsq, q4, tr4⟩ := hcut
      have HP3 := Lib.hid hp
      have HE3 := Lib.hid he3
      have HT2 := Lib.hid (show t.hasSeq = h2 ∧ t.moves = [] ∧ t.mem = [] ∧ t.seq = noSeq from ⟨hs, hmv, hme, hsq⟩)
      clear hp hs hmv hme hsq he3 q3 tr3 HP2' HT1 c0
      generalize wc = w4 at *
      go_wp2_with fail
      refine q4.number2.mono ?_
      rintro r w5 ⟨rfl, q5, k5⟩
      have hm := num2 b a3 e3
      obtain ⟨rA, rc, rb⟩ := q4.rblk
      have tr5 := tr4.only k5 rb (by decide)
      have HP4 := Lib.hid (show parseTx b = ptC b { t with moves := (ptMoves b (num (takeL b a3 e3 2)) (takeAt b a3 e3 2) (takeE b a3 e3 2) []).1 } (ptMoves b (num (takeL b a3 e3 2)) (takeAt b a3 e3 2) (takeE b a3 e3 2) []).2.1 (ptMoves b (num (takeL b a3 e3 2)) (takeAt b a3 e3 2) (takeE b a3 e3 2) []).2.2 from HP3.out)
      have HE4 := Lib.hid (E14.moves (b := b) (num (takeL b a3 e3 2)) (at_ := takeAt b a3 e3 2) (l := []) (E14.take (b := b) (at_ := a3) (n := 2) HE3.out))
      clear q4 tr4 k5 rb HP3
      generalize num (takeL b a3 e3 2) = m at *
      generalize takeAt b a3 e3 2 = a4 at *
      generalize takeE b a3 e3 2 = e4 at *
      go_upto_block 0 with fail
      go_cut [9] (fun s9 wx => ∃ l mv at' e', E14 e' ∧ parseTx b = ptC b { t with moves := l } at' e' ∧ CQ w g y b x y 34 [113, 60, 62] (txC tx0 nilS nilS nilS) (txC { t with moves := l } mv nilS nilS) at' e' wx ∧ TR y { t with moves := l } mv nilS nilS wx)
      case first =>
        --<
        go_wp2_with fail
        go_loopg [9] m (fun f i wr => ∃ k at' e' l mv, i = .int .i64 (k : Nat) ∧ k + f = m ∧ ptMoves b f at' e' l = ptMoves b m a4 e4 [] ∧ CQ w g y b x y 34 [113, 60, 62] (txC tx0 nilS nilS nilS) (txC { t with moves := l } mv nilS nilS) at' e' wr ∧ TR y { t with moves := l } mv nilS nilS wr ∧ l.length ≤ k)
        case atStart => exact ⟨0, a4, e4, [], nilS, rfl, by omega, rfl, q5, by have := tr5; rw [show t = { t with moves := [] } from by have := HT2.out.2.1; cases t; simp_all] at this; exact this, by simp⟩
        case round =>
          obtain ⟨k, at', e', l, mv, rfl, hkf, hlo, q10, tr10, hlm⟩ := hrel
          have HLO := Lib.hid hlo
          have HKF := Lib.hid hkf
          have hkm : k ≤ m := by omega
          clear hlo hkf q5 tr5
          have r2 := q10.err
          by_cases hgo : k < m ∧ e' = 0
          · obtain ⟨hg0, he⟩ := hgo
            subst he
            cases gk with
            | zero => exact absurd HKF.out (by omega)
            | succ f =>
              go_wp2_with fail
              refine q10.text1.mono ?_
              rintro r w11 ⟨rfl, q11, k11⟩
              obtain ⟨L', hL'⟩ : ∃ L', ptMoves b (f + 1) at' 0 l = L' := ⟨_, rfl⟩
              have HL2 := Lib.hid (show ptMoves b (f + 1) at' 0 l = ptMoves b f (textAt b (takeAt b (takeAt b (textAt b at' 0 1) (textE b at' 0 1) 32) (takeE b (textAt b at' 0 1) (textE b at' 0 1) 32) 32) (takeE b (takeAt b (textAt b at' 0 1) (textE b at' 0 1) 32) (takeE b (textAt b at' 0 1) (textE b at' 0 1) 32) 32) 2)
                (textE b (takeAt b (takeAt b (textAt b at' 0 1) (textE b at' 0 1) 32) (takeE b (textAt b at' 0 1) (textE b at' 0 1) 32) 32) (takeE b (takeAt b (textAt b at' 0 1) (textE b at' 0 1) 32) (takeE b (textAt b at' 0 1) (textE b at' 0 1) 32) 32) 2)
                (l ++ [⟨str (textL b at' 0 1), idOf (takeL b (textAt b at' 0 1) (textE b at' 0 1) 32), idOf (takeL b (takeAt b (textAt b at' 0 1) (textE b at' 0 1) 32) (takeE b (textAt b at' 0 1) (textE b at' 0 1) 32) 32),
                  str (textL b (takeAt b (takeAt b (textAt b at' 0 1) (textE b at' 0 1) 32) (takeE b (textAt b at' 0 1) (textE b at' 0 1) 32) 32) (takeE b (takeAt b (textAt b at' 0 1) (textE b at' 0 1) 32) (takeE b (textAt b at' 0 1) (textE b at' 0 1) 32) 32) 2)⟩]) from by show (if _ then _ else _) = _; rw [if_pos rfl])
              clear hL' L'
              have z11 := k11.size
              have zB := q10.size
              generalize textL b at' 0 1 = tl at *
              generalize textAt b at' 0 1 = a5 at *
              generalize textE b at' 0 1 = e5 at *
              go_wp2_with (first | (refine wpList_built rfl rfl (vs := #[(0, .string (str tl))]) rfl (build_move1 (str tl) _) ?_) | (refine wpList_allocAgg rfl rfl (zero_move _) ?_) | (refine wpList_storeBlk rfl rfl (vs := moveC { noMove with name := str tl }) rfl rfl (Blk.new _ _ _) (by rw [moveC_size, moveC_size]) (by rw [moveC_size]; exact info_move) (moveL_one _) ?_; intro w12 x12 kc zc))
              have v12 : CV wr g y b w11.heap.size 60 (moveC { noMove with name := str tl }) a5 e5 w12 :=
                ⟨q11.rd.keep (by omega) (Keep.ofNew (S := Nothing) kc) (fun _ q => q.elim), x12, k11.trans (Keep.ofNew kc), by omega, by omega, by decide, q10.bl⟩
              clear kc zc x12 q11 k11
              generalize w11.heap.size = z at *
              refine v12.id.mono ?_
              rintro r w13 ⟨rfl, v13⟩
              clear v12
              generalize idOf (takeL b a5 e5 32) = i1 at *
              generalize takeAt b a5 e5 32 = a6 at *
              generalize takeE b a5 e5 32 = e6 at *
              go_wp2_with (first | (refine wpList_storePart rfl rfl (vs := idC i1) rfl rfl v13.blk (by rw [idC_size, moveC_size]; omega) (by rw [idC_size]; exact info42) (idL_one _) ?_; intro w14 b14 k14 _z14))
              have v14 := v13.only b14 k14
              rw [(moveC_spl _ _).1] at v14
              clear b14 k14 _z14 v13
              refine v14.id.mono ?_
              rintro r w15 ⟨rfl, v15⟩
              clear v14
              generalize idOf (takeL b a6 e6 32) = i2 at *
              generalize takeAt b a6 e6 32 = a7 at *
              generalize takeE b a6 e6 32 = e7 at *
              go_wp2_with (first | (refine wpList_storePart rfl rfl (vs := idC i2) rfl rfl v15.blk (by rw [idC_size, moveC_size]; omega) (by rw [idC_size]; exact info42) (idL_one _) ?_; intro w16 b16 k16 _z16))
              have v16 := v15.only b16 k16
              rw [(moveC_spl _ _).2] at v16
              clear b16 k16 _z16 v15
              refine v16.text2.mono ?_
              rintro r w17 ⟨rfl, v17⟩
              clear v16
              generalize textL b a7 e7 2 = t2 at *
              generalize textAt b a7 e7 2 = a8 at *
              generalize textE b a7 e7 2 = e8 at *
              have c65 := (v17.blk.cell 65).trans (moveC_at _).2
              have f65 := v17.blk.frozen 65
              go_upto_region 19 with fail
              have v18 := v17.set 65 (.string (str t2))
              rw [moveC_set] at v18
              clear v17 c65 f65
              generalize w17.setCell ⟨z, 65, none⟩ (.string (str t2)) = w18 at *
              simp only at v18
              obtain ⟨mm, hmm⟩ : ∃ mm : MoveD, mm = ⟨str tl, i1, i2, str t2⟩ := ⟨_, rfl⟩
              have v19 : CV wr g y b z 60 (moveC mm) a8 e8 w18 := by rw [hmm]; exact v18
              have HL3 := Lib.hid (show ptMoves b (f + 1) at' 0 l = ptMoves b f a8 e8 (l ++ [mm]) from by rw [HL2.out, hmm])
              clear v18 HL2 hmm
              have q18 := q10.next v19.rd v19.keep
              obtain ⟨rA, rc, rb⟩ := q10.rblk
              have tr18 := tr10.only v19.keep rb (by decide)
              clear rb tr10 q10
              obtain ⟨Am, cm, hmv, o18⟩ := tr18.mv
              subst hmv
              have c2 := (q18.blk.cell 2).trans txC_at.2.2.1
              have hzs := q18.kept.size
              rw [HY.out] at hzs
              go_wp2_with (first | (refine wpList_load rfl rfl rfl (load_whole v19.blk Tryz.underlying60 rfl (by rw [moveC_size]; exact info_move)) ?_) | (refine wpList_buildSlice1 rfl elemMove rfl zero_move (moveC_size _) (moveC_size _) (by omega) rfl ?_) | (at_builtin; refine wpList_append_sl rfl elemMove rfl rfl (o18.alloc _) rfl (Reads.of_cells (n := 1) (xs := moveL mm) (heap_alloc_new _ _) rfl (by rw [moveL_len])) (moveL_one _) (by simp only at *; unfold maxLen; omega) (by simp only at *; omega) (by simp; omega) ?_; intro A' c' w19 o19 k19; have q19 := (q18.alloc (.cells (moveC mm) 60)).row (k19.mono (by rw [HY.out]; exact Nat.le_refl _) (by simp) (by simp)); have c2' := (q19.blk.cell 2).trans txC_at.2.2.1; have f2 := q19.blk.frozen 2))
              go_roundg f
              case measure => omega
              case rel =>
                have el : l.length + 1 = (l ++ [mm]).length := by simp
                have q20 := q19.set 2 (.slice A' (l ++ [mm]).length c')
                rw [(txC_set _ _ _ _).2.1] at q20
                have o19' : Own w19 y 60 66 A' (l ++ [mm]).length c' (moveLs (l ++ [mm])) := by simpa [moveLs] using o19
                have tr19 := (tr18.alloc (.cells (moveC mm) 60)).moves k19 rfl o19'
                have tr20 := tr19.set (i := 2) q19.blk (.slice A' (l ++ [mm]).length c')
                have ef : ({ t with moves := l } : TxD).moves.length + 1 = (l ++ [mm]).length := el
                rw [ef]
                exact ⟨k + 1, _, _, l ++ [mm], _, by go_num, by have := HKF.out; omega, by rw [← HL3.out]; exact HLO.out, q20, ⟨tr20.mv, tr20.tv, tr20.ev, tr20.dat⟩, by rw [← el]; omega⟩
          · have hend : ptMoves b m a4 e4 [] = (l, at', e') := by
              rw [← HLO.out]
              by_cases he : e' = 0
              · have h0 : gk = 0 := by have := HKF.out; omega
                rw [h0]
                rfl
              · exact ptMoves_err he
            have HE := Lib.hid (show parseTx b = ptC b { t with moves := l } at' e' from by rw [HP4.out, hend])
            have HEE := Lib.hid (show E14 e' from by have := HE4.out; rw [hend] at this; exact this)
            have fin : m ≤ k ∨ (k < m ∧ (e' != 0) = true) := by
              by_cases h1 : m ≤ k
              · exact .inl h1
              · exact .inr ⟨by omega, by have : e' ≠ 0 := fun h => hgo ⟨by omega, h⟩; simpa using this⟩
            clear hend HLO hgo hlm HKF
            rcases fin with f1 | ⟨f1, f2⟩
            all_goals
              go_wp2_with fail
              go_meet
              exact ⟨l, mv, at', e', HEE.out, HE.out, q10, tr10⟩
        -->
      case rest =>
        obtain ⟨l, mv, a5, e5, he5, hp, q6, tr6⟩ := hcut
        have HP5 := Lib.hid hp
        have HE5 := Lib.hid he5
        clear hp he5 q5 tr5 HP4 HE4
        generalize wc = w6 at *
        have c3 := (q6.blk.cell 3).trans txC_at.2.2.2.1
        rw [show ({ t with moves := l } : TxD).hasSeq = h2 from HT2.out.1] at c3
        go_upto_if 68 with fail
        obtain ⟨t1, ht1⟩ : ∃ t1 : TxD, t1 = { t with moves := l } := ⟨_, rfl⟩
        have HP6 := Lib.hid (show parseTx b = ptC b t1 a5 e5 from by rw [HP5.out, ht1])
        have HS := Lib.hid (show t1.hasSeq = h2 ∧ t1.mem = [] ∧ t1.seq = noSeq from by rw [ht1]; exact ⟨HT2.out.1, HT2.out.2.2⟩)
        rw [← ht1] at q6 tr6
        clear HP5 HT2 ht1
        go_cut [5] (fun s5 wx => s5 = .pointer (some ⟨x, 0, none⟩) ∧ ∃ t tv at' e', E14 e' ∧ parseTx b = ptD b t at' e' ∧ t.mem = [] ∧ CQ w g y b x y 34 [113, 60, 62] (txC tx0 nilS nilS nilS) (txC t mv tv nilS) at' e' wx ∧ TR y t mv tv nilS wx)
        case first =>
          --<
          clear c3
          have HP7 := Lib.hid (show parseTx b = if h2 then ptD b { t1 with seq := (rseqP b a5 e5).1 } (rseqP b a5 e5).2.1 (note (rseqP b a5 e5).2.2.1 (decide (((rseqP b a5 e5).2.2.2 : Int) ≤ 1)) 16) else ptD b t1 a5 e5 from by rw [HP6.out]; unfold ptC; rw [HS.out.1])
          cases h2
          · go_wp2_with fail
            go_meet
            exact ⟨rfl, t1, nilS, a5, e5, HE5.out, HP7.out, HS.out.2.1, q6, tr6⟩
          · go_wp2_with fail
            refine (cseq_any b a5 e5 g y x y [113, 60, 62] (txC tx0 nilS nilS nilS) t1 mv nilS w _ (by decide) HS.out.2.2 q6).mono ?_
            rintro r w7 ⟨A7, c7, rfl, s7⟩
            obtain ⟨rA, rc, rb⟩ := q6.rblk
            have hz7 := q6.kept.size
            rw [HY.out] at hz7
            have tr7 := tr6.seqC s7.kk rb q6.blk s7.ow hz7
            have q7 := s7.cq
            have HE6 := Lib.hid (E14.seq (b := b) (at_ := a5) HE5.out)
            have HB := Lib.hid (rseqP_bad (b := b) (at_ := a5) (e := e5))
            clear s7 rb q6 tr6
            generalize (rseqP b a5 e5).2.1 = a6 at *
            generalize (rseqP b a5 e5).2.2.1 = e6 at *
            generalize (rseqP b a5 e5).2.2.2 = k6 at *
            generalize (rseqP b a5 e5).1 = sq at *
            by_cases hk6 : 1 < k6
            · have d6 : decide ((1 : Int) < (k6 : Int)) = true := decide_eq_true (by omega)
              have HR := Lib.hid (show parseTx b = (tx0, 16) from by
                rw [HP7.out, if_pos trivial, HB.out hk6, decide_eq_false (by omega), show note 0 false 16 = 16 from rfl]
                exact ptD_no (by decide))
              go_wp2_with (first | (refine wpList_built rfl rfl (vs := #[]) rfl (build_tx0 _) ?_) | (refine wpList_storeBlk rfl rfl (vs := (txC tx0 nilS nilS nilS)) rfl rfl q7.res (by rw [txC_size]) (by rw [txC_size]; exact info_tx) (txL_one _ _ _ _ rfl rfl rfl) ?_; intro w8 y8 k8 z8))
              refine bodyPost_ret (results_cell_tmp rfl _ _ rfl (run_loadVar_cells w8 _ (txC tx0 nilS nilS nilS) Tryz.underlying34 rfl (by rw [txC_size]; exact info_tx) (fun j v hj => by rw [add_at, y8.cell, ← hj]; simp))) rfl ?_
              exact HFIN.out 16 _ HR.out ((HBL.out _ _ _ _ _ q7).trans (k8.below (by have := q7.kept.size; omega) (by unfold Only; intro i hi; rw [HY.out] at hi; omega)))
            · have d6 : decide ((1 : Int) < (k6 : Int)) = false := decide_eq_false (by omega)
              have HP8 := Lib.hid (show parseTx b = ptD b { t1 with seq := sq } a6 e6 from by
                rw [HP7.out, if_pos trivial, decide_eq_true (by omega), note_tt])
              go_wp2_with fail
              go_meet
              exact ⟨rfl, { t1 with seq := sq }, _, a6, e6, HE6.out, HP8.out, HS.out.2.1, q7, tr7⟩
          -->
        case rest =>
          obtain ⟨rfl, t2, tv, a6, e6, he6, hp, hme, q7, tr7⟩ := hcut
          have HP7 := Lib.hid hp
          have HE6 := Lib.hid he6
          have HM0 := Lib.hid hme
          clear hp hme he6 q6 tr6 HP6 HS c3
          generalize wc = w7 at *
          go_wp2_with fail
          refine q7.number2.mono ?_
          rintro r w8 ⟨rfl, q8, k8⟩
          have hm2 := num2 b a6 e6
          obtain ⟨rA, rc, rb⟩ := q7.rblk
          have tr8 := tr7.only k8 rb (by decide)
          have HP8 := Lib.hid (show parseTx b = ptE b { t2 with mem := (ptMems b (num (takeL b a6 e6 2)) (takeAt b a6 e6 2) (takeE b a6 e6 2) []).1 } (ptMems b (num (takeL b a6 e6 2)) (takeAt b a6 e6 2) (takeE b a6 e6 2) []).2.1 (ptMems b (num (takeL b a6 e6 2)) (takeAt b a6 e6 2) (takeE b a6 e6 2) []).2.2 from HP7.out)
          have HE7 := Lib.hid (E14.mems (b := b) (num (takeL b a6 e6 2)) (at_ := takeAt b a6 e6 2) (l := []) (E14.take (b := b) (at_ := a6) (n := 2) HE6.out))
          clear q7 tr7 k8 rb HP7
          generalize num (takeL b a6 e6 2) = m2 at *
          generalize takeAt b a6 e6 2 = a7 at *
          generalize takeE b a6 e6 2 = e7 at *
          go_upto_block 2 with fail
          go_cut [11] (fun s11 wx => ∃ l ms ev at' e', E14 e' ∧ parseTx b = ptE b { t2 with mem := l } at' e' ∧ ms.map forM = l ∧ CQ w g y b x y 34 [113, 60, 62] (txC tx0 nilS nilS nilS) (txC { t2 with mem := ms } mv tv ev) at' e' wx ∧ TR y { t2 with mem := ms } mv tv ev wx)
          case first =>
            --<
            go_wp2_with fail
            go_loopg [11] m2 (fun f i wr => ∃ k at' e' l ms ev, i = .int .i64 (k : Nat) ∧ k + f = m2 ∧ ptMems b f at' e' l = ptMems b m2 a7 e7 [] ∧ ms.map forM = l ∧ CQ w g y b x y 34 [113, 60, 62] (txC tx0 nilS nilS nilS) (txC { t2 with mem := ms } mv tv ev) at' e' wr ∧ TR y { t2 with mem := ms } mv tv ev wr ∧ ms.length ≤ k)
            case atStart => exact ⟨0, a7, e7, [], [], nilS, rfl, by omega, rfl, rfl, q8, by have := tr8; rw [show t2 = { t2 with mem := [] } from by have := HM0.out; cases t2; simp_all] at this; exact this, by simp⟩
            case round =>
              obtain ⟨k, at', e', l, ms, ev, rfl, hkf, hlo, hms, q10, tr10, hlm⟩ := hrel
              have HLO := Lib.hid hlo
              have HMS := Lib.hid hms
              have HKF := Lib.hid hkf
              have hkm : k ≤ m2 := by omega
              clear hlo hms hkf q8 tr8
              have r2 := q10.err
              by_cases hgo : k < m2 ∧ e' = 0
              · obtain ⟨hg0, he⟩ := hgo
                subst he
                cases gk with
                | zero => exact absurd HKF.out (by omega)
                | succ f =>
                  go_wp2_with fail
                  refine q10.id.mono ?_
                  rintro r w11 ⟨rfl, q11, k11⟩
                  have HL2 := Lib.hid (show ptMems b (f + 1) at' 0 l = ptMems b f (textAt b (takeAt b at' 0 32) (takeE b at' 0 32) 4) (textE b (takeAt b at' 0 32) (takeE b at' 0 32) 4) (l ++ [⟨idOf (takeL b at' 0 32), textL b (takeAt b at' 0 32) (takeE b at' 0 32) 4, none, 0⟩]) from by show (if _ then _ else _) = _; rw [if_pos rfl])
                  have z11 := k11.size
                  have zB := q10.size
                  generalize idOf (takeL b at' 0 32) = i1 at *
                  generalize takeAt b at' 0 32 = a8 at *
                  generalize takeE b at' 0 32 = e8 at *
                  go_wp2_with (first | (refine wpList_built rfl rfl (vs := #[(0, idV i1)]) rfl (build_mem1 i1 _) ?_) | (refine wpList_allocAgg rfl rfl (zero_mem _) ?_) | (refine wpList_storeBlk rfl rfl (vs := memC { noMem with key := i1 }) rfl rfl (Blk.new _ _ _) (by rw [memC_size, memC_size]) (by rw [memC_size]; exact info_mem) (memL_one _) ?_; intro w12 x12 kc zc))
                  have v12 : CV wr g y b w11.heap.size 62 (memC { noMem with key := i1 }) a8 e8 w12 :=
                    ⟨q11.rd.keep (by omega) (Keep.ofNew (S := Nothing) kc) (fun _ q => q.elim), x12, k11.trans (Keep.ofNew kc), by omega, by omega, by decide, q10.bl⟩
                  clear kc zc x12 q11 k11
                  generalize w11.heap.size = z at *
                  refine v12.text4.mono ?_
                  rintro r w13 ⟨rfl, v13⟩
                  have hll : (textL b a8 e8 4).length ≤ 1000000 := Nat.le_trans (takeL_len _ _ _ _) _hl
                  clear v12
                  generalize textL b a8 e8 4 = tl at *
                  generalize textAt b a8 e8 4 = a9 at *
                  generalize textE b a8 e8 4 = e9 at *
                  obtain ⟨cp, w14, hcv, k14, hdat⟩ := run_convB tl w13
                  have HCV := Lib.hid hcv
                  have v14 := v13.keepN k14
                  have c32 := (v14.blk.cell 32).trans (memC_at _)
                  have f32 := v14.blk.frozen 32
                  have D14 := Lib.hid (hdat i1)
                  generalize w13.heap.size = z13 at *
                  clear hcv v13 k14 hdat
                  go_upto_region 30 with (first | (refine wpList_convB rfl rfl rfl HCV.out ?_))
                  have v15 := v14.set 32 (.slice (some ⟨z13, 0, none⟩) tl.length cp)
                  rw [memC_set] at v15
                  obtain ⟨mm, hmm⟩ : ∃ mm : MemD, mm = ⟨i1, tl, some ⟨z13, 0, none⟩, cp⟩ := ⟨_, rfl⟩
                  have d15 : DatAt (w14.setCell ⟨z, 32, none⟩ (.slice (some ⟨z13, 0, none⟩) tl.length cp)) mm := by
                    rw [hmm]
                    exact D14.out.kept (b' := 0) (E := []) (G := [z]) (Kept.ofKeep ((Keep.refl (Only z) w14).setCell (p := ⟨z, 32, none⟩) (.inl rfl) _) (by unfold Only; simp)) (by simp) (by intro g' hg; simp at hg; subst hg; exact ⟨_, _, v14.blk, by decide⟩)
                  generalize w14.setCell ⟨z, 32, none⟩ (.slice (some ⟨z13, 0, none⟩) tl.length cp) = w15 at *
                  simp only at v15
                  have v19 : CV wr g y b z 62 (memC mm) a9 e9 w15 := by rw [hmm]; exact v15
                  have HL3 := Lib.hid (show ptMems b (f + 1) at' 0 l = ptMems b f a9 e9 (l ++ [forM mm]) from by rw [HL2.out, hmm]; rfl)
                  have hml : mm.data.length ≤ maxLen := by rw [hmm]; unfold maxLen; show tl.length ≤ _; omega
                  clear v15 HL2 hmm v14 c32 f32 D14 HCV
                  have D15 := Lib.hid d15
                  have HML := Lib.hid hml
                  have q18 := q10.next v19.rd v19.keep
                  obtain ⟨rA, rc, rb⟩ := q10.rblk
                  have tr18 := tr10.only v19.keep rb (by decide)
                  clear rb tr10 q10 d15 hml
                  obtain ⟨Am, cm, hmv, o18⟩ := tr18.ev
                  subst hmv
                  have c74 := (q18.blk.cell 74).trans txC_at.2.2.2.2.2
                  have hzs := q18.kept.size
                  rw [HY.out] at hzs
                  go_wp2_with (first | (refine wpList_load rfl rfl rfl (load_whole v19.blk Tryz.underlying62 rfl (by rw [memC_size]; exact info_mem)) ?_) | (refine wpList_buildSlice1 rfl elemMem rfl zero_mem (memC_size _) (memC_size _) (by omega) rfl ?_) | (at_builtin; refine wpList_append_sl rfl elemMem rfl rfl (o18.alloc _) rfl (Reads.of_cells (n := 1) (xs := memL mm) (heap_alloc_new _ _) rfl (by rw [memL_len])) (memL_one _) (by simp only at *; unfold maxLen; omega) (by simp only at *; omega) (by simp; omega) ?_; intro A' c' w19 o19 k19; have q19 := (q18.alloc (.cells (memC mm) 62)).row (k19.mono (by rw [HY.out]; exact Nat.le_refl _) (by simp) (by simp)); have c2' := (q19.blk.cell 74).trans txC_at.2.2.2.2.2; have f2 := q19.blk.frozen 74))
                  go_roundg f
                  case measure => omega
                  case rel =>
                    have el : ms.length + 1 = (ms ++ [mm]).length := by simp
                    have q20 := q19.set 74 (.slice A' (ms ++ [mm]).length c')
                    rw [(txC_set _ _ _ _).2.2] at q20
                    have o19' : Own w19 y 62 33 A' (ms ++ [mm]).length c' (memLs (ms ++ [mm])) := by simpa [memLs] using o19
                    have d16 : DatAt (w15.alloc (.cells (memC mm) 62)) mm := D15.out.kept (b' := 0) (E := []) (G := []) (Kept.ofKeep ((Keep.refl Nothing _).alloc _) (by unfold Nothing; simp)) (by simp) (by simp)
                    have tr19 := (tr18.alloc (.cells (memC mm) 62)).mems (d := mm) k19 rfl rfl o19' ⟨d16, HML.out⟩
                    have tr20 := tr19.set (i := 74) q19.blk (.slice A' (ms ++ [mm]).length c')
                    have ef : ({ t2 with mem := ms } : TxD).mem.length + 1 = (ms ++ [mm]).length := el
                    rw [ef]
                    exact ⟨k + 1, _, _, l ++ [forM mm], ms ++ [mm], _, by go_num, by have := HKF.out; omega, by rw [← HL3.out]; exact HLO.out, by rw [List.map_append, HMS.out]; rfl, q20, ⟨tr20.mv, tr20.tv, tr20.ev, tr20.dat⟩, by rw [← el]; omega⟩
              · have hend : ptMems b m2 a7 e7 [] = (l, at', e') := by
                  rw [← HLO.out]
                  by_cases he : e' = 0
                  · have h0 : gk = 0 := by have := HKF.out; omega
                    rw [h0]
                    rfl
                  · exact ptMems_err he
                have HE := Lib.hid (show parseTx b = ptE b { t2 with mem := l } at' e' from by rw [HP8.out, hend])
                have HEE := Lib.hid (show E14 e' from by have := HE7.out; rw [hend] at this; exact this)
                have fin : m2 ≤ k ∨ (k < m2 ∧ (e' != 0) = true) := by
                  by_cases h1 : m2 ≤ k
                  · exact .inl h1
                  · exact .inr ⟨by omega, by have : e' ≠ 0 := fun h => hgo ⟨by omega, h⟩; simpa using this⟩
                clear hend HLO hgo hlm HKF
                rcases fin with f1 | ⟨f1, f2⟩
                all_goals
                  go_wp2_with fail
                  go_meet
                  exact ⟨l, ms, ev, at', e', HEE.out, HE.out, HMS.out, q10, tr10⟩
            -->
          case rest =>
            obtain ⟨l, ms, ev, a8, e8, he8, hp, hms, q9, tr9⟩ := hcut
            have HP9 := Lib.hid hp
            have HMS := Lib.hid hms
            clear hp hms q8 tr8 HP8 HE7
            generalize wc = w9 at *
            have r2 := q9.err
            obtain ⟨rA, rc, rb⟩ := q9.rblk
            have r1 := rb.cell 1
            simp at r1
            clear rb
            have hat : a8 ≤ b.length := by obtain ⟨_, _, _, _, h, _⟩ := q9.rd; exact h
            have HP10 := Lib.hid (show parseTx b = if note e8 ((a8 : Int) == (b.length : Int)) 15 = 0 then ({ t2 with mem := l }, 0) else (tx0, note e8 ((a8 : Int) == (b.length : Int)) 15) from HP9.out)
            rcases he8 with rfl | rfl
            · by_cases hlt : a8 < b.length
              · have d1 : decide ((a8 : Int) < (b.length : Int)) = true := decide_eq_true (by omega)
                have HR := Lib.hid (show parseTx b = (tx0, 15) from by
                  rw [HP10.out, show ((a8 : Int) == (b.length : Int)) = false from beq_eq_false_iff_ne.2 (by omega)]; rfl)
                go_wp2_with (first | (refine wpList_built rfl rfl (vs := #[]) rfl (build_tx0 _) ?_) | (refine wpList_storeBlk rfl rfl (vs := (txC tx0 nilS nilS nilS)) rfl rfl q9.res (by rw [txC_size]) (by rw [txC_size]; exact info_tx) (txL_one _ _ _ _ rfl rfl rfl) ?_; intro w10 y10 k10 z10))
                refine bodyPost_ret (results_cell_tmp rfl _ _ rfl (run_loadVar_cells w10 _ (txC tx0 nilS nilS nilS) Tryz.underlying34 rfl (by rw [txC_size]; exact info_tx) (fun j v hj => by rw [add_at, y10.cell, ← hj]; simp))) rfl ?_
                exact HFIN.out 15 _ HR.out ((HBL.out _ _ _ _ _ q9).trans (k10.below (by have := q9.kept.size; omega) (by unfold Only; intro i hi; rw [HY.out] at hi; omega)))
              · have d1 : decide ((a8 : Int) < (b.length : Int)) = false := decide_eq_false (by omega)
                have HR := Lib.hid (show parseTx b = ({ t2 with mem := l }, 0) from by
                  rw [HP10.out, show ((a8 : Int) == (b.length : Int)) = true from by simp; omega]; rfl)
                obtain ⟨Am, cm, hmv, _⟩ := tr9.mv
                obtain ⟨At, ct, htv, _⟩ := tr9.tv
                obtain ⟨Ae, ce, hev, _⟩ := tr9.ev
                have o1 : mv.oneCell' = true := by rw [hmv]; rfl
                have o2 : tv.oneCell' = true := by rw [htv]; rfl
                have o3 : ev.oneCell' = true := by rw [hev]; rfl
                clear hmv htv hev
                go_wp2_with (first | (refine wpList_load rfl rfl rfl (load_whole q9.blk Tryz.underlying34 rfl (by rw [txC_size]; exact info_tx)) ?_) | (refine wpList_storeBlk rfl rfl (vs := txC { t2 with mem := ms } mv tv ev) rfl rfl q9.res (by rw [txC_size, txC_size]) (by rw [txC_size]; exact info_tx) (txL_one _ _ _ _ o1 o2 o3) ?_; intro w11 y11 k11 z11))
                refine bodyPost_ret (results_cell_tmp rfl _ _ rfl (run_loadVar_cells w11 _ (txC { t2 with mem := ms } mv tv ev) Tryz.underlying34 rfl (by rw [txC_size]; exact info_tx) (fun j v hj => by rw [add_at, y11.cell, ← hj]; simp))) rfl ?_
                have hkk := (HBL.out _ _ _ _ _ q9).trans (k11.below (by have := q9.kept.size; omega) (by unfold Only; intro i hi; rw [HY.out] at hi; omega))
                refine ⟨{ t2 with mem := ms }, mv, tv, ev, ?_, ?_, ?_, hkk⟩
                · rw [HR.out]
                  show forT { t2 with mem := ms } = { t2 with mem := l }
                  unfold forT
                  simp only [HMS.out]
                · rw [HR.out]; rfl
                · rw [HY.out]; exact tr9.only k11 q9.res (by decide)
            · have HR := Lib.hid (show parseTx b = (tx0, 14) from by rw [HP10.out]; rfl)
              go_wp2_with (first | (refine wpList_built rfl rfl (vs := #[]) rfl (build_tx0 _) ?_) | (refine wpList_storeBlk rfl rfl (vs := (txC tx0 nilS nilS nilS)) rfl rfl q9.res (by rw [txC_size]) (by rw [txC_size]; exact info_tx) (txL_one _ _ _ _ rfl rfl rfl) ?_; intro w10 y10 k10 z10))
              refine bodyPost_ret (results_cell_tmp rfl _ _ rfl (run_loadVar_cells w10 _ (txC tx0 nilS nilS nilS) Tryz.underlying34 rfl (by rw [txC_size]; exact info_tx) (fun j v hj => by rw [add_at, y10.cell, ← hj]; simp))) rfl ?_
              exact HFIN.out 14 _ HR.out ((HBL.out _ _ _ _ _ q9).trans (k10.below (by have := q9.kept.size; omega) (by unfold Only; intro i hi; rw [HY.out] at hi; omega)))
end Go.Proofs.YtppmolneklidfaaGreat
