/-
  Texts of the codec joined (Tx7). No statement of the seat is proved here.
-/
import Derived.Test.YtppmolneklidfaaGreatZ26
import Derived.Deep.CutBlock
namespace Go.Proofs.YtppmolneklidfaaGreat
open Go.RowKit

section
variable {w : World} {g B : Nat} {b : List UInt8} {x y : Nat} {T : TypeId} {E : List TypeId} {cy cs : Array Value} {at_ : Nat} {e : Int} {wr w' : World}
theorem RQ.call {at' : Nat} {e' : Int} {b' : Nat} {E' : List TypeId} (h : RQ w g B b x y T E cy cs at_ e wr) (hr : Rd w' g B b at' e') (hk : Kept b' E' [g] wr w') (hb : w.heap.size ≤ b') (hE : ∀ t ∈ E', t ∈ E) : RQ w g B b x y T E cy cs at' e' w' :=
  ⟨hr, hk.blk h.blk (by simpa using h.xg) (fun q => h.nt.2.1 (hE _ q)), hk.blk h.res (by simpa using h.yg) (fun q => h.nt.2.1 (hE _ q)), h.kept.lift hk hb (fun t ht => .inl (hE t ht)) (by simp), h.bz, h.nx, h.ny, h.ne, h.nt⟩
end
section
variable {base : Nat} {t : TxD} {mv tv ev : Value} {wr w' : World}
theorem TR.seq {b' g c n : Nat} {A : Option Addr} {rc : Array Value} (h : TR base t mv tv ev wr) (hk : Kept b' [113] [g] wr w') (hg : Blk wr g 115 rc) {q : SeqD} (hn : n = q.todo.length) (ho : Own w' b' 113 33 A n c (todoLs q.todo)) (hb : base ≤ b') : TR base { t with seq := q } mv (.slice A n c) ev w' := by
  subst hn
  have hB : ∀ e, e ≠ 115 → ∀ g' ∈ [g], ∃ t cs, Blk wr g' t cs ∧ t ≠ e := fun e h1 g' hg' => by simp at hg'; subst hg'; exact ⟨_, _, hg, fun q => h1 q.symm⟩
  obtain ⟨⟨A, c, h1, h2⟩, _, ⟨A'', c'', h1'', h2''⟩, h4⟩ := h
  exact ⟨⟨A, c, h1, h2.kept hk (by decide) (hB _ (by decide))⟩, ⟨_, _, rfl, ho.mono hb⟩, ⟨A'', c'', h1'', h2''.kept hk (by decide) (hB _ (by decide))⟩, fun m hm => ⟨(h4 m hm).1.kept hk (by decide) (hB _ (by decide)), (h4 m hm).2⟩⟩
theorem TR.moves {b' c n : Nat} {A : Option Addr} {l : List MoveD} (h : TR base t mv tv ev wr) (hk : Kept b' [60] [] wr w') (hn : n = l.length) (ho : Own w' base 60 66 A n c (moveLs l)) : TR base { t with moves := l } (.slice A n c) tv ev w' := by
  subst hn
  obtain ⟨_, ⟨A', c', h1', h2'⟩, ⟨A'', c'', h1'', h2''⟩, h4⟩ := h
  exact ⟨⟨_, _, rfl, ho⟩, ⟨A', c', h1', h2'.kept hk (by decide) (by simp)⟩, ⟨A'', c'', h1'', h2''.kept hk (by decide) (by simp)⟩, fun m hm => ⟨(h4 m hm).1.kept hk (by decide) (by simp), (h4 m hm).2⟩⟩
theorem TR.mems {b' c n : Nat} {A : Option Addr} {l : List MemD} {d : MemD} (h : TR base t mv tv ev wr) (hk : Kept b' [62] [] wr w') (hl : l = t.mem ++ [d]) (hn : n = l.length) (ho : Own w' base 62 33 A n c (memLs l)) (hd : DatAt wr d ∧ d.data.length ≤ maxLen) : TR base { t with mem := l } mv tv (.slice A n c) w' := by
  subst hn
  obtain ⟨⟨A', c', h1', h2'⟩, ⟨A'', c'', h1'', h2''⟩, _, h4⟩ := h
  refine ⟨⟨A', c', h1', h2'.kept hk (by decide) (by simp)⟩, ⟨A'', c'', h1'', h2''.kept hk (by decide) (by simp)⟩, ⟨_, _, rfl, ho⟩, fun m hm => ?_⟩
  have hm : m ∈ l := hm
  rw [hl, List.mem_append, List.mem_singleton] at hm
  rcases hm with hm | rfl
  · exact ⟨(h4 m hm).1.kept hk (by decide) (by simp), (h4 m hm).2⟩
  · exact ⟨hd.1.kept hk (by decide) (by simp), hd.2⟩
end

theorem TR.alloc {base : Nat} {t : TxD} {mv tv ev : Value} {wr : World} (h : TR base t mv tv ev wr) (o : Obj) : TR base t mv tv ev (wr.alloc o) :=
  h.kept (b' := 0) (E := []) (G := []) (Kept.ofKeep ((Keep.refl Nothing _).alloc _) (by unfold Nothing; simp)) (by simp) (by simp)
theorem TR.set {base : Nat} {t : TxD} {mv tv ev : Value} {wr : World} {x i : Nat} {cs : Array Value} (h : TR base t mv tv ev wr) (hb : Blk wr x 34 cs) (v : Value) : TR base t mv tv ev (wr.setCell ⟨x, i, none⟩ v) :=
  h.only ((Keep.refl (Only x) wr).setCell (p := ⟨x, i, none⟩) (.inl rfl) _) hb (by decide)
theorem str_size (l : List UInt8) : (str l).size = l.length := by simp [str, ByteArray.size]
theorem run_convB (l : List UInt8) (w : World) : ∃ c w', (convert 9 36 (.string (str l))).run Tryz.prog w = .ok (.slice (some ⟨w.heap.size, 0, none⟩) l.length c) w' ∧ Keep Nothing w w' ∧ ∀ k, DatAt w' ⟨k, l, some ⟨w.heap.size, 0, none⟩, c⟩ := by
  refine ⟨_, _, by have := Lib.run_convert_string_bytes (P := Tryz.prog) w 9 36 5 (str l) Tryz.underlying9 Tryz.underlying36 Tryz.underlying5; rw [str_size] at this; exact this, ?_, fun k => ⟨_, _, _, rfl, Lib.bytesWorld_at_new w 5 (str l), fun j u hj => ?_⟩⟩
  · exact ⟨rfl, rfl, rfl, by rw [Lib.bytesWorld_size]; omega, fun i hi _ => Lib.bytesWorld_at_old w 5 (str l) i hi⟩
  · have hlt : j < l.length := by
      rcases Nat.lt_or_ge j l.length with q | q
      · exact q
      · rw [List.getElem?_eq_none (by simpa using q)] at hj; cases hj
    simp only [List.getElem?_map, List.getElem?_eq_getElem hlt, Option.map_some, Option.some.injEq] at hj
    subst hj
    simp [Lib.bytesCells, str, Array.getElem?_append, hlt, bv]
theorem wpList_convB {P : Program} {ops : Array Oper} {rest : List Oper} {o : Oper} {a : Act} {w w' : World} {Q : Exit → Act → World → Prop} (hgd : o.guard = none) {src dst : TypeId} {x : Operand} (ho : o.op = .convert src dst x) {u v : Value} (hx : a.eval x = u) (hrun : (convert src dst u).run P w = .ok v w')
    (h : wpList P ops Q rest (a.put o.dst v) w') : wpList P ops Q (o :: rest) a w :=
  wpList_plain hgd fun _ hK => by
    unfold Oper.wp execOp
    simp only [ho, hx, Sem.run_bind, hrun, Result.andThen_ok, Sem.run_pure]
    exact hK _ _ h
theorem takeL_len (b : List UInt8) (at_ : Nat) (e n : Int) : (takeL b at_ e n).length ≤ b.length := by
  unfold takeL
  split
  · simp; omega
  · simp
def PtPost (b : List UInt8) (w : World) (r : Ending) (w' : World) : Prop :=
  ∃ t mv tv ev, forT t = (parseTx b).1 ∧ r = .returned (.tuple #[.agg (txC t mv tv ev), .int .i64 (parseTx b).2]) ∧ TR w.heap.size t mv tv ev w' ∧ Below w.heap.size w w'

def StTx (p v : Value) : Sem Unit := Instr.storeAt 34 p v
theorem st_tx (p v : Value) : Instr.storeAt 34 p v = StTx p v := rfl
def BdTx (ps : Array (Nat × Value)) : Sem Value := Instr.build 34 ps
theorem bd_tx (ps : Array (Nat × Value)) : Instr.build 34 ps = BdTx ps := rfl
theorem txL_one (t : TxD) (mv tv ev : Value) (h1 : mv.oneCell' = true) (h2 : tv.oneCell' = true) (h3 : ev.oneCell' = true) : ∀ v ∈ (txC t mv tv ev).toList, v.oneCell' = true := by
  intro v hv
  simp only [txC, txL, List.mem_cons, List.mem_append, List.not_mem_nil, or_false] at hv
  rcases hv with rfl | rfl | rfl | rfl | hv | rfl
  · rfl
  · rfl
  · exact h1
  · rfl
  · exact seqL_one t.seq tv h2 v (by simpa [seqC] using hv)
  · exact h3
theorem StTx.same {w : World} {g : Nat} {tt : TypeId} {t : TxD} {mv tv ev : Value} (h : Blk w g tt (txC t mv tv ev)) (h1 : mv.oneCell' = true) (h2 : tv.oneCell' = true) (h3 : ev.oneCell' = true) : (StTx (.pointer (some ⟨g, 0, none⟩)) (.agg (txC t mv tv ev))).run Tryz.prog w = .ok () w := by
  have := run_storeAt_blk (P := Tryz.prog) (ty := 34) (vs := txC t mv tv ev) h 0 (by rw [txC_size]; exact info_tx) (by omega) (txL_one _ _ _ _ h1 h2 h3)
  rw [spl_all rfl, setRow_same h] at this
  exact this

attribute [local go_sem ↓] bd_tx st_tx
set_option maxHeartbeats 8000000 in
set_option maxRecDepth 100000 in
theorem parseTx_all (b : List UInt8) (A : Option Addr) (c : Nat) (w : World) (hr : Reads w w.heap.size 1 A b.length (b.map bv)) (hc1 : b.length ≤ c) (hc2 : c ≤ maxLen) :
    Calls Tryz.prog 37 #[.slice A b.length c] w (PtPost b w) := by
  have HLL := Lib.hid (Nat.le_trans hc1 hc2)
  go_enter Tryz.func37, Tryz.ntmps37
  go_upto_region 2 with (first | (refine wpList_allocAgg rfl rfl (zero_tx _) ?_))
  have y0 : Blk ((w.alloc (.cells (txC tx0 nilS nilS nilS) 34)).alloc (.cells #[.slice A b.length c, .int .i64 0, .int .i64 0] 115)) w.heap.size 34 (txC tx0 nilS nilS nilS) := (Blk.new _ _ _).alloc _
  have r0 : Rd ((w.alloc (.cells (txC tx0 nilS nilS nilS) 34)).alloc (.cells #[.slice A b.length c, .int .i64 0, .int .i64 0] 115)) (w.heap.size + 1) w.heap.size b 0 0 := by
    refine ⟨A, c, ?_, (hr.alloc (Nat.le_refl _) _).alloc (by simp) _, Nat.zero_le _, hc1, hc2, by omega⟩
    have := Blk.new (w.alloc (.cells (txC tx0 nilS nilS nilS) 34)) 115 #[.slice A b.length c, .int .i64 0, .int .i64 0]
    simpa using this
  have k0 : Keep Nothing w ((w.alloc (.cells (txC tx0 nilS nilS nilS) 34)).alloc (.cells #[.slice A b.length c, .int .i64 0, .int .i64 0] 115)) := ((Keep.refl _ _).alloc _).alloc _
  generalize (w.alloc (.cells (txC tx0 nilS nilS nilS) 34)).alloc (.cells #[.slice A b.length c, .int .i64 0, .int .i64 0] 115) = w0 at *
  have z0 := k0.size
  have hng : w.heap.size ≤ w.heap.size + 1 := by omega
  have HP := Lib.hid (show parseTx b = ptA b { tx0 with hasHead := bit1 (num (takeL b 0 0 1)), hasSeq := bit2 (num (takeL b 0 0 1)) } (takeAt b 0 0 1) (note (takeE b 0 0 1) (decide ((num (takeL b 0 0 1) : Int) ≤ 3)) 16) from rfl)
  go_wp2_with fail
  refine (rnumber_any 1 (by omega) (w.heap.size + 1) w.heap.size b 0 0 _ r0 (by omega)).mono ?_
  rintro r w1 ⟨rfl, r1, k1⟩
  have hn := num1 b 0 0
  change Rd w1 (w.heap.size + 1) w.heap.size b (takeAt b 0 0 1) (takeE b 0 0 1) at r1
  change num (takeL b 0 0 1) < 256 at hn
  have y1 := y0.keep k1 (by unfold Only; omega)
  have z1 := k1.size
  have kk1 : Keep (Only (w.heap.size + 1)) w w1 := (k0.mono (fun _ _ h => h.elim)).trans k1
  clear r0 y0 k0 k1
  generalize num (takeL b 0 0 1) = n at *
  generalize takeAt b 0 0 1 = a1 at *
  generalize takeE b 0 0 1 = e1 at *
  obtain ⟨A1, c1, b1, hR1⟩ := r1.blk
  go_wp2_with fail
  refine (must_any (w.heap.size + 1) _ _ _ e1 16 _ _ b1).mono ?_
  rintro r w2 ⟨rfl, b2, k2⟩
  have r2 := hR1 _ _ b2 (by omega) k2
  have y2 := y1.keep k2 (by unfold Only; omega)
  have z2 := k2.size
  have kk2 := kk1.trans k2
  clear y1 kk1 k2 b1 b2 hR1 r1
  generalize note e1 (decide ((n : Int) ≤ 3)) 16 = e2 at *
  obtain ⟨v1, hv1⟩ : ∃ v : Int, bits .and .u64 (n : Int) 1 = v := ⟨_, rfl⟩
  obtain ⟨v2, hv2⟩ : ∃ v : Int, bits .and .u64 (n : Int) 2 = v := ⟨_, rfl⟩
  have hd1 : (v1 != 0) = bit1 n := by rw [← hv1, and1 n hn]; rfl
  have hd2 : (v2 != 0) = bit2 n := by rw [← hv2, and2 n hn]; rfl
  generalize bit1 n = h1 at *
  generalize bit2 n = h2 at *
  go_upto_region 5 with (first | (refine wpList_built rfl rfl (vs := #[(0, .bool h1), (3, .bool h2)]) rfl (build_tx2 h1 h2 _) ?_) | (refine wpList_allocAgg rfl rfl (zero_tx _) ?_) | (refine wpList_storeBlk rfl rfl (vs := txC { tx0 with hasHead := h1, hasSeq := h2 } nilS nilS nilS) rfl rfl (Blk.new _ _ _) (by rw [txC_size, txC_size]) (by rw [txC_size]; exact info_tx) (txL_one _ _ _ _ rfl rfl rfl) ?_; intro w3 x3 kc zc))
  clear hv1 hv2 hd1 hd2
  have kN : Keep Nothing w2 w3 := Keep.ofNew kc
  obtain ⟨t, ht⟩ : ∃ t : TxD, t = { tx0 with hasHead := h1, hasSeq := h2 } := ⟨_, rfl⟩
  have q3 : RQ w (w.heap.size + 1) w.heap.size b w2.heap.size w.heap.size 34 [113, 60, 62] (txC tx0 nilS nilS nilS) (txC t nilS nilS nilS) a1 e2 w3 :=
    ⟨r2.keep (by omega) kN (fun _ q => q.elim), by rw [ht]; exact x3, y2.keep kN (fun q => q), Kept.ofKeep (kk2.trans (kN.mono (fun _ _ h => h.elim))) (by unfold Only; simp), Nat.le_refl _, by omega, Nat.le_refl _, by have := y2.lt; omega, by decide⟩
  have tr3 : TR w.heap.size t nilS nilS nilS w3 := by rw [ht]; exact ⟨⟨none, 0, rfl, Own.nil _ _ _ _⟩, ⟨none, 0, rfl, Own.nil _ _ _ _⟩, ⟨none, 0, rfl, Own.nil _ _ _ _⟩, fun m hm => by simp [tx0] at hm⟩
  have HP2 := Lib.hid (show parseTx b = ptA b t a1 e2 from by rw [HP.out, ht])
  have HT1 := Lib.hid (show t.hasHead = h1 ∧ t.hasSeq = h2 ∧ t.moves = [] ∧ t.mem = [] from by rw [ht]; exact ⟨rfl, rfl, rfl, rfl⟩)
  clear kc zc kN x3 r2 y2 kk2 HP ht
  generalize w2.heap.size = x at *
  have hgn : w.heap.size ≤ w.heap.size + 1 := by omega
  generalize hgg : w.heap.size + 1 = g at *
  generalize hgy : w.heap.size = y at *
  have HY := Lib.hid hgy
  clear hgy hgg
  have c0 := (q3.blk.cell 0).trans txC_at.1
  rw [HT1.out.1] at c0
  go_upto_if 31 with fail
  go_cut [6] (fun s6 wx => s6 = .pointer (some ⟨x, 0, none⟩) ∧ ∃ t at' e', parseTx b = ptB b t at' e' ∧ t.hasSeq = h2 ∧ t.moves = [] ∧ t.mem = [] ∧ RQ w g y b x y 34 [113, 60, 62] (txC tx0 nilS nilS nilS) (txC t nilS nilS nilS) at' e' wx ∧ TR y t nilS nilS nilS wx)
  case first =>
    clear c0
    have HP3 := Lib.hid (show parseTx b = if h1 then ptB b { t with head := str (textL b a1 e2 1) } (textAt b a1 e2 1) (textE b a1 e2 1) else ptB b t a1 e2 from by rw [HP2.out]; unfold ptA; rw [HT1.out.1])
    cases h1
    · go_wp2_with fail
      go_meet
      exact ⟨rfl, t, a1, e2, HP3.out, HT1.out.2.1, HT1.out.2.2.1, HT1.out.2.2.2, q3, tr3⟩
    · go_wp2_with fail
      refine q3.text1.mono ?_
      rintro r w4 ⟨rfl, q4, k4⟩
      obtain ⟨rA, rc, rb⟩ := q3.rblk
      have tr4 := tr3.only k4 rb (by decide)
      generalize textL b a1 e2 1 = tl at *
      generalize textAt b a1 e2 1 = a3 at *
      generalize textE b a1 e2 1 = e3 at *
      have c1 := (q4.blk.cell 1).trans txC_at.2.1
      have f1 := q4.blk.frozen 1
      go_wp2_with fail
      go_meet
      have q5 := q4.set 1 (.string (str tl))
      rw [(txC_set _ _ _ _).1] at q5
      have tr5 := tr4.only (w' := w4.setCell ⟨x, 1, none⟩ (.string (str tl))) ((Keep.refl (Only x) w4).setCell (p := ⟨x, 1, none⟩) (.inl rfl) _) q4.blk (by decide)
      exact ⟨rfl, { t with head := str tl }, a3, e3, HP3.out, HT1.out.2.1, HT1.out.2.2.1, HT1.out.2.2.2, q5, ⟨tr5.mv, tr5.tv, tr5.ev, tr5.dat⟩⟩
  case rest =>
    obtain ⟨rfl, t, a3, e3, hp, hs, hmv, hme, q4, tr4⟩ := hcut
    have HP3 := Lib.hid hp
    have HT2 := Lib.hid (show t.hasSeq = h2 ∧ t.moves = [] ∧ t.mem = [] from ⟨hs, hmv, hme⟩)
    clear hp hs hmv hme q3 tr3 HP2 HT1 c0
    generalize wc = w4 at *
    go_wp2_with fail
    refine q4.number2.mono ?_
    rintro r w5 ⟨rfl, q5, k5⟩
    have hm := num2 b a3 e3
    obtain ⟨rA, rc, rb⟩ := q4.rblk
    have tr5 := tr4.only k5 rb (by decide)
    have HP4 := Lib.hid (show parseTx b = ptC b { t with moves := (ptMoves b (num (takeL b a3 e3 2)) (takeAt b a3 e3 2) (takeE b a3 e3 2) []).1 } (ptMoves b (num (takeL b a3 e3 2)) (takeAt b a3 e3 2) (takeE b a3 e3 2) []).2.1 (ptMoves b (num (takeL b a3 e3 2)) (takeAt b a3 e3 2) (takeE b a3 e3 2) []).2.2 from HP3.out)
    clear q4 tr4 k5 rb HP3
    generalize num (takeL b a3 e3 2) = m at *
    generalize takeAt b a3 e3 2 = a4 at *
    generalize takeE b a3 e3 2 = e4 at *
    go_upto_block 0 with fail
    go_cut [7] (fun s7 wx => ∃ l mv at' e', parseTx b = ptC b { t with moves := l } at' e' ∧ RQ w g y b x y 34 [113, 60, 62] (txC tx0 nilS nilS nilS) (txC { t with moves := l } mv nilS nilS) at' e' wx ∧ TR y { t with moves := l } mv nilS nilS wx)
    case first =>
      --<
      go_wp2_with fail
      go_loopg [7] m (fun f i wr => ∃ at' e' l mv, i = .int .u64 (f : Nat) ∧ ptMoves b f at' e' l = ptMoves b m a4 e4 [] ∧ RQ w g y b x y 34 [113, 60, 62] (txC tx0 nilS nilS nilS) (txC { t with moves := l } mv nilS nilS) at' e' wr ∧ TR y { t with moves := l } mv nilS nilS wr ∧ l.length + f ≤ m)
      case atStart => exact ⟨a4, e4, [], nilS, rfl, rfl, q5, by have := tr5; rw [show t = { t with moves := [] } from by have := HT2.out.2.1; cases t; simp_all] at this; exact this, by simp⟩
      case round =>
        obtain ⟨at', e', l, mv, rfl, hlo, q10, tr10, hlm⟩ := hrel
        have HLO := Lib.hid hlo
        clear hlo q5 tr5
        have r2 := q10.err
        by_cases hgo : 0 < gk ∧ e' = 0
        · obtain ⟨hg0, he⟩ := hgo
          subst he
          cases gk with
          | zero => exact absurd hg0 (by omega)
          | succ f =>
            go_wp2_with fail
            refine q10.text1.mono ?_
            rintro r w11 ⟨rfl, q11, k11⟩
            obtain ⟨L', hL'⟩ : ∃ L', ptMoves b (f + 1) at' 0 l = L' := ⟨_, rfl⟩
            have HL2 := Lib.hid (show ptMoves b (f + 1) at' 0 l = ptMoves b f (textAt b (takeAt b (takeAt b (textAt b at' 0 1) (textE b at' 0 1) 32) (takeE b (textAt b at' 0 1) (textE b at' 0 1) 32) 32) (takeE b (takeAt b (textAt b at' 0 1) (textE b at' 0 1) 32) (takeE b (textAt b at' 0 1) (textE b at' 0 1) 32) 32) 2)
              (textE b (takeAt b (takeAt b (textAt b at' 0 1) (textE b at' 0 1) 32) (takeE b (textAt b at' 0 1) (textE b at' 0 1) 32) 32) (takeE b (takeAt b (textAt b at' 0 1) (textE b at' 0 1) 32) (takeE b (textAt b at' 0 1) (textE b at' 0 1) 32) 32) 2)
              (l ++ [⟨str (textL b at' 0 1), idOf (takeL b (textAt b at' 0 1) (textE b at' 0 1) 32), idOf (takeL b (takeAt b (textAt b at' 0 1) (textE b at' 0 1) 32) (takeE b (textAt b at' 0 1) (textE b at' 0 1) 32) 32),
                str (textL b (takeAt b (takeAt b (textAt b at' 0 1) (textE b at' 0 1) 32) (takeE b (textAt b at' 0 1) (textE b at' 0 1) 32) 32) (takeE b (takeAt b (textAt b at' 0 1) (textE b at' 0 1) 32) (takeE b (textAt b at' 0 1) (textE b at' 0 1) 32) 32) 2)⟩]) from by show (if _ then _ else _) = _; rw [if_pos rfl])
            clear hL' L'
            have z11 := k11.size
            have zB := q10.size
            generalize textL b at' 0 1 = tl at *
            generalize textAt b at' 0 1 = a5 at *
            generalize textE b at' 0 1 = e5 at *
            go_wp2_with (first | (refine wpList_built rfl rfl (vs := #[(0, .string (str tl))]) rfl (build_move1 (str tl) _) ?_) | (refine wpList_allocAgg rfl rfl (zero_move _) ?_) | (refine wpList_storeBlk rfl rfl (vs := moveC { noMove with name := str tl }) rfl rfl (Blk.new _ _ _) (by rw [moveC_size, moveC_size]) (by rw [moveC_size]; exact info_move) (moveL_one _) ?_; intro w12 x12 kc zc))
            have v12 : RV wr g y b w11.heap.size 60 (moveC { noMove with name := str tl }) a5 e5 w12 :=
              ⟨q11.rd.keep (by omega) (Keep.ofNew (S := Nothing) kc) (fun _ q => q.elim), x12, k11.trans (Keep.ofNew kc), by omega, by omega, by decide⟩
            clear kc zc x12 q11 k11
            generalize w11.heap.size = z at *
            refine v12.id.mono ?_
            rintro r w13 ⟨rfl, v13⟩
            clear v12
            generalize idOf (takeL b a5 e5 32) = i1 at *
            generalize takeAt b a5 e5 32 = a6 at *
            generalize takeE b a5 e5 32 = e6 at *
            go_wp2_with (first | (refine wpList_storePart rfl rfl (vs := idC i1) rfl rfl v13.blk (by rw [idC_size, moveC_size]; omega) (by rw [idC_size]; exact info42) (idL_one _) ?_; intro w14 b14 k14 _z14))
            have v14 := v13.only b14 k14
            rw [(moveC_spl _ _).1] at v14
            clear b14 k14 _z14 v13
            refine v14.id.mono ?_
            rintro r w15 ⟨rfl, v15⟩
            clear v14
            generalize idOf (takeL b a6 e6 32) = i2 at *
            generalize takeAt b a6 e6 32 = a7 at *
            generalize takeE b a6 e6 32 = e7 at *
            go_wp2_with (first | (refine wpList_storePart rfl rfl (vs := idC i2) rfl rfl v15.blk (by rw [idC_size, moveC_size]; omega) (by rw [idC_size]; exact info42) (idL_one _) ?_; intro w16 b16 k16 _z16))
            have v16 := v15.only b16 k16
            rw [(moveC_spl _ _).2] at v16
            clear b16 k16 _z16 v15
            refine v16.text2.mono ?_
            rintro r w17 ⟨rfl, v17⟩
            clear v16
            generalize textL b a7 e7 2 = t2 at *
            generalize textAt b a7 e7 2 = a8 at *
            generalize textE b a7 e7 2 = e8 at *
            have c65 := (v17.blk.cell 65).trans (moveC_at _).2
            have f65 := v17.blk.frozen 65
            go_upto_region 14 with fail
            have v18 := v17.set 65 (.string (str t2))
            rw [moveC_set] at v18
            clear v17 c65 f65
            generalize w17.setCell ⟨z, 65, none⟩ (.string (str t2)) = w18 at *
            simp only at v18
            obtain ⟨mm, hmm⟩ : ∃ mm : MoveD, mm = ⟨str tl, i1, i2, str t2⟩ := ⟨_, rfl⟩
            have v19 : RV wr g y b z 60 (moveC mm) a8 e8 w18 := by rw [hmm]; exact v18
            have HL3 := Lib.hid (show ptMoves b (f + 1) at' 0 l = ptMoves b f a8 e8 (l ++ [mm]) from by rw [HL2.out, hmm])
            clear v18 HL2 hmm
            have q18 := q10.next v19.rd v19.keep
            obtain ⟨rA, rc, rb⟩ := q10.rblk
            have tr18 := tr10.only v19.keep rb (by decide)
            clear rb tr10 q10
            obtain ⟨Am, cm, hmv, o18⟩ := tr18.mv
            subst hmv
            have c2 := (q18.blk.cell 2).trans txC_at.2.2.1
            have hzs := q18.kept.size
            rw [HY.out] at hzs
            go_wp2_with (first | (refine wpList_load rfl rfl rfl (load_whole v19.blk Tryz.underlying60 rfl (by rw [moveC_size]; exact info_move)) ?_) | (refine wpList_buildSlice1 rfl elemMove rfl zero_move (moveC_size _) (moveC_size _) (by omega) rfl ?_) | (at_builtin; refine wpList_append_sl rfl elemMove rfl rfl (o18.alloc _) rfl (Reads.of_cells (n := 1) (xs := moveL mm) (heap_alloc_new _ _) rfl (by rw [moveL_len])) (moveL_one _) (by simp only at *; unfold maxLen; omega) (by simp only at *; omega) (by simp; omega) ?_; intro A' c' w19 o19 k19; have q19 := (q18.alloc (.cells (moveC mm) 60)).row (k19.mono (by rw [HY.out]; exact Nat.le_refl _) (by simp) (by simp)); have c2' := (q19.blk.cell 2).trans txC_at.2.2.1; have f2 := q19.blk.frozen 2))
            go_roundg f
            case measure => omega
            case rel =>
              have el : l.length + 1 = (l ++ [mm]).length := by simp
              have q20 := q19.set 2 (.slice A' (l ++ [mm]).length c')
              rw [(txC_set _ _ _ _).2.1] at q20
              have o19' : Own w19 y 60 66 A' (l ++ [mm]).length c' (moveLs (l ++ [mm])) := by simpa [moveLs] using o19
              have tr19 := (tr18.alloc (.cells (moveC mm) 60)).moves k19 rfl o19'
              have tr20 := tr19.set (i := 2) q19.blk (.slice A' (l ++ [mm]).length c')
              have ef : ({ t with moves := l } : TxD).moves.length + 1 = (l ++ [mm]).length := el
              rw [ef]
              exact ⟨_, _, l ++ [mm], _, by go_num, by rw [← HL3.out]; exact HLO.out, q20, ⟨tr20.mv, tr20.tv, tr20.ev, tr20.dat⟩, by rw [← el]; omega⟩
        · have hend : ptMoves b m a4 e4 [] = (l, at', e') := by
            rw [← HLO.out]
            by_cases he : e' = 0
            · have h0 : gk = 0 := by omega
              rw [h0]
              rfl
            · exact ptMoves_err he
          have HE := Lib.hid (show parseTx b = ptC b { t with moves := l } at' e' from by rw [HP4.out, hend])
          have fin : gk = 0 ∨ (0 < gk ∧ (e' == 0) = false) := by
            by_cases h1 : gk = 0
            · exact .inl h1
            · exact .inr ⟨by omega, beq_eq_false_iff_ne.2 (fun h => hgo ⟨by omega, h⟩)⟩
          clear hend HLO hgo hlm
          rcases fin with rfl | ⟨f1, f2⟩
          all_goals
            go_wp2_with fail
            go_meet
            exact ⟨l, mv, at', e', HE.out, q10, tr10⟩
      -->
    case rest =>
      obtain ⟨l, mv, a5, e5, hp, q6, tr6⟩ := hcut
      have HP5 := Lib.hid hp
      clear hp q5 tr5 HP4
      generalize wc = w6 at *
      have c3 := (q6.blk.cell 3).trans txC_at.2.2.2.1
      rw [show ({ t with moves := l } : TxD).hasSeq = h2 from HT2.out.1] at c3
      go_upto_if 68 with fail
      have HM0 := Lib.hid (show t.mem = [] from HT2.out.2.2)
      obtain ⟨t1, ht1⟩ : ∃ t1 : TxD, t1 = { t with moves := l } := ⟨_, rfl⟩
      have HP6 := Lib.hid (show parseTx b = ptC b t1 a5 e5 from by rw [HP5.out, ht1])
      have HS := Lib.hid (show t1.hasSeq = h2 ∧ t1.mem = [] from by rw [ht1]; exact ⟨HT2.out.1, HT2.out.2.2⟩)
      rw [← ht1] at q6 tr6
      clear HP5 HT2 HM0 ht1
      go_cut [6] (fun s6 wx => s6 = .pointer (some ⟨x, 0, none⟩) ∧ ∃ t tv at' e', parseTx b = ptD b t at' e' ∧ t.mem = [] ∧ RQ w g y b x y 34 [113, 60, 62] (txC tx0 nilS nilS nilS) (txC t mv tv nilS) at' e' wx ∧ TR y t mv tv nilS wx)
      case first =>
        --<
        clear c3
        have HP7 := Lib.hid (show parseTx b = if h2 then ptD b { t1 with seq := (rseqP b a5 e5).1 } (rseqP b a5 e5).2.1 (note (rseqP b a5 e5).2.2.1 (decide (((rseqP b a5 e5).2.2.2 : Int) ≤ 1)) 16) else ptD b t1 a5 e5 from by rw [HP6.out]; unfold ptC; rw [HS.out.1])
        cases h2
        · go_wp2_with fail
          go_meet
          exact ⟨rfl, t1, nilS, a5, e5, HP7.out, HS.out.2, q6, tr6⟩
        · go_wp2_with fail
          refine (rseq_any b a5 e5 g y _ q6.rd q6.size).mono ?_
          rintro r w7 ⟨A7, c7, rfl, o7, r7, k7⟩
          obtain ⟨rA, rc, rb⟩ := q6.rblk
          have hz7 := q6.kept.size
          rw [HY.out] at hz7
          have q7 := q6.call r7 k7 (by rw [HY.out]; exact hz7) (by simp)
          have tr7 := tr6.seq k7 rb rfl o7 hz7
          generalize (rseqP b a5 e5).2.1 = a6 at *
          generalize note (rseqP b a5 e5).2.2.1 (decide (((rseqP b a5 e5).2.2.2 : Int) ≤ 1)) 16 = e6 at *
          generalize (rseqP b a5 e5).1 = sq at *
          clear r7 k7 o7 rb q6 tr6
          go_wp2_with (first | (refine wpList_storePart rfl rfl (vs := seqC sq (.slice A7 sq.todo.length c7)) rfl rfl q7.blk (by rw [seqC_size, txC_size]; omega) (by rw [seqC_size]; exact info_seq) (seqL_one _ _ rfl) ?_; intro w8 b8 k8 _z8))
          go_meet
          have q8 := q7.only b8 k8
          rw [txC_splSeq] at q8
          have tr8 := tr7.only k8 q7.blk (by decide)
          exact ⟨rfl, { t1 with seq := sq }, _, a6, e6, HP7.out, HS.out.2, q8, tr8⟩
        -->
      case rest =>
        obtain ⟨rfl, t2, tv, a6, e6, hp, hme, q7, tr7⟩ := hcut
        have HP7 := Lib.hid hp
        have HM0 := Lib.hid hme
        clear hp hme q6 tr6 HP6 HS c3
        generalize wc = w7 at *
        go_wp2_with fail
        refine q7.number2.mono ?_
        rintro r w8 ⟨rfl, q8, k8⟩
        have hm2 := num2 b a6 e6
        obtain ⟨rA, rc, rb⟩ := q7.rblk
        have tr8 := tr7.only k8 rb (by decide)
        have HP8 := Lib.hid (show parseTx b = ptE b { t2 with mem := (ptMems b (num (takeL b a6 e6 2)) (takeAt b a6 e6 2) (takeE b a6 e6 2) []).1 } (ptMems b (num (takeL b a6 e6 2)) (takeAt b a6 e6 2) (takeE b a6 e6 2) []).2.1 (ptMems b (num (takeL b a6 e6 2)) (takeAt b a6 e6 2) (takeE b a6 e6 2) []).2.2 from HP7.out)
        clear q7 tr7 k8 rb HP7
        generalize num (takeL b a6 e6 2) = m2 at *
        generalize takeAt b a6 e6 2 = a7 at *
        generalize takeE b a6 e6 2 = e7 at *
        go_upto_block 2 with fail
        go_cut [9] (fun s9 wx => ∃ l ms ev at' e', parseTx b = ptE b { t2 with mem := l } at' e' ∧ ms.map forM = l ∧ RQ w g y b x y 34 [113, 60, 62] (txC tx0 nilS nilS nilS) (txC { t2 with mem := ms } mv tv ev) at' e' wx ∧ TR y { t2 with mem := ms } mv tv ev wx)
        case first =>
          --<
          go_wp2_with fail
          go_loopg [9] m2 (fun f i wr => ∃ at' e' l ms ev, i = .int .u64 (f : Nat) ∧ ptMems b f at' e' l = ptMems b m2 a7 e7 [] ∧ ms.map forM = l ∧ RQ w g y b x y 34 [113, 60, 62] (txC tx0 nilS nilS nilS) (txC { t2 with mem := ms } mv tv ev) at' e' wr ∧ TR y { t2 with mem := ms } mv tv ev wr ∧ ms.length + f ≤ m2)
          case atStart => exact ⟨a7, e7, [], [], nilS, rfl, rfl, rfl, q8, by have := tr8; rw [show t2 = { t2 with mem := [] } from by have := HM0.out; cases t2; simp_all] at this; exact this, by simp⟩
          case round =>
            obtain ⟨at', e', l, ms, ev, rfl, hlo, hms, q10, tr10, hlm⟩ := hrel
            have HLO := Lib.hid hlo
            have HMS := Lib.hid hms
            clear hlo hms q8 tr8
            have r2 := q10.err
            by_cases hgo : 0 < gk ∧ e' = 0
            · obtain ⟨hg0, he⟩ := hgo
              subst he
              cases gk with
              | zero => exact absurd hg0 (by omega)
              | succ f =>
                go_wp2_with fail
                refine q10.id.mono ?_
                rintro r w11 ⟨rfl, q11, k11⟩
                have HL2 := Lib.hid (show ptMems b (f + 1) at' 0 l = ptMems b f (textAt b (takeAt b at' 0 32) (takeE b at' 0 32) 4) (textE b (takeAt b at' 0 32) (takeE b at' 0 32) 4) (l ++ [⟨idOf (takeL b at' 0 32), textL b (takeAt b at' 0 32) (takeE b at' 0 32) 4, none, 0⟩]) from by show (if _ then _ else _) = _; rw [if_pos rfl])
                have z11 := k11.size
                have zB := q10.size
                generalize idOf (takeL b at' 0 32) = i1 at *
                generalize takeAt b at' 0 32 = a8 at *
                generalize takeE b at' 0 32 = e8 at *
                go_wp2_with (first | (refine wpList_built rfl rfl (vs := #[(0, idV i1)]) rfl (build_mem1 i1 _) ?_) | (refine wpList_allocAgg rfl rfl (zero_mem _) ?_) | (refine wpList_storeBlk rfl rfl (vs := memC { noMem with key := i1 }) rfl rfl (Blk.new _ _ _) (by rw [memC_size, memC_size]) (by rw [memC_size]; exact info_mem) (memL_one _) ?_; intro w12 x12 kc zc))
                have v12 : RV wr g y b w11.heap.size 62 (memC { noMem with key := i1 }) a8 e8 w12 :=
                  ⟨q11.rd.keep (by omega) (Keep.ofNew (S := Nothing) kc) (fun _ q => q.elim), x12, k11.trans (Keep.ofNew kc), by omega, by omega, by decide⟩
                clear kc zc x12 q11 k11
                generalize w11.heap.size = z at *
                refine v12.text4.mono ?_
                rintro r w13 ⟨rfl, v13⟩
                have hll : (textL b a8 e8 4).length ≤ 9223372036854775807 := Nat.le_trans (takeL_len _ _ _ _) (by have := HLL.out; unfold maxLen at this; omega)
                clear v12
                generalize textL b a8 e8 4 = tl at *
                generalize textAt b a8 e8 4 = a9 at *
                generalize textE b a8 e8 4 = e9 at *
                obtain ⟨cp, w14, hcv, k14, hdat⟩ := run_convB tl w13
                have HCV := Lib.hid hcv
                have v14 := v13.keepN k14
                have c32 := (v14.blk.cell 32).trans (memC_at _)
                have f32 := v14.blk.frozen 32
                have D14 := Lib.hid (hdat i1)
                generalize w13.heap.size = z13 at *
                clear hcv v13 k14 hdat
                go_upto_region 22 with (first | (refine wpList_convB rfl rfl rfl HCV.out ?_))
                have v15 := v14.set 32 (.slice (some ⟨z13, 0, none⟩) tl.length cp)
                rw [memC_set] at v15
                obtain ⟨mm, hmm⟩ : ∃ mm : MemD, mm = ⟨i1, tl, some ⟨z13, 0, none⟩, cp⟩ := ⟨_, rfl⟩
                have d15 : DatAt (w14.setCell ⟨z, 32, none⟩ (.slice (some ⟨z13, 0, none⟩) tl.length cp)) mm := by
                  rw [hmm]
                  exact D14.out.kept (b' := 0) (E := []) (G := [z]) (Kept.ofKeep ((Keep.refl (Only z) w14).setCell (p := ⟨z, 32, none⟩) (.inl rfl) _) (by unfold Only; simp)) (by simp) (by intro g' hg; simp at hg; subst hg; exact ⟨_, _, v14.blk, by decide⟩)
                generalize w14.setCell ⟨z, 32, none⟩ (.slice (some ⟨z13, 0, none⟩) tl.length cp) = w15 at *
                simp only at v15
                have v19 : RV wr g y b z 62 (memC mm) a9 e9 w15 := by rw [hmm]; exact v15
                have HL3 := Lib.hid (show ptMems b (f + 1) at' 0 l = ptMems b f a9 e9 (l ++ [forM mm]) from by rw [HL2.out, hmm]; rfl)
                have hml : mm.data.length ≤ maxLen := by rw [hmm]; unfold maxLen; show tl.length ≤ _; omega
                clear v15 HL2 hmm v14 c32 f32 D14 HCV
                have D15 := Lib.hid d15
                have HML := Lib.hid hml
                have q18 := q10.next v19.rd v19.keep
                obtain ⟨rA, rc, rb⟩ := q10.rblk
                have tr18 := tr10.only v19.keep rb (by decide)
                clear rb tr10 q10 d15 hml
                obtain ⟨Am, cm, hmv, o18⟩ := tr18.ev
                subst hmv
                have c74 := (q18.blk.cell 74).trans txC_at.2.2.2.2.2
                have hzs := q18.kept.size
                rw [HY.out] at hzs
                go_wp2_with (first | (refine wpList_load rfl rfl rfl (load_whole v19.blk Tryz.underlying62 rfl (by rw [memC_size]; exact info_mem)) ?_) | (refine wpList_buildSlice1 rfl elemMem rfl zero_mem (memC_size _) (memC_size _) (by omega) rfl ?_) | (at_builtin; refine wpList_append_sl rfl elemMem rfl rfl (o18.alloc _) rfl (Reads.of_cells (n := 1) (xs := memL mm) (heap_alloc_new _ _) rfl (by rw [memL_len])) (memL_one _) (by simp only at *; unfold maxLen; omega) (by simp only at *; omega) (by simp; omega) ?_; intro A' c' w19 o19 k19; have q19 := (q18.alloc (.cells (memC mm) 62)).row (k19.mono (by rw [HY.out]; exact Nat.le_refl _) (by simp) (by simp)); have c2' := (q19.blk.cell 74).trans txC_at.2.2.2.2.2; have f2 := q19.blk.frozen 74))
                go_roundg f
                case measure => omega
                case rel =>
                  have el : ms.length + 1 = (ms ++ [mm]).length := by simp
                  have q20 := q19.set 74 (.slice A' (ms ++ [mm]).length c')
                  rw [(txC_set _ _ _ _).2.2] at q20
                  have o19' : Own w19 y 62 33 A' (ms ++ [mm]).length c' (memLs (ms ++ [mm])) := by simpa [memLs] using o19
                  have d16 : DatAt (w15.alloc (.cells (memC mm) 62)) mm := D15.out.kept (b' := 0) (E := []) (G := []) (Kept.ofKeep ((Keep.refl Nothing _).alloc _) (by unfold Nothing; simp)) (by simp) (by simp)
                  have tr19 := (tr18.alloc (.cells (memC mm) 62)).mems (d := mm) k19 rfl rfl o19' ⟨d16, HML.out⟩
                  have tr20 := tr19.set (i := 74) q19.blk (.slice A' (ms ++ [mm]).length c')
                  have ef : ({ t2 with mem := ms } : TxD).mem.length + 1 = (ms ++ [mm]).length := el
                  rw [ef]
                  exact ⟨_, _, l ++ [forM mm], ms ++ [mm], _, by go_num, by rw [← HL3.out]; exact HLO.out, by rw [List.map_append, HMS.out]; rfl, q20, ⟨tr20.mv, tr20.tv, tr20.ev, tr20.dat⟩, by rw [← el]; omega⟩
            · have hend : ptMems b m2 a7 e7 [] = (l, at', e') := by
                rw [← HLO.out]
                by_cases he : e' = 0
                · have h0 : gk = 0 := by omega
                  rw [h0]
                  rfl
                · exact ptMems_err he
              have HE := Lib.hid (show parseTx b = ptE b { t2 with mem := l } at' e' from by rw [HP8.out, hend])
              have fin : gk = 0 ∨ (0 < gk ∧ (e' == 0) = false) := by
                by_cases h1 : gk = 0
                · exact .inl h1
                · exact .inr ⟨by omega, beq_eq_false_iff_ne.2 (fun h => hgo ⟨by omega, h⟩)⟩
              clear hend HLO hgo hlm
              rcases fin with rfl | ⟨f1, f2⟩
              all_goals
                go_wp2_with fail
                go_meet
                exact ⟨l, ms, ev, at', e', HE.out, HMS.out, q10, tr10⟩
          -->
        case rest =>
          obtain ⟨l, ms, ev, a8, e8, hp, hms, q9, tr9⟩ := hcut
          have HP9 := Lib.hid hp
          have HMS := Lib.hid hms
          clear hp hms q8 tr8 HP8
          generalize wc = w9 at *
          go_wp2_with fail
          refine (rend_any g y b a8 e8 _ q9.rd q9.size).mono ?_
          rintro r w10 ⟨rfl, r10, k10⟩
          obtain ⟨rA, rc, rb⟩ := q9.rblk
          have q10 := q9.next r10 k10
          have tr10 := tr9.only k10 rb (by decide)
          clear q9 tr9 r10 k10 rb
          have HP10 := Lib.hid (show parseTx b = if endE b a8 e8 = 0 then ({ t2 with mem := l }, 0) else (tx0, endE b a8 e8) from HP9.out)
          generalize endE b a8 e8 = e9 at *
          have r2 := q10.err
          by_cases h0 : e9 = 0
          · subst h0
            have HR := Lib.hid (show parseTx b = ({ t2 with mem := l }, 0) from HP10.out)
            obtain ⟨Am, cm, hmv, _⟩ := tr10.mv
            obtain ⟨At, ct, htv, _⟩ := tr10.tv
            obtain ⟨Ae, ce, hev, _⟩ := tr10.ev
            have o1 : mv.oneCell' = true := by rw [hmv]; rfl
            have o2 : tv.oneCell' = true := by rw [htv]; rfl
            have o3 : ev.oneCell' = true := by rw [hev]; rfl
            clear hmv htv hev
            go_wp2_with (first | (refine wpList_load rfl rfl rfl (load_whole q10.blk Tryz.underlying34 rfl (by rw [txC_size]; exact info_tx)) ?_) | (refine wpList_storeBlk rfl rfl (vs := txC { t2 with mem := ms } mv tv ev) rfl rfl q10.res (by rw [txC_size, txC_size]) (by rw [txC_size]; exact info_tx) (txL_one _ _ _ _ o1 o2 o3) ?_; intro w11 y11 k11 z11))
            refine bodyPost_ret (results_cell_tmp rfl _ _ rfl (run_loadVar_cells w11 _ (txC { t2 with mem := ms } mv tv ev) Tryz.underlying34 rfl (by rw [txC_size]; exact info_tx) (fun j v hj => by rw [add_at, y11.cell, ← hj]; simp))) rfl ?_
            have hkk := q10.kept.lift (Kept.ofKeep (base := w.heap.size) (E := []) (G := [y]) k11 (by unfold Only; simp)) (Nat.le_refl _) (by simp) (by rw [HY.out]; simp)
            refine ⟨{ t2 with mem := ms }, mv, tv, ev, ?_, ?_, ?_, ?_⟩
            · rw [HR.out]
              show forT { t2 with mem := ms } = { t2 with mem := l }
              unfold forT
              simp only [HMS.out]
            · rw [HR.out]; rfl
            · rw [HY.out]; exact tr10.only k11 q10.res (by decide)
            · exact hkk.below (Nat.le_refl _) (Nat.le_refl _) (by simp; rw [HY.out]; exact q10.Bg)
          · have h01 : (e9 != 0) = true := by simpa using h0
            have HR := Lib.hid (HP10.out.trans (if_neg h0))
            go_wp2_with fail
            have B1 : ∀ W, (BdTx #[]).run Tryz.prog W = .ok (.agg (txC tx0 nilS nilS nilS)) W := build_tx0
            have S1 := StTx.same q10.res.drew rfl rfl rfl
            go_region_law (fail)
            all_goals
              go_wp2_with fail
              refine bodyPost_ret (results_cell_tmp rfl _ _ rfl (run_loadVar_cells w10.drew _ (txC tx0 nilS nilS nilS) Tryz.underlying34 rfl (by rw [txC_size]; exact info_tx) (fun j v hj => by rw [add_at, q10.res.drew.cell, ← hj]; simp))) rfl ?_
              refine ⟨tx0, nilS, nilS, nilS, ?_, ?_, ?_, ?_⟩
              · rw [HR.out]; rfl
              · rw [HR.out]; rfl
              · exact ⟨⟨none, 0, rfl, Own.nil _ _ _ _⟩, ⟨none, 0, rfl, Own.nil _ _ _ _⟩, ⟨none, 0, rfl, Own.nil _ _ _ _⟩, fun m hm => by simp [tx0] at hm⟩
              · exact q10.kept.drew.below (Nat.le_refl _) (Nat.le_refl _) (by simp; rw [HY.out]; exact q10.Bg)
theorem parseTx_any (b : List UInt8) (A : Option Addr) (c : Nat) (w : World) (hr : Reads w w.heap.size 1 A b.length (b.map bv)) (_hl : b.length ≤ 1000000) (hc1 : b.length ≤ c) (hc2 : c ≤ maxLen) :
    Calls Tryz.prog 37 #[.slice A b.length c] w (PtPost b w) := parseTx_all b A c w hr hc1 hc2
end Go.Proofs.YtppmolneklidfaaGreat
