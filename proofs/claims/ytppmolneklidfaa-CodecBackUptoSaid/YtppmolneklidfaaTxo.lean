/-
  Arguments opened: a transaction, with bounds out of its bulk. No statement of the seat is proved here.
-/
import Derived.Test.YtppmolneklidfaaOpenCom
import Derived.Test.YtppmolneklidfaaTx1
namespace Go.Proofs.Ytppmolneklidfaa
open Go.ChangeShapes Go.WideShapes Go.ChangeAt Go.RowKit Go.Deep

/-! ### Bulk -/
section
variable {H : Type}
theorem bulk_pos (d : DataW H) : 1 ≤ Rows.uptoBulk d := by
  cases d with
  | lit l => cases l <;> simp [Rows.uptoBulk]
  | nil => simp [Rows.uptoBulk]
  | ptr d => simp [Rows.uptoBulk]
  | slice elems spare => simp [Rows.uptoBulk]
  | agg parts => simp [Rows.uptoBulk]
  | iface t d => simp [Rows.uptoBulk]
  | map entries => simp [Rows.uptoBulk]
  | held h => simp [Rows.uptoBulk]
theorem bulk_part {d : DataW H} : ∀ {l : List (DataW H)}, d ∈ l → Rows.uptoBulk d ≤ Rows.uptoBulkAll l
  | [], h => by cases h
  | x :: r, h => by
    simp only [Rows.uptoBulkAll]
    rcases List.mem_cons.1 h with e | e
    · subst e; omega
    · have := bulk_part e; omega
theorem bulk_len : ∀ l : List (DataW H), l.length ≤ Rows.uptoBulkAll l
  | [] => by simp [Rows.uptoBulkAll]
  | x :: r => by have := bulk_pos x; have := bulk_len r; simp only [Rows.uptoBulkAll, List.length_cons]; omega
theorem bulk_bound {l : List (DataW H)} (hk : Rows.uptoSmall H l = true) : Rows.uptoBulkAll l ≤ 1048576 := of_decide_eq_true hk
theorem bulk_agg {xs : List (DataW H × List MemPlace)} {N i : Nat} {y : DataW H × List MemPlace} (h : Rows.uptoBulk (.agg (xs.map (·.1))) ≤ N) (hi : xs[i]? = some y) : Rows.uptoBulk y.1 ≤ N := by
  have : Rows.uptoBulk y.1 ≤ Rows.uptoBulkAll (xs.map (·.1)) := bulk_part (List.mem_map.2 ⟨y, List.mem_of_getElem? hi, rfl⟩)
  simp only [Rows.uptoBulk] at h
  omega
end

/-! ### A slice, its elements' bounds at hand -/
theorem open_listB {H : Type} {enc : TypeId × Value → H} {w : World} {base : Nat} {spare : Nat → Bool} {held : Bool} {α : Type} {f : α → List Value} {C N : Nat} {V : α → Prop} {t e : TypeId} {A : Option Addr} {len cap : Nat} {fuel : Nat} {x : DataW H × List MemPlace} (ht : Try.prog.underlying t = some (.slice e)) (hC : Try.prog.cellsOf e = C) (hpos : 0 < C) (hf : ∀ a, (f a).length = C)
    (hopen : ∀ (n : Nat) (cs : List Value) (y : DataW H × List MemPlace), DataW.trod enc Try.prog w base spare held n e cs = some y → Rows.uptoBulk y.1 ≤ N → ∃ a, cs = f a ∧ V a)
    (h : DataW.trod enc Try.prog w base spare held fuel t [.slice A len cap] = some x) (hb : Rows.uptoBulk x.1 ≤ N) : ∃ l : List α, l.length = len ∧ Reads w w.heap.size C A len (l.flatMap f) ∧ len ≤ cap ∧ cap ≤ maxLen ∧ len ≤ N ∧ ∀ a ∈ l, V a := by
  rcases open_slice ht h with ⟨hcs, hx⟩ | ⟨a, len', cap', m, n, D, Pl, hcs, _, hl, hm, hmm, hxx, hi⟩
  · simp at hcs
    obtain ⟨rfl, rfl, rfl⟩ := hcs
    exact ⟨[], rfl, Reads.none_, Nat.le_refl _, Nat.zero_le _, Nat.zero_le _, by simp⟩
  · simp at hcs
    obtain ⟨rfl, rfl, rfl⟩ := hcs
    rw [hC] at hi
    have hlm : len ≤ m := by rw [hmm]; split <;> omega
    have hbA : Rows.uptoBulkAll ((List.range len).map D) ≤ N := by
      rw [hxx] at hb
      simp only [Rows.uptoBulk] at hb
      omega
    have hlN : len ≤ N := by have := bulk_len ((List.range len).map D); simp at this; omega
    have hbD : ∀ i, i < len → Rows.uptoBulk (D i) ≤ N := fun i hi => Nat.le_trans (bulk_part (List.mem_map.2 ⟨i, List.mem_range.2 hi, rfl⟩)) hbA
    have key : ∀ k, k ≤ len → ∃ l : List α, l.length = k ∧ (∀ i b, l[i]? = some b → V b ∧ ∀ r u, (f b)[r]? = some u → w.cell? (a.add (i * C + r)) = some u) := by
      intro k
      induction k with
      | zero => exact fun _ => ⟨[], rfl, by simp⟩
      | succ k ih =>
        intro hk
        obtain ⟨l, hlen, hall⟩ := ih (by omega)
        obtain ⟨cs', hcells, htr⟩ := hi k (by omega)
        obtain ⟨b, rfl, hV⟩ := hopen n cs' _ htr (hbD k (by omega))
        obtain ⟨_, _, hat⟩ := World.cells?_some hcells
        refine ⟨l ++ [b], by simp [hlen], fun i b' hb' => ?_⟩
        rcases Nat.lt_or_ge i l.length with hlt | hge
        · rw [List.getElem?_append_left hlt] at hb'
          exact hall i b' hb'
        · rw [List.getElem?_append_right hge] at hb'
          have h0 : i - l.length = 0 := by
            rcases Nat.eq_zero_or_pos (i - l.length) with q | q
            · exact q
            · rw [List.getElem?_eq_none (by simp; omega)] at hb'; cases hb'
          rw [h0] at hb'
          simp at hb'
          subst hb'
          refine ⟨hV, fun r u hr => ?_⟩
          have hik : i = k := by omega
          subst hik
          have hrC : r < C := by
            rcases Nat.lt_or_ge r C with q | q
            · exact q
            · rw [List.getElem?_eq_none (by rw [hf]; exact q)] at hr; cases hr
          rw [← add_of_add, hat r hrC]
          exact hr
    obtain ⟨l, hlen, hall⟩ := key len (Nat.le_refl _)
    refine ⟨l, hlen, ⟨by rw [flat_len hf, hlen], fun hn => ?_⟩, hl, hm, hlN, fun b hb => ?_⟩
    · have hcell : ∀ j u, (l.flatMap f)[j]? = some u → w.cell? (a.add j) = some u := by
        intro j u hj
        have hjl : j < l.length * C := by rw [← flat_len hf]; exact (List.getElem?_eq_some_iff.1 hj).1
        have hd : j / C < l.length := Nat.div_lt_of_lt_mul (by rw [Nat.mul_comm]; exact hjl)
        have hfa := flat_at hf l (j / C) (j % C) l[j / C] (List.getElem?_eq_getElem hd) ((f l[j / C])[j % C]'(by rw [hf]; exact Nat.mod_lt _ hpos)) (List.getElem?_eq_getElem _)
        rw [Nat.mul_comm, Nat.div_add_mod] at hfa
        have hu := hj.symm.trans hfa
        have := (hall _ _ (List.getElem?_eq_getElem hd)).2 (j % C) u (by rw [hu]; exact List.getElem?_eq_getElem _)
        rwa [Nat.mul_comm, Nat.div_add_mod] at this
      refine ⟨a, rfl, ?_, hcell⟩
      have h0 : 0 < (l.flatMap f).length := by rw [flat_len hf, hlen]; exact Nat.mul_pos hn hpos
      have := World.block_lt_of_cell? w _ (hcell 0 _ (List.getElem?_eq_getElem h0))
      rwa [block_of_add] at this
    · obtain ⟨i, hi', rfl⟩ := List.mem_iff_getElem.1 hb
      exact (hall i _ (List.getElem?_eq_getElem hi')).1

/-! ### The parts of a transaction -/
section
variable {H : Type} {enc : TypeId × Value → H} {w : World} {base : Nat} {spare : Nat → Bool} {held : Bool}
theorem cells_todo : Try.prog.cellsOf 82 = 33 := by kernel_rfl
theorem cells_move : Try.prog.cellsOf 128 = 66 := by kernel_rfl
theorem cells_mem : Try.prog.cellsOf 130 = 33 := by kernel_rfl
theorem cells_seq : Try.prog.cellsOf 67 = 70 := by kernel_rfl
theorem cells_tx : Try.prog.cellsOf 70 = 75 := by kernel_rfl
theorem cells_bool : Try.prog.cellsOf 4 = 1 := by kernel_rfl
theorem cells_todos : Try.prog.cellsOf 65 = 1 := by kernel_rfl
theorem cells_moves : Try.prog.cellsOf 64 = 1 := by kernel_rfl
theorem cells_mems : Try.prog.cellsOf 68 = 1 := by kernel_rfl
/-- A list's cell at i, cut out. -/
theorem one_at {cs : List Value} {i n : Nat} (hl : cs.length = n) (hi : i < n) : ∃ v, (cs.drop i).take 1 = [v] ∧ cs[i]? = some v := by
  have hlt : i < cs.length := by omega
  refine ⟨cs[i], ?_, List.getElem?_eq_getElem hlt⟩
  rw [List.drop_eq_getElem_cons hlt]
  rfl
theorem cut_at {cs : List Value} {i k : Nat} {l : List Value} (h : (cs.drop i).take k = l) : cs.drop i = l ++ cs.drop (i + k) := by
  rw [← h, ← List.drop_drop, List.take_append_drop]
theorem open_bytesB {N : Nat} {A : Option Addr} {len cap : Nat} {fuel : Nat} {x : DataW H × List MemPlace} (h : DataW.trod enc Try.prog w base spare held fuel 23 [.slice A len cap] = some x) (hb : Rows.uptoBulk x.1 ≤ N) :
    ∃ l : List UInt8, l.length = len ∧ Reads w w.heap.size 1 A l.length (l.map bv) ∧ l.length ≤ cap ∧ cap ≤ maxLen ∧ l.length ≤ N := by
  obtain ⟨l, h1, h2, h3, h4, h5, _⟩ := open_listB (N := N) (f := fun a : UInt8 => [bv a]) (V := fun _ => True) Try.underlying23 cells_u8 (by decide) (fun _ => rfl) (fun _ _ _ h _ => open_byte h) h hb
  subst h1
  rw [flat_bv] at h2
  exact ⟨l, rfl, h2, h3, h4, h5⟩
set_option maxRecDepth 100000 in
theorem open_todo {n : Nat} {cs : List Value} {y : DataW H × List MemPlace} (h : DataW.trod enc Try.prog w base spare held n 82 cs = some y) : ∃ x : TodoD, cs = todoL x ∧ (Lit.int .i64 x.act).wf = true := by
  obtain ⟨xs, m, _, _, hlen, hxl, hx⟩ := DataW.trod_struct Try.underlying82 h
  rw [cells_todo] at hlen
  have h0 := hx 0 _ rfl
  have h1 := hx 1 _ rfl
  have hxl' : xs.length = 2 := hxl
  rw [List.getElem?_eq_getElem (by omega)] at h0 h1
  have h0 : DataW.trod enc Try.prog w base spare held m 3 ((cs.drop 0).take (Try.prog.cellsOf 3)) = _ := h0
  have h1 : DataW.trod enc Try.prog w base spare held m 42 ((cs.drop 1).take (Try.prog.cellsOf 42)) = _ := h1
  rw [cells_int] at h0
  rw [cells_id] at h1
  obtain ⟨v, e0, e0'⟩ := one_at (i := 0) hlen (by omega)
  rw [e0] at h0
  obtain ⟨a, e2, _, hw⟩ := DataW.trod_int Try.underlying3 h0
  obtain ⟨i, e1⟩ := open_id h1
  simp only [List.cons.injEq, and_true] at e2
  subst e2
  refine ⟨⟨a, i⟩, ?_, hw⟩
  have d1 := cut_at e0
  have d2 := cut_at e1
  rw [List.drop_of_length_le (show cs.length ≤ 1 + 32 by omega), List.append_nil] at d2
  have : cs = cs.drop 0 := rfl
  rw [this, d1, d2]
  rfl
set_option maxRecDepth 100000 in
theorem open_move {N n : Nat} {cs : List Value} {y : DataW H × List MemPlace} (h : DataW.trod enc Try.prog w base spare held n 128 cs = some y) (hb : Rows.uptoBulk y.1 ≤ N) : ∃ x : MoveD, cs = moveL x ∧ x.name.size ≤ N ∧ x.why.size ≤ N := by
  obtain ⟨xs, m, _, hy, hlen, hxl, hx⟩ := DataW.trod_struct Try.underlying128 h
  rw [hy] at hb
  rw [cells_move] at hlen
  have h0 := hx 0 _ rfl
  have h1 := hx 1 _ rfl
  have h2 := hx 2 _ rfl
  have h3 := hx 3 _ rfl
  have hxl' : xs.length = 4 := hxl
  have g0 := bulk_agg (i := 0) hb (List.getElem?_eq_getElem (by omega))
  have g3 := bulk_agg (i := 3) hb (List.getElem?_eq_getElem (by omega))
  rw [List.getElem?_eq_getElem (by omega)] at h0 h1 h2 h3
  have h0 : DataW.trod enc Try.prog w base spare held m 9 ((cs.drop 0).take (Try.prog.cellsOf 9)) = _ := h0
  have h1 : DataW.trod enc Try.prog w base spare held m 42 ((cs.drop 1).take (Try.prog.cellsOf 42)) = _ := h1
  have h2 : DataW.trod enc Try.prog w base spare held m 42 ((cs.drop 33).take (Try.prog.cellsOf 42)) = _ := h2
  have h3 : DataW.trod enc Try.prog w base spare held m 9 ((cs.drop 65).take (Try.prog.cellsOf 9)) = _ := h3
  rw [cells_str] at h0 h3
  rw [cells_id] at h1 h2
  obtain ⟨v, e0, _⟩ := one_at (i := 0) hlen (by omega)
  obtain ⟨v3, e3, _⟩ := one_at (i := 65) hlen (by omega)
  rw [e0] at h0
  rw [e3] at h3
  obtain ⟨a, f0, x0, _⟩ := DataW.trod_string Try.underlying9 h0
  obtain ⟨b, f3, x3, _⟩ := DataW.trod_string Try.underlying9 h3
  obtain ⟨i, e1⟩ := open_id h1
  obtain ⟨j, e2⟩ := open_id h2
  simp only [List.cons.injEq, and_true] at f0 f3
  subst f0 f3
  rw [x0] at g0
  rw [x3] at g3
  simp only [Rows.uptoBulk] at g0 g3
  refine ⟨⟨a, i, j, b⟩, ?_, by rw [Lib.size_eq]; show a.data.toList.length ≤ N; omega, by rw [Lib.size_eq]; show b.data.toList.length ≤ N; omega⟩
  have d0 := cut_at e0
  have d1 := cut_at e1
  have d2 := cut_at e2
  have d3 := cut_at e3
  rw [List.drop_of_length_le (show cs.length ≤ 65 + 1 by omega), List.append_nil] at d3
  have : cs = cs.drop 0 := rfl
  rw [this, d0, d1, d2, d3]
  simp [moveL]
set_option maxRecDepth 100000 in
theorem open_mem {N n : Nat} {cs : List Value} {y : DataW H × List MemPlace} (h : DataW.trod enc Try.prog w base spare held n 130 cs = some y) (hb : Rows.uptoBulk y.1 ≤ N) : ∃ x : MemD, cs = memL x ∧ Reads w w.heap.size 1 x.adr x.data.length (x.data.map bv) ∧ x.data.length ≤ N ∧ x.data.length ≤ maxLen := by
  obtain ⟨xs, m, _, hy, hlen, hxl, hx⟩ := DataW.trod_struct Try.underlying130 h
  rw [hy] at hb
  rw [cells_mem] at hlen
  have h0 := hx 0 _ rfl
  have h1 := hx 1 _ rfl
  have hxl' : xs.length = 2 := hxl
  have g1 := bulk_agg (i := 1) hb (List.getElem?_eq_getElem (by omega))
  rw [List.getElem?_eq_getElem (by omega)] at h0 h1
  have h0 : DataW.trod enc Try.prog w base spare held m 42 ((cs.drop 0).take (Try.prog.cellsOf 42)) = _ := h0
  have h1 : DataW.trod enc Try.prog w base spare held m 23 ((cs.drop 32).take (Try.prog.cellsOf 23)) = _ := h1
  rw [cells_id] at h0
  rw [cells_bytes] at h1
  obtain ⟨v, e1, _⟩ := one_at (i := 32) hlen (by omega)
  rw [e1] at h1
  obtain ⟨A, len, cap, rfl⟩ := slice_is Try.underlying23 h1
  obtain ⟨l, rfl, hr, hc, hm, hN⟩ := open_bytesB h1 g1
  obtain ⟨i, e0⟩ := open_id h0
  refine ⟨⟨i, l, A, cap⟩, ?_, hr, hN, Nat.le_trans hc hm⟩
  have d0 := cut_at e0
  have d1 := cut_at e1
  rw [List.drop_of_length_le (show cs.length ≤ 32 + 1 by omega), List.append_nil] at d1
  have : cs = cs.drop 0 := rfl
  rw [this, d0, d1]
  rfl
/-- A sequence's bounds. -/
structure SeqSmall (N : Nat) (q : SeqD) : Prop where
  branch : q.branch.size ≤ N
  todo : q.todo.length ≤ N
  kind : (Lit.int .i64 q.kind).wf = true
  done : (Lit.int .i64 q.done).wf = true
  made : (Lit.int .i64 q.made).wf = true
  acts : ∀ x ∈ q.todo, (Lit.int .i64 x.act).wf = true
structure TxSmall (N : Nat) (t : TxD) : Prop where
  head : t.head.size ≤ N
  moves : t.moves.length ≤ N
  mem : t.mem.length ≤ N
  move : ∀ m ∈ t.moves, m.name.size ≤ N ∧ m.why.size ≤ N
  data : ∀ m ∈ t.mem, m.data.length ≤ N
  seq : SeqSmall N t.seq
set_option maxRecDepth 100000 in
theorem open_seq {N n : Nat} {cs : List Value} {y : DataW H × List MemPlace} (h : DataW.trod enc Try.prog w base spare held n 67 cs = some y) (hb : Rows.uptoBulk y.1 ≤ N) :
    ∃ (q : SeqD) (A : Option Addr) (c : Nat), cs = seqL q (.slice A q.todo.length c) ∧ Reads w w.heap.size 33 A q.todo.length (todoLs q.todo) ∧ q.todo.length ≤ c ∧ c ≤ maxLen ∧ SeqSmall N q := by
  obtain ⟨xs, m, _, hy, hlen, hxl, hx⟩ := DataW.trod_struct Try.underlying67 h
  rw [hy] at hb
  rw [cells_seq] at hlen
  have h0 := hx 0 _ rfl
  have h1 := hx 1 _ rfl
  have h2 := hx 2 _ rfl
  have h3 := hx 3 _ rfl
  have h4 := hx 4 _ rfl
  have h5 := hx 5 _ rfl
  have h6 := hx 6 _ rfl
  have h7 := hx 7 _ rfl
  have hxl' : xs.length = 8 := hxl
  have g1 := bulk_agg (i := 1) hb (List.getElem?_eq_getElem (by omega))
  have g4 := bulk_agg (i := 4) hb (List.getElem?_eq_getElem (by omega))
  rw [List.getElem?_eq_getElem (by omega)] at h0 h1 h2 h3 h4 h5 h6 h7
  have h0 : DataW.trod enc Try.prog w base spare held m 3 ((cs.drop 0).take (Try.prog.cellsOf 3)) = _ := h0
  have h1 : DataW.trod enc Try.prog w base spare held m 9 ((cs.drop 1).take (Try.prog.cellsOf 9)) = _ := h1
  have h2 : DataW.trod enc Try.prog w base spare held m 42 ((cs.drop 2).take (Try.prog.cellsOf 42)) = _ := h2
  have h3 : DataW.trod enc Try.prog w base spare held m 42 ((cs.drop 34).take (Try.prog.cellsOf 42)) = _ := h3
  have h4 : DataW.trod enc Try.prog w base spare held m 65 ((cs.drop 66).take (Try.prog.cellsOf 65)) = _ := h4
  have h5 : DataW.trod enc Try.prog w base spare held m 3 ((cs.drop 67).take (Try.prog.cellsOf 3)) = _ := h5
  have h6 : DataW.trod enc Try.prog w base spare held m 3 ((cs.drop 68).take (Try.prog.cellsOf 3)) = _ := h6
  have h7 : DataW.trod enc Try.prog w base spare held m 4 ((cs.drop 69).take (Try.prog.cellsOf 4)) = _ := h7
  rw [cells_int] at h0 h5 h6
  rw [cells_str] at h1
  rw [cells_id] at h2 h3
  rw [cells_todos] at h4
  rw [cells_bool] at h7
  obtain ⟨v0, e0, _⟩ := one_at (i := 0) hlen (by omega)
  obtain ⟨v1, e1, _⟩ := one_at (i := 1) hlen (by omega)
  obtain ⟨v4, e4, _⟩ := one_at (i := 66) hlen (by omega)
  obtain ⟨v5, e5, _⟩ := one_at (i := 67) hlen (by omega)
  obtain ⟨v6, e6, _⟩ := one_at (i := 68) hlen (by omega)
  obtain ⟨v7, e7, _⟩ := one_at (i := 69) hlen (by omega)
  rw [e0] at h0
  rw [e1] at h1
  rw [e4] at h4
  rw [e5] at h5
  rw [e6] at h6
  rw [e7] at h7
  obtain ⟨kind, f0, _, w0⟩ := DataW.trod_int Try.underlying3 h0
  obtain ⟨br, f1, x1, _⟩ := DataW.trod_string Try.underlying9 h1
  obtain ⟨i, e2⟩ := open_id h2
  obtain ⟨j, e3⟩ := open_id h3
  obtain ⟨A, len, cap, rfl⟩ := slice_is Try.underlying65 h4
  obtain ⟨l, rfl, hr, hc, hm, hN, hV⟩ := open_listB (N := N) (f := todoL) (V := fun x => (Lit.int .i64 x.act).wf = true) Try.underlying65 cells_todo (by decide) todoL_len (fun _ _ _ h _ => open_todo h) h4 g4
  obtain ⟨dn, f5, _, w5⟩ := DataW.trod_int Try.underlying3 h5
  obtain ⟨mn, f6, _, w6⟩ := DataW.trod_int Try.underlying3 h6
  obtain ⟨st, f7, _⟩ := DataW.trod_bool Try.underlying4 h7
  simp only [List.cons.injEq, and_true] at f0 f1 f5 f6 f7
  subst f0 f1 f5 f6 f7
  rw [x1] at g1
  simp only [Rows.uptoBulk] at g1
  refine ⟨⟨kind, br, i, j, l, dn, mn, st⟩, A, cap, ?_, hr, hc, hm, ⟨by rw [Lib.size_eq]; show br.data.toList.length ≤ N; omega, hN, w0, w5, w6, hV⟩⟩
  have d0 := cut_at e0
  have d1 := cut_at e1
  have d2 := cut_at e2
  have d3 := cut_at e3
  have d4 := cut_at e4
  have d5 := cut_at e5
  have d6 := cut_at e6
  have d7 := cut_at e7
  rw [List.drop_of_length_le (show cs.length ≤ 69 + 1 by omega), List.append_nil] at d7
  have : cs = cs.drop 0 := rfl
  rw [this, d0, d1, d2, d3, d4, d5, d6, d7]
  simp [seqL]
set_option maxRecDepth 100000 in
theorem open_tx {N n : Nat} {cs : List Value} {y : DataW H × List MemPlace} (h : DataW.trod enc Try.prog w base spare held n 70 cs = some y) (hb : Rows.uptoBulk y.1 ≤ N) :
    ∃ (t : TxD) (mv tv ev : Value), cs = txL t mv tv ev ∧ TxIn w w.heap.size t mv tv ev ∧ TxSmall N t := by
  obtain ⟨xs, m, _, hy, hlen, hxl, hx⟩ := DataW.trod_struct Try.underlying70 h
  rw [hy] at hb
  rw [cells_tx] at hlen
  have h0 := hx 0 _ rfl
  have h1 := hx 1 _ rfl
  have h2 := hx 2 _ rfl
  have h3 := hx 3 _ rfl
  have h4 := hx 4 _ rfl
  have h5 := hx 5 _ rfl
  have hxl' : xs.length = 6 := hxl
  have g1 := bulk_agg (i := 1) hb (List.getElem?_eq_getElem (by omega))
  have g2 := bulk_agg (i := 2) hb (List.getElem?_eq_getElem (by omega))
  have g4 := bulk_agg (i := 4) hb (List.getElem?_eq_getElem (by omega))
  have g5 := bulk_agg (i := 5) hb (List.getElem?_eq_getElem (by omega))
  rw [List.getElem?_eq_getElem (by omega)] at h0 h1 h2 h3 h4 h5
  have h0 : DataW.trod enc Try.prog w base spare held m 4 ((cs.drop 0).take (Try.prog.cellsOf 4)) = _ := h0
  have h1 : DataW.trod enc Try.prog w base spare held m 9 ((cs.drop 1).take (Try.prog.cellsOf 9)) = _ := h1
  have h2 : DataW.trod enc Try.prog w base spare held m 64 ((cs.drop 2).take (Try.prog.cellsOf 64)) = _ := h2
  have h3 : DataW.trod enc Try.prog w base spare held m 4 ((cs.drop 3).take (Try.prog.cellsOf 4)) = _ := h3
  have h4 : DataW.trod enc Try.prog w base spare held m 67 ((cs.drop 4).take (Try.prog.cellsOf 67)) = _ := h4
  have h5 : DataW.trod enc Try.prog w base spare held m 68 ((cs.drop 74).take (Try.prog.cellsOf 68)) = _ := h5
  rw [cells_bool] at h0 h3
  rw [cells_str] at h1
  rw [cells_moves] at h2
  rw [cells_seq] at h4
  rw [cells_mems] at h5
  obtain ⟨v0, e0, _⟩ := one_at (i := 0) hlen (by omega)
  obtain ⟨v1, e1, _⟩ := one_at (i := 1) hlen (by omega)
  obtain ⟨v2, e2, _⟩ := one_at (i := 2) hlen (by omega)
  obtain ⟨v3, e3, _⟩ := one_at (i := 3) hlen (by omega)
  obtain ⟨v5, e5, _⟩ := one_at (i := 74) hlen (by omega)
  rw [e0] at h0
  rw [e1] at h1
  rw [e2] at h2
  rw [e3] at h3
  rw [e5] at h5
  obtain ⟨hh, f0, _⟩ := DataW.trod_bool Try.underlying4 h0
  obtain ⟨hd, f1, x1, _⟩ := DataW.trod_string Try.underlying9 h1
  obtain ⟨Am, lm, cm, rfl⟩ := slice_is Try.underlying64 h2
  obtain ⟨ms, rfl, hrm, hcm, hmm, hNm, hVm⟩ := open_listB (N := N) (f := moveL) (V := fun x => x.name.size ≤ N ∧ x.why.size ≤ N) Try.underlying64 cells_move (by decide) moveL_len (fun _ _ _ h hb => open_move h hb) h2 g2
  obtain ⟨hs, f3, _⟩ := DataW.trod_bool Try.underlying4 h3
  obtain ⟨q, At, ct, e4, hrt, hct, hmt, hsq⟩ := open_seq h4 g4
  obtain ⟨Ae, le, ce, rfl⟩ := slice_is Try.underlying68 h5
  obtain ⟨es, rfl, hre, hce, hme, hNe, hVe⟩ := open_listB (N := N) (f := memL) (V := fun x => Reads w w.heap.size 1 x.adr x.data.length (x.data.map bv) ∧ x.data.length ≤ N ∧ x.data.length ≤ maxLen) Try.underlying68 cells_mem (by decide) memL_len (fun _ _ _ h hb => open_mem h hb) h5 g5
  simp only [List.cons.injEq, and_true] at f0 f1 f3
  subst f0 f1 f3
  rw [x1] at g1
  simp only [Rows.uptoBulk] at g1
  refine ⟨⟨hh, hd, ms, hs, q, es⟩, .slice Am ms.length cm, .slice At q.todo.length ct, .slice Ae es.length ce, ?_, ⟨⟨Am, cm, rfl, hrm, hcm, hmm⟩, ⟨At, ct, rfl, hrt, hct, hmt⟩, ⟨Ae, ce, rfl, hre, hce, hme⟩, fun m hm => ⟨(hVe m hm).1, (hVe m hm).2.2⟩⟩, ⟨by rw [Lib.size_eq]; show hd.data.toList.length ≤ N; omega, hNm, hNe, hVm, fun m hm => (hVe m hm).2.1, hsq⟩⟩
  have d0 := cut_at e0
  have d1 := cut_at e1
  have d2 := cut_at e2
  have d3 := cut_at e3
  have d4 := cut_at e4
  have d5 := cut_at e5
  rw [List.drop_of_length_le (show cs.length ≤ 74 + 1 by omega), List.append_nil] at d5
  have : cs = cs.drop 0 := rfl
  rw [this, d0, d1, d2, d3, d4, d5]
  simp [txL]
set_option maxRecDepth 100000 in
theorem opened_tx {N b0 : Nat} {r : Reach} {v : Value} {d : DataW H} {p : List MemPlace} (hv : Value.okWide Try.prog w r b0 70 v) (h : DataW.Trod enc Try.prog w base spare held 70 v d p) (hb : Rows.uptoBulk d ≤ N) :
    ∃ (t : TxD) (mv tv ev : Value), v = .agg (txC t mv tv ev) ∧ TxIn w w.heap.size t mv tv ev ∧ TxSmall N t := by
  obtain ⟨cs, rfl, _⟩ := okWide_struct Try.underlying70 hv
  obtain ⟨fuel, hf⟩ := h
  obtain ⟨t, mv, tv, ev, h1, h2⟩ := open_tx hf hb
  refine ⟨t, mv, tv, ev, ?_, h2⟩
  have h1 : cs.toList = _ := h1
  unfold txC
  rw [← h1]
end
end Go.Proofs.Ytppmolneklidfaa
