/-
  Contract of the law's within; sequences' cells; what a turned field does. No statement of the seat is proved here.
-/
import Derived.Test.YtppmolneklidfaaRt2
namespace Go.Proofs.Ytppmolneklidfaa
open Go.RowKit

theorem tmod_neg (a n : Int) (ha : a < 0) (hn : 0 < n) : -n < a.tmod n ∧ a.tmod n ≤ 0 ∧ a % n = if a.tmod n < 0 then a.tmod n + n else a.tmod n := by
  have h1 : a.tmod n = -((-a) % n) := by
    have := Int.neg_tmod (-a) n
    rw [Int.neg_neg] at this
    rw [this, Int.tmod_eq_emod_of_nonneg (by omega)]
  have h2 := Int.emod_nonneg (-a) (show n ≠ 0 by omega)
  have h3 := Int.emod_lt_of_pos (-a) hn
  have h4 := Int.emod_nonneg a (show n ≠ 0 by omega)
  have h5 := Int.emod_lt_of_pos a hn
  have h6 := Int.emod_add_mul_ediv a n
  have h7 := Int.emod_add_mul_ediv (-a) n
  rw [h1]
  refine ⟨by omega, by omega, ?_⟩
  have h8 : n * (a / n) + n * (-a / n) = n * (a / n + -a / n) := by rw [Int.mul_add]
  generalize a / n + -a / n = k at *
  have h9 : a % n + (-a) % n = -(n * k) := by omega
  have hk : k = 0 ∨ k = -1 := by
    rcases (by omega : 0 < k ∨ k ≤ 0) with hp | hp
    · have := Int.mul_le_mul_of_nonneg_left (show 1 ≤ k by omega) (show 0 ≤ n by omega)
      omega
    · rcases (by omega : k < -1 ∨ -1 ≤ k) with hq | hq
      · have := Int.mul_le_mul_of_nonneg_left (show k ≤ -2 by omega) (show 0 ≤ n by omega)
        omega
      · omega
  rcases hk with rfl | rfl
  · split <;> omega
  · split <;> omega
set_option maxHeartbeats 400000 in
theorem within_any (a n : Int) (h1 : 0 < n) (h2 : n ≤ 70000) (ha : -9223372036854775808 ≤ a ∧ a ≤ 9223372036854775807) (w : World) :
    Calls Try.prog 37 #[.int .i64 a, .int .i64 n] w fun r w' => r = .returned (.int .i64 (a % n)) ∧ w = w' := by
  obtain ⟨ha1, ha2⟩ := ha
  by_cases h0 : 0 ≤ a
  · have h3 := Int.emod_nonneg a (show n ≠ 0 by omega)
    have h4 := Int.emod_lt_of_pos a h1
    go_enter Try.func37, Try.ntmps37
    go_wp2
    go_ret
    exact ⟨rfl, rfl⟩
  · obtain ⟨h3, h4, h5⟩ := tmod_neg a n (by omega) h1
    have H5 := Lib.hid h5
    clear h5
    by_cases h6 : a.tmod n < 0
    · go_enter Try.func37, Try.ntmps37
      go_wp2
      go_ret
      exact ⟨by rw [H5.out, if_pos h6]; rfl, rfl⟩
    · go_enter Try.func37, Try.ntmps37
      go_wp2
      go_ret
      exact ⟨by rw [H5.out, if_neg (by omega)]; rfl, rfl⟩
theorem seqC_kind (q : SeqD) (tv : Value) (n : Int) : (seqC q tv).setIfInBounds 0 (.int .i64 n) = seqC { q with kind := n } tv := by
  apply Array.ext'; simp [seqC, seqL]
theorem fields_tx : Try.prog.underlying 70 = some (.struct (Try.prog.fieldsOf 70)) := by kernel_rfl
theorem places_tx (w : World) : ((Try.prog.fieldsOf 70).mapM fun f => do pure (f.offset, ← sizeOf f.type) : Sem (Array (Nat × Nat))).run Try.prog w = .ok #[(0, 1), (1, 1), (2, 1), (3, 1), (4, 70), (74, 1)] w := by kernel_rfl
theorem build_txSeq (q : SeqD) (tv : Value) (w : World) : (Instr.build 70 #[(3, .bool true), (4, .agg (seqC q tv))]).run Try.prog w = .ok (.agg (txC { tx0 with hasSeq := true, seq := q } nilS tv nilS)) w := by
  refine run_build_fill fields_tx w (zero_tx w) (places_tx w) ?_
  rw [fill_one rfl (by simp [txC_size, Value.cells])]
  rw [fill_one (by rw [Value.cells, seqC_size]; rfl) (by simp [Value.cells, seqC_size, spl, txC_size])]
  have h1 := seqL_len tx0.seq nilS
  have h2 := seqL_len q tv
  refine congrArg some ?_
  apply Array.ext'
  simp [spl, txC, txL, seqC, Value.cells, h1, h2]
theorem BdTx.seq (q : SeqD) (tv : Value) (w : World) : (BdTx #[(3, .bool true), (4, .agg (seqC q tv))]).run Try.prog w = .ok (.agg (txC { tx0 with hasSeq := true, seq := q } nilS tv nilS)) w := build_txSeq q tv w
theorem LdSeq.whole {w : World} {g : Nat} {t : TypeId} {q : SeqD} {tv : Value} (h : Blk w g t (seqC q tv)) : (LdSeq (.pointer (some ⟨g, 0, none⟩))).run Try.prog w = .ok (.agg (seqC q tv)) w :=
  load_whole h Try.underlying67 rfl (by rw [seqC_size]; exact info_seq)

theorem ldId_rowT {w : World} {l : List TodoD} {k : Nat} {x : TodoD} {g off : Nat} (hc : ∀ j u, (l.flatMap todoL)[j]? = some u → w.cell? ⟨g, off + j, none⟩ = some u) (hk : l[k]? = some x) : (LdId (.pointer (some ⟨g, off + k * 33 + 1, none⟩))).run Try.prog w = .ok (idV x.id) w :=
  run_loadAt_cells (P := Try.prog) w _ (idC x.id) Try.underlying42 rfl (by rw [idC_size]; exact info42) (fun r v hr => by
    rw [add_at, Nat.add_assoc, Nat.add_assoc]
    refine hc _ _ (flat_at todoL_len l k (1 + r) x hk v ?_)
    have hr' : (idL x.id)[r]? = some v := by simpa [idC] using hr
    rw [Nat.add_comm 1 r]
    simpa [todoL] using hr')

theorem txC_cur (t : TxD) (mv tv ev : Value) : idC t.seq.cur = (txC t mv tv ev).extract 38 (38 + (idC t.seq.cur).size) := by
  have h1 := idL_len t.seq.orig
  have h2 := idL_len t.seq.cur
  apply Array.ext'
  simp [txC, txL, seqL, idC, h1, h2]

theorem txC_at7 (t : TxD) (mv tv ev : Value) : (txC t mv tv ev)[5]? = some (.string t.seq.branch) ∧ (txC t mv tv ev)[70]? = some tv ∧ (txC t mv tv ev)[71]? = some (.int .i64 t.seq.done) ∧ (txC t mv tv ev)[72]? = some (.int .i64 t.seq.made) ∧ (txC t mv tv ev)[73]? = some (.bool t.seq.stopped) := by
  have h1 := idL_len t.seq.orig
  have h2 := idL_len t.seq.cur
  refine ⟨by simp [txC, txL, seqL], ?_, ?_, ?_, ?_⟩ <;> simp [txC, txL, seqL, h1, h2]
theorem txC_put7 (t : TxD) (mv tv ev : Value) : (∀ s, (txC t mv tv ev).setIfInBounds 5 (.string s) = txC { t with seq := { t.seq with branch := s } } mv tv ev) ∧ (∀ v, (txC t mv tv ev).setIfInBounds 70 v = txC t mv v ev) ∧
    (∀ n, (txC t mv tv ev).setIfInBounds 71 (.int .i64 n) = txC { t with seq := { t.seq with done := n } } mv tv ev) ∧ (∀ z, (txC t mv tv ev).setIfInBounds 73 (.bool z) = txC { t with seq := { t.seq with stopped := z } } mv tv ev) := by
  have h1 := idL_len t.seq.orig
  have h2 := idL_len t.seq.cur
  refine ⟨fun _ => ?_, fun _ => ?_, fun _ => ?_, fun _ => ?_⟩ <;> (apply Array.ext'; simp [txC, txL, seqL, h1, h2])

/-! ### A field turned is told -/
theorem xor_ne (n : Nat) (hn : n < 9223372036854775808) : ∃ m : Nat, bits .xor .i64 (n : Int) 1 = (m : Int) ∧ m ≠ n := by
  refine ⟨n ^^^ 1, ?_, fun h => ?_⟩
  · have h1 : n ^^^ 1 < 2 ^ 63 := Nat.xor_lt_two_pow (by omega) (by omega)
    show IntKind.i64.wrap ((BitVec.ofInt 64 (n : Int) ^^^ BitVec.ofInt 64 1).toNat : Int) = _
    have h2 : (BitVec.ofInt 64 (n : Int)).toNat = n := by rw [BitVec.ofInt_natCast, BitVec.toNat_ofNat]; exact Nat.mod_eq_of_lt (by omega)
    have h3 : (BitVec.ofInt 64 1).toNat = 1 := by decide
    rw [BitVec.toNat_xor, h2, h3, IntKind.wrap_i64]
    omega
  · have h1 : n ^^^ (n ^^^ 1) = n ^^^ n := by rw [h]
    rw [← Nat.xor_assoc, Nat.xor_self, Nat.zero_xor] at h1
    exact absurd h1 (by decide)
/-- An Id whose last byte is x. -/
def lastId (i : Id) (x : UInt8) : Id := ⟨i.1.set 31 x, by rw [List.length_set]; exact i.2⟩
theorem lastId_ne (i : Id) (x y : UInt8) (hx : i.1[31]? = some x) (hne : y ≠ x) : lastId i y ≠ i := by
  intro h
  have h1 : (lastId i y).1[31]? = i.1[31]? := by rw [h]
  rw [hx] at h1
  have h2 : i.1.length = 32 := i.2
  have h3 : (lastId i y).1[31]? = some y := by show (i.1.set 31 y)[31]? = _; simp [h2]
  rw [h3] at h1
  exact hne (by injection h1)
theorem txC_last (t : TxD) (mv tv ev : Value) (x : UInt8) : (txC t mv tv ev).setIfInBounds 37 (bv x) = txC { t with seq := { t.seq with orig := lastId t.seq.orig x } } mv tv ev := by
  have h1 := idL_len t.seq.orig
  have h0 : t.seq.orig.1.length = 32 := t.seq.orig.2
  apply Array.ext'
  simp [txC, txL, seqL, idL, lastId, List.map_set, h0]
theorem txC_lastAt (t : TxD) (mv tv ev : Value) : ∃ x, t.seq.orig.1[31]? = some x ∧ (txC t mv tv ev)[37]? = some (.int .u8 (x.toNat : Int)) := by
  have h1 := idL_len t.seq.orig
  have h0 : t.seq.orig.1.length = 32 := t.seq.orig.2
  refine ⟨t.seq.orig.1[31], List.getElem?_eq_getElem (by omega), ?_⟩
  simp [txC, txL, seqL, idL, List.getElem?_append_left, h0, bv]
theorem sameTxP_seq_ne {t u : TxD} (h1 : asks t = true) (h : sameSeqP t.seq u.seq = false) : sameTxP t u = false := by
  rw [sameTxP, h, h1]
  simp

theorem same_done {q : SeqD} {m : Int} (h : m ≠ q.done) : sameSeqP q { q with done := m } = false := by
  have : (q.done == m) = false := beq_eq_false_iff_ne.2 (Ne.symm h)
  simp [sameSeqP, this]
theorem same_stopped (q : SeqD) : sameSeqP q { q with stopped := !q.stopped } = false := by
  have : (q.stopped == !q.stopped) = false := by cases q.stopped <;> rfl
  simp [sameSeqP, this]
theorem same_orig {q : SeqD} {i : Id} (h : i ≠ q.orig) : sameSeqP q { q with orig := i } = false := by
  have : (q.orig == i) = false := beq_eq_false_iff_ne.2 (Ne.symm h)
  simp [sameSeqP, this]
theorem same_branch {q : SeqD} {s : ByteArray} (h : s.size ≠ q.branch.size) : sameSeqP q { q with branch := s } = false := by
  have : (q.branch.toList == s.toList) = false := beq_eq_false_iff_ne.2 (fun e => h (by rw [ByteArray.toList_eq, ByteArray.toList_eq] at e; rw [size_list, size_list, e]))
  simp [sameSeqP, this]
theorem eqL_len_ne {α : Type} {f : α → α → Bool} : ∀ (l m : List α), l.length ≠ m.length → eqL f l m = false
  | [], [], h => absurd rfl h
  | [], _ :: _, _ => rfl
  | _ :: _, [], _ => rfl
  | x :: l, y :: m, h => by
    show (f x y && eqL f l m) = false
    rw [eqL_len_ne l m (fun e => h (by simp [e])), Bool.and_false]
theorem same_todo (q : SeqD) (x : TodoD) : sameSeqP q { q with todo := q.todo ++ [x] } = false := by
  have : eqL todoEq q.todo (q.todo ++ [x]) = false := eqL_len_ne _ _ (by simp)
  simp [sameSeqP, this]
theorem u8_succ (x : UInt8) : IntKind.u8.wrap ((x.toNat : Int) + 1) = ((x + 1).toNat : Int) := by
  have h := UInt8.toNat_lt x
  rw [UInt8.toNat_add]
  simp only [IntKind.wrap, IntKind.bits, IntKind.signed]
  simp
theorem succ_ne (x : UInt8) : x + 1 ≠ x := by
  intro h
  have h1 := congrArg UInt8.toNat h
  have h2 := UInt8.toNat_lt x
  rw [UInt8.toNat_add] at h1
  simp at h1
  omega

theorem bd_todo1 (w : World) : (BdTodo #[(0, .int .i64 1)]).run Try.prog w = .ok (.agg (todoC ⟨1, noId⟩)) w := by kernel_rfl
theorem TR.todo {base b' c n : Nat} {t : TxD} {mv tv ev : Value} {wr w' : World} {A : Option Addr} (h : TR base t mv tv ev wr) (hk : Kept b' [82] [] wr w') {q : SeqD} (hn : n = q.todo.length) (ho : Own w' b' 82 33 A n c (todoLs q.todo)) (hb : base ≤ b') : TR base { t with seq := q } mv (.slice A n c) ev w' := by
  subst hn
  obtain ⟨⟨A, c, h1, h2⟩, _, ⟨A'', c'', h1'', h2''⟩, h4⟩ := h
  exact ⟨⟨A, c, h1, h2.kept hk (by decide) (by simp)⟩, ⟨_, _, rfl, ho.mono hb⟩, ⟨A'', c'', h1'', h2''.kept hk (by decide) (by simp)⟩, fun m hm => ⟨(h4 m hm).1.kept hk (by decide) (by simp), (h4 m hm).2⟩⟩

/-! ### What the law writes -/
def actTodo (x : TodoD) : TodoD := ⟨x.act % 256, x.id⟩
/-- The sequence that the law writes. -/
def lawSeq (s : SeqD) : SeqD := { s with kind := 1 + s.kind % 255, done := s.done % 65536, made := s.made % 65536, todo := s.todo.map actTodo }
def lawTx (s : SeqD) : TxD := { tx0 with hasSeq := true, seq := lawSeq s }
theorem lawTx_asks (s : SeqD) : asks (lawTx s) = true := by
  have : 1 + s.kind % 255 ≠ 0 := by omega
  simp [asks, lawTx, lawSeq, this]
theorem lawTx_ok (s : SeqD) (hb : s.branch.size ≤ 255) (ht : s.todo.length ≤ 200) : wrongE (lawTx s) = 0 := by
  have ha := lawTx_asks s
  have h1 : manyOk (lawTx s) = true := by simp [manyOk, lawTx, lawSeq, tx0]; omega
  have h2 : headOk (lawTx s) = true := by simp [headOk, lawTx, tx0]
  have h3 : branchOk (lawTx s) = true := by simp [branchOk, lawTx, lawSeq, hb]
  have h4 : kindFits (lawTx s) = true := numOk_iff.2 ⟨by show 0 ≤ 1 + s.kind % 255; omega, by show 1 + s.kind % 255 ≤ ((255 : Nat) : Int); omega⟩
  have h5 : longE (lawTx s) = 0 := by
    unfold longE
    rw [h1, h2, h3]
    rfl
  rw [wrongE, h5, h4, argE, ha, if_pos rfl]
  refine (fold_note (p := fun x : TodoD => numOk x.act 255) (by decide) _ _).2 ⟨?_, fun x hx => ?_⟩
  · have g1 : numOk (lawTx s).seq.done 65535 = true := numOk_iff.2 ⟨by show 0 ≤ s.done % 65536; omega, by show s.done % 65536 ≤ ((65535 : Nat) : Int); omega⟩
    have g2 : numOk (lawTx s).seq.made 65535 = true := numOk_iff.2 ⟨by show 0 ≤ s.made % 65536; omega, by show s.made % 65536 ≤ ((65535 : Nat) : Int); omega⟩
    rw [g1, g2]
    rfl
  · simp only [lawTx, lawSeq, List.mem_map] at hx
    obtain ⟨y, _, rfl⟩ := hx
    exact numOk_iff.2 ⟨by show 0 ≤ y.act % 256; omega, by show y.act % 256 ≤ ((255 : Nat) : Int); omega⟩
theorem lawTx_canon (s : SeqD) : canon (lawTx s) = lawTx s := by
  have : 1 + s.kind % 255 ≠ 0 := by omega
  simp [canon, canonSeq, lawTx, lawSeq, tx0, this]
theorem lawTx_len (s : SeqD) (hb : s.branch.size ≤ 255) (ht : s.todo.length ≤ 200) : (encTxB (lawTx s)).length ≤ 100000 := by
  have h3 := flat33 todoB_len (lawSeq s).todo
  have h4 : (lawSeq s).todo.length = s.todo.length := by simp [lawSeq]
  have h5 : (seqB (lawSeq s)).length ≤ 10000 := by
    have h6 : (lawSeq s).branch = s.branch := rfl
    unfold seqB
    split
    · simp [be_len]
    · simp only [List.length_append, be_len, h3, h4, h6, (lawSeq s).orig.2, (lawSeq s).cur.2, ← Lib.size_eq]
      omega
  unfold encTxB headB seqsB
  simp only [lawTx, tx0, List.length_append, be_len, if_true, List.flatMap_nil, List.length_nil]
  simp only [Bool.false_eq_true, if_false, List.length_nil]
  omega
theorem law_read {u : TxD} {s : SeqD} (h : forT u = lawTx s) : u = lawTx s := by
  obtain ⟨h1, h2, h3, h4, h5, h6⟩ := u
  unfold forT lawTx tx0 at h
  injection h with e1 e2 e3 e4 e5 e6
  subst e1 e2 e3 e4 e5
  have e7 := List.map_eq_nil_iff.1 e6
  subst e7
  rfl
end Go.Proofs.Ytppmolneklidfaa
