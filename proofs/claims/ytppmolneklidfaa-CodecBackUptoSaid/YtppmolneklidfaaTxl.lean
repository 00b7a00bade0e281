/-
  Transactions: bounds out of their bulk, a variable that holds one, one that was read. No statement of the seat is proved here.
-/
import Derived.Test.YtppmolneklidfaaTx4
import Derived.Test.YtppmolneklidfaaTx7
import Derived.Test.YtppmolneklidfaaSm4
import Derived.Test.YtppmolneklidfaaTxo
import Derived.Test.YtppmolneklidfaaKnown
import Derived.JoinedCond
namespace Go.Proofs.Ytppmolneklidfaa
open Go.RowKit

/-! ### Bounds, and what the place of bytes does not matter for -/
theorem flatMap_le {α β : Type} {f : α → List β} {C : Nat} : ∀ (l : List α), (∀ a ∈ l, (f a).length ≤ C) → (l.flatMap f).length ≤ l.length * C
  | [], _ => by simp
  | x :: l, h => by
    have h1 := h x (by simp)
    have h2 := flatMap_le l (fun a ha => h a (by simp [ha]))
    rw [List.flatMap_cons, List.length_append, List.length_cons, Nat.succ_mul]
    omega
theorem seqB_le {q : SeqD} (h : SeqSmall 1048576 q) : (seqB q).length ≤ 36000000 := by
  have h1 := h.branch
  have h2 := h.todo
  have h3 := flat33 todoB_len q.todo
  unfold seqB
  split
  · simp [be_len]
  · simp only [List.length_append, be_len, h3, q.orig.2, q.cur.2, ← Lib.size_eq]
    omega
theorem encTxB_le {t : TxD} (h : TxSmall 1048576 t) : (encTxB t).length ≤ 140737488355328 := by
  have h1 : (headB t).length ≤ 1048577 := by
    unfold headB
    split
    · simp only [List.length_append, be_len, ← Lib.size_eq]; have := h.head; omega
    · simp
  have h2 : (t.moves.flatMap moveB).length ≤ t.moves.length * 2098000 := flatMap_le _ (fun m hm => by
    have := h.move m hm
    simp only [moveB, List.length_append, be_len, m.old.2, m.new_.2, ← Lib.size_eq]
    omega)
  have h3 : (t.mem.flatMap memB).length ≤ t.mem.length * 2098000 := flatMap_le _ (fun m hm => by
    have := h.data m hm
    simp only [memB, List.length_append, be_len, m.key.2]
    omega)
  have h4 : (seqsB t).length ≤ 36000000 := by
    unfold seqsB
    split
    · exact seqB_le h.seq
    · simp
  have h5 : t.moves.length * 2098000 ≤ 1048576 * 2098000 := Nat.mul_le_mul_right _ h.moves
  have h6 : t.mem.length * 2098000 ≤ 1048576 * 2098000 := Nat.mul_le_mul_right _ h.mem
  unfold encTxB
  simp only [List.length_append, be_len]
  omega
theorem eqL_map {α : Type} {f : α → α → Bool} {g : α → α} (hf : ∀ x y, f (g x) (g y) = f x y) : ∀ l m : List α, eqL f (l.map g) (m.map g) = eqL f l m
  | [], [] => rfl
  | [], _ :: _ => rfl
  | _ :: _, [] => rfl
  | x :: l, y :: m => by
    show (f (g x) (g y) && eqL f (l.map g) (m.map g)) = (f x y && eqL f l m)
    rw [hf, eqL_map hf l m]
theorem sameTxP_for (t u : TxD) : sameTxP (forT t) (forT u) = sameTxP t u := by
  have h := eqL_map (f := memEq) (g := forM) (fun _ _ => rfl) t.mem u.mem
  show (sameHeadP t u && ((asks t == asks u) && ((!asks t || sameSeqP t.seq u.seq) && eqL memEq (t.mem.map forM) (u.mem.map forM)))) = _
  rw [h]
  rfl
theorem sameTxP_of {t u : TxD} (h : forT t = forT u) : sameTxP t u = true := by
  rw [← sameTxP_for, h]
  exact sameTxP_refl _
def LdTx (v : Value) : Sem Value := Instr.loadAt 70 v
theorem ld_tx (v : Value) : Instr.loadAt 70 v = LdTx v := rfl
theorem LdTx.run {w : World} {g : Nat} {t : TypeId} {u : TxD} {mv tv ev : Value} (h : Blk w g t (txC u mv tv ev)) : (LdTx (.pointer (some ⟨g, 0, none⟩))).run Try.prog w = .ok (.agg (txC u mv tv ev)) w := load_whole h Try.underlying70 rfl (by rw [txC_size]; exact info_tx)
theorem LdTx.run' {w : World} {g : Nat} {t : TypeId} {u : TxD} {mv tv ev : Value} (h : Blk w g t (txC u mv tv ev)) : (Instr.loadAt 70 (.pointer (some ⟨g, 0, none⟩))).run Try.prog w = .ok (.agg (txC u mv tv ev)) w := LdTx.run h

theorem TR.in_ {base : Nat} {t : TxD} {mv tv ev : Value} {w : World} (h : TR base t mv tv ev w) : TxIn w w.heap.size t mv tv ev := by
  obtain ⟨⟨A, c, h1, h2⟩, ⟨A', c', h1', h2'⟩, ⟨A'', c'', h1'', h2''⟩, h4⟩ := h
  exact ⟨⟨A, c, h1, h2.reads, h2.cap_le⟩, ⟨A', c', h1', h2'.reads, h2'.cap_le⟩, ⟨A'', c'', h1'', h2''.reads, h2''.cap_le⟩, fun m hm => ⟨(h4 m hm).1.reads, (h4 m hm).2⟩⟩
theorem TR.one {base : Nat} {t : TxD} {mv tv ev : Value} {w : World} (h : TR base t mv tv ev w) : ∀ v ∈ (txC t mv tv ev).toList, v.oneCell' = true := by
  obtain ⟨⟨A, c, rfl, _⟩, ⟨A', c', rfl, _⟩, ⟨A'', c'', rfl, _⟩, _⟩ := h
  exact txL_one _ _ _ _ rfl rfl rfl
def zId (H : Type) : DataW H := .agg (List.replicate 32 (.lit (.int .u8 0)))
def zSeq (H : Type) : DataW H := .agg [.lit (.int .i64 0), .lit (.string []), zId H, zId H, .nil, .lit (.int .i64 0), .lit (.int .i64 0), .lit (.bool false)]
def zTx (H : Type) : DataW H := .agg [.lit (.bool false), .lit (.string []), .nil, .lit (.bool false), zSeq H, .nil]
end Go.Proofs.Ytppmolneklidfaa
