/-
  Plain law of transactions: what was written is read as it was. No statement of the seat is proved here.
-/
import Derived.Test.YtppmolneklidfaaRt1
namespace Go.Proofs.Ytppmolneklidfaa
open Go.RowKit

theorem numOk_iff {n : Int} {k : Nat} : numOk n k = true ↔ 0 ≤ n ∧ n ≤ k := by simp [numOk]
/-- The form in which a transaction is read. -/
def canonSeq (h : Bool) (q : SeqD) : SeqD := if h && (q.kind != 0) then q else noSeq
def canon (t : TxD) : TxD := ⟨t.hasHead, if t.hasHead then t.head else ByteArray.empty, t.moves, t.hasSeq, canonSeq t.hasSeq t.seq, t.mem.map forM⟩

section
variable {b r : List UInt8}
theorem ptMoves_enc (ms : List MoveD) (hok : ∀ m ∈ ms, moveOk m = true) : ∀ (at_ : Nat) (l : List MoveD), Sits b at_ (ms.flatMap moveB ++ r) → ∃ at', ptMoves b ms.length at_ 0 l = (l ++ ms, at', 0) ∧ Sits b at' r := by
  induction ms with
  | nil => exact fun at_ l h => ⟨at_, by simp [ptMoves], by simpa using h⟩
  | cons m ms ih =>
    intro at_ l h
    have hm := hok m (by simp)
    simp only [moveOk, Bool.and_eq_true, decide_eq_true_eq] at hm
    simp only [List.flatMap_cons, moveB, List.append_assoc] at h
    obtain ⟨a1, a2, a3, h⟩ := h.str (n := 1) (by omega) rfl
    obtain ⟨b1, b2, b3, h⟩ := h.id
    obtain ⟨c1, c2, c3, h⟩ := h.id
    obtain ⟨d1, d2, d3, h⟩ := h.str (n := 2) (by omega) rfl
    obtain ⟨at', g1, g2⟩ := ih (fun x hx => hok x (by simp [hx])) _ (l ++ [m]) h
    refine ⟨at', ?_, g2⟩
    rw [List.length_cons, ptMoves, if_pos rfl]
    simp only [a1, a2, a3, b1, b2, b3, c1, c2, c3, d1, d2, d3]
    rw [show ({ name := m.name, old := m.old, new_ := m.new_, why := m.why } : MoveD) = m from rfl, g1, List.append_assoc]
    rfl
theorem ptMems_enc (ms : List MemD) (hok : ∀ m ∈ ms, dataOk m = true) : ∀ (at_ : Nat) (l : List MemD), Sits b at_ (ms.flatMap memB ++ r) → ∃ at', ptMems b ms.length at_ 0 l = (l ++ ms.map forM, at', 0) ∧ Sits b at' r := by
  induction ms with
  | nil => exact fun at_ l h => ⟨at_, by simp [ptMems], by simpa using h⟩
  | cons m ms ih =>
    intro at_ l h
    have hm := hok m (by simp)
    simp only [dataOk, decide_eq_true_eq] at hm
    simp only [List.flatMap_cons, memB, List.append_assoc] at h
    obtain ⟨b1, b2, b3, h⟩ := h.id
    obtain ⟨d1, d2, d3, h⟩ := h.text (n := 4) (by omega) rfl
    obtain ⟨at', g1, g2⟩ := ih (fun x hx => hok x (by simp [hx])) _ (l ++ [forM m]) h
    refine ⟨at', ?_, g2⟩
    rw [List.length_cons, ptMems, if_pos rfl]
    simp only [b1, b2, b3, d1, d2, d3]
    rw [show ({ key := m.key, data := m.data, adr := none, cap := 0 } : MemD) = forM m from rfl, g1, List.append_assoc]
    rfl
theorem rsLoop_enc (ms : List TodoD) (hok : ∀ m ∈ ms, 0 ≤ m.act ∧ m.act ≤ 255) : ∀ (at_ : Nat) (l : List TodoD), Sits b at_ (ms.flatMap todoB ++ r) → ∃ at', rsLoop b ms.length at_ 0 l = (l ++ ms, at', 0) ∧ Sits b at' r := by
  induction ms with
  | nil => exact fun at_ l h => ⟨at_, by simp [rsLoop], by simpa using h⟩
  | cons m ms ih =>
    intro at_ l h
    have hm := hok m (by simp)
    simp only [List.flatMap_cons, todoB, List.append_assoc] at h
    obtain ⟨a1, a2, a3, h⟩ := h.num (n := 1) (by omega) rfl
    obtain ⟨b1, b2, b3, h⟩ := h.id
    obtain ⟨at', g1, g2⟩ := ih (fun x hx => hok x (by simp [hx])) _ (l ++ [m]) h
    refine ⟨at', ?_, g2⟩
    rw [List.length_cons, rsLoop, if_pos rfl]
    simp only [a1, a2, a3, b1, b2, b3]
    rw [show ({ act := ((m.act.toNat : Nat) : Int), id := m.id } : TodoD) = m from by rw [Int.toNat_of_nonneg hm.1], g1, List.append_assoc]
    rfl
/-- What a sequence's lists may hold. -/
structure SeqRoom (q : SeqD) : Prop where
  branch : q.branch.size ≤ 255
  todo : q.todo.length ≤ 65535
theorem rseqP_enc (q : SeqD) (hf : SeqFits q) (hr : q.kind ≠ 0 → SeqRoom q) (at_ : Nat) (h : Sits b at_ (seqB q ++ r)) :
    ∃ at' n, rseqP b at_ 0 = (canonSeq true q, at', 0, n) ∧ n ≤ 1 ∧ Sits b at' r := by
  have hk := hf.kind
  unfold seqB at h
  rw [List.append_assoc] at h
  obtain ⟨a1, a2, a3, h⟩ := h.num (n := 1) (by omega) rfl
  by_cases hz : q.kind = 0
  · rw [if_pos hz, List.nil_append] at h
    refine ⟨at_ + 1, 0, ?_, by omega, h⟩
    rw [rseqP, a1, a2, a3, hz, if_pos (show Int.toNat 0 = 0 from rfl)]
    simp [canonSeq, hz]
  · rw [if_neg hz] at h
    simp only [List.append_assoc] at h
    obtain ⟨d0, d1, m0, m1, hx⟩ := hf.nums hz
    obtain ⟨hb, ht⟩ := hr hz
    obtain ⟨b1, b2, b3, h⟩ := h.str (n := 1) (by omega) rfl
    obtain ⟨c1, c2, c3, h⟩ := h.id
    obtain ⟨e1, e2, e3, h⟩ := h.id
    obtain ⟨f1, f2, f3, h⟩ := h.num (n := 2) (by omega) rfl
    obtain ⟨at2, g1, h⟩ := rsLoop_enc q.todo hx _ [] h
    obtain ⟨i1, i2, i3, h⟩ := h.num (n := 2) (by omega) rfl
    obtain ⟨j1, j2, j3, h⟩ := h.num (n := 2) (by omega) rfl
    obtain ⟨k1, k2, k3, h⟩ := h.num (n := 1) (by split <;> decide) rfl
    refine ⟨_, if q.stopped then 1 else 0, ?_, ?_, h⟩
    · rw [rseqP, a1, a2, a3, if_neg (by omega)]
      unfold rsIds rsTodo rsEnd
      simp only [b1, b2, b3, c1, c2, c3, e1, e2, e3, f1, f2, f3, g1, i1, i2, i3, j1, j2, j3, k1, k2, k3]
      have hc : canonSeq true q = q := by simp [canonSeq, hz]
      rw [hc]
      clear hc
      obtain ⟨kind, branch, orig, cur, todo, done, made, stopped⟩ := q
      simp only at hk d0 d1 m0 m1
      simp only [List.nil_append, Int.toNat_of_nonneg hk.1, Int.toNat_of_nonneg d0, Int.toNat_of_nonneg m0, Prod.mk.injEq, SeqD.mk.injEq, true_and, and_true]
      cases stopped <;> rfl
    · split <;> decide
theorem flags_enc (t : TxD) : bit1 (flagsN t) = t.hasHead ∧ bit2 (flagsN t) = t.hasSeq ∧ flagsN t ≤ 3 := by
  unfold flagsN
  cases t.hasHead <;> cases t.hasSeq <;> decide
theorem ptE_enc (t : TxD) (at_ : Nat) (h : Sits b at_ []) : ptE b t at_ 0 = (t, 0) := by
  obtain ⟨h1, h2⟩ := h
  have : at_ = b.length := by have := List.drop_eq_nil_iff.1 h2; omega
  subst this
  simp [ptE, endE, note]
theorem ptD_enc (t : TxD) (ms : List MemD) (hl : ms.length ≤ 65535) (hok : ∀ m ∈ ms, dataOk m = true) (at_ : Nat) (h : Sits b at_ (be 2 ms.length ++ ms.flatMap memB)) : ptD b t at_ 0 = ({ t with mem := ms.map forM }, 0) := by
  obtain ⟨f1, f2, f3, h⟩ := h.num (n := 2) (by omega) rfl
  rw [← List.append_nil (ms.flatMap memB)] at h
  obtain ⟨at2, g1, h⟩ := ptMems_enc ms hok _ [] h
  rw [ptD]
  simp only [f1, f2, f3, g1, List.nil_append]
  exact ptE_enc _ _ h
theorem ptC_enc (t : TxD) (q : SeqD) (hq : t.seq = noSeq) (hf : t.hasSeq = true → SeqFits q) (hr : t.hasSeq = true → q.kind ≠ 0 → SeqRoom q) (ms : List MemD) (hl : ms.length ≤ 65535) (hok : ∀ m ∈ ms, dataOk m = true) (at_ : Nat) (h : Sits b at_ ((if t.hasSeq then seqB q else []) ++ (be 2 ms.length ++ ms.flatMap memB))) :
    ptC b t at_ 0 = ({ t with seq := canonSeq t.hasSeq q, mem := ms.map forM }, 0) := by
  rw [ptC]
  by_cases hs : t.hasSeq
  · rw [if_pos hs] at h ⊢
    obtain ⟨at2, n, g1, g2, h⟩ := rseqP_enc q (hf hs) (hr hs) _ h
    simp only [g1]
    have hn : note 0 (decide ((n : Int) ≤ 1)) 16 = 0 := by rw [decide_eq_true (by omega)]; rfl
    rw [hn, ptD_enc _ ms hl hok _ h, hs]
  · have hs : t.hasSeq = false := by simpa using hs
    rw [if_neg (by simp [hs])] at h ⊢
    rw [ptD_enc _ ms hl hok _ h]
    simp [canonSeq, hs, hq]
end
/-- What may be written of a transaction. -/
theorem wrongE_facts {t : TxD} (h : wrongE t = 0) : (t.hasHead = true → t.head.size ≤ 255) ∧ t.moves.length ≤ 65535 ∧ t.mem.length ≤ 65535 ∧ (∀ m ∈ t.moves, moveOk m = true) ∧ (∀ m ∈ t.mem, dataOk m = true) ∧ (t.hasSeq = true → t.seq.kind ≠ 0 → SeqRoom t.seq) := by
  obtain ⟨h1, _, _⟩ := wrongE_zero h
  obtain ⟨g1, g2, g3, g4, g5⟩ := longE_zero h1
  simp only [manyOk, headOk, branchOk, Bool.and_eq_true, Bool.or_eq_true, Bool.not_eq_true', decide_eq_true_eq] at g1 g2 g5
  refine ⟨fun hh => by rcases g2 with g | g; · simp [hh] at g
                       · exact g, g1.1.1, g1.1.2, g3, g4, fun hs hk => ?_⟩
  have ha : asks t = true := by simp [asks, hs, hk]
  exact ⟨by rcases g5 with g | g; · simp [ha] at g
            · exact g, by rcases g1.2 with g | g; · simp [ha] at g
                          · exact g⟩
theorem parse_enc (t : TxD) (hw : wrongE t = 0) : parseTx (encTxB t) = (canon t, 0) := by
  obtain ⟨w1, w2, w3, w4, w5, w6⟩ := wrongE_facts hw
  obtain ⟨f1, f2, f3⟩ := flags_enc t
  have h : Sits (encTxB t) 0 (be 1 (flagsN t) ++ (headB t ++ (be 2 t.moves.length ++ (t.moves.flatMap moveB ++ (seqsB t ++ (be 2 t.mem.length ++ t.mem.flatMap memB)))))) := Sits.start _
  generalize encTxB t = b at *
  obtain ⟨a1, a2, a3, h⟩ := h.num (n := 1) (by omega) rfl
  have hn : note 0 (decide (((flagsN t : Nat) : Int) ≤ 3)) 16 = 0 := by rw [decide_eq_true (by omega)]; rfl
  rw [parseTx, a1, a2, a3, hn, f1, f2]
  have tail : ∀ (t' : TxD) (at_ : Nat), t'.hasSeq = t.hasSeq → t'.seq = noSeq → Sits b at_ (be 2 t.moves.length ++ (t.moves.flatMap moveB ++ (seqsB t ++ (be 2 t.mem.length ++ t.mem.flatMap memB)))) → ptB b t' at_ 0 = ({ t' with moves := t.moves, seq := canonSeq t.hasSeq t.seq, mem := t.mem.map forM }, 0) := by
    intro t' at_ e1 e2 h
    obtain ⟨i1, i2, i3, h⟩ := h.num (n := 2) (by omega) rfl
    obtain ⟨at2, g1, h⟩ := ptMoves_enc t.moves w4 _ [] h
    rw [ptB]
    simp only [i1, i2, i3, g1, List.nil_append]
    unfold seqsB at h
    rw [← e1] at h
    rw [ptC_enc { t' with moves := t.moves } t.seq e2 (fun hs => seqFits hw (by rw [← e1]; exact hs)) (fun hs => w6 (by rw [← e1]; exact hs)) t.mem w3 w5 _ h]
    simp only [e1]
  rw [ptA]
  unfold headB at h
  by_cases hh : t.hasHead
  · rw [if_pos hh] at h
    simp only [List.append_assoc] at h
    obtain ⟨b1, b2, b3, h⟩ := h.str (n := 1) (by have := w1 hh; omega) rfl
    simp only [b1, b2, b3]
    rw [if_pos hh]
    refine (tail { tx0 with hasHead := t.hasHead, hasSeq := t.hasSeq, head := t.head } _ rfl rfl h).trans ?_
    simp [canon, hh]
  · rw [if_neg hh, List.nil_append] at h
    rw [if_neg hh]
    refine (tail { tx0 with hasHead := t.hasHead, hasSeq := t.hasSeq } _ rfl rfl h).trans ?_
    simp [canon, hh, tx0]
theorem asks_canon (t : TxD) : asks (canon t) = asks t := by
  unfold asks canon canonSeq
  cases t.hasSeq
  · rfl
  · by_cases h : t.seq.kind = 0
    · simp [h, noSeq]
    · simp [h]
theorem memEq_forM (l : List MemD) : eqL memEq (l.map forM) l = true := by
  induction l with
  | nil => rfl
  | cons x l ih => simp only [List.map_cons, eqL, ih, Bool.and_true]; exact memEq_refl x
theorem eqL_symm {α : Type} {f : α → α → Bool} (hf : ∀ x y, f x y = f y x) : ∀ l m : List α, eqL f l m = eqL f m l
  | [], [] => rfl
  | [], _ :: _ => rfl
  | _ :: _, [] => rfl
  | x :: l, y :: m => by show (f x y && eqL f l m) = (f y x && eqL f m l); rw [hf, eqL_symm hf l m]
theorem same_canon (t : TxD) : sameTxP (canon t) t = true := by
  have h1 : sameHeadP (canon t) t = true := by
    unfold sameHeadP canon
    cases t.hasHead <;> simp [eqL_refl moveEq_refl]
  have h3 : eqL memEq (canon t).mem t.mem = true := memEq_forM _
  rw [sameTxP, h1, asks_canon, h3]
  by_cases ha : asks t = true
  · have : (canon t).seq = t.seq := by
      unfold asks at ha
      simp only [canon, canonSeq, ha, if_true]
    rw [this, sameSeqP_refl]
    simp
  · simp [show asks t = false from by simpa using ha]
end Go.Proofs.Ytppmolneklidfaa
