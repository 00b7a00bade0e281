/-
  What the reference's ParseTx tells, by the same plain words. No statement of the seat is proved here.
-/
import Derived.Test.YtppmolneklidfaaTr5
namespace Go.Proofs.Ytppmolneklidfaa
open Go.RowKit

/-! ### An error stays -/
theorem take_no {b : List UInt8} {at_ : Nat} {e n : Int} (he : e ≠ 0) : takeL b at_ e n = [] ∧ takeAt b at_ e n = at_ ∧ takeE b at_ e n = e := take_e b at_ e n (by simpa using he)
theorem text_no {b : List UInt8} {at_ : Nat} {e n : Int} (he : e ≠ 0) : textL b at_ e n = [] ∧ textAt b at_ e n = at_ ∧ textE b at_ e n = e := by
  unfold textL textAt textE
  obtain ⟨h1, h2, h3⟩ := take_no (b := b) (at_ := at_) (n := n) he
  rw [h1, h2, h3]
  exact take_no he
theorem note_tt (e c : Int) : note e true c = e := by unfold note; split <;> simp_all
theorem num_nil : num [] = 0 := rfl
theorem ptE_no {b : List UInt8} {t : TxD} {at_ : Nat} {e : Int} (he : e ≠ 0) : ptE b t at_ e = (tx0, e) := by
  have h : endE b at_ e = e := by unfold endE note; rw [if_neg he]
  unfold ptE
  rw [h, if_neg he]
theorem ptD_no {b : List UInt8} {t : TxD} {at_ : Nat} {e : Int} (he : e ≠ 0) : ptD b t at_ e = (tx0, e) := by
  obtain ⟨h1, h2, h3⟩ := take_no (b := b) (at_ := at_) (n := 2) he
  unfold ptD
  rw [h1, h2, h3, num_nil]
  exact ptE_no he
theorem rseqP_no {b : List UInt8} {at_ : Nat} {e : Int} (he : e ≠ 0) : rseqP b at_ e = (noSeq, at_, e, 0) := by
  obtain ⟨h1, h2, h3⟩ := take_no (b := b) (at_ := at_) (n := 1) he
  unfold rseqP
  rw [h1, h2, h3, num_nil, if_pos rfl]
theorem ptC_no {b : List UInt8} {t : TxD} {at_ : Nat} {e : Int} (he : e ≠ 0) : ptC b t at_ e = (tx0, e) := by
  unfold ptC
  rw [rseqP_no he]
  split
  · have : note e (decide (((0 : Nat) : Int) ≤ 1)) 16 = e := by unfold note; rw [if_neg he]
    show ptD b _ at_ (note e (decide (((0 : Nat) : Int) ≤ 1)) 16) = _
    rw [this]
    exact ptD_no he
  · exact ptD_no he
theorem ptB_no {b : List UInt8} {t : TxD} {at_ : Nat} {e : Int} (he : e ≠ 0) : ptB b t at_ e = (tx0, e) := by
  obtain ⟨h1, h2, h3⟩ := take_no (b := b) (at_ := at_) (n := 2) he
  unfold ptB
  rw [h1, h2, h3, num_nil]
  exact ptC_no he
theorem ptA_no {b : List UInt8} {t : TxD} {at_ : Nat} {e : Int} (he : e ≠ 0) : ptA b t at_ e = (tx0, e) := by
  obtain ⟨_, h2, h3⟩ := text_no (b := b) (at_ := at_) (n := 1) he
  unfold ptA
  rw [h2, h3]
  split <;> exact ptB_no he
theorem takeE_of_num {b : List UInt8} {at_ : Nat} {e n : Int} (h : num (takeL b at_ e n) ≠ 0) : takeE b at_ e n = 0 := by
  unfold takeL at h
  split at h
  · rename_i hc
    unfold takeE
    rw [if_pos hc.2]
    exact hc.1
  · exact absurd num_nil h
/-- flags that may not be -/
theorem parseTx_flags {b : List UInt8} (h : 3 < num (takeL b 0 0 1)) : parseTx b = (tx0, 16) := by
  unfold parseTx
  rw [takeE_of_num (by omega), show note 0 (decide ((num (takeL b 0 0 1) : Int) ≤ 3)) 16 = 16 from by rw [decide_eq_false (by omega)]; rfl]
  exact ptA_no (by decide)
theorem rseqP_bad {b : List UInt8} {at_ : Nat} {e : Int} (h : 1 < (rseqP b at_ e).2.2.2) : (rseqP b at_ e).2.2.1 = 0 := by
  unfold rseqP at h ⊢
  split at h
  · simp at h
  · rename_i h0
    rw [if_neg h0]
    exact takeE_of_num (by unfold rsIds rsTodo rsEnd at h; simp only at h; omega)

/-! ### The cursor knows one error -/
def E14 (e : Int) : Prop := e = 0 ∨ e = 14
theorem E14.take {b : List UInt8} {at_ : Nat} {e n : Int} (h : E14 e) : E14 (takeE b at_ e n) := by
  unfold takeE
  split
  · exact h
  · rcases h with rfl | rfl
    · exact .inr rfl
    · exact .inr rfl
theorem E14.text {b : List UInt8} {at_ : Nat} {e n : Int} (h : E14 e) : E14 (textE b at_ e n) := h.take.take
theorem E14.moves {b : List UInt8} : ∀ (k : Nat) {at_ : Nat} {e : Int} {l : List MoveD}, E14 e → E14 (ptMoves b k at_ e l).2.2
  | 0, _, _, _, h => h
  | k + 1, at_, e, l, h => by
    show E14 (if e = 0 then _ else _ : List MoveD × Nat × Int).2.2
    split
    · exact E14.moves k (E14.text (E14.take (E14.take (E14.text (.inl rfl)))))
    · exact h
theorem E14.mems {b : List UInt8} : ∀ (k : Nat) {at_ : Nat} {e : Int} {l : List MemD}, E14 e → E14 (ptMems b k at_ e l).2.2
  | 0, _, _, _, h => h
  | k + 1, at_, e, l, h => by
    show E14 (if e = 0 then _ else _ : List MemD × Nat × Int).2.2
    split
    · exact E14.mems k (E14.text (E14.take (.inl rfl)))
    · exact h
theorem E14.todos {b : List UInt8} : ∀ (k : Nat) {at_ : Nat} {e : Int} {l : List TodoD}, E14 e → E14 (rsLoop b k at_ e l).2.2
  | 0, _, _, _, h => h
  | k + 1, at_, e, l, h => by
    show E14 (if e = 0 then _ else _ : List TodoD × Nat × Int).2.2
    split
    · exact E14.todos k (E14.take (E14.take (.inl rfl)))
    · exact h
theorem E14.seq {b : List UInt8} {at_ : Nat} {e : Int} (h : E14 e) : E14 (rseqP b at_ e).2.2.1 := by
  unfold rseqP
  split
  · exact h.take
  · unfold rsIds rsTodo rsEnd
    exact E14.take (E14.take (E14.take (E14.todos _ (E14.take (E14.take (E14.take (E14.text h.take)))))))
theorem andI_fin : ∀ n : Fin 4, (bits .and .i64 ((n.val : Nat) : Int) 1 == 1) = bit1 n.val ∧ (bits .and .i64 ((n.val : Nat) : Int) 2 == 2) = bit2 n.val := by decide +kernel
theorem andI {n : Nat} (h : n ≤ 3) : (bits .and .i64 (n : Int) 1 == 1) = bit1 n ∧ (bits .and .i64 (n : Int) 2 == 2) = bit2 n := andI_fin ⟨n, by omega⟩
end Go.Proofs.Ytppmolneklidfaa
