/-
  Plain law of transactions: what was read is written as it was. No statement of the seat is proved here.
-/
import Derived.Test.YtppmolneklidfaaRt2
namespace Go.Proofs.Ytppmolneklidfaa
open Go.RowKit

section
variable {b : List UInt8}
theorem take_le (a : Nat) (e : Int) (n : Int) (ha : a ≤ b.length) : takeAt b a e n ≤ b.length := by unfold takeAt; split <;> omega
theorem text_le (a : Nat) (e : Int) (n : Int) (ha : a ≤ b.length) : textAt b a e n ≤ b.length := take_le _ _ _ (take_le _ _ _ ha)
theorem ptMoves_back : ∀ (k at_ : Nat) (e : Int) (l : List MoveD), (ptMoves b k at_ e l).2.2 = 0 → at_ ≤ b.length →
    e = 0 ∧ ∃ ms, ms.length = k ∧ (ptMoves b k at_ e l).1 = l ++ ms ∧ (∀ m ∈ ms, moveOk m = true) ∧ b.drop at_ = ms.flatMap moveB ++ b.drop (ptMoves b k at_ e l).2.1 ∧ (ptMoves b k at_ e l).2.1 ≤ b.length
  | 0, at_, e, l, h, hl => ⟨h, [], rfl, by simp [ptMoves], by simp, by simp [ptMoves], hl⟩
  | k + 1, at_, e, l, h, hl => by
    by_cases he : e = 0
    · subst he
      rw [ptMoves, if_pos rfl] at h ⊢
      have a1 := text_le (b := b) at_ 0 1 hl
      generalize hA1 : textAt b at_ 0 1 = A1 at *
      generalize hE1 : textE b at_ 0 1 = E1 at *
      have a2 := take_le (b := b) A1 E1 32 a1
      generalize hA2 : takeAt b A1 E1 32 = A2 at *
      generalize hE2 : takeE b A1 E1 32 = E2 at *
      have a3 := take_le (b := b) A2 E2 32 a2
      generalize hA3 : takeAt b A2 E2 32 = A3 at *
      generalize hE3 : takeE b A2 E2 32 = E3 at *
      have a4 := text_le (b := b) A3 E3 2 a3
      generalize hA4 : textAt b A3 E3 2 = A4 at *
      generalize hE4 : textE b A3 E3 2 = E4 at *
      generalize hM : ({ name := str (textL b at_ 0 1), old := idOf (takeL b A1 E1 32), new_ := idOf (takeL b A2 E2 32), why := str (textL b A3 E3 2) } : MoveD) = M at *
      obtain ⟨e4, ms, m1, m2, m3, m4, m5⟩ := ptMoves_back k _ _ _ h a4
      rw [e4] at hE4
      obtain ⟨e3, n1, s4, _⟩ := str_back (k := 2) hE4 a3 rfl
      rw [e3] at hE3
      obtain ⟨e2, s3, _⟩ := id_back hE3 a2
      rw [e2] at hE2
      obtain ⟨e1, s2, _⟩ := id_back hE2 a1
      rw [e1] at hE1
      obtain ⟨_, n0, s1, _⟩ := str_back (k := 1) hE1 hl rfl
      refine ⟨rfl, M :: ms, by rw [List.length_cons, m1], by rw [m2, List.append_assoc]; rfl, ?_, ?_, m5⟩
      · intro m hm
        rcases List.mem_cons.1 hm with e | hm
        · subst e
          rw [← hM]
          simp only [moveOk, Bool.and_eq_true, decide_eq_true_eq]
          exact ⟨by omega, by omega⟩
        · exact m3 m hm
      · rw [List.flatMap_cons, s1, hA1, s2, hA2, s3, hA3, s4, hA4, m4, ← hM]
        simp only [moveB, List.append_assoc]
    · rw [ptMoves, if_neg he] at h
      exact absurd h he
theorem ptMems_back : ∀ (k at_ : Nat) (e : Int) (l : List MemD), (ptMems b k at_ e l).2.2 = 0 → at_ ≤ b.length →
    e = 0 ∧ ∃ ms, ms.length = k ∧ (ptMems b k at_ e l).1 = l ++ ms ∧ (∀ m ∈ ms, dataOk m = true) ∧ b.drop at_ = ms.flatMap memB ++ b.drop (ptMems b k at_ e l).2.1 ∧ (ptMems b k at_ e l).2.1 ≤ b.length
  | 0, at_, e, l, h, hl => ⟨h, [], rfl, by simp [ptMems], by simp, by simp [ptMems], hl⟩
  | k + 1, at_, e, l, h, hl => by
    by_cases he : e = 0
    · subst he
      rw [ptMems, if_pos rfl] at h ⊢
      have a1 := take_le (b := b) at_ 0 32 hl
      generalize hA1 : takeAt b at_ 0 32 = A1 at *
      generalize hE1 : takeE b at_ 0 32 = E1 at *
      have a4 := text_le (b := b) A1 E1 4 a1
      generalize hA4 : textAt b A1 E1 4 = A4 at *
      generalize hE4 : textE b A1 E1 4 = E4 at *
      generalize hM : ({ key := idOf (takeL b at_ 0 32), data := textL b A1 E1 4, adr := none, cap := 0 } : MemD) = M at *
      obtain ⟨e4, ms, m1, m2, m3, m4, m5⟩ := ptMems_back k _ _ _ h a4
      rw [e4] at hE4
      obtain ⟨e3, n1, s4, _⟩ := text_back (k := 4) hE4 a1 rfl
      rw [e3] at hE1
      obtain ⟨_, s1, _⟩ := id_back hE1 hl
      refine ⟨rfl, M :: ms, by rw [List.length_cons, m1], by rw [m2, List.append_assoc]; rfl, ?_, ?_, m5⟩
      · intro m hm
        rcases List.mem_cons.1 hm with e | hm
        · subst e
          rw [← hM]
          simp only [dataOk, decide_eq_true_eq]
          omega
        · exact m3 m hm
      · rw [List.flatMap_cons, s1, hA1, s4, hA4, m4, ← hM]
        simp only [memB, List.append_assoc]
    · rw [ptMems, if_neg he] at h
      exact absurd h he
theorem rsLoop_le : ∀ (k at_ : Nat) (e : Int) (l : List TodoD), at_ ≤ b.length → (rsLoop b k at_ e l).2.1 ≤ b.length
  | 0, _, _, _, hl => hl
  | k + 1, at_, e, l, hl => by
    rw [rsLoop]
    split
    · exact rsLoop_le k _ _ _ (take_le _ _ _ (take_le _ _ _ hl))
    · exact hl
theorem rsLoop_back : ∀ (k at_ : Nat) (e : Int) (l : List TodoD), (rsLoop b k at_ e l).2.2 = 0 → at_ ≤ b.length →
    e = 0 ∧ ∃ ms, ms.length = k ∧ (rsLoop b k at_ e l).1 = l ++ ms ∧ (∀ m ∈ ms, 0 ≤ m.act ∧ m.act ≤ 255) ∧ b.drop at_ = ms.flatMap todoB ++ b.drop (rsLoop b k at_ e l).2.1
  | 0, at_, e, l, h, hl => ⟨h, [], rfl, by simp [rsLoop], by simp, by simp [rsLoop]⟩
  | k + 1, at_, e, l, h, hl => by
    by_cases he : e = 0
    · subst he
      rw [rsLoop, if_pos rfl] at h ⊢
      have a1 := take_le (b := b) at_ 0 1 hl
      generalize hA1 : takeAt b at_ 0 1 = A1 at *
      generalize hE1 : takeE b at_ 0 1 = E1 at *
      have a4 := take_le (b := b) A1 E1 32 a1
      generalize hA4 : takeAt b A1 E1 32 = A4 at *
      generalize hE4 : takeE b A1 E1 32 = E4 at *
      generalize hM : ({ act := ((num (takeL b at_ 0 1) : Nat) : Int), id := idOf (takeL b A1 E1 32) } : TodoD) = M at *
      obtain ⟨e4, ms, m1, m2, m3, m4⟩ := rsLoop_back k _ _ _ h a4
      rw [e4] at hE4
      obtain ⟨e3, s2, _⟩ := id_back hE4 a1
      rw [e3] at hE1
      obtain ⟨_, n0, s1, _⟩ := num_back (k := 1) hE1 hl rfl
      refine ⟨rfl, M :: ms, by rw [List.length_cons, m1], by rw [m2, List.append_assoc]; rfl, ?_, ?_⟩
      · intro m hm
        rcases List.mem_cons.1 hm with e | hm
        · subst e
          rw [← hM]
          simp only
          omega
        · exact m3 m hm
      · rw [List.flatMap_cons, s1, hA1, s2, hA4, m4, ← hM]
        simp only [todoB, Int.toNat_natCast, List.append_assoc]
    · rw [rsLoop, if_neg he] at h
      exact absurd h he
theorem rseqP_back {at_ : Nat} {e : Int} (h : note (rseqP b at_ e).2.2.1 (decide (((rseqP b at_ e).2.2.2 : Int) ≤ 1)) 16 = 0) (hl : at_ ≤ b.length) :
    e = 0 ∧ SeqFits (rseqP b at_ e).1 ∧ ((rseqP b at_ e).1.kind ≠ 0 → SeqRoom (rseqP b at_ e).1) ∧ b.drop at_ = seqB (rseqP b at_ e).1 ++ b.drop (rseqP b at_ e).2.1 ∧ (rseqP b at_ e).2.1 ≤ b.length := by
  have hle : ∀ (a : Nat) (e : Int) (n : Int), a ≤ b.length → takeAt b a e n ≤ b.length := fun a e n ha => by unfold takeAt; split <;> omega
  have hn : (rseqP b at_ e).2.2.1 = 0 ∧ (rseqP b at_ e).2.2.2 ≤ 1 := by
    unfold note at h
    split at h
    · rename_i h0
      split at h
      · rename_i h1
        exact ⟨h0, by have := of_decide_eq_true h1; omega⟩
      · exact absurd h (by decide)
    · exact absurd h ‹_›
  obtain ⟨hn1, hn2⟩ := hn
  clear h
  by_cases hz : num (takeL b at_ e 1) = 0
  · rw [rseqP, if_pos hz] at hn1 ⊢
    obtain ⟨h1, n0, s1, h2⟩ := num_back (k := 1) hn1 hl rfl
    refine ⟨h1, ⟨by simp [noSeq], fun h => absurd rfl h⟩, fun h => absurd rfl h, ?_, h2⟩
    rw [hz] at s1
    rw [s1]
    rfl
  · rw [rseqP, if_neg hz] at hn1 hn2 ⊢
    unfold rsIds rsTodo rsEnd at hn1 hn2 ⊢
    simp only at hn1 hn2 ⊢
    have a1 := hle at_ e 1 hl
    have a2 : textAt b (takeAt b at_ e 1) (takeE b at_ e 1) 1 ≤ b.length := hle _ _ _ (hle _ _ _ a1)
    generalize hA2 : textAt b (takeAt b at_ e 1) (takeE b at_ e 1) 1 = A2 at *
    generalize hE2 : textE b (takeAt b at_ e 1) (takeE b at_ e 1) 1 = E2 at *
    have a3 := hle A2 E2 32 a2
    generalize hA3 : takeAt b A2 E2 32 = A3 at *
    generalize hE3 : takeE b A2 E2 32 = E3 at *
    have a4 := hle A3 E3 32 a3
    generalize hA4 : takeAt b A3 E3 32 = A4 at *
    generalize hE4 : takeE b A3 E3 32 = E4 at *
    have a5 := hle A4 E4 2 a4
    generalize hA5 : takeAt b A4 E4 2 = A5 at *
    generalize hE5 : takeE b A4 E4 2 = E5 at *
    have hL := rsLoop_back (b := b) (num (takeL b A4 E4 2)) A5 E5 []
    generalize hR : rsLoop b (num (takeL b A4 E4 2)) A5 E5 [] = R at *
    obtain ⟨R1, A6, E6⟩ := R
    simp only at hL hn1 hn2 ⊢
    have h6 : A6 ≤ b.length := by have := rsLoop_le (b := b) (num (takeL b A4 E4 2)) A5 E5 [] a5; rw [hR] at this; exact this
    have a7 := hle A6 E6 2 h6
    generalize hA7 : takeAt b A6 E6 2 = A7 at *
    generalize hE7 : takeE b A6 E6 2 = E7 at *
    have a8 := hle A7 E7 2 a7
    generalize hA8 : takeAt b A7 E7 2 = A8 at *
    generalize hE8 : takeE b A7 E7 2 = E8 at *
    obtain ⟨e8, k8, s8, l8⟩ := num_back (k := 1) hn1 a8 rfl
    rw [e8] at hE8
    obtain ⟨e7, k7, s7, _⟩ := num_back (k := 2) hE8 a7 rfl
    rw [e7] at hE7
    obtain ⟨e6, k6, s6, _⟩ := num_back (k := 2) hE7 h6 rfl
    obtain ⟨e5, ms, q1, q2, q3, q4⟩ := hL e6 a5
    rw [e5] at hE5
    obtain ⟨e4, k4, s4, _⟩ := num_back (k := 2) hE5 a4 rfl
    rw [e4] at hE4
    obtain ⟨e3, s3, _⟩ := id_back hE4 a3
    rw [e3] at hE3
    obtain ⟨e2, s2, _⟩ := id_back hE3 a2
    rw [e2] at hE2
    obtain ⟨e1, k1, s1, _⟩ := str_back (k := 1) hE2 a1 rfl
    obtain ⟨e0, k0, s0, _⟩ := num_back (k := 1) e1 hl rfl
    rw [List.nil_append] at q2
    subst q2
    refine ⟨e0, ⟨⟨by simp only; omega, by simp only; omega⟩, fun _ => ⟨by simp only; omega, by simp only; omega, by simp only; omega, by simp only; omega, q3⟩⟩, fun _ => ⟨by simp only; omega, by simp only; omega⟩, ?_, l8⟩
    have hk : ¬ ((num (takeL b at_ e 1) : Nat) : Int) = 0 := by omega
    have hst : be 1 (if ((num (takeL b A8 E8 1) : Nat) : Int) == 1 then 1 else 0) = be 1 (num (takeL b A8 E8 1)) := by
      generalize num (takeL b A8 E8 1) = v at *
      have : v = 0 ∨ v = 1 := by omega
      rcases this with rfl | rfl <;> rfl
    unfold seqB
    simp only [if_neg hk, Int.toNat_natCast, hst]
    rw [s0, s1, hA2, s2, hA3, s3, hA4, s4, hA5, q4, s6, hA7, s7, hA8, s8, q1]
    simp only [List.append_assoc]
theorem ptMoves_le : ∀ (k at_ : Nat) (e : Int) (l : List MoveD), at_ ≤ b.length → (ptMoves b k at_ e l).2.1 ≤ b.length
  | 0, _, _, _, hl => hl
  | k + 1, at_, e, l, hl => by
    rw [ptMoves]
    split
    · exact ptMoves_le k _ _ _ (text_le _ _ _ (take_le _ _ _ (take_le _ _ _ (text_le _ _ _ hl))))
    · exact hl
theorem rseqP_le (at_ : Nat) (e : Int) (hl : at_ ≤ b.length) : (rseqP b at_ e).2.1 ≤ b.length := by
  rw [rseqP]
  split
  · exact take_le _ _ _ hl
  · unfold rsIds rsTodo rsEnd
    exact take_le _ _ _ (take_le _ _ _ (take_le _ _ _ (rsLoop_le _ _ _ _ (take_le _ _ _ (take_le _ _ _ (take_le _ _ _ (text_le _ _ _ (take_le _ _ _ hl))))))))
theorem note_zero' {e c : Int} {z : Bool} (hc : c ≠ 0) (h : note e z c = 0) : e = 0 ∧ z = true := by
  unfold note at h
  split at h
  · rename_i h0
    split at h
    · exact ⟨h0, ‹_›⟩
    · exact absurd h hc
  · exact absurd h ‹_›
theorem ptE_back {t : TxD} {at_ : Nat} {e : Int} (h : (ptE b t at_ e).2 = 0) : e = 0 ∧ at_ = b.length ∧ (ptE b t at_ e).1 = t := by
  by_cases hz : endE b at_ e = 0
  · have h1 := note_zero' (by decide) hz
    refine ⟨h1.1, ?_, by rw [ptE, if_pos hz]⟩
    have := eq_of_beq h1.2
    omega
  · rw [ptE, if_neg hz] at h
    exact absurd h hz
theorem ptD_back {t : TxD} {at_ : Nat} {e : Int} (h : (ptD b t at_ e).2 = 0) (hl : at_ ≤ b.length) :
    e = 0 ∧ ∃ ms, (ptD b t at_ e).1 = { t with mem := ms } ∧ ms.length ≤ 65535 ∧ (∀ m ∈ ms, dataOk m = true) ∧ b.drop at_ = be 2 ms.length ++ ms.flatMap memB := by
  rw [ptD] at h ⊢
  obtain ⟨h1, h2, h3⟩ := ptE_back h
  have a1 := take_le (b := b) at_ e 2 hl
  obtain ⟨h4, ms, m1, m2, m3, m4, _⟩ := ptMems_back _ _ _ _ h1 a1
  obtain ⟨h5, n5, s5, _⟩ := num_back (k := 2) h4 hl rfl
  rw [List.nil_append] at m2
  refine ⟨h5, ms, by rw [h3, m2], by omega, m3, ?_⟩
  rw [h2, List.drop_length, List.append_nil] at m4
  rw [s5, m4, m1]
theorem ptC_back {t : TxD} {at_ : Nat} {e : Int} (h : (ptC b t at_ e).2 = 0) (hl : at_ ≤ b.length) :
    e = 0 ∧ ∃ q ms, (ptC b t at_ e).1 = { t with seq := q, mem := ms } ∧ (t.hasSeq = true → SeqFits q ∧ (q.kind ≠ 0 → SeqRoom q)) ∧ ms.length ≤ 65535 ∧ (∀ m ∈ ms, dataOk m = true) ∧
      b.drop at_ = (if t.hasSeq then seqB q else []) ++ (be 2 ms.length ++ ms.flatMap memB) := by
  rw [ptC] at h ⊢
  by_cases hs : t.hasSeq
  · rw [if_pos hs] at h ⊢
    obtain ⟨h1, ms, m1, m2, m3, m4⟩ := ptD_back h (rseqP_le _ _ hl)
    obtain ⟨h2, f1, f2, f3, _⟩ := rseqP_back h1 hl
    exact ⟨h2, _, ms, m1, fun _ => ⟨f1, f2⟩, m2, m3, by rw [if_pos hs, f3, m4]⟩
  · rw [if_neg hs] at h ⊢
    obtain ⟨h1, ms, m1, m2, m3, m4⟩ := ptD_back h hl
    exact ⟨h1, t.seq, ms, m1, fun q => absurd q hs, m2, m3, by rw [if_neg hs, m4]; rfl⟩
theorem ptB_back {t : TxD} {at_ : Nat} {e : Int} (h : (ptB b t at_ e).2 = 0) (hl : at_ ≤ b.length) :
    e = 0 ∧ ∃ mv q ms, (ptB b t at_ e).1 = { t with moves := mv, seq := q, mem := ms } ∧ mv.length ≤ 65535 ∧ (∀ m ∈ mv, moveOk m = true) ∧ (t.hasSeq = true → SeqFits q ∧ (q.kind ≠ 0 → SeqRoom q)) ∧ ms.length ≤ 65535 ∧ (∀ m ∈ ms, dataOk m = true) ∧
      b.drop at_ = be 2 mv.length ++ (mv.flatMap moveB ++ ((if t.hasSeq then seqB q else []) ++ (be 2 ms.length ++ ms.flatMap memB))) := by
  rw [ptB] at h ⊢
  have a1 := take_le (b := b) at_ e 2 hl
  obtain ⟨h1, q, ms, m1, m2, m3, m4, m5⟩ := ptC_back h (ptMoves_le _ _ _ _ a1)
  obtain ⟨h4, mv, v1, v2, v3, v4, _⟩ := ptMoves_back _ _ _ _ h1 a1
  obtain ⟨h5, n5, s5, _⟩ := num_back (k := 2) h4 hl rfl
  rw [List.nil_append] at v2
  refine ⟨h5, mv, q, ms, by rw [m1, v2], by omega, v3, m2, m3, m4, ?_⟩
  rw [s5, v4, v1, m5]
theorem ptA_back {t : TxD} {at_ : Nat} {e : Int} (h : (ptA b t at_ e).2 = 0) (hl : at_ ≤ b.length) :
    e = 0 ∧ ∃ hd mv q ms, (ptA b t at_ e).1 = { t with head := hd, moves := mv, seq := q, mem := ms } ∧ (hd.size ≤ 255 ∨ hd = t.head) ∧ (t.hasHead = true → hd.size ≤ 255) ∧ mv.length ≤ 65535 ∧ (∀ m ∈ mv, moveOk m = true) ∧ (t.hasSeq = true → SeqFits q ∧ (q.kind ≠ 0 → SeqRoom q)) ∧ ms.length ≤ 65535 ∧ (∀ m ∈ ms, dataOk m = true) ∧
      b.drop at_ = (if t.hasHead then be 1 hd.size ++ hd.data.toList else []) ++ (be 2 mv.length ++ (mv.flatMap moveB ++ ((if t.hasSeq then seqB q else []) ++ (be 2 ms.length ++ ms.flatMap memB)))) := by
  rw [ptA] at h ⊢
  by_cases hs : t.hasHead
  · rw [if_pos hs] at h ⊢
    obtain ⟨h1, mv, q, ms, m1, m2⟩ := ptB_back h (text_le _ _ _ hl)
    obtain ⟨h2, n1, s1, _⟩ := str_back (k := 1) h1 hl rfl
    refine ⟨h2, _, mv, q, ms, m1, .inl (by (show (str (textL b at_ e 1)).size ≤ 255); omega), fun _ => by (show (str (textL b at_ e 1)).size ≤ 255); omega, m2.1, m2.2.1, m2.2.2.1, m2.2.2.2.1, m2.2.2.2.2.1, ?_⟩
    rw [if_pos hs, s1, m2.2.2.2.2.2, List.append_assoc]
  · rw [if_neg hs] at h ⊢
    obtain ⟨h1, mv, q, ms, m1, m2⟩ := ptB_back h hl
    refine ⟨h1, t.head, mv, q, ms, m1, .inr rfl, fun q => absurd q hs, m2.1, m2.2.1, m2.2.2.1, m2.2.2.2.1, m2.2.2.2.2.1, ?_⟩
    rw [if_neg hs, m2.2.2.2.2.2]
    rfl
theorem wrong_zero {t : TxD} (h1 : t.hasHead = true → t.head.size ≤ 255) (h2 : t.moves.length ≤ 65535) (h3 : ∀ m ∈ t.moves, moveOk m = true) (h4 : t.hasSeq = true → SeqFits t.seq ∧ (t.seq.kind ≠ 0 → SeqRoom t.seq)) (h5 : t.mem.length ≤ 65535) (h6 : ∀ m ∈ t.mem, dataOk m = true) : wrongE t = 0 := by
  have ha : asks t = true → SeqFits t.seq ∧ SeqRoom t.seq ∧ t.seq.kind ≠ 0 := fun h => by
    simp only [asks, Bool.and_eq_true, bne_iff_ne, ne_eq] at h
    exact ⟨(h4 h.1).1, (h4 h.1).2 h.2, h.2⟩
  have g1 : manyOk t = true := by
    simp only [manyOk, Bool.and_eq_true, Bool.or_eq_true, Bool.not_eq_true', decide_eq_true_eq]
    refine ⟨⟨h2, h5⟩, ?_⟩
    by_cases q : asks t = true
    · exact .inr (ha q).2.1.todo
    · exact .inl (by simpa using q)
  have g2 : headOk t = true := by
    simp only [headOk, Bool.or_eq_true, Bool.not_eq_true', decide_eq_true_eq]
    by_cases q : t.hasHead = true
    · exact .inr (h1 q)
    · exact .inl (by simpa using q)
  have g3 : branchOk t = true := by
    simp only [branchOk, Bool.or_eq_true, Bool.not_eq_true', decide_eq_true_eq]
    by_cases q : asks t = true
    · exact .inr (ha q).2.1.branch
    · exact .inl (by simpa using q)
  have g4 : kindFits t = true := by
    simp only [kindFits, Bool.or_eq_true, Bool.not_eq_true']
    by_cases q : t.hasSeq = true
    · exact .inr (numOk_iff.2 (h4 q).1.kind)
    · exact .inl (by simpa using q)
  have g5 : longE t = 0 := by
    unfold longE
    rw [g1, g2, g3]
    have : t.mem.foldl (fun e m => note e (dataOk m) 5) (t.moves.foldl (fun e m => note e (moveOk m) 5) (note (note 0 true 4) true 5)) = 0 :=
      (fold_note (p := dataOk) (by decide) _ _).2 ⟨(fold_note (p := moveOk) (by decide) _ _).2 ⟨rfl, h3⟩, h6⟩
    rw [this]
    rfl
  rw [wrongE, g5, g4, argE]
  by_cases q : asks t = true
  · obtain ⟨f1, f2, f3⟩ := ha q
    obtain ⟨d0, d1, m0, m1, hx⟩ := f1.nums f3
    rw [if_pos q]
    refine (fold_note (p := fun x : TodoD => numOk x.act 255) (by decide) _ _).2 ⟨?_, fun x hx' => numOk_iff.2 (hx x hx')⟩
    rw [show numOk t.seq.done 65535 = true from numOk_iff.2 ⟨d0, d1⟩, show numOk t.seq.made 65535 = true from numOk_iff.2 ⟨m0, m1⟩]
    rfl
  · rw [if_neg q]
    rfl
theorem flags_back {n : Nat} (h : n ≤ 3) : (if bit1 n then 1 else 0) + (if bit2 n then 2 else 0) = n := by
  have : n = 0 ∨ n = 1 ∨ n = 2 ∨ n = 3 := by omega
  rcases this with rfl | rfl | rfl | rfl <;> decide
theorem parse_back (h : (parseTx b).2 = 0) : encTxB (parseTx b).1 = b ∧ wrongE (parseTx b).1 = 0 ∧ (parseTx b).1.head.size ≤ 255 := by
  rw [parseTx] at h ⊢
  obtain ⟨h1, hd, mv, q, ms, m1, g0, g1, g2, g3, g4, g5, g6, g7⟩ := ptA_back h (take_le _ _ _ (Nat.zero_le _))
  obtain ⟨h2, h3⟩ := note_zero' (by decide) h1
  have h3 : num (takeL b 0 0 1) ≤ 3 := by have := of_decide_eq_true h3; omega
  obtain ⟨_, _, s1, _⟩ := num_back (k := 1) h2 (Nat.zero_le _) rfl
  rw [m1]
  have g8 : hd.size ≤ 255 := by
    rcases g0 with g | g
    · exact g
    · rw [g]
      exact Nat.zero_le _
  refine ⟨?_, wrong_zero g1 g2 g3 g4 g5 g6, g8⟩
  rw [List.drop_zero] at s1
  unfold encTxB flagsN headB seqsB
  simp only
  rw [flags_back h3, ← g7, ← s1]
theorem encTxB_for (t : TxD) : encTxB (forT t) = encTxB t := by
  have h : (t.mem.map forM).flatMap memB = t.mem.flatMap memB := by
    rw [List.flatMap_map]
    rfl
  show be 1 (flagsN t) ++ (headB t ++ (be 2 t.moves.length ++ (t.moves.flatMap moveB ++ (seqsB t ++ (be 2 (t.mem.map forM).length ++ (t.mem.map forM).flatMap memB))))) = _
  rw [h, List.length_map]
  rfl
theorem wrongE_for (t : TxD) : wrongE (forT t) = wrongE t := by
  have h : ∀ e : Int, (t.mem.map forM).foldl (fun e m => note e (dataOk m) 5) e = t.mem.foldl (fun e m => note e (dataOk m) 5) e := fun e => by rw [List.foldl_map]; rfl
  have h2 : manyOk (forT t) = manyOk t := by
    show (decide (t.moves.length ≤ 65535) && decide ((t.mem.map forM).length ≤ 65535) && _) = _
    rw [List.length_map]
    rfl
  have h3 : longE (forT t) = longE t := by
    show note ((t.mem.map forM).foldl (fun e m => note e (dataOk m) 5) (t.moves.foldl (fun e m => note e (moveOk m) 5) (note (note 0 (manyOk (forT t)) 4) (headOk t) 5))) (branchOk t) 5 = _
    rw [h, h2]
    rfl
  show argE t (note (longE (forT t)) (kindFits t) 1) = _
  rw [h3]
  rfl
/-- What was read is written as it was. -/
theorem read_written {u : TxD} (h0 : (parseTx b).2 = 0) (hu : forT u = (parseTx b).1) : encTx u = (b, 0) ∧ encTxB u = b ∧ u.head.size ≤ 255 := by
  obtain ⟨h1, h2, h3⟩ := parse_back h0
  rw [← hu] at h1 h2 h3
  rw [encTxB_for] at h1
  rw [wrongE_for] at h2
  exact ⟨by rw [encTx, if_pos h2, h1], h1, h3⟩
/-- What was written is read as the same. -/
theorem written_read {t u : TxD} (hw : wrongE t = 0) (hu : forT u = (parseTx (encTxB t)).1) : (parseTx (encTxB t)).2 = 0 ∧ sameTxP u t = true := by
  rw [parse_enc t hw] at hu ⊢
  refine ⟨rfl, ?_⟩
  rw [← sameTxP_for, hu]
  have h : sameTxP (canon t) (forT t) = sameTxP (canon t) t := by
    have := sameTxP_for (canon t) t
    rw [show forT (canon t) = canon t from by
      unfold forT canon
      simp only [List.map_map]
      rfl] at this
    exact this
  rw [h, same_canon]
end
end Go.Proofs.Ytppmolneklidfaa
