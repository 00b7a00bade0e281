/-
  Plain laws of trees, commits and objects: what was written is read as it was, what was read is written as it was. No statement of the seat is proved here.
-/
import Derived.Test.YtppmolneklidfaaRt3
import Derived.Test.YtppmolneklidfaaEcom
import Derived.Test.YtppmolneklidfaaObj2
namespace Go.Proofs.Ytppmolneklidfaa
open Go.RowKit

/-! ### Trees -/
def okFrom : ByteArray → Bool → List Ent → Prop
  | _, _, [] => True
  | was, first, x :: l => entE 0 x was first = 0 ∧ okFrom x.name false l
theorem entE_zero' {e : Int} {x : Ent} {was : ByteArray} {first : Bool} (h : entE e x was first = 0) : e = 0 ∧ kindOk x.kind = true ∧ nameOk x.name.data.toList = true := by
  unfold entE at h
  obtain ⟨h, _⟩ := note_zero' (by decide) h
  obtain ⟨h, _⟩ := note_zero' (by decide) h
  obtain ⟨h, h2⟩ := note_zero' (by decide) h
  obtain ⟨h, h1⟩ := note_zero' (by decide) h
  exact ⟨h, h1, h2⟩
theorem encGo_ok {was : ByteArray} {first : Bool} {l : List Ent} (h : okFrom was first l) : ∀ bs, encGo 0 was first bs l = (bs ++ l.flatMap entB, 0) := by
  induction l generalizing was first with
  | nil => exact fun bs => by simp [encGo]
  | cons x l ih =>
    intro bs
    rw [encGo, if_pos h.1, ih h.2, List.flatMap_cons, List.append_assoc]
theorem encGo_zero {l : List Ent} : ∀ {e : Int} {was : ByteArray} {first : Bool} {bs : List UInt8}, (encGo e was first bs l).2 = 0 → e = 0 ∧ okFrom was first l := by
  induction l with
  | nil => exact fun h => ⟨h, trivial⟩
  | cons x l ih =>
    intro e was first bs h
    rw [encGo] at h
    split at h
    · rename_i h1
      obtain ⟨rfl, _⟩ := entE_zero' h1
      exact ⟨rfl, h1, (ih h).2⟩
    · exact absurd h ‹_›
theorem encTree_ok {l : List Ent} (hl : l.length ≤ 512) (h : okFrom ByteArray.empty true l) : encTree l = (l.flatMap entB, 0) := by
  have h1 : note 0 (decide ((l.length : Int) ≤ 512)) 4 = 0 := by rw [decide_eq_true (by omega)]; rfl
  rw [encTree, h1, encGo_ok h]
  rfl
theorem encTree_zero {l : List Ent} (h : (encTree l).2 = 0) : l.length ≤ 512 ∧ okFrom ByteArray.empty true l := by
  obtain ⟨h1, h2⟩ := encGo_zero h
  have h3 := of_decide_eq_true (note_zero' (by decide) h1).2
  exact ⟨by omega, h2⟩
theorem name_le {l : List UInt8} (h : nameOk l = true) : l.length ≤ 40 := by
  simp only [nameOk, Bool.and_eq_true, decide_eq_true_eq] at h
  exact h.2.1
theorem entE_first {x : Ent} {was : ByteArray} {first : Bool} (h : entE 0 x was first = 0) {n : Nat} (hn : n < 512) : entE (note 0 (decide ((n : Int) < 512)) 4) x was first = 0 := by
  rw [decide_eq_true (by omega)]
  exact h
section
variable {b : List UInt8}
theorem entB_pos (x : Ent) : 34 ≤ (entB x).length := by
  simp only [entB, List.length_append, be_len, x.id.2]
  omega
theorem parGo_enc : ∀ (l : List Ent) (f at_ : Nat) (was : ByteArray) (out : List Ent), okFrom was ((out.length : Int) == 0) l → out.length + l.length ≤ 512 → Sits b at_ (l.flatMap entB) → b.length - at_ ≤ f →
    parGo b f at_ 0 was out = (out ++ l, 0)
  | [], f, at_, was, out, _, _, h, _ => by
    have h1 : b.length ≤ at_ := List.drop_eq_nil_iff.1 h.drop
    cases f with
    | zero => simp [parGo]
    | succ f => rw [parGo, if_neg (by omega)]; simp
  | x :: l, f, at_, was, out, hok, hlen, h, hf => by
    have h0 := entB_pos x
    have hle : (x :: l).length = l.length + 1 := rfl
    have h1 : b.length - at_ = ((x :: l).flatMap entB).length := by rw [← List.length_drop, h.drop]
    rw [List.flatMap_cons, List.length_append] at h1
    obtain ⟨hx, hok⟩ := hok
    obtain ⟨_, k1, n1⟩ := entE_zero' hx
    simp only [kindOk, Bool.and_eq_true, decide_eq_true_eq] at k1
    have n2 := name_le n1
    rw [← size_list] at n2
    simp only [List.flatMap_cons, entB, List.append_assoc] at h
    obtain ⟨a1, a2, a3, h⟩ := h.num (n := 1) (by omega) rfl
    obtain ⟨b1, b2, b3, h⟩ := h.str (n := 1) (by omega) rfl
    obtain ⟨c1, c2, c3, h⟩ := h.id
    cases f with
    | zero => omega
    | succ f =>
      have e1 : pEnt b at_ = x := by
        rw [pEnt]
        simp only [a1, a2, a3, b1, b2, b3, c1, Int.toNat_of_nonneg (show 0 ≤ x.kind by omega)]
      have e2 : pE3 b at_ = 0 := by rw [pE3]; simp only [a2, a3, b2, b3, c3]
      have e3 : pAt b at_ = at_ + 1 + 1 + x.name.size + 32 := by rw [pAt]; simp only [a2, a3, b2, b3, c2]
      have e4 : pE b at_ was out.length = 0 := by
        rw [pE, if_pos e2, e1]
        exact entE_first hx (by omega)
      rw [parGo, if_pos ⟨rfl, by omega⟩, e1, e3, e4]
      rw [parGo_enc l f _ x.name (out ++ [x]) (by rw [show ((((out ++ [x]).length : Nat) : Int) == 0) = false from beq_eq_false_iff_ne.2 (by rw [List.length_append]; simp; omega)]; exact hok) (by rw [List.length_append]; simp; omega) h (by
        have h2 : (entB x).length = 1 + 1 + x.name.size + 32 := by simp only [entB, List.length_append, be_len, x.id.2, ← size_list]; omega
        omega)]
      rw [List.append_assoc]
      rfl
theorem tree_read {l : List Ent} (h : (encTree l).2 = 0) : parseTree (encTree l).1 = (l, 0) := by
  obtain ⟨h1, h2⟩ := encTree_zero h
  rw [encTree_ok h1 h2]
  have h3 := parGo_enc (b := l.flatMap entB) l (l.flatMap entB).length 0 ByteArray.empty [] h2 (by simpa using h1) (Sits.start _) (by omega)
  rw [parseTree, h3]
  rfl
theorem parGo_back : ∀ (f at_ : Nat) (e : Int) (was : ByteArray) (out : List Ent), (parGo b f at_ e was out).2 = 0 → at_ ≤ b.length → b.length - at_ ≤ f →
    e = 0 ∧ ∃ l, (parGo b f at_ e was out).1 = out ++ l ∧ okFrom was ((out.length : Int) == 0) l ∧ (l = [] ∨ out.length + l.length ≤ 512) ∧ b.drop at_ = l.flatMap entB
  | 0, at_, e, was, out, h, hl, hf => ⟨h, [], by simp [parGo], trivial, .inl rfl, by rw [List.drop_of_length_le (by omega)]; rfl⟩
  | f + 1, at_, e, was, out, h, hl, hf => by
    rw [parGo] at h ⊢
    by_cases c : e = 0 ∧ at_ < b.length
    · rw [if_pos c] at h ⊢
      have hA : pAt b at_ ≤ b.length := take_le _ _ _ (text_le _ _ _ (take_le _ _ _ hl))
      have hgo : pE3 b at_ = 0 → pAt b at_ = at_ + (entB (pEnt b at_)).length ∧ b.drop at_ = entB (pEnt b at_) ++ b.drop (pAt b at_) := by
        intro h3
        rw [pE3] at h3
        have a1 := take_le (b := b) at_ 0 1 hl
        have a2 := text_le (b := b) (takeAt b at_ 0 1) (takeE b at_ 0 1) 1 a1
        have q3 := id_back h3 a2
        have q2 := str_back (k := 1) q3.1 a1 rfl
        have q1 := num_back (k := 1) q2.1 hl rfl
        have hd : b.drop at_ = entB (pEnt b at_) ++ b.drop (pAt b at_) := by
          rw [q1.2.2.1, q2.2.2.1, q3.2.1, entB, pEnt, pAt]
          simp only [Int.toNat_natCast, List.append_assoc]
        refine ⟨?_, hd⟩
        have h4 := congrArg List.length hd
        rw [List.length_append, List.length_drop, List.length_drop] at h4
        omega
      by_cases h3 : pE3 b at_ = 0
      · obtain ⟨g1, g2⟩ := hgo h3
        have g0 := entB_pos (pEnt b at_)
        obtain ⟨h4, l, l1, l2, l3, l4⟩ := parGo_back f _ _ _ _ h hA (by omega)
        rw [pE, if_pos h3] at h4
        have h5 := entE_zero' h4
        have h6 := of_decide_eq_true (note_zero' (by decide) h5.1).2
        refine ⟨c.1, pEnt b at_ :: l, by rw [l1, List.append_assoc]; rfl, ⟨by rw [h5.1] at h4; exact h4, ?_⟩, .inr ?_, ?_⟩
        · rw [show ((((out ++ [pEnt b at_]).length : Nat) : Int) == 0) = false from beq_eq_false_iff_ne.2 (by rw [List.length_append]; simp; omega)] at l2
          exact l2
        · rcases l3 with rfl | l3
          · simp; omega
          · rw [List.length_append] at l3
            simp at l3 ⊢
            omega
        · rw [List.flatMap_cons, g2, l4]
      · exfalso
        have h7 : pE b at_ was out.length = 0 := by
          clear hgo
          revert h
          cases f with
          | zero => exact fun h => h
          | succ f =>
            intro h
            rw [parGo] at h
            by_cases c2 : pE b at_ was out.length = 0 ∧ pAt b at_ < b.length
            · exact c2.1
            · rw [if_neg c2] at h; exact h
        rw [pE, if_neg h3] at h7
        exact h3 h7
    · rw [if_neg c] at h ⊢
      have h : e = 0 := h
      refine ⟨h, [], by simp, trivial, .inl rfl, ?_⟩
      rw [List.drop_of_length_le (by omega)]
      rfl
theorem tree_written (h : (parseTree b).2 = 0) : encTree (parseTree b).1 = (b, 0) := by
  have hz : (parGo b b.length 0 0 ByteArray.empty []).2 = 0 := by
    rw [parseTree] at h
    split at h
    · assumption
    · exact absurd h ‹_›
  obtain ⟨_, l, l1, l2, l3, l4⟩ := parGo_back _ _ _ _ _ hz (Nat.zero_le _) (Nat.sub_le _ _)
  have hp : (parseTree b).1 = l := by
    rw [parseTree]
    simp only [if_pos hz]
    rw [l1]
    rfl
  rw [List.drop_zero] at l4
  rw [hp, encTree_ok _ l2, ← l4]
  rcases l3 with rfl | l3
  · simp
  · simpa using l3
end

/-! ### Commits -/
def okIds : List Id → List Id → Prop
  | _, [] => True
  | pre, p :: l => isNone p = false ∧ hasId pre p = false ∧ okIds (pre ++ [p]) l
def idsB (l : List Id) : List UInt8 := l.flatMap (·.1)
theorem ecGo_zero : ∀ (l : List Id) {e : Int} {bs : List UInt8} {pre : List Id}, (ecGo e bs pre l).1 = 0 → e = 0 ∧ okIds pre l
  | [], _, _, _, h => ⟨h, trivial⟩
  | p :: l, e, bs, pre, h => by
    rw [ecGo] at h
    obtain ⟨h1, h2⟩ := ecGo_zero l h
    obtain ⟨h3, h4⟩ := note_zero' (by decide) h1
    obtain ⟨h5, h6⟩ := note_zero' (by decide) h3
    exact ⟨h5, by simpa using h6, by simpa using h4, h2⟩
theorem ecGo_ok : ∀ (l : List Id) {bs : List UInt8} {pre : List Id}, okIds pre l → (ecGo 0 bs pre l).1 = 0
  | [], _, _, _ => rfl
  | p :: l, bs, pre, h => by
    rw [ecGo, h.1, h.2.1]
    exact ecGo_ok l h.2.2
theorem ecGo_snd : ∀ (l : List Id) (e : Int) (bs : List UInt8) (pre : List Id), (ecGo e bs pre l).2 = bs ++ idsB l
  | [], _, _, _ => by simp [ecGo, idsB]
  | p :: l, e, bs, pre => by rw [ecGo, ecGo_snd l]; simp [idsB]
structure ComOk (c : ComD) : Prop where
  tree : isNone c.tree = false
  few : c.parents.length ≤ 8
  ids : okIds [] c.parents
  author : c.author.size ≤ 1000
  msg : c.msg.size ≤ 1000
theorem ecE_iff (c : ComD) : ecE c = 0 ↔ ComOk c := by
  constructor
  · intro h
    obtain ⟨h1, h2⟩ := note_zero' (by decide) h
    obtain ⟨h3, h4⟩ := note_zero' (by decide) h1
    obtain ⟨h5, h6⟩ := ecGo_zero _ h3
    obtain ⟨h7, h8⟩ := note_zero' (by decide) h5
    obtain ⟨_, h10⟩ := note_zero' (by decide) h7
    exact ⟨by simpa using h10, by have := of_decide_eq_true h8; omega, h6, by have := of_decide_eq_true h4; omega, by have := of_decide_eq_true h2; omega⟩
  · rintro ⟨h1, h2, h3, h4, h5⟩
    have e0 : ecE0 c = 0 := by rw [ecE0, h1, decide_eq_true (by omega)]; rfl
    rw [ecE, ecP, e0, ecGo_ok _ h3, decide_eq_true (by omega), decide_eq_true (by omega)]
    rfl
def comB (c : ComD) : List UInt8 := c.tree.1 ++ (be 1 c.parents.length ++ (idsB c.parents ++ (be 2 c.author.size ++ (c.author.data.toList ++ (be 8 (timeN c.time) ++ (be 2 c.msg.size ++ c.msg.data.toList))))))
theorem encCommit_ok {c : ComD} (h : ComOk c) : encCommit c = (comB c, 0) := by
  rw [encCommit, if_pos ((ecE_iff c).2 h), ecP, ecGo_snd, comB]
  simp only [List.append_assoc]
theorem timeN_lt (t : Int) : timeN t < 256 ^ 8 := by unfold timeN; omega
theorem wrap_time {t : Int} (h : -9223372036854775808 ≤ t ∧ t ≤ 9223372036854775807) : wrap64 (timeN t : Int) = t := by
  unfold timeN wrap64
  omega
theorem time_wrap {n : Nat} (h : n < 256 ^ 8) : timeN (wrap64 (n : Int)) = n := by
  unfold timeN wrap64
  omega
section
variable {b r : List UInt8}
theorem sits_short {at_ : Nat} {s : ByteArray} (h : Sits b at_ (be 2 s.size ++ (s.data.toList ++ r))) (hl : s.size ≤ 1000) : str (shortL b at_ 0) = s ∧ shortAt b at_ 0 = at_ + 2 + s.size ∧ shortE2 b at_ 0 = 0 ∧ Sits b (at_ + 2 + s.size) r := by
  obtain ⟨h1, h2, h3, h4⟩ := h.num (n := 2) (by omega) rfl
  have e1 : shortE b at_ 0 = 0 := by rw [shortE, h1, h3, decide_eq_true (by omega)]; rfl
  rw [size_list] at h1 ⊢
  obtain ⟨g1, g2, g3, g4⟩ := h4.take (n := ((s.data.toList.length : Nat) : Int)) rfl
  unfold shortL shortAt shortE2
  rw [e1, h1, h2]
  exact ⟨by rw [g1, str_list], g2, g3, g4⟩
theorem pcLoop_enc : ∀ (l : List Id) (at_ : Nat) (pre : List Id), okIds pre l → Sits b at_ (idsB l ++ r) → ∃ at', pcLoop b l.length at_ 0 pre = (pre ++ l, at', 0) ∧ Sits b at' r
  | [], at_, pre, _, h => ⟨at_, by simp [pcLoop], h⟩
  | p :: l, at_, pre, hok, h => by
    have h : Sits b at_ (p.1 ++ (idsB l ++ r)) := by rw [← List.append_assoc]; exact h
    obtain ⟨a1, a2, a3, h⟩ := h.id
    obtain ⟨at', g1, g2⟩ := pcLoop_enc l _ (pre ++ [p]) hok.2.2 h
    refine ⟨at', ?_, g2⟩
    rw [List.length_cons, pcLoop, if_pos rfl, a1, a2, a3, hok.1, hok.2.1]
    rw [show note (note 0 (!false) 1) (!false) 18 = 0 from rfl, g1, List.append_assoc]
    rfl
theorem com_read {c : ComD} (h : (encCommit c).2 = 0) (ht : -9223372036854775808 ≤ c.time ∧ c.time ≤ 9223372036854775807) : parseCommit (encCommit c).1 = (c, 0) := by
  have hok : ComOk c := by
    rw [encCommit] at h
    split at h
    · exact (ecE_iff c).1 ‹_›
    · exact absurd h ‹_›
  rw [encCommit_ok hok]
  have hs : Sits (comB c) 0 (comB c) := Sits.start _
  unfold comB at hs
  simp only
  generalize hB : comB c = b at *
  rw [show c.tree.1 ++ (be 1 c.parents.length ++ (idsB c.parents ++ (be 2 c.author.size ++ (c.author.data.toList ++ (be 8 (timeN c.time) ++ (be 2 c.msg.size ++ c.msg.data.toList)))))) = comB c from rfl] at hs
  rw [hB] at hs
  have hs2 : Sits b 0 (c.tree.1 ++ (be 1 c.parents.length ++ (idsB c.parents ++ (be 2 c.author.size ++ (c.author.data.toList ++ (be 8 (timeN c.time) ++ (be 2 c.msg.size ++ (c.msg.data.toList ++ [])))))))) := by
    rw [List.append_nil]
    exact ⟨Nat.zero_le _, hB.symm⟩
  obtain ⟨h1, h2, h3, h4, h5⟩ := hok
  obtain ⟨a1, a2, a3, hs2⟩ := hs2.id
  have e2 : pcE2 b = 0 := by rw [pcE2, a1, a3, h1]; rfl
  obtain ⟨b1, b2, b3, hs2⟩ := hs2.num (n := 1) (by omega) rfl
  have n1 : pcN b = c.parents.length := by rw [pcN, e2, a2, b1]
  have n2 : pcAt2 b = 0 + 32 + 1 := by rw [pcAt2, e2, a2, b2]
  have n3 : pcE4 b = 0 := by rw [pcE4, e2, a2, b3, n1, decide_eq_true (by omega)]; rfl
  obtain ⟨at', g1, hs2⟩ := pcLoop_enc c.parents _ [] h3 hs2
  have n4 : pcL b = (c.parents, at', 0) := by rw [pcL, n1, n2, n3, g1]; rfl
  obtain ⟨c1, c2, c3, hs2⟩ := sits_short hs2 h4
  obtain ⟨d1, d2, d3, hs2⟩ := hs2.num (n := 8) (timeN_lt _) rfl
  obtain ⟨f1, f2, f3, hs2⟩ := sits_short hs2 h5
  have e5 : pcEnd b at' 0 = 0 := by
    have q := hs2.drop
    have q2 := hs2.le
    have q3 := List.drop_eq_nil_iff.1 q
    rw [pcEnd, pcAt5, pcE5, c2, c3, d2, d3, f2, f3, endE, show ((((at' + 2 + c.author.size + 8 + 2 + c.msg.size : Nat) : Int)) == (b.length : Int)) = true from beq_iff_eq.2 (by omega)]
    rfl
  rw [parseCommit]
  simp only [n4]
  rw [if_pos e5, a1, pcAuthor, c1, pcTime, c2, c3, d1, wrap_time ht, pcMsg, pcAt5, pcE5, c2, c3, d2, d3, f1]
theorem short_back {at_ : Nat} {e : Int} (h : shortE2 b at_ e = 0) (hl : at_ ≤ b.length) : e = 0 ∧ (str (shortL b at_ e)).size ≤ 1000 ∧ b.drop at_ = be 2 (str (shortL b at_ e)).size ++ ((str (shortL b at_ e)).data.toList ++ b.drop (shortAt b at_ e)) ∧ shortAt b at_ e ≤ b.length := by
  obtain ⟨h1, _, h3, h4, h5⟩ := take_back h (take_le _ _ _ hl)
  obtain ⟨h6, h7⟩ := note_zero' (by decide) h1
  obtain ⟨g1, g2, g3, _⟩ := num_back (k := 2) h6 hl rfl
  have h7 := of_decide_eq_true h7
  have h8 : (str (shortL b at_ e)).size = num (takeL b at_ e 2) := by
    rw [size_list]
    have : ((shortL b at_ e).length : Int) = (num (takeL b at_ e 2) : Int) := h5
    show (shortL b at_ e).length = _
    omega
  rw [h8]
  refine ⟨g1, by omega, ?_, h4⟩
  rw [g3]
  congr 1
theorem short_le {at_ : Nat} {e : Int} (hl : at_ ≤ b.length) : shortAt b at_ e ≤ b.length := take_le _ _ _ (take_le _ _ _ hl)
theorem pcLoop_le : ∀ (k at_ : Nat) (e : Int) (l : List Id), at_ ≤ b.length → (pcLoop b k at_ e l).2.1 ≤ b.length
  | 0, _, _, _, hl => hl
  | k + 1, at_, e, l, hl => by
    rw [pcLoop]
    split
    · exact pcLoop_le k _ _ _ (take_le _ _ _ hl)
    · exact hl
theorem pcLoop_back : ∀ (k at_ : Nat) (e : Int) (pre : List Id), (pcLoop b k at_ e pre).2.2 = 0 → at_ ≤ b.length →
    e = 0 ∧ ∃ l, l.length = k ∧ (pcLoop b k at_ e pre).1 = pre ++ l ∧ okIds pre l ∧ b.drop at_ = idsB l ++ b.drop (pcLoop b k at_ e pre).2.1
  | 0, at_, e, pre, h, hl => ⟨h, [], rfl, by simp [pcLoop], trivial, rfl⟩
  | k + 1, at_, e, pre, h, hl => by
    by_cases he : e = 0
    · subst he
      rw [pcLoop, if_pos rfl] at h ⊢
      have a1 := take_le (b := b) at_ 0 32 hl
      generalize hA1 : takeAt b at_ 0 32 = A1 at *
      generalize hE1 : takeE b at_ 0 32 = E1 at *
      generalize hM : idOf (takeL b at_ 0 32) = M at *
      obtain ⟨h1, l, l1, l2, l3, l4⟩ := pcLoop_back k _ _ _ h a1
      obtain ⟨h2, h3⟩ := note_zero' (by decide) h1
      obtain ⟨h4, h5⟩ := note_zero' (by decide) h2
      rw [h4] at hE1
      obtain ⟨_, s1, _⟩ := id_back hE1 hl
      refine ⟨rfl, M :: l, by rw [List.length_cons, l1], by rw [l2, List.append_assoc]; rfl, ⟨by simpa using h5, by simpa using h3, l3⟩, ?_⟩
      rw [s1, hA1, hM, l4]
      simp [idsB]
    · rw [pcLoop, if_neg he] at h
      exact absurd h he
theorem com_written (h : (parseCommit b).2 = 0) : encCommit (parseCommit b).1 = (b, 0) := by
  have hz : pcEnd b (pcL b).2.1 (pcL b).2.2 = 0 := by
    rw [parseCommit] at h
    split at h
    · assumption
    · exact absurd h ‹_›
  have hp : (parseCommit b).1 = ⟨idOf (takeL b 0 0 32), (pcL b).1, str (pcAuthor b (pcL b).2.1 (pcL b).2.2), pcTime b (pcL b).2.1 (pcL b).2.2, str (pcMsg b (pcL b).2.1 (pcL b).2.2)⟩ := by
    rw [parseCommit]
    simp only [if_pos hz]
  rw [hp]
  clear hp h
  have a1 := take_le (b := b) 0 0 32 (Nat.zero_le _)
  have a2 : pcAt2 b ≤ b.length := take_le _ _ _ a1
  have a3 := pcLoop_le (b := b) (pcN b) (pcAt2 b) (pcE4 b) [] a2
  have hL := pcLoop_back (b := b) (pcN b) (pcAt2 b) (pcE4 b) []
  rw [show pcLoop b (pcN b) (pcAt2 b) (pcE4 b) [] = pcL b from rfl] at hL a3
  generalize hR : pcL b = R at *
  obtain ⟨ps, A3, E3⟩ := R
  simp only at hL a3 hz ⊢
  rw [pcEnd, endE] at hz
  obtain ⟨z1, z2⟩ := note_zero' (by decide) hz
  have z2 := eq_of_beq z2
  have a4 := short_le (b := b) (e := E3) a3
  have a5 : pcAt5 b A3 E3 ≤ b.length := take_le _ _ _ a4
  obtain ⟨y1, y2, y3, _⟩ := short_back z1 a5
  obtain ⟨x1, x2, x3, _⟩ := num_back (k := 8) y1 a4 rfl
  obtain ⟨w1, w2, w3, _⟩ := short_back x1 a3
  obtain ⟨v1, l, l1, l2, l3, l4⟩ := hL w1 a2
  obtain ⟨u1, u2⟩ := note_zero' (by decide) v1
  obtain ⟨t1, t2, t3, _⟩ := num_back (k := 1) u1 a1 rfl
  obtain ⟨s1, s2⟩ := note_zero' (by decide) t1
  obtain ⟨_, r1, _⟩ := id_back s1 (Nat.zero_le _)
  rw [List.nil_append] at l2
  have l2 : ps = l := l2
  subst l2
  have u2 : pcN b ≤ 8 := by have := of_decide_eq_true u2; omega
  rw [encCommit_ok ⟨by simpa using s2, by show ps.length ≤ 8; omega, l3, w2, y2⟩]
  unfold comB
  refine Prod.ext ?_ rfl
  simp only
  rw [List.drop_zero] at r1
  have e1 : timeN (pcTime b A3 E3) = num (takeL b (shortAt b A3 E3) (shortE2 b A3 E3) 8) := time_wrap x2
  have e2 : b.drop (shortAt b (pcAt5 b A3 E3) (pcE5 b A3 E3)) = [] := List.drop_of_length_le (by omega)
  rw [e2, List.append_nil] at y3
  rw [e1, l1]
  conv => rhs; rw [r1, t3]
  rw [show b.drop (takeAt b (takeAt b 0 0 32) (pcE2 b) 1) = b.drop (pcAt2 b) from rfl, l4, w3, x3]
  rw [show b.drop (takeAt b (shortAt b A3 E3) (shortE2 b A3 E3) 8) = b.drop (pcAt5 b A3 E3) from rfl, y3]
  rfl
end

/-! ### Objects -/
theorem letter_kind {x : UInt8} (h : kindOf x ≠ 0) : letter (kindOf x) = x := by
  unfold kindOf at h ⊢
  by_cases h1 : x = 99
  · subst h1; rfl
  · rw [if_neg h1] at h ⊢
    by_cases h2 : x = 116
    · subst h2; rfl
    · rw [if_neg h2] at h ⊢
      by_cases h3 : x = 98
      · subst h3; rfl
      · rw [if_neg h3] at h
        exact absurd rfl h
theorem obj_written {b : List UInt8} (h : (parseObj b).2 = 0) : bodyE (parseObj b).1.1 (parseObj b).1.2 = 0 ∧ encObj 0 (parseObj b).1.1 (parseObj b).1.2 = (b, 0) := by
  have h5 : ¬ b.length < 5 := fun q => by rw [parseObj, if_pos q] at h; exact absurd h (by decide)
  rw [parseObj, if_neg h5] at h ⊢
  have hz : poE5 b (poK b) (poAt1 b) (poE1 b) = 0 := by
    rw [poTail] at h
    split at h
    · assumption
    · exact absurd h ‹_›
  rw [poTail, if_pos hz]
  have h4 : poE4 b (poAt1 b) (poE1 b) = 0 := by
    rw [poE5] at hz
    split at hz
    · assumption
    · exact hz
  rw [poE5, if_pos h4] at hz
  refine ⟨hz, ?_⟩
  rw [poE4, endE] at h4
  obtain ⟨a1, a2⟩ := note_zero' (by decide) h4
  have a2 := eq_of_beq a2
  have l1 : poAt1 b ≤ b.length := take_le _ _ _ (Nat.zero_le _)
  obtain ⟨b1, b2, b3, _⟩ := text_back (k := 4) a1 l1 rfl
  obtain ⟨c1, c2⟩ := note_zero' (by decide) b1
  obtain ⟨_, _, d3, _⟩ := num_back (k := 1) c1 (Nat.zero_le _) rfl
  have e2 : b.drop (textAt b (poAt1 b) (poE1 b) 4) = [] := List.drop_of_length_le (by omega)
  rw [e2, List.append_nil] at b3
  rw [List.drop_zero, show b.drop (takeAt b 0 0 1) = b.drop (poAt1 b) from rfl, b3] at d3
  rw [encObj, if_pos rfl, poK, letter_kind (by simpa [poK] using c2)]
  refine Prod.ext ?_ rfl
  simp only
  conv => rhs; rw [d3]
  rw [show be 1 (num (takeL b 0 0 1)) = [UInt8.ofNat (num (takeL b 0 0 1))] from by simp [be]]
  rfl
end Go.Proofs.Ytppmolneklidfaa
