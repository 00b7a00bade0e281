/- Contracts of maps.Keys and slices.Sorted on maps from texts. No statement of the seat is proved here. -/
import Derived.Test.YteeeehfnldkjlaaGreatDoorTC05
import Derived.Test.YteeeehfnldkjlaaGreatDoorShelf2
import Derived.Test.YteeeehfnldkjlaaGreatDoorTC03
namespace Go.Proofs.YteeeehfnldkjlaaGreatDoor
section
variable {α : Type} {lt : α → α → Bool}
theorem insBy_perm (x : α) : ∀ l : List α, (insBy lt x l).Perm (x :: l)
 | [] => List.Perm.refl _
 | y :: l => by
  unfold insBy
  split
  · exact ((insBy_perm x l).cons y).trans (List.Perm.swap x y l)
  · exact List.Perm.refl _
theorem sortBy_perm : ∀ l : List α, (sortBy lt l).Perm l
 | [] => List.Perm.refl _
 | x :: l => (insBy_perm x (sortBy lt l)).trans ((sortBy_perm l).cons x)
theorem sortBy_len (l : List α) : (sortBy lt l).length = l.length := (sortBy_perm l).length_eq
theorem mem_sortBy {l : List α} {x : α} : x ∈ sortBy lt l ↔ x ∈ l := (sortBy_perm l).mem_iff
structure Ord (lt : α → α → Bool) : Prop where
 asym : ∀ x y, lt x y = true → lt y x = false
 ntr : ∀ x y z, lt y x = false → lt z y = false → lt z x = false
def SortedP (lt : α → α → Bool) (l : List α) : Prop := l.Pairwise fun a b => lt b a = false
theorem insBy_sorted (H : Ord lt) (x : α) : ∀ l : List α, SortedP lt l → SortedP lt (insBy lt x l)
 | [], _ => by simp [insBy, SortedP]
 | y :: l, h => by
  unfold SortedP at h ⊢
  rw [List.pairwise_cons] at h
  unfold insBy
  split
  · rename_i hl
    rw [List.pairwise_cons]
    refine ⟨fun z hz => ?_, insBy_sorted H x l h.2⟩
    rcases List.mem_cons.1 ((insBy_perm x l).mem_iff.1 hz) with rfl | hz
    · exact H.asym _ _ hl
    · exact h.1 z hz
  · rename_i hl
    rw [Bool.not_eq_true] at hl
    rw [List.pairwise_cons, List.pairwise_cons]
    refine ⟨fun z hz => ?_, h⟩
    rcases List.mem_cons.1 hz with rfl | hz
    · exact hl
    · exact H.ntr x y z hl (h.1 z hz)
theorem sortBy_sorted (H : Ord lt) : ∀ l : List α, SortedP lt (sortBy lt l)
 | [] => List.Pairwise.nil
 | x :: l => insBy_sorted H x _ (sortBy_sorted H l)
theorem sorted_unique : ∀ {l m : List α}, l.Perm m → SortedP lt l → SortedP lt m → (∀ x ∈ l, ∀ y ∈ l, lt x y = false → lt y x = false → x = y) → l = m
 | [], m, hp, _, _, _ => (List.perm_nil.1 hp.symm).symm
 | x :: l, [], hp, _, _, _ => absurd hp.length_eq (by simp)
 | x :: l, y :: m, hp, h1, h2, hu => by
  have hxy : x = y := by
   have hx : x ∈ y :: m := hp.mem_iff.1 (List.mem_cons_self ..)
   have hy : y ∈ x :: l := hp.mem_iff.2 (List.mem_cons_self ..)
   rcases List.mem_cons.1 hx with e | hx
   · exact e
   · rcases List.mem_cons.1 hy with e | hy
     · exact e.symm
     · exact hu x (List.mem_cons_self ..) y (List.mem_cons_of_mem _ hy) ((List.pairwise_cons.1 h2).1 x hx) ((List.pairwise_cons.1 h1).1 y hy)
  subst hxy
  rw [sorted_unique (List.Perm.cons_inv hp) (List.pairwise_cons.1 h1).2 (List.pairwise_cons.1 h2).2 (fun a ha b hb => hu a (List.mem_cons_of_mem _ ha) b (List.mem_cons_of_mem _ hb))]
end
theorem pth_asym {a b : Pth} (h : a < b) : ¬ b < a := List.lt_asymm h
theorem pth_tri (a b : Pth) : a < b ∨ a = b ∨ b < a := by
 by_cases h1 : a < b
 · exact .inl h1
 · by_cases h2 : b < a
   · exact .inr (.inr h2)
   · exact .inr (.inl (List.le_antisymm (List.not_lt.1 h2) (List.not_lt.1 h1)))
theorem pth_trans {a b c : Pth} (h : a < b) (k : b < c) : a < c := List.lt_trans h k
theorem pth_ntr {a b c : Pth} (h : ¬ b < a) (k : ¬ c < b) : ¬ c < a := by
 rcases pth_tri a b with q | q | q
 · rcases pth_tri b c with r | r | r
   · exact pth_asym (pth_trans q r)
   · subst r; exact pth_asym q
   · exact absurd r k
 · subst q; exact k
 · exact absurd q h
theorem pth_ord {α : Type} (f : α → Pth) : Ord (fun a b : α => decide (f a < f b)) where
 asym x y h := by simp only [decide_eq_true_eq, decide_eq_false_iff_not] at *; exact pth_asym h
 ntr x y z h k := by simp only [decide_eq_false_iff_not] at *; exact pth_ntr h k
theorem pth_eq {a b : Pth} (h : ¬ a < b) (k : ¬ b < a) : a = b := by
 rcases pth_tri a b with q | q | q
 · exact absurd q h
 · exact q
 · exact absurd q k
theorem sortF_perm (l : List FileD) : (sortF l).Perm l := sortBy_perm l
theorem sortF_len (l : List FileD) : (sortF l).length = l.length := sortBy_len l
theorem sortF_unique {l m : List FileD} (hp : l.Perm m) (hs : SortedP (fun a b : FileD => decide (a.p < b.p)) m) (hd : (l.map (·.p)).Nodup) : sortF l = m := by
 refine sorted_unique ((sortF_perm l).trans hp) (sortBy_sorted (pth_ord _) l) hs fun x hx y hy h1 h2 => ?_
 simp only [decide_eq_false_iff_not] at h1 h2
 have e := pth_eq h1 h2
 have hx := mem_sortBy.1 hx
 have hy := mem_sortBy.1 hy
 obtain ⟨i, hi, rfl⟩ := List.mem_iff_getElem.1 hx
 obtain ⟨j, hj, rfl⟩ := List.mem_iff_getElem.1 hy
 have : i = j := by
  have := (List.getElem_inj (xs := l.map (·.p)) (h₀ := by simpa using hi) (h₁ := by simpa using hj) hd).1 (by simpa using e)
  exact this
 subst this
 rfl
theorem mem_insK {p x : Pth} : ∀ {l : List Pth}, x ∈ insK p l ↔ x = p ∨ x ∈ l
 | [] => by simp [insK]
 | q :: l => by
  unfold insK
  split
  · rename_i h
    subst h
    simp
  · split
    · simp
    · simp only [List.mem_cons, mem_insK (l := l)]
      constructor
      · rintro (h | h | h) <;> simp [h]
      · rintro (h | h | h) <;> simp [h]
def RiseP (l : List Pth) : Prop := l.Pairwise (· < ·)
theorem insK_rise (p : Pth) : ∀ {l : List Pth}, RiseP l → RiseP (insK p l)
 | [], _ => by simp [insK, RiseP]
 | q :: l, h => by
  unfold RiseP at h ⊢
  rw [List.pairwise_cons] at h
  unfold insK
  split
  · exact List.pairwise_cons.2 h
  · rename_i hne
    split
    · rename_i hlt
      rw [List.pairwise_cons, List.pairwise_cons]
      refine ⟨fun z hz => ?_, h⟩
      rcases List.mem_cons.1 hz with rfl | hz
      · exact hlt
      · exact pth_trans hlt (h.1 z hz)
    · rename_i hlt
      rw [List.pairwise_cons]
      refine ⟨fun z hz => ?_, insK_rise p h.2⟩
      rcases mem_insK.1 hz with rfl | hz
      · rcases pth_tri q z with r | r | r
        · exact r
        · exact absurd r.symm hne
        · exact absurd r hlt
      · exact h.1 z hz
theorem keysP_rise : ∀ l : List Pth, RiseP (keysP l)
 | [] => List.Pairwise.nil
 | x :: l => insK_rise x (keysP_rise l)
theorem mem_keysP {x : Pth} : ∀ {l : List Pth}, x ∈ keysP l ↔ x ∈ l
 | [] => Iff.rfl
 | y :: l => by
  show x ∈ insK y (keysP l) ↔ _
  rw [mem_insK, mem_keysP, List.mem_cons]
theorem rise_unique : ∀ {l m : List Pth}, RiseP l → RiseP m → (∀ x, x ∈ l ↔ x ∈ m) → l = m
 | [], [], _, _, _ => rfl
 | [], y :: m, _, _, h => absurd ((h y).2 (List.mem_cons_self ..)) (by simp)
 | x :: l, [], _, _, h => absurd ((h x).1 (List.mem_cons_self ..)) (by simp)
 | x :: l, y :: m, h1, h2, h => by
  have a1 := List.pairwise_cons.1 h1
  have a2 := List.pairwise_cons.1 h2
  have hxy : x = y := by
   rcases List.mem_cons.1 ((h x).1 (List.mem_cons_self ..)) with e | hx
   · exact e
   · rcases List.mem_cons.1 ((h y).2 (List.mem_cons_self ..)) with e | hy
     · exact e.symm
     · exact absurd (a1.1 y hy) (pth_asym (a2.1 x hx))
  subst hxy
  rw [rise_unique a1.2 a2.2 fun z => ?_]
  constructor
  · intro hz
    rcases List.mem_cons.1 ((h z).1 (List.mem_cons_of_mem _ hz)) with e | e
    · exact absurd (a1.1 z hz) (by rw [e]; exact List.lt_irrefl _)
    · exact e
  · intro hz
    rcases List.mem_cons.1 ((h z).2 (List.mem_cons_of_mem _ hz)) with e | e
    · exact absurd (a2.1 z hz) (by rw [e]; exact List.lt_irrefl _)
    · exact e
theorem rise_nodup {l : List Pth} (h : RiseP l) : l.Nodup := h.imp fun q e => by subst e; exact List.lt_irrefl _ q
end Go.Proofs.YteeeehfnldkjlaaGreatDoor
namespace Go.Proofs.YteeeehfnldkjlaaGreatDoor
theorem bestP_at (f : FileD) : ∀ (l : List FileD) (k : Nat) (b : Option (Nat × FileD)) (y : Nat × FileD), bestP f l k b = some y → b = some y ∨ ∃ i, y.1 = k + i ∧ l[i]? = some y.2 ∧ f.d = y.2.d
 | [], _, b, y, h => .inl h
 | g :: l, k, b, y, h => by
  unfold bestP at h
  rcases bestP_at f l (k + 1) _ y h with q | ⟨i, h1, h2, h3⟩
  · split at q
    · rename_i hc
      obtain rfl := Option.some.inj q
      exact .inr ⟨0, rfl, rfl, hc.1⟩
    · exact .inl q
  · exact .inr ⟨i + 1, by omega, by simpa using h2, h3⟩
theorem bestP_some {f : FileD} {l : List FileD} {y : Nat × FileD} (h : bestP f l 0 none = some y) : l[y.1]? = some y.2 ∧ f.d = y.2.d := by
 rcases bestP_at f l 0 none y h with q | ⟨i, h1, h2, h3⟩
 · cases q
 · rw [Nat.zero_add] at h1
   subst h1
   exact ⟨h2, h3⟩
theorem perm_eraseIdx {α : Type} : ∀ {l : List α} {i : Nat} {x : α}, l[i]? = some x → (x :: l.eraseIdx i).Perm l
 | [], i, x, h => by simp at h
 | a :: l, 0, x, h => by
  simp at h
  subst h
  exact List.Perm.refl _
 | a :: l, i + 1, x, h => by
  rw [List.eraseIdx_cons_succ]
  exact (List.Perm.swap a x _).trans ((perm_eraseIdx (by simpa using h)).cons a)
theorem exactP_perm : ∀ (gone rest : List FileD), ((exactP gone rest).1.map (·.old) ++ (exactP gone rest).2.1.map (·.p)).Perm (gone.map (·.p)) ∧ ((exactP gone rest).1.map (·.new) ++ (exactP gone rest).2.2.map (·.p)).Perm (rest.map (·.p))
 | [], rest => ⟨List.Perm.refl _, List.Perm.refl _⟩
 | f :: gone, rest => by
  unfold exactP
  cases hb : bestP f rest 0 none with
  | none =>
   obtain ⟨h1, h2⟩ := exactP_perm gone rest
   refine ⟨?_, h2⟩
   simp only [List.map_cons]
   exact List.perm_middle.trans (h1.cons f.p)
  | some y =>
   obtain ⟨q1, q2⟩ := bestP_some hb
   obtain ⟨h1, h2⟩ := exactP_perm gone (rest.eraseIdx y.1)
   refine ⟨by simpa using h1.cons f.p, ?_⟩
   simp only [List.map_cons, List.cons_append]
   exact (h2.cons y.2.p).trans (by simpa using (perm_eraseIdx q1).map (·.p))
theorem exactP_sub : ∀ (gone rest : List FileD), (exactP gone rest).2.1.Sublist gone ∧ (exactP gone rest).2.2.Sublist rest
 | [], rest => ⟨List.Sublist.refl _, List.Sublist.refl _⟩
 | f :: gone, rest => by
  unfold exactP
  cases hb : bestP f rest 0 none with
  | none => exact ⟨(exactP_sub gone rest).1.cons_cons f, (exactP_sub gone rest).2⟩
  | some y => exact ⟨(exactP_sub gone _).1.cons f, (exactP_sub gone _).2.trans (List.eraseIdx_sublist _ _)⟩
theorem exactP_data : ∀ (gone rest : List FileD) (x : PairD), x ∈ (exactP gone rest).1 → ∃ f ∈ gone, ∃ g ∈ rest, x = ⟨f.p, g.p, 100⟩ ∧ f.d = g.d
 | [], rest, x, h => by simp [exactP] at h
 | f :: gone, rest, x, h => by
  unfold exactP at h
  cases hb : bestP f rest 0 none with
  | none =>
   rw [hb] at h
   obtain ⟨f', h1, g, h2, h3⟩ := exactP_data gone rest x h
   exact ⟨f', List.mem_cons_of_mem _ h1, g, h2, h3⟩
  | some y =>
   rw [hb] at h
   obtain ⟨q1, q2⟩ := bestP_some hb
   rcases List.mem_cons.1 h with rfl | h
   · exact ⟨f, List.mem_cons_self .., y.2, List.mem_of_getElem? q1, rfl, q2⟩
   · obtain ⟨f', h1, g, h2, h3⟩ := exactP_data gone _ x h
     exact ⟨f', List.mem_cons_of_mem _ h1, g, (List.eraseIdx_sublist _ _).mem h2, h3⟩
theorem greedyP_from : ∀ (l : List LikD) (a b : List Pth) (x : PairD), x ∈ greedyP l a b → (∃ y ∈ l, x = ⟨y.old, y.new, y.sc⟩) ∧ x.old ∉ a ∧ x.new ∉ b
 | [], _, _, x, h => by simp [greedyP] at h
 | y :: l, a, b, x, h => by
  unfold greedyP at h
  split at h
  · obtain ⟨⟨z, h1, h2⟩, h3⟩ := greedyP_from l a b x h
    exact ⟨⟨z, List.mem_cons_of_mem _ h1, h2⟩, h3⟩
  · rename_i hn
    rw [not_or] at hn
    rcases List.mem_cons.1 h with rfl | h
    · exact ⟨⟨y, List.mem_cons_self .., rfl⟩, hn⟩
    · obtain ⟨⟨z, h1, h2⟩, h3, h4⟩ := greedyP_from l _ _ x h
      exact ⟨⟨z, List.mem_cons_of_mem _ h1, h2⟩, fun q => h3 (List.mem_cons_of_mem _ q), fun q => h4 (List.mem_cons_of_mem _ q)⟩
theorem greedyP_nodup : ∀ (l : List LikD) (a b : List Pth), ((greedyP l a b).map (·.old)).Nodup ∧ ((greedyP l a b).map (·.new)).Nodup
 | [], _, _ => by simp [greedyP]
 | y :: l, a, b => by
  unfold greedyP
  split
  · exact greedyP_nodup l a b
  · obtain ⟨h1, h2⟩ := greedyP_nodup l (y.old :: a) (y.new :: b)
    simp only [List.map_cons, List.nodup_cons]
    refine ⟨⟨fun q => ?_, h1⟩, ⟨fun q => ?_, h2⟩⟩
    · obtain ⟨x, hx, e⟩ := List.mem_map.1 q
      exact (greedyP_from l _ _ x hx).2.1 (by rw [e]; exact List.mem_cons_self ..)
    · obtain ⟨x, hx, e⟩ := List.mem_map.1 q
      exact (greedyP_from l _ _ x hx).2.2 (by rw [e]; exact List.mem_cons_self ..)
theorem likelyP_mem {gone come : List FileD} {y : LikD} (h : y ∈ likelyP gone come) : ∃ f ∈ gone, ∃ g ∈ come, y = ⟨f.p, g.p, scoreP f.d g.d, nearP f.p g.p⟩ ∧ 50 ≤ scoreP f.d g.d := by
 unfold likelyP at h
 split at h
 · obtain ⟨f, hf, h⟩ := List.mem_flatMap.1 h
   obtain ⟨g, hg, h⟩ := List.mem_filterMap.1 h
   split at h
   · exact ⟨f, hf, g, hg, (Option.some.inj h).symm, by assumption⟩
   · cases h
 · cases h
theorem mem_detectP {l : List ChangeD} {x : PairD} : x ∈ detectP l ↔ x ∈ (exactP (goneP l) (comeP l)).1 ∨ x ∈ greedyP (sortBy aheadP (likelyP (exactP (goneP l) (comeP l)).2.1 (exactP (goneP l) (comeP l)).2.2)) [] [] := by
 unfold detectP
 rw [mem_sortBy, List.mem_append]
theorem detectP_from {l : List ChangeD} {x : PairD} (h : x ∈ detectP l) : (∃ f ∈ goneP l, f.p = x.old) ∧ ∃ g ∈ comeP l, g.p = x.new := by
 rcases mem_detectP.1 h with h | h
 · obtain ⟨f, h1, g, h2, rfl, _⟩ := exactP_data _ _ x h
   exact ⟨⟨f, h1, rfl⟩, ⟨g, h2, rfl⟩⟩
 · obtain ⟨⟨y, hy, rfl⟩, _⟩ := greedyP_from _ _ _ x h
   obtain ⟨f, h1, g, h2, rfl, _⟩ := likelyP_mem (mem_sortBy.1 hy)
   exact ⟨⟨f, (exactP_sub _ _).1.mem h1, rfl⟩, ⟨g, (exactP_sub _ _).2.mem h2, rfl⟩⟩
theorem detectP_nodup {l : List ChangeD} (h1 : ((goneP l).map (·.p)).Nodup) (h2 : ((comeP l).map (·.p)).Nodup) : ((detectP l).map (·.old)).Nodup ∧ ((detectP l).map (·.new)).Nodup := by
 obtain ⟨q1, q2⟩ := exactP_perm (goneP l) (comeP l)
 have n1 := q1.nodup_iff.2 h1
 have n2 := q2.nodup_iff.2 h2
 rw [List.nodup_append] at n1 n2
 obtain ⟨g1, g2⟩ := greedyP_nodup (sortBy aheadP (likelyP (exactP (goneP l) (comeP l)).2.1 (exactP (goneP l) (comeP l)).2.2)) [] []
 have hf : ∀ x ∈ greedyP (sortBy aheadP (likelyP (exactP (goneP l) (comeP l)).2.1 (exactP (goneP l) (comeP l)).2.2)) [] [], x.old ∈ (exactP (goneP l) (comeP l)).2.1.map (·.p) ∧ x.new ∈ (exactP (goneP l) (comeP l)).2.2.map (·.p) := fun x hx => by
  obtain ⟨⟨y, hy, rfl⟩, _⟩ := greedyP_from _ _ _ x hx
  obtain ⟨f, h1, g, h2, rfl, _⟩ := likelyP_mem (mem_sortBy.1 hy)
  exact ⟨List.mem_map.2 ⟨f, h1, rfl⟩, List.mem_map.2 ⟨g, h2, rfl⟩⟩
 unfold detectP
 constructor
 · refine ((sortBy_perm _).map _).nodup_iff.2 ?_
   rw [List.map_append, List.nodup_append]
   refine ⟨n1.1, g1, fun a ha b hb => ?_⟩
   obtain ⟨x, hx, rfl⟩ := List.mem_map.1 hb
   exact n1.2.2 a ha _ (hf x hx).1
 · refine ((sortBy_perm _).map _).nodup_iff.2 ?_
   rw [List.map_append, List.nodup_append]
   refine ⟨n2.1, g2, fun a ha b hb => ?_⟩
   obtain ⟨x, hx, rfl⟩ := List.mem_map.1 hb
   exact n2.2.2 a ha _ (hf x hx).2
def Apt (l : List FileD) : Prop := (l.map (·.p)).Nodup
theorem find_apt {l : List FileD} (h : Apt l) {f : FileD} (hf : f ∈ l) : l.find? (fun g => g.p == f.p) = some f := by
 induction l with
 | nil => cases hf
 | cons a l ih =>
  unfold Apt at h
  rw [List.map_cons, List.nodup_cons] at h
  rw [List.find?_cons]
  rcases List.mem_cons.1 hf with rfl | hf
  · simp
  · have hne : (a.p == f.p) = false := beq_eq_false_iff_ne.2 fun e => h.1 (List.mem_map.2 ⟨f, hf, e.symm⟩)
    rw [hne]
    exact ih h.2 hf
theorem getF_mem {l : List FileD} (h : Apt l) {f : FileD} (hf : f ∈ l) : getF l f.p = f := by
 unfold getF
 rw [find_apt h hf]
 rfl
theorem hasF_iff {l : List FileD} {p : Pth} : hasF l p = true ↔ ∃ f ∈ l, f.p = p := by
 unfold hasF
 rw [List.any_eq_true]
 simp
theorem getF_none {l : List FileD} {p : Pth} (h : hasF l p = false) : getF l p = zeroF := by
 unfold getF
 have : l.find? (fun f => f.p == p) = none := by
  rw [List.find?_eq_none]
  intro x hx
  intro e
  have : hasF l p = true := hasF_iff.2 ⟨x, hx, by simpa using e⟩
  rw [h] at this
  cases this
 rw [this]
 rfl
theorem getF_has {l : List FileD} {p : Pth} (h : hasF l p = true) : getF l p ∈ l ∧ (getF l p).p = p := by
 obtain ⟨f, hf, e⟩ := hasF_iff.1 h
 unfold getF
 cases hq : l.find? (fun f => f.p == p) with
 | none =>
  rw [List.find?_eq_none] at hq
  exact absurd (by simpa using e) (hq f hf)
 | some g => exact ⟨List.mem_of_find?_eq_some hq, by simpa using List.find?_some hq⟩
end Go.Proofs.YteeeehfnldkjlaaGreatDoor
namespace Go.Proofs.YteeeehfnldkjlaaGreatDoor
def KindsOk (l : List FileD) : Prop := ∀ f ∈ l, f.k = 1 ∨ f.k = 2 ∨ f.k = 3
theorem mem_diffT {a b : List FileD} {c : ChangeD} : c ∈ diffT a b ↔ ∃ p, (hasF a p = true ∨ hasF b p = true) ∧ c = ⟨getF a p, getF b p⟩ ∧ ((getF a p).k ≠ (getF b p).k ∨ (getF a p).d ≠ (getF b p).d) := by
 unfold diffT
 rw [List.mem_filterMap]
 constructor
 · rintro ⟨p, hp, h⟩
   rw [mem_keysP, List.mem_append] at hp
   refine ⟨p, ?_, ?_⟩
   · rcases hp with q | q
     · obtain ⟨f, h1, h2⟩ := List.mem_map.1 q
       exact .inl (hasF_iff.2 ⟨f, h1, h2⟩)
     · obtain ⟨f, h1, h2⟩ := List.mem_map.1 q
       exact .inr (hasF_iff.2 ⟨f, h1, h2⟩)
   · unfold changeP at h
     split at h
     · rename_i q
       exact ⟨(Option.some.inj h).symm, q⟩
     · cases h
 · rintro ⟨p, hp, rfl, h⟩
   refine ⟨p, ?_, by unfold changeP; rw [if_pos h]⟩
   rw [mem_keysP, List.mem_append]
   rcases hp with q | q
   · obtain ⟨f, h1, h2⟩ := hasF_iff.1 q
     exact .inl (List.mem_map.2 ⟨f, h1, h2⟩)
   · obtain ⟨f, h1, h2⟩ := hasF_iff.1 q
     exact .inr (List.mem_map.2 ⟨f, h1, h2⟩)
theorem kind_has {l : List FileD} (hk : KindsOk l) {p : Pth} (h : hasF l p = true) : (getF l p).k ≠ 0 := by
 have := hk _ (getF_has h).1
 omega
theorem kind_zero {l : List FileD} (hk : KindsOk l) {p : Pth} : (getF l p).k = 0 ↔ hasF l p = false := by
 constructor
 · intro h
   cases q : hasF l p with
   | false => rfl
   | true => exact absurd h (kind_has hk q)
 · intro h
   rw [getF_none h]
   rfl
theorem mem_goneP {a b : List FileD} (ha : Apt a) (hka : KindsOk a) (hkb : KindsOk b) {f : FileD} : f ∈ goneP (diffT a b) ↔ f ∈ a ∧ hasF b f.p = false ∧ countsP f = true := by
 unfold goneP
 rw [List.mem_filterMap]
 constructor
 · rintro ⟨c, hc, h⟩
   obtain ⟨p, hp, rfl, hd⟩ := mem_diffT.1 hc
   simp only at h
   split at h
   · rename_i q
     have h := Option.some.inj h
     have hb := (kind_zero hkb).1 q.1
     have ha' : hasF a p = true := by
      rcases hp with r | r
      · exact r
      · rw [hb] at r; cases r
     obtain ⟨h1, h2⟩ := getF_has ha'
     rw [h] at h1 h2
     rw [h] at q
     exact ⟨h1, by rw [h2]; exact hb, q.2⟩
   · cases h
 · rintro ⟨h1, h2, h3⟩
   refine ⟨⟨getF a f.p, getF b f.p⟩, mem_diffT.2 ⟨f.p, .inl (hasF_iff.2 ⟨f, h1, rfl⟩), rfl, .inl ?_⟩, ?_⟩
   · rw [getF_mem ha h1, getF_none h2]
     have := hka f h1
     show f.k ≠ 0
     omega
   · simp only [getF_mem ha h1, getF_none h2]
     rw [if_pos ⟨rfl, h3⟩]
theorem countsP_kind {f : FileD} (h : countsP f = true) : f.k ≠ 0 := by
 unfold countsP at h
 simp only [Bool.and_eq_true, Bool.or_eq_true, beq_iff_eq] at h
 omega
theorem mem_comeP {a b : List FileD} (hb : Apt b) (hka : KindsOk a) (hkb : KindsOk b) {f : FileD} : f ∈ comeP (diffT a b) ↔ f ∈ b ∧ hasF a f.p = false ∧ countsP f = true := by
 unfold comeP
 rw [List.mem_filterMap]
 constructor
 · rintro ⟨c, hc, h⟩
   obtain ⟨p, hp, rfl, hd⟩ := mem_diffT.1 hc
   simp only at h
   split at h
   · cases h
   · split at h
     · rename_i q
       have h := Option.some.inj h
       have ha' := (kind_zero hka).1 q.1
       have hb' : hasF b p = true := by
        rcases hp with r | r
        · rw [ha'] at r; cases r
        · exact r
       obtain ⟨h1, h2⟩ := getF_has hb'
       rw [h] at h1 h2
       rw [h] at q
       exact ⟨h1, by rw [h2]; exact ha', q.2⟩
     · cases h
 · rintro ⟨h1, h2, h3⟩
   refine ⟨⟨getF a f.p, getF b f.p⟩, mem_diffT.2 ⟨f.p, .inr (hasF_iff.2 ⟨f, h1, rfl⟩), rfl, .inl ?_⟩, ?_⟩
   · rw [getF_mem hb h1, getF_none h2]
     have := hkb f h1
     show 0 ≠ f.k
     omega
   · simp only [getF_mem hb h1, getF_none h2]
     rw [if_neg (fun q => by have := countsP_kind h3; exact this q.1), if_pos ⟨rfl, h3⟩]
theorem sub_map_filterMap {α β : Type} (f : α → Option β) (g : β → α) (h : ∀ x y, f x = some y → g y = x) : ∀ l : List α, ((l.filterMap f).map g).Sublist l
 | [] => List.Sublist.refl _
 | x :: l => by
  rw [List.filterMap_cons]
  cases hq : f x with
  | none => exact (sub_map_filterMap f g h l).cons _
  | some y =>
   rw [List.map_cons, h x y hq]
   exact (sub_map_filterMap f g h l).cons_cons _
def pathC (c : ChangeD) : Pth := if c.old.k = 0 then c.new.p else c.old.p
theorem diffT_rise {a b : List FileD} (hka : KindsOk a) : RiseP ((diffT a b).map pathC) := by
 have hsub : ((diffT a b).map pathC).Sublist (keysP (a.map (·.p) ++ b.map (·.p))) := by
  unfold diffT
  refine sub_map_filterMap _ _ (fun p c h => ?_) _
  unfold changeP at h
  split at h
  · rename_i hd
    obtain rfl := Option.some.inj h
    unfold pathC
    simp only
    by_cases q : hasF a p = true
    · rw [if_neg (kind_has hka q)]
      exact (getF_has q).2
    · have q := Bool.eq_false_iff.2 q
      rw [if_pos ((kind_zero hka).2 q)]
      by_cases r : hasF b p = true
      · exact (getF_has r).2
      · have r := Bool.eq_false_iff.2 r
        rw [getF_none q, getF_none r] at hd
        simp at hd
  · cases h
 exact List.Pairwise.sublist hsub (keysP_rise _)
theorem gone_sub (l : List ChangeD) : ((goneP l).map (·.p)).Sublist (l.map pathC) := by
 induction l with
 | nil => exact List.Sublist.refl _
 | cons c l ih =>
  unfold goneP at ih ⊢
  rw [List.filterMap_cons]
  split
  · exact ih.cons _
  · rename_i f hf
    split at hf
    · rename_i q
      obtain rfl := Option.some.inj hf
      rw [List.map_cons, List.map_cons]
      have : pathC c = c.old.p := by
       unfold pathC
       rw [if_neg (countsP_kind q.2)]
      rw [this]
      exact ih.cons_cons _
    · cases hf
theorem come_sub (l : List ChangeD) : ((comeP l).map (·.p)).Sublist (l.map pathC) := by
 induction l with
 | nil => exact List.Sublist.refl _
 | cons c l ih =>
  unfold comeP at ih ⊢
  rw [List.filterMap_cons]
  split
  · exact ih.cons _
  · rename_i f hf
    split at hf
    · cases hf
    · split at hf
      · rename_i q
        obtain rfl := Option.some.inj hf
        rw [List.map_cons, List.map_cons]
        have : pathC c = c.new.p := by
         unfold pathC
         rw [if_pos q.1]
        rw [this]
        exact ih.cons_cons _
      · cases hf
structure PairsOf (base l : List FileD) (ps : List PairD) : Prop where
 old : ∀ x ∈ ps, hasF base x.old = true ∧ hasF l x.old = false
 new : ∀ x ∈ ps, hasF l x.new = true ∧ hasF base x.new = false
 olds : (ps.map (·.old)).Nodup
 news : (ps.map (·.new)).Nodup
theorem detect_of {base l : List FileD} (hb : Apt base) (hl : Apt l) (hkb : KindsOk base) (hkl : KindsOk l) : PairsOf base l (detectP (diffT base l)) := by
 have hr := diffT_rise (b := l) hkb
 have n1 := (rise_nodup hr).sublist (gone_sub (diffT base l))
 have n2 := (rise_nodup hr).sublist (come_sub (diffT base l))
 obtain ⟨q1, q2⟩ := detectP_nodup n1 n2
 refine ⟨fun x hx => ?_, fun x hx => ?_, q1, q2⟩
 · obtain ⟨⟨f, h1, h2⟩, _⟩ := detectP_from hx
   obtain ⟨r1, r2, _⟩ := (mem_goneP hb hkb hkl).1 h1
   rw [← h2]
   exact ⟨hasF_iff.2 ⟨f, r1, rfl⟩, r2⟩
 · obtain ⟨_, f, h1, h2⟩ := detectP_from hx
   obtain ⟨r1, r2, _⟩ := (mem_comeP hl hkb hkl).1 h1
   rw [← h2]
   exact ⟨hasF_iff.2 ⟨f, r1, rfl⟩, r2⟩
end Go.Proofs.YteeeehfnldkjlaaGreatDoor
namespace Go.Proofs.YteeeehfnldkjlaaGreatDoor
open Go.RowKit Go.Maps Go.Sort Go.Shelf
theorem owns_texts {w : World} {b n : Nat} {D : DataW Value} (h : w.ownsMap Tryz.prog 9 heldE b n D) : ∃ E, D = .map E ∧ ∀ p ∈ E, ∃ s, p.1 = keyS s := by
 obtain ⟨es, clock, _, F, _, rfl⟩ := h
 refine ⟨_, rfl, fun p hp => ?_⟩
 obtain ⟨v, hv⟩ := fit_keys F p (mem_sorted.1 hp)
 obtain ⟨s, _, hs⟩ := key_text hv
 exact ⟨s, hs⟩
theorem VM.keys {w : World} {b n : Nat} {f : Mp} {D : DataW Value} (h1 : w.ownsMap Tryz.prog 9 heldE b n D) (h3 : DatM D f) : (strKeys D).Nodup ∧ ∀ s, s ∈ strKeys D ↔ (f s).isSome = true := by
 obtain ⟨E, rfl, hE⟩ := owns_texts h1
 obtain ⟨E', e, hp⟩ := h3.1
 injection e with e
 subst e
 constructor
 · unfold strKeys
   rw [List.nodup_iff_pairwise_ne, List.pairwise_map]
   refine List.Pairwise.imp_of_mem (fun {p q} hp' hq' hne e => ?_) hp
   obtain ⟨s, hs⟩ := hE p hp'
   obtain ⟨t, ht⟩ := hE q hq'
   rw [hs, ht] at hne e
   exact hne (by rw [show s = t from e])
 · intro s
   rw [← h3.has s]
   unfold strKeys
   rw [List.mem_map, has_eq, List.any_eq_true]
   constructor
   · rintro ⟨p, hp', e⟩
     obtain ⟨t, ht⟩ := hE p hp'
     refine ⟨p, hp', ?_⟩
     rw [ht] at e ⊢
     rw [keyS_same, decide_eq_true_eq]
     exact e
   · rintro ⟨p, hp', e⟩
     obtain ⟨t, ht⟩ := hE p hp'
     refine ⟨p, hp', ?_⟩
     rw [ht] at e ⊢
     rw [keyS_same, decide_eq_true_eq] at e
     exact e
theorem merge_rise {l : List Pth} (h : l.Nodup) : RiseP (l.mergeSort fun x y => decide (x ≤ y)) := by
 have hs := List.pairwise_mergeSort (le := fun x y : Pth => decide (x ≤ y)) (fun a b c h1 h2 => by
  simp only [decide_eq_true_eq] at *
  exact List.le_trans h1 h2) (fun a b => by
  simp only [Bool.or_eq_true, decide_eq_true_eq]
  exact List.le_total a b) l
 have hn : (l.mergeSort fun x y => decide (x ≤ y)).Nodup := (List.mergeSort_perm l _).nodup_iff.2 h
 refine List.Pairwise.imp₂ (fun a b h1 h2 => ?_) hs hn
 simp only [decide_eq_true_eq] at h1
 rcases pth_tri a b with q | q | q
 · exact q
 · exact absurd q h2
 · exact absurd q (List.not_lt.2 h1)
theorem sorts_any (m : Nat) : AnyZ.SortsIn Tryz.prog Tryz.sortedS_ren Fence.wide m :=
 ⟨fun blk off cap ss W hH hblk hsz => callsIn_wide.2 (AnyM.slices_Sort_string Tryz.sortS blk off cap ss W hH hblk hsz), fun p cap W => callsIn_wide.2 (AnyM.slices_Sort_string_none Tryz.sortS p cap W)⟩
theorem keysC_any (mb : Option Nat) (W : World) : Calls Tryz.prog 108 #[.map mb] W fun e w' => e = .returned (.func (.func 140) #[] #[.pointer (some ⟨W.heap.size, 0, none⟩)]) ∧ w' = W.alloc (.cells #[.map mb] 153) :=
 callsIn_wide.1 (AnyZ.keys_in Tryz.keysC Fence.wide 5 trivial rfl mb W)
theorem keysI_any (mb : Option Nat) (W : World) : Calls Tryz.prog 75 #[.map mb] W fun e w' => e = .returned (.func (.func 115) #[] #[.pointer (some ⟨W.heap.size, 0, none⟩)]) ∧ w' = W.alloc (.cells #[.map mb] 103) :=
 callsIn_wide.1 (AnyZ.keys_in Tryz.keysI Fence.wide 5 trivial rfl mb W)
def SortedPost (f : Mp) (B : Nat) (w : World) (e : Ending) (w' : World) : Prop := ∃ (ks : List Pth) (A : Option Addr) (c : Nat), e = .returned (.slice A ks.length c) ∧ RiseP ks ∧ (∀ s, s ∈ ks ↔ (f s).isSome = true) ∧ Own w' B 9 1 A ks.length c (strL ks) ∧ Below B w w'
theorem sorted_post {w w' : World} {B n b : Nat} {f : Mp} {D : DataW Value} {e : Ending} (h1 : w.ownsMap Tryz.prog 9 heldE b n D) (h3 : DatM D f) {w0 : World} (h : ∃ (v : Value) (ss : List (List UInt8)), e = .returned v ∧ ss.Perm (strKeys D) ∧ w'.ownsRow B 9 1 v ss.length ((ss.mergeSort (fun x y => decide (x ≤ y))).map encStr) ∧ (v = .slice none 0 0 ↔ ss = []) ∧ Below B w0 w') : SortedPost f B w0 e w' := by
 obtain ⟨v, ss, rfl, hp, hrow, _, hb⟩ := h
 obtain ⟨q1, q2⟩ := VM.keys h1 h3
 obtain ⟨A, c, rfl⟩ := slice_of_own hrow
 have hlen : (ss.mergeSort fun x y => decide (x ≤ y)).length = ss.length := List.length_mergeSort ss
 refine ⟨ss.mergeSort fun x y => decide (x ≤ y), A, c, by rw [hlen], merge_rise (hp.nodup_iff.2 q1), fun s => ?_, ?_, hb⟩
 · rw [← q2, List.mem_mergeSort]
   exact hp.mem_iff
 · unfold Own
   rw [hlen]
   exact hrow
set_option maxHeartbeats 1000000 in
theorem sortedC_any {w : World} {b n : Nat} {f : Mp} (h : VM w b n f) (hn : n ≤ 100000000) : Calls Tryz.prog 74 #[.func (.func 140) #[] #[.pointer (some ⟨w.heap.size, 0, none⟩)]] (w.alloc (.cells #[.map (some b)] 153)) (SortedPost f (w.alloc (.cells #[.map (some b)] 153)).heap.size (w.alloc (.cells #[.map (some b)] 153))) := by
 obtain ⟨D, hown, hsz, hd⟩ := h
 have hbl := hown.lt
 have hmax : Maps.size D ≤ maxLen := by rw [hsz]; unfold maxLen; omega
 have hbytes : Maps.size D * 16 ≤ 140737488355328 := by rw [hsz]; omega
 have hseq : SeqGives Fence.wide 2 Tryz.prog 140 #[.pointer (some ⟨w.heap.size, 0, none⟩)] encStr (fun ss => ss.Perm (strKeys D)) (Maps.size D) (w.alloc (.cells #[.map (some b)] 153)) :=
  AnyZ.keys_gives (ρ := Tryz.keysC_ren) { Tryz.keysC with } Fence.wide _ trivial rfl (by omega) w.heap.size b n D _ (by simp) (by simp) (by
   obtain ⟨es, clock, hb, Ft, hs, hD⟩ := hown
   exact ⟨es, clock, (Below.heap_alloc _ _ b hbl).trans hb, Ft, hs, hD⟩)
 have hcon := AnyZ.sorted_in Tryz.sortedS Fence.wide 5 trivial trivial trivial trivial rfl (by omega) (sorts_any _) (enters_of Tryz.func114 (by kernel_rfl) rfl) 140 #[.pointer (some ⟨w.heap.size, 0, none⟩)] trivial (enters_of Tryz.func140 (by kernel_rfl) rfl) _ _ hmax hbytes _ hseq
 refine (callsIn_wide.1 hcon).mono fun e w' hq => ?_
 exact sorted_post (w0 := w.alloc (.cells #[.map (some b)] 153)) hown hd hq
set_option maxHeartbeats 1000000 in
theorem sortedI_any {w : World} {b n : Nat} {f : Mp} (h : VM w b n f) (hn : n ≤ 100000000) : Calls Tryz.prog 74 #[.func (.func 115) #[] #[.pointer (some ⟨w.heap.size, 0, none⟩)]] (w.alloc (.cells #[.map (some b)] 103)) (SortedPost f (w.alloc (.cells #[.map (some b)] 103)).heap.size (w.alloc (.cells #[.map (some b)] 103))) := by
 obtain ⟨D, hown, hsz, hd⟩ := h
 have hbl := hown.lt
 have hmax : Maps.size D ≤ maxLen := by rw [hsz]; unfold maxLen; omega
 have hbytes : Maps.size D * 16 ≤ 140737488355328 := by rw [hsz]; omega
 have hseq : SeqGives Fence.wide 2 Tryz.prog 115 #[.pointer (some ⟨w.heap.size, 0, none⟩)] encStr (fun ss => ss.Perm (strKeys D)) (Maps.size D) (w.alloc (.cells #[.map (some b)] 103)) :=
  AnyZ.keys_gives (ρ := Tryz.keysI_ren) { Tryz.keysI with } Fence.wide _ trivial rfl (by omega) w.heap.size b n D _ (by simp) (by simp) (by
   obtain ⟨es, clock, hb, Ft, hs, hD⟩ := hown
   exact ⟨es, clock, (Below.heap_alloc _ _ b hbl).trans hb, Ft, hs, hD⟩)
 have hcon := AnyZ.sorted_in Tryz.sortedS Fence.wide 5 trivial trivial trivial trivial rfl (by omega) (sorts_any _) (enters_of Tryz.func114 (by kernel_rfl) rfl) 115 #[.pointer (some ⟨w.heap.size, 0, none⟩)] trivial (enters_of Tryz.func115 (by kernel_rfl) rfl) _ _ hmax hbytes _ hseq
 refine (callsIn_wide.1 hcon).mono fun e w' hq => ?_
 exact sorted_post (w0 := w.alloc (.cells #[.map (some b)] 103)) hown hd hq
end Go.Proofs.YteeeehfnldkjlaaGreatDoor
