/- Contract of tree.file. No statement of the seat is proved here. -/
import Derived.Test.YtbaapjlmpmpocaaGreatDoorDT16
import Derived.Test.YtbaapjlmpmpocaaGreatDoorDT08
import Derived.Test.YtbaapjlmpmpocaaGreatDoorDT07
import Derived.Lib.SplitLaws
import Derived.Test.YtbaapjlmpmpocaaGreatDoorDT06
namespace Go.Proofs.YtbaapjlmpmpocaaGreatDoor
theorem bestP_at (f : FileD) : ∀ (l : List FileD) (k : Nat) (b : Option (Nat × FileD)) (y : Nat × FileD), bestP f l k b = some y → b = some y ∨ ∃ i, y.1 = k + i ∧ l[i]? = some y.2 ∧ f.d = y.2.d
 | [], _, b, y, h => .inl h
 | g :: l, k, b, y, h => by
  unfold bestP at h
  rcases bestP_at f l (k + 1) _ y h with q | ⟨i, h1, h2, h3⟩
  · split at q
    · rename_i hc
      obtain rfl := Option.some.inj q
      exact .inr ⟨0, rfl, rfl, hc.1⟩
    · exact .inl q
  · exact .inr ⟨i + 1, by omega, by simpa using h2, h3⟩
theorem bestP_some {f : FileD} {l : List FileD} {y : Nat × FileD} (h : bestP f l 0 none = some y) : l[y.1]? = some y.2 ∧ f.d = y.2.d := by
 rcases bestP_at f l 0 none y h with q | ⟨i, h1, h2, h3⟩
 · cases q
 · rw [Nat.zero_add] at h1
   subst h1
   exact ⟨h2, h3⟩
theorem perm_eraseIdx {α : Type} : ∀ {l : List α} {i : Nat} {x : α}, l[i]? = some x → (x :: l.eraseIdx i).Perm l
 | [], i, x, h => by simp at h
 | a :: l, 0, x, h => by
  simp at h
  subst h
  exact List.Perm.refl _
 | a :: l, i + 1, x, h => by
  rw [List.eraseIdx_cons_succ]
  exact (List.Perm.swap a x _).trans ((perm_eraseIdx (by simpa using h)).cons a)
theorem exactP_perm : ∀ (gone rest : List FileD), ((exactP gone rest).1.map (·.old) ++ (exactP gone rest).2.1.map (·.p)).Perm (gone.map (·.p)) ∧ ((exactP gone rest).1.map (·.new) ++ (exactP gone rest).2.2.map (·.p)).Perm (rest.map (·.p))
 | [], rest => ⟨List.Perm.refl _, List.Perm.refl _⟩
 | f :: gone, rest => by
  unfold exactP
  cases hb : bestP f rest 0 none with
  | none =>
   obtain ⟨h1, h2⟩ := exactP_perm gone rest
   refine ⟨?_, h2⟩
   simp only [List.map_cons]
   exact List.perm_middle.trans (h1.cons f.p)
  | some y =>
   obtain ⟨q1, q2⟩ := bestP_some hb
   obtain ⟨h1, h2⟩ := exactP_perm gone (rest.eraseIdx y.1)
   refine ⟨by simpa using h1.cons f.p, ?_⟩
   simp only [List.map_cons, List.cons_append]
   exact (h2.cons y.2.p).trans (by simpa using (perm_eraseIdx q1).map (·.p))
theorem exactP_sub : ∀ (gone rest : List FileD), (exactP gone rest).2.1.Sublist gone ∧ (exactP gone rest).2.2.Sublist rest
 | [], rest => ⟨List.Sublist.refl _, List.Sublist.refl _⟩
 | f :: gone, rest => by
  unfold exactP
  cases hb : bestP f rest 0 none with
  | none => exact ⟨(exactP_sub gone rest).1.cons_cons f, (exactP_sub gone rest).2⟩
  | some y => exact ⟨(exactP_sub gone _).1.cons f, (exactP_sub gone _).2.trans (List.eraseIdx_sublist _ _)⟩
theorem exactP_data : ∀ (gone rest : List FileD) (x : PairD), x ∈ (exactP gone rest).1 → ∃ f ∈ gone, ∃ g ∈ rest, x = ⟨f.p, g.p, 100⟩ ∧ f.d = g.d
 | [], rest, x, h => by simp [exactP] at h
 | f :: gone, rest, x, h => by
  unfold exactP at h
  cases hb : bestP f rest 0 none with
  | none =>
   rw [hb] at h
   obtain ⟨f', h1, g, h2, h3⟩ := exactP_data gone rest x h
   exact ⟨f', List.mem_cons_of_mem _ h1, g, h2, h3⟩
  | some y =>
   rw [hb] at h
   obtain ⟨q1, q2⟩ := bestP_some hb
   rcases List.mem_cons.1 h with rfl | h
   · exact ⟨f, List.mem_cons_self .., y.2, List.mem_of_getElem? q1, rfl, q2⟩
   · obtain ⟨f', h1, g, h2, h3⟩ := exactP_data gone _ x h
     exact ⟨f', List.mem_cons_of_mem _ h1, g, (List.eraseIdx_sublist _ _).mem h2, h3⟩
theorem greedyP_from : ∀ (l : List LikD) (a b : List Pth) (x : PairD), x ∈ greedyP l a b → (∃ y ∈ l, x = ⟨y.old, y.new, y.sc⟩) ∧ x.old ∉ a ∧ x.new ∉ b
 | [], _, _, x, h => by simp [greedyP] at h
 | y :: l, a, b, x, h => by
  unfold greedyP at h
  split at h
  · obtain ⟨⟨z, h1, h2⟩, h3⟩ := greedyP_from l a b x h
    exact ⟨⟨z, List.mem_cons_of_mem _ h1, h2⟩, h3⟩
  · rename_i hn
    rw [not_or] at hn
    rcases List.mem_cons.1 h with rfl | h
    · exact ⟨⟨y, List.mem_cons_self .., rfl⟩, hn⟩
    · obtain ⟨⟨z, h1, h2⟩, h3, h4⟩ := greedyP_from l _ _ x h
      exact ⟨⟨z, List.mem_cons_of_mem _ h1, h2⟩, fun q => h3 (List.mem_cons_of_mem _ q), fun q => h4 (List.mem_cons_of_mem _ q)⟩
theorem greedyP_nodup : ∀ (l : List LikD) (a b : List Pth), ((greedyP l a b).map (·.old)).Nodup ∧ ((greedyP l a b).map (·.new)).Nodup
 | [], _, _ => by simp [greedyP]
 | y :: l, a, b => by
  unfold greedyP
  split
  · exact greedyP_nodup l a b
  · obtain ⟨h1, h2⟩ := greedyP_nodup l (y.old :: a) (y.new :: b)
    simp only [List.map_cons, List.nodup_cons]
    refine ⟨⟨fun q => ?_, h1⟩, ⟨fun q => ?_, h2⟩⟩
    · obtain ⟨x, hx, e⟩ := List.mem_map.1 q
      exact (greedyP_from l _ _ x hx).2.1 (by rw [e]; exact List.mem_cons_self ..)
    · obtain ⟨x, hx, e⟩ := List.mem_map.1 q
      exact (greedyP_from l _ _ x hx).2.2 (by rw [e]; exact List.mem_cons_self ..)
theorem likelyP_mem {gone come : List FileD} {y : LikD} (h : y ∈ likelyP gone come) : ∃ f ∈ gone, ∃ g ∈ come, y = ⟨f.p, g.p, scoreP f.d g.d, nearP f.p g.p⟩ ∧ 50 ≤ scoreP f.d g.d := by
 unfold likelyP at h
 split at h
 · obtain ⟨f, hf, h⟩ := List.mem_flatMap.1 h
   obtain ⟨g, hg, h⟩ := List.mem_filterMap.1 h
   split at h
   · exact ⟨f, hf, g, hg, (Option.some.inj h).symm, by assumption⟩
   · cases h
 · cases h
theorem mem_detectP {l : List ChangeD} {x : PairD} : x ∈ detectP l ↔ x ∈ (exactP (goneP l) (comeP l)).1 ∨ x ∈ greedyP (sortBy aheadP (likelyP (exactP (goneP l) (comeP l)).2.1 (exactP (goneP l) (comeP l)).2.2)) [] [] := by
 unfold detectP
 rw [mem_sortBy, List.mem_append]
theorem detectP_from {l : List ChangeD} {x : PairD} (h : x ∈ detectP l) : (∃ f ∈ goneP l, f.p = x.old) ∧ ∃ g ∈ comeP l, g.p = x.new := by
 rcases mem_detectP.1 h with h | h
 · obtain ⟨f, h1, g, h2, rfl, _⟩ := exactP_data _ _ x h
   exact ⟨⟨f, h1, rfl⟩, ⟨g, h2, rfl⟩⟩
 · obtain ⟨⟨y, hy, rfl⟩, _⟩ := greedyP_from _ _ _ x h
   obtain ⟨f, h1, g, h2, rfl, _⟩ := likelyP_mem (mem_sortBy.1 hy)
   exact ⟨⟨f, (exactP_sub _ _).1.mem h1, rfl⟩, ⟨g, (exactP_sub _ _).2.mem h2, rfl⟩⟩
theorem detectP_nodup {l : List ChangeD} (h1 : ((goneP l).map (·.p)).Nodup) (h2 : ((comeP l).map (·.p)).Nodup) : ((detectP l).map (·.old)).Nodup ∧ ((detectP l).map (·.new)).Nodup := by
 obtain ⟨q1, q2⟩ := exactP_perm (goneP l) (comeP l)
 have n1 := q1.nodup_iff.2 h1
 have n2 := q2.nodup_iff.2 h2
 rw [List.nodup_append] at n1 n2
 obtain ⟨g1, g2⟩ := greedyP_nodup (sortBy aheadP (likelyP (exactP (goneP l) (comeP l)).2.1 (exactP (goneP l) (comeP l)).2.2)) [] []
 have hf : ∀ x ∈ greedyP (sortBy aheadP (likelyP (exactP (goneP l) (comeP l)).2.1 (exactP (goneP l) (comeP l)).2.2)) [] [], x.old ∈ (exactP (goneP l) (comeP l)).2.1.map (·.p) ∧ x.new ∈ (exactP (goneP l) (comeP l)).2.2.map (·.p) := fun x hx => by
  obtain ⟨⟨y, hy, rfl⟩, _⟩ := greedyP_from _ _ _ x hx
  obtain ⟨f, h1, g, h2, rfl, _⟩ := likelyP_mem (mem_sortBy.1 hy)
  exact ⟨List.mem_map.2 ⟨f, h1, rfl⟩, List.mem_map.2 ⟨g, h2, rfl⟩⟩
 unfold detectP
 constructor
 · refine ((sortBy_perm _).map _).nodup_iff.2 ?_
   rw [List.map_append, List.nodup_append]
   refine ⟨n1.1, g1, fun a ha b hb => ?_⟩
   obtain ⟨x, hx, rfl⟩ := List.mem_map.1 hb
   exact n1.2.2 a ha _ (hf x hx).1
 · refine ((sortBy_perm _).map _).nodup_iff.2 ?_
   rw [List.map_append, List.nodup_append]
   refine ⟨n2.1, g2, fun a ha b hb => ?_⟩
   obtain ⟨x, hx, rfl⟩ := List.mem_map.1 hb
   exact n2.2.2 a ha _ (hf x hx).2
def Apt (l : List FileD) : Prop := (l.map (·.p)).Nodup
theorem find_apt {l : List FileD} (h : Apt l) {f : FileD} (hf : f ∈ l) : l.find? (fun g => g.p == f.p) = some f := by
 induction l with
 | nil => cases hf
 | cons a l ih =>
  unfold Apt at h
  rw [List.map_cons, List.nodup_cons] at h
  rw [List.find?_cons]
  rcases List.mem_cons.1 hf with rfl | hf
  · simp
  · have hne : (a.p == f.p) = false := beq_eq_false_iff_ne.2 fun e => h.1 (List.mem_map.2 ⟨f, hf, e.symm⟩)
    rw [hne]
    exact ih h.2 hf
theorem getF_mem {l : List FileD} (h : Apt l) {f : FileD} (hf : f ∈ l) : getF l f.p = f := by
 unfold getF
 rw [find_apt h hf]
 rfl
theorem hasF_iff {l : List FileD} {p : Pth} : hasF l p = true ↔ ∃ f ∈ l, f.p = p := by
 unfold hasF
 rw [List.any_eq_true]
 simp
theorem getF_none {l : List FileD} {p : Pth} (h : hasF l p = false) : getF l p = zeroF := by
 unfold getF
 have : l.find? (fun f => f.p == p) = none := by
  rw [List.find?_eq_none]
  intro x hx
  intro e
  have : hasF l p = true := hasF_iff.2 ⟨x, hx, by simpa using e⟩
  rw [h] at this
  cases this
 rw [this]
 rfl
theorem getF_has {l : List FileD} {p : Pth} (h : hasF l p = true) : getF l p ∈ l ∧ (getF l p).p = p := by
 obtain ⟨f, hf, e⟩ := hasF_iff.1 h
 unfold getF
 cases hq : l.find? (fun f => f.p == p) with
 | none =>
  rw [List.find?_eq_none] at hq
  exact absurd (by simpa using e) (hq f hf)
 | some g => exact ⟨List.mem_of_find?_eq_some hq, by simpa using List.find?_some hq⟩
end Go.Proofs.YtbaapjlmpmpocaaGreatDoor
namespace Go.Proofs.YtbaapjlmpmpocaaGreatDoor
def KindsOk (l : List FileD) : Prop := ∀ f ∈ l, f.k = 1 ∨ f.k = 2 ∨ f.k = 3
end Go.Proofs.YtbaapjlmpmpocaaGreatDoor
namespace Go.Proofs.YtbaapjlmpmpocaaGreatDoor
theorem dirsFrom_mem {d : Pth} : ∀ {b cur : Pth}, d ∈ dirsFrom cur b ↔ ∃ x y, b = x ++ 47 :: y ∧ d = cur ++ x
 | [], cur => by simp [dirsFrom]
 | c :: b, cur => by
  have ih := dirsFrom_mem (d := d) (b := b) (cur := cur ++ [c])
  unfold dirsFrom
  split
  · rename_i h
    subst h
    rw [List.mem_cons, ih]
    constructor
    · rintro (rfl | ⟨x, y, h1, h2⟩)
      · exact ⟨[], b, rfl, by simp⟩
      · exact ⟨47 :: x, y, by rw [h1]; rfl, by rw [h2]; simp⟩
    · rintro ⟨x, y, h1, h2⟩
      cases x with
      | nil => exact .inl (by simpa using h2)
      | cons a x =>
       simp only [List.cons_append, List.cons.injEq] at h1
       exact .inr ⟨x, y, h1.2, by rw [h2, ← h1.1]; simp⟩
  · rename_i hc
    rw [ih]
    constructor
    · rintro ⟨x, y, h1, h2⟩
      exact ⟨c :: x, y, by rw [h1]; rfl, by rw [h2]; simp⟩
    · rintro ⟨x, y, h1, h2⟩
      cases x with
      | nil => simp at h1; exact absurd h1.1 hc
      | cons a x =>
       simp only [List.cons_append, List.cons.injEq] at h1
       exact ⟨x, y, h1.2, by rw [h2, ← h1.1]; simp⟩
theorem mem_dirsP {d p : Pth} : d ∈ dirsP p ↔ ∃ q, p = d ++ 47 :: q := by
 unfold dirsP
 rw [dirsFrom_mem]
 constructor
 · rintro ⟨x, y, h1, h2⟩
   exact ⟨y, by rw [h1, h2]; rfl⟩
 · rintro ⟨q, h⟩
   exact ⟨d, q, h, rfl⟩
theorem lt_append (a : Pth) (x : UInt8) (q : Pth) : a < a ++ x :: q := by
 induction a with
 | nil => exact List.nil_lt_cons ..
 | cons c a ih => rw [List.cons_append, List.cons_lt_cons_iff]; exact .inr ⟨rfl, ih⟩
theorem dirsP_lt {d p : Pth} (h : d ∈ dirsP p) : d < p := by
 obtain ⟨q, rfl⟩ := mem_dirsP.1 h
 exact lt_append d 47 q
theorem dirsP_trans {a b c : Pth} (h : a ∈ dirsP b) (k : b ∈ dirsP c) : a ∈ dirsP c := by
 obtain ⟨q, rfl⟩ := mem_dirsP.1 h
 obtain ⟨r, rfl⟩ := mem_dirsP.1 k
 exact mem_dirsP.2 ⟨q ++ 47 :: r, by simp⟩
theorem lastLe_false {done : List FileD} {p : Pth} (hr : RiseP (done.map (·.p))) (h : lastLe done p = false) : ∀ g ∈ done, g.p < p := by
 unfold lastLe at h
 rcases List.eq_nil_or_concat done with rfl | ⟨l, x, rfl⟩
 · intro g hg; cases hg
 · rw [List.concat_eq_append] at *
   rw [List.getLast?_append] at h
   simp only [List.getLast?_singleton, Option.some_or, decide_eq_false_iff_not] at h
   have hx : x.p < p := List.not_le.1 h
   unfold RiseP at hr
   rw [List.map_append, List.pairwise_append] at hr
   intro g hg
   rcases List.mem_append.1 hg with q | q
   · exact pth_trans (hr.2.2 g.p (List.mem_map.2 ⟨g, q, rfl⟩) x.p (by simp)) hx
   · rw [List.mem_singleton.1 q]; exact hx
theorem lastLe_of {done : List FileD} {p : Pth} (h : ∀ g ∈ done, g.p < p) : lastLe done p = false := by
 unfold lastLe
 split
 · rename_i g hg
   rw [decide_eq_false_iff_not]
   exact List.not_le.2 (h g (List.mem_of_getLast? hg))
 · rfl
structure TreeOk (l : List FileD) : Prop where
 file : ∀ f ∈ l, fileE f = 0
 rise : RiseP (l.map (·.p))
 apart : ∀ f ∈ l, ∀ g ∈ l, g.p ∉ dirsP f.p
theorem checkL_ok : ∀ (l done : List FileD), RiseP (done.map (·.p)) → (checkL done l = 0 ↔ (∀ f ∈ l, fileE f = 0) ∧ RiseP ((done ++ l).map (·.p)) ∧ ∀ f ∈ l, ∀ g ∈ done ++ l, g.p ∉ dirsP f.p)
 | [], done, hr => by
  rw [List.append_nil]
  simp [checkL, hr]
 | f :: l, done, hr => by
  unfold checkL
  by_cases h1 : fileE f = 0
  · rw [if_neg (fun q => q h1)]
    by_cases h2 : lastLe done f.p = true
    · rw [if_pos h2]
      refine ⟨fun q => absurd q (by decide), fun q => ?_⟩
      exfalso
      have : lastLe done f.p = false := lastLe_of fun g hg => by
       have := q.2.1
       unfold RiseP at this
       rw [List.map_append, List.pairwise_append] at this
       exact this.2.2 g.p (List.mem_map.2 ⟨g, hg, rfl⟩) f.p (by simp)
      rw [this] at h2
      cases h2
    · rw [if_neg h2]
      have h2 := Bool.eq_false_iff.2 h2
      have hlt := lastLe_false hr h2
      have hr2 : RiseP ((done ++ [f]).map (·.p)) := by
       unfold RiseP
       rw [List.map_append, List.pairwise_append]
       refine ⟨hr, by simp, fun a ha b hb => ?_⟩
       obtain ⟨g, hg, rfl⟩ := List.mem_map.1 ha
       simp at hb
       rw [hb]
       exact hlt g hg
      by_cases h3 : (dirsP f.p).any (fun d => done.any (fun g => g.p == d)) = true
      · rw [if_pos h3]
        refine ⟨fun q => absurd q (by decide), fun q => ?_⟩
        exfalso
        simp only [List.any_eq_true, beq_iff_eq] at h3
        obtain ⟨d, hd, g, hg, e⟩ := h3
        exact q.2.2 f (List.mem_cons_self ..) g (List.mem_append_left _ hg) (by rw [e]; exact hd)
      · rw [if_neg h3]
        rw [checkL_ok l (done ++ [f]) hr2]
        simp only [List.append_assoc, List.cons_append, List.nil_append]
        constructor
        · rintro ⟨q1, q2, q3⟩
          refine ⟨fun g hg => ?_, q2, fun g hg g' hg' => ?_⟩
          · rcases List.mem_cons.1 hg with rfl | hg
            · exact h1
            · exact q1 g hg
          · rcases List.mem_cons.1 hg with rfl | hg
            · intro hd
              rcases List.mem_append.1 hg' with r | r
              · exact h3 (by simp only [List.any_eq_true, beq_iff_eq]; exact ⟨_, hd, g', r, rfl⟩)
              · have hlt2 := dirsP_lt hd
                rcases List.mem_cons.1 r with r | r
                · rw [r] at hlt2; exact List.lt_irrefl _ hlt2
                · unfold RiseP at q2
                  rw [List.map_append, List.pairwise_append] at q2
                  have := q2.2.1
                  rw [List.map_cons, List.pairwise_cons] at this
                  exact pth_asym hlt2 (this.1 g'.p (List.mem_map.2 ⟨g', r, rfl⟩))
            · exact q3 g hg g' hg'
        · rintro ⟨q1, q2, q3⟩
          exact ⟨fun g hg => q1 g (List.mem_cons_of_mem _ hg), q2, fun g hg => q3 g (List.mem_cons_of_mem _ hg)⟩
  · rw [if_pos h1]
    refine ⟨fun q => absurd q h1, fun q => absurd (q.1 f (List.mem_cons_self ..)) h1⟩
theorem checkL_tree {l : List FileD} : checkL [] l = 0 ↔ TreeOk l := by
 rw [checkL_ok l [] List.Pairwise.nil]
 simp only [List.nil_append]
 exact ⟨fun h => ⟨h.1, h.2.1, h.2.2⟩, fun h => ⟨h.file, h.rise, h.apart⟩⟩
theorem checkT_tree {l : List FileD} (h : checkT l = 0) : TreeOk l ∧ l.length ≤ 1000 ∧ crowdP l = false := by
 unfold checkT at h
 split at h
 · cases h
 · split at h
   · rename_i q; exact absurd h q
   · rename_i q1 q2
     split at h
     · cases h
     · rename_i q3
       exact ⟨checkL_tree.1 (Decidable.not_not.1 q2), by omega, Bool.eq_false_iff.2 q3⟩
theorem checkT_of {l : List FileD} (h : TreeOk l) (hl : l.length ≤ 1000) (hc : crowdP l = false) : checkT l = 0 := by
 unfold checkT
 rw [if_neg (by omega), if_neg (fun q => q (checkL_tree.2 h)), hc, if_neg (by decide)]
theorem fileE_kind {f : FileD} (h : fileE f = 0) : (f.k = 1 ∨ f.k = 2 ∨ f.k = 3) ∧ f.d.length ≤ 65536 ∧ (nmP f.p).length ≤ 8 ∧ ∀ s ∈ nmP f.p, nameOk s = true := by
 unfold fileE at h
 split at h
 · cases h
 · rename_i q
   split at h
   · cases h
   · rename_i q2
     split at h
     · cases h
     · rename_i q3
       rw [not_or] at q2
       refine ⟨by omega, by omega, by omega, fun s hs => ?_⟩
       have := q2.2
       simp only [List.any_eq_true, Bool.not_eq_true', not_exists, not_and, Bool.not_eq_false] at this
       exact this s hs
theorem TreeOk.kinds {l : List FileD} (h : TreeOk l) : KindsOk l := fun f hf => (fileE_kind (h.file f hf)).1
theorem TreeOk.apt {l : List FileD} (h : TreeOk l) : Apt l := rise_nodup h.rise
end Go.Proofs.YtbaapjlmpmpocaaGreatDoor
namespace Go.Proofs.YtbaapjlmpmpocaaGreatDoor
open Go.RowKit
theorem idx_yes {c : UInt8} {l : List UInt8} (h : c ∈ l) : ∃ p q : List UInt8, l = p ++ c :: q ∧ c ∉ p ∧ Lib.indexByte l c = (p.length : Int) := by
 have h1 := Lib.indexByte_ge l c
 rcases Int.lt_or_le (Lib.indexByte l c) 0 with q | q
 · obtain ⟨j, hj, hx⟩ := List.mem_iff_getElem.1 h
   exact absurd (by rw [List.getElem?_eq_getElem hj, hx]) (Lib.indexByte_none (l := l) (c := c) (by omega) j)
 · obtain ⟨o, ho⟩ : ∃ o : Nat, Lib.indexByte l c = (o : Int) := ⟨(Lib.indexByte l c).toNat, by omega⟩
   obtain ⟨h2, h3⟩ := Lib.indexByte_some ho
   have hlt := (List.getElem?_eq_some_iff.1 h2).1
   refine ⟨l.take o, l.drop (o + 1), ?_, fun hm => ?_, by rw [ho, List.length_take, Nat.min_eq_left (by omega)]⟩
   · have : l.drop o = c :: l.drop (o + 1) := List.drop_eq_getElem?_toList_append.trans (by rw [h2]; rfl)
     rw [← this, List.take_append_drop]
   · obtain ⟨j, hj, hx⟩ := List.mem_iff_getElem.1 hm
     rw [List.length_take] at hj
     refine h3 j (by omega) ?_
     rw [List.getElem_take] at hx
     rw [List.getElem?_eq_getElem (by omega), hx]
theorem nmFrom_row {q : Pth} : ∀ {p cur : Pth}, (47 : UInt8) ∉ p → nmFrom cur (p ++ 47 :: q) = (cur ++ p) :: nmFrom [] q
 | [], cur, _ => by simp [nmFrom]
 | x :: p, cur, h => by
  have hx : x ≠ 47 := fun e => h (by simp [e])
  have := nmFrom_row (q := q) (p := p) (cur := cur ++ [x]) (fun hm => h (by simp [hm]))
  simp [nmFrom, hx, this]
theorem nmFrom_rest : ∀ {p cur : Pth}, (47 : UInt8) ∉ p → nmFrom cur p = [cur ++ p]
 | [], cur, _ => by simp [nmFrom]
 | x :: p, cur, h => by
  have hx : x ≠ 47 := fun e => h (by simp [e])
  have := nmFrom_rest (p := p) (cur := cur ++ [x]) (fun hm => h (by simp [hm]))
  simp [nmFrom, hx, this]
theorem splitK_names : ∀ (n : Nat) (s : Pth), s.length ≤ n → Lib.splitK [47] 0 (s.count 47) s = nmP s
 | n, s, hn => by
  by_cases hm : (47 : UInt8) ∈ s
  · obtain ⟨p, q, rfl, hp, hi⟩ := idx_yes hm
    have hc : (p ++ 47 :: q).count 47 = q.count 47 + 1 := by
     rw [List.count_append, List.count_eq_zero_of_not_mem hp, List.count_cons_self]
     omega
    rw [hc, Lib.splitK, Lib.index_one, hi, if_neg (by simp)]
    unfold nmP
    rw [nmFrom_row hp]
    have e1 : (p ++ 47 :: q).take (((p.length : Int)).toNat + 0) = [] ++ p := by simp
    have e2 : (p ++ 47 :: q).drop (((p.length : Int)).toNat + [(47 : UInt8)].length) = q := by
     rw [Int.toNat_natCast, List.drop_append, List.drop_eq_nil_of_le (by simp)]
     simp
    rw [e1, e2]
    congr 1
    cases n with
    | zero => simp at hn
    | succ n => exact splitK_names n q (by simp at hn; omega)
  · rw [List.count_eq_zero_of_not_mem hm, Lib.splitK]
    unfold nmP
    rw [nmFrom_rest hm]
    rfl
end Go.Proofs.YtbaapjlmpmpocaaGreatDoor
