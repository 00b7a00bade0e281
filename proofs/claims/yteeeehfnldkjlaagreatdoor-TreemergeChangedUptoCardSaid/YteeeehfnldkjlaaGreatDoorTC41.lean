/- Plain: what a path has behind a merge where neither side has pairs. No statement of the seat is proved here. -/
import Derived.Test.YteeeehfnldkjlaaGreatDoorTC14
import Derived.Test.YteeeehfnldkjlaaGreatDoorTC33
import Derived.Test.YteeeehfnldkjlaaGreatDoorTC16
namespace Go.Proofs.YteeeehfnldkjlaaGreatDoor
theorem dirs_tilde : ∀ (p cur : Pth), dirsFrom cur (p ++ [126]) = dirsFrom cur p
 | [], cur => by simp [dirsFrom]
 | x :: p, cur => by
  show dirsFrom cur (x :: (p ++ [126])) = _
  unfold dirsFrom
  rw [dirs_tilde p]
theorem dirs_next (l : List FileD) (b : Bool) : ∀ (n : Nat) (p : Pth), dirsP (nextP l b n p) = dirsP p
 | 0, p => dirs_tilde p []
 | n + 1, p => by
  rw [nextP]
  split
  · exact dirs_tilde p []
  · rw [dirs_next l b n]; exact dirs_tilde p []
theorem belowN_move {l : List FileD} {i : Nat} {f : FileD} (h : l[i]? = some f) (b : Bool) (p : Pth) : belowN (moveP l i (nextF l b f.p)) p = belowN l p := by
 have := beG_move h (nextF l b f.p) p
 unfold nextF at this
 rw [dirs_next] at this
 unfold beG at this
 unfold nextF
 omega
end Go.Proofs.YteeeehfnldkjlaaGreatDoor
namespace Go.Proofs.YteeeehfnldkjlaaGreatDoor
end Go.Proofs.YteeeehfnldkjlaaGreatDoor
namespace Go.Proofs.YteeeehfnldkjlaaGreatDoor
def leftC (come : List FileD) (P : List PairD) : List FileD := come.filter fun g => !P.any (fun x => x.new == g.p)
def leftG (gone : List FileD) (P : List PairD) : List FileD := gone.filter fun f => !P.any (fun x => x.old == f.p)
theorem leftC_nil (come : List FileD) : leftC come [] = come := by unfold leftC; simp
theorem mem_leftC {come : List FileD} {P : List PairD} {g : FileD} : g ∈ leftC come P ↔ g ∈ come ∧ ∀ x ∈ P, x.new ≠ g.p := by
 unfold leftC
 rw [List.mem_filter, Bool.not_eq_true', List.any_eq_false]
 simp only [beq_iff_eq]
theorem mem_leftG {gone : List FileD} {P : List PairD} {f : FileD} : f ∈ leftG gone P ↔ f ∈ gone ∧ ∀ x ∈ P, x.old ≠ f.p := by
 unfold leftG
 rw [List.mem_filter, Bool.not_eq_true', List.any_eq_false]
 simp only [beq_iff_eq]
theorem leftC_snoc (come : List FileD) (P : List PairD) (x : PairD) : leftC come (P ++ [x]) = (leftC come P).filter fun g => g.p != x.new := by
 unfold leftC
 rw [List.filter_filter]
 refine List.filter_congr fun g _ => ?_
 rw [List.any_append, List.any_cons, List.any_nil, Bool.or_false, Bool.not_or, Bool.and_comm]
 congr 1
 rw [show (g.p != x.new) = !(g.p == x.new) from rfl, Bool.beq_comm]
theorem erase_filter : ∀ {l : List FileD} {i : Nat} {g : FileD}, Apt l → l[i]? = some g → l.eraseIdx i = l.filter fun h => h.p != g.p
 | [], i, g, _, h => by simp at h
 | x :: l, 0, g, ha, h => by
  simp only [List.getElem?_cons_zero, Option.some.injEq] at h
  subst h
  unfold Apt at ha
  rw [List.map_cons, List.nodup_cons] at ha
  rw [List.eraseIdx_cons_zero, List.filter_cons, if_neg (by simp), List.filter_eq_self.2]
  intro y hy
  rw [bne_iff_ne]
  intro e
  exact ha.1 (List.mem_map.2 ⟨y, hy, e⟩)
 | x :: l, i + 1, g, ha, h => by
  simp only [List.getElem?_cons_succ] at h
  unfold Apt at ha
  rw [List.map_cons, List.nodup_cons] at ha
  rw [List.eraseIdx_cons_succ, List.filter_cons, if_pos, erase_filter ha.2 h]
  rw [bne_iff_ne]
  intro e
  exact ha.1 (List.mem_map.2 ⟨g, List.mem_of_getElem? h, e.symm⟩)
theorem Apt.filter {l : List FileD} (h : Apt l) (q : FileD → Bool) : Apt (l.filter q) := h.sublist (List.filter_sublist.map _)
def exStep (come : List FileD) (P : List PairD) (f : FileD) : List PairD := match bestP f (leftC come P) 0 none with
 | none => P
 | some x => P ++ [⟨f.p, x.2.p, 100⟩]
theorem exStep_none {come : List FileD} {P : List PairD} {f : FileD} (h : bestP f (leftC come P) 0 none = none) : exStep come P f = P := by unfold exStep; rw [h]
theorem exStep_some {come : List FileD} {P : List PairD} {f : FileD} {x : Nat × FileD} (h : bestP f (leftC come P) 0 none = some x) : exStep come P f = P ++ [⟨f.p, x.2.p, 100⟩] := by unfold exStep; rw [h]
theorem exactP_old {gone rest : List FileD} {x : PairD} (h : x ∈ (exactP gone rest).1) : ∃ f ∈ gone, f.p = x.old := by
 obtain ⟨f, hf, g, _, e, _⟩ := exactP_data gone rest x h
 exact ⟨f, hf, by rw [e]⟩
theorem ex_fold (come : List FileD) (hc : Apt come) : ∀ (gone : List FileD) (P : List PairD), Apt gone → (∀ f ∈ gone, ∀ x ∈ P, x.old ≠ f.p) →
    gone.foldl (exStep come) P = P ++ (exactP gone (leftC come P)).1 ∧ (exactP gone (leftC come P)).2.2 = leftC come (P ++ (exactP gone (leftC come P)).1) ∧ (exactP gone (leftC come P)).2.1 = leftG gone (P ++ (exactP gone (leftC come P)).1)
 | [], P, _, _ => by simp [exactP, leftG]
 | f :: gone, P, ha, hp => by
  have ha' := ha
  unfold Apt at ha
  rw [List.map_cons, List.nodup_cons] at ha
  have hne : ∀ g ∈ gone, g.p ≠ f.p := fun g hg e => ha.1 (List.mem_map.2 ⟨g, hg, e⟩)
  rw [List.foldl_cons, exactP]
  cases hb : bestP f (leftC come P) 0 none with
  | none =>
   obtain ⟨h1, h2, h3⟩ := ex_fold come hc gone P ha.2 fun g hg => hp g (List.mem_cons_of_mem _ hg)
   simp only
   rw [exStep_none hb]
   refine ⟨h1, h2, ?_⟩
   rw [h3]
   unfold leftG
   rw [List.filter_cons, if_pos]
   rw [Bool.not_eq_true', List.any_eq_false]
   intro x hx
   rw [beq_iff_eq]
   rcases List.mem_append.1 hx with hx | hx
   · exact hp f (List.mem_cons_self ..) x hx
   · obtain ⟨g, hg, e⟩ := exactP_old hx
     rw [← e]
     exact hne g hg
  | some y =>
   obtain ⟨hy1, hy2⟩ := bestP_some hb
   have hl : leftC come (P ++ [⟨f.p, y.2.p, 100⟩]) = (leftC come P).eraseIdx y.1 := by
    have ha2 : Apt (leftC come P) := Apt.filter hc _
    rw [leftC_snoc, erase_filter ha2 hy1]
   obtain ⟨h1, h2, h3⟩ := ex_fold come hc gone (P ++ [⟨f.p, y.2.p, 100⟩]) ha.2 fun g hg x hx => by
    rcases List.mem_append.1 hx with hx | hx
    · exact hp g (List.mem_cons_of_mem _ hg) x hx
    · rw [List.mem_singleton.1 hx]
      exact fun e => hne g hg e.symm
   rw [hl] at h1 h2 h3
   simp only
   rw [exStep_some hb, h1]
   rw [List.append_assoc, List.singleton_append] at h1 h2 h3 ⊢
   refine ⟨rfl, h2, ?_⟩
   rw [h3]
   unfold leftG
   rw [List.filter_cons, if_neg]
   simp
def likL2 (G C : List FileD) : List LikD := G.flatMap fun f => C.filterMap fun g => if 50 ≤ scoreP f.d g.d then some ⟨f.p, g.p, scoreP f.d g.d, nearP f.p g.p⟩ else none
theorem mem_likL2 {G C : List FileD} {y : LikD} : y ∈ likL2 G C ↔ ∃ f ∈ G, ∃ g ∈ C, 50 ≤ scoreP f.d g.d ∧ y = ⟨f.p, g.p, scoreP f.d g.d, nearP f.p g.p⟩ := by
 unfold likL2
 simp only [List.mem_flatMap, List.mem_filterMap]
 constructor
 · rintro ⟨f, hf, g, hg, e⟩
   split at e
   · rename_i h
     injection e with e
     exact ⟨f, hf, g, hg, h, e.symm⟩
   · cases e
 · rintro ⟨f, hf, g, hg, h, e⟩
   exact ⟨f, hf, g, hg, by rw [if_pos h, e]⟩
def firstS (b : Option LikD) (y : LikD) : Option LikD := match b with
 | none => some y
 | some z => if aheadP y z = true then some y else some z
def firstL (l : List LikD) (b : Option LikD) : Option LikD := l.foldl firstS b
theorem firstL_none : ∀ {l : List LikD} {b : Option LikD}, firstL l b = none ↔ l = [] ∧ b = none
 | [], b => by simp [firstL]
 | y :: l, b => by
  unfold firstL
  rw [List.foldl_cons]
  have := firstL_none (l := l) (b := firstS b y)
  unfold firstL at this
  rw [this]
  constructor
  · rintro ⟨_, h⟩
    exfalso
    unfold firstS at h
    split at h
    · cases h
    · split at h <;> cases h
  · rintro ⟨h, _⟩
    cases h
theorem firstL_some : ∀ {l : List LikD} {b : Option LikD} {z : LikD}, firstL l b = some z → (z ∈ l ∨ b = some z) ∧ (∀ y ∈ l, aheadP y z = false) ∧ ∀ y, b = some y → aheadP y z = false
 | [], b, z, h => by
  have h : b = some z := h
  subst h
  refine ⟨.inr rfl, fun _ h => (by cases h), fun y e => ?_⟩
  injection e with e
  subst e
  cases q : aheadP z z with
  | false => rfl
  | true => have := ahead_ord.asym _ _ q; rw [this] at q; cases q
 | x :: l, b, z, h => by
  unfold firstL at h
  rw [List.foldl_cons] at h
  obtain ⟨h1, h2, h3⟩ := firstL_some (l := l) (b := firstS b x) h
  have key : ∀ y, (y = x ∨ b = some y) → aheadP y z = false := fun y hy => by
   cases hb : b with
   | none =>
    rw [hb] at hy h3
    have := h3 x rfl
    rcases hy with rfl | hy
    · exact this
    · cases hy
   | some w =>
    rw [hb] at hy h3
    unfold firstS at h3
    simp only at h3
    split at h3
    · rename_i q
      have e1 := h3 x rfl
      rcases hy with rfl | hy
      · exact e1
      · injection hy with hy
        subst hy
        have := ahead_ord.asym _ _ q
        exact ahead_ord.ntr _ _ _ e1 this
    · rename_i q
      have e1 := h3 w rfl
      rcases hy with rfl | hy
      · cases q2 : aheadP y w with
        | true => exact absurd q2 q
        | false => exact ahead_ord.ntr _ _ _ e1 q2
      · injection hy with hy
        subst hy
        exact e1
  refine ⟨?_, ?_, fun y hy => key y (.inr hy)⟩
  · rcases h1 with h1 | h1
    · exact .inl (List.mem_cons_of_mem _ h1)
    · unfold firstS at h1
      split at h1
      · injection h1 with h1
        subst h1
        exact .inl (List.mem_cons_self ..)
      · split at h1
        · injection h1 with h1
          subst h1
          exact .inl (List.mem_cons_self ..)
        · injection h1 with h1
          subst h1
          exact .inr rfl
  · intro y hy
    rcases List.mem_cons.1 hy with rfl | hy
    · exact key y (.inl rfl)
    · exact h2 y hy
structure GInv (gone come : List FileD) (P F : List PairD) : Prop where
 inv : ∃ (S : List LikD) (a b : List Pth), SortedP aheadP S ∧ S.Nodup ∧ F = P ++ greedyP S a b ∧ (∀ p, p ∈ a → ∃ x ∈ P, x.old = p) ∧ (∀ p, p ∈ b → ∃ x ∈ P, x.new = p) ∧ (∀ y ∈ S, y.old ∉ a → y.new ∉ b → ∀ x ∈ P, x.old ≠ y.old ∧ x.new ≠ y.new) ∧ ∀ y, y ∈ likL2 (leftG gone P) (leftC come P) ↔ y ∈ S ∧ y.old ∉ a ∧ y.new ∉ b
theorem mem_lik_left {gone come : List FileD} {P : List PairD} {x : PairD} {y : LikD} : y ∈ likL2 (leftG gone (P ++ [x])) (leftC come (P ++ [x])) ↔ y ∈ likL2 (leftG gone P) (leftC come P) ∧ y.old ≠ x.old ∧ y.new ≠ x.new := by
 rw [mem_likL2, mem_likL2]
 constructor
 · rintro ⟨f, hf, g, hg, h, rfl⟩
   rw [mem_leftG] at hf
   rw [mem_leftC] at hg
   exact ⟨⟨f, mem_leftG.2 ⟨hf.1, fun z hz => hf.2 z (List.mem_append_left _ hz)⟩, g, mem_leftC.2 ⟨hg.1, fun z hz => hg.2 z (List.mem_append_left _ hz)⟩, h, rfl⟩, fun e => hf.2 x (by simp) e.symm, fun e => hg.2 x (by simp) e.symm⟩
 · rintro ⟨⟨f, hf, g, hg, h, rfl⟩, h1, h2⟩
   rw [mem_leftG] at hf
   rw [mem_leftC] at hg
   refine ⟨f, mem_leftG.2 ⟨hf.1, fun z hz => ?_⟩, g, mem_leftC.2 ⟨hg.1, fun z hz => ?_⟩, h, rfl⟩
   · rcases List.mem_append.1 hz with hz | hz
     · exact hf.2 z hz
     · rw [List.mem_singleton.1 hz]; exact Ne.symm h1
   · rcases List.mem_append.1 hz with hz | hz
     · exact hg.2 z hz
     · rw [List.mem_singleton.1 hz]; exact Ne.symm h2
theorem GInv.over {gone come : List FileD} {P F : List PairD} (h : GInv gone come P F) (hn : firstL (likL2 (leftG gone P) (leftC come P)) none = none) : F = P := by
 obtain ⟨S, a, b, _, _, h2, _, _, _, h5⟩ := h.inv
 have hL := (firstL_none.1 hn).1
 have : greedyP S a b = [] := by
  have key : ∀ S : List LikD, (∀ y ∈ S, y.old ∈ a ∨ y.new ∈ b) → greedyP S a b = [] := fun S => by
   induction S with
   | nil => intro _; rfl
   | cons y S ih =>
    intro hS
    rw [greedyP, if_pos (hS y (List.mem_cons_self ..))]
    exact ih fun z hz => hS z (List.mem_cons_of_mem _ hz)
  refine key S fun y hy => ?_
  by_cases q1 : y.old ∈ a
  · exact .inl q1
  · by_cases q2 : y.new ∈ b
    · exact .inr q2
    · have := (h5 y).2 ⟨hy, q1, q2⟩
      rw [hL] at this
      cases this
 rw [h2, this, List.append_nil]
theorem GInv.more {gone come : List FileD} {P F : List PairD} (h : GInv gone come P F) {z : LikD} (hz : firstL (likL2 (leftG gone P) (leftC come P)) none = some z) : GInv gone come (P ++ [⟨z.old, z.new, z.sc⟩]) F := by
 obtain ⟨S, a, b, h1, h1n, h2, h3, h3', h4, h5⟩ := h.inv
 obtain ⟨f1, f2, _⟩ := firstL_some hz
 have hzL : z ∈ likL2 (leftG gone P) (leftC come P) := by
  rcases f1 with f1 | f1
  · exact f1
  · cases f1
 induction S with
 | nil => exact absurd ((h5 z).1 hzL).1 (by simp)
 | cons y S ih =>
  have hs := List.pairwise_cons.1 h1
  have hn := List.nodup_cons.1 h1n
  by_cases hy : y.old ∈ a ∨ y.new ∈ b
  · refine ih hs.2 hn.2 (by rw [h2, greedyP, if_pos hy]) (fun w hw => h4 w (List.mem_cons_of_mem _ hw)) fun w => ?_
    rw [h5, List.mem_cons]
    constructor
    · rintro ⟨rfl | hw, q1, q2⟩
      · exact absurd hy fun q => q.elim q1 q2
      · exact ⟨hw, q1, q2⟩
    · rintro ⟨hw, q⟩
      exact ⟨.inr hw, q⟩
  · have hy1 : y.old ∉ a := fun q => hy (.inl q)
    have hy2 : y.new ∉ b := fun q => hy (.inr q)
    have hyL : y ∈ likL2 (leftG gone P) (leftC come P) := (h5 y).2 ⟨List.mem_cons_self .., hy1, hy2⟩
    have hzS := ((h5 z).1 hzL).1
    have e : z = y := by
     rcases List.mem_cons.1 hzS with e | e
     · exact e
     · exact ahead_one (hs.1 z e) (f2 y hyL)
    subst e
    refine ⟨⟨S, z.old :: a, z.new :: b, hs.2, hn.2, ?_, ?_, ?_, ?_, ?_⟩⟩
    · rw [h2, greedyP, if_neg hy, List.append_assoc, List.singleton_append]
    · intro p hp
      rcases List.mem_cons.1 hp with rfl | hp
      · exact ⟨⟨z.old, z.new, z.sc⟩, by simp, rfl⟩
      · obtain ⟨x, hx, e⟩ := h3 p hp
        exact ⟨x, List.mem_append_left _ hx, e⟩
    · intro p hp
      rcases List.mem_cons.1 hp with rfl | hp
      · exact ⟨⟨z.old, z.new, z.sc⟩, by simp, rfl⟩
      · obtain ⟨x, hx, e⟩ := h3' p hp
        exact ⟨x, List.mem_append_left _ hx, e⟩
    · intro w hw q1 q2 x hx
      rw [List.mem_cons, not_or] at q1 q2
      rcases List.mem_append.1 hx with hx | hx
      · exact h4 w (List.mem_cons_of_mem _ hw) q1.2 q2.2 x hx
      · rw [List.mem_singleton.1 hx]
        exact ⟨Ne.symm q1.1, Ne.symm q2.1⟩
    · intro w
      rw [mem_lik_left, h5, List.mem_cons, List.mem_cons, List.mem_cons, not_or, not_or]
      constructor
      · rintro ⟨⟨rfl | hw, q1, q2⟩, e1, e2⟩
        · exact absurd rfl e1
        · exact ⟨hw, ⟨e1, q1⟩, e2, q2⟩
      · rintro ⟨hw, ⟨e1, q1⟩, e2, q2⟩
        exact ⟨⟨.inr hw, q1, q2⟩, e1, e2⟩
theorem likL2_nodup {G C : List FileD} (hG : Apt G) (hC : Apt C) : (likL2 G C).Nodup := by
 unfold likL2
 induction G with
 | nil => simp
 | cons f G ih =>
  unfold Apt at hG
  rw [List.map_cons, List.nodup_cons] at hG
  rw [List.flatMap_cons, List.nodup_append]
  refine ⟨?_, ih hG.2, fun x hx y hy e => ?_⟩
  · refine nodup_filterMap (apt_nodup hC) fun g hg g' hg' y e e' => ?_
    split at e
    · split at e'
      · injection e with e
        injection e' with e'
        have := congrArg LikD.new (e.trans e'.symm)
        simp only at this
        have q := getF_mem hC hg
        have q' := getF_mem hC hg'
        rw [← q, ← q', this]
      · cases e'
    · cases e
  · obtain ⟨g, hg, e1⟩ := List.mem_filterMap.1 hx
    split at e1
    · injection e1 with e1
      obtain ⟨f', hf', hy'⟩ := List.mem_flatMap.1 hy
      obtain ⟨g', hg', e2⟩ := List.mem_filterMap.1 hy'
      split at e2
      · injection e2 with e2
        have := congrArg LikD.old (e1.trans (e.trans e2.symm))
        simp only at this
        exact hG.1 (List.mem_map.2 ⟨f', hf', this.symm⟩)
      · cases e2
    · cases e1
def exP (gone come : List FileD) : List PairD := gone.foldl (exStep come) []
def allP (gone come : List FileD) : List PairD := (exactP gone come).1 ++ greedyP (sortBy aheadP (likelyP (exactP gone come).2.1 (exactP gone come).2.2)) [] []
theorem ex_start {gone come : List FileD} (hg : Apt gone) (hc : Apt come) : exP gone come = (exactP gone come).1 ∧ (exactP gone come).2.2 = leftC come (exP gone come) ∧ (exactP gone come).2.1 = leftG gone (exP gone come) := by
 have := ex_fold come hc gone [] hg fun _ _ _ h => by cases h
 rw [leftC_nil] at this
 unfold exP
 obtain ⟨h1, h2, h3⟩ := this
 rw [h1]
 exact ⟨rfl, h2, h3⟩
theorem all_few {gone come : List FileD} (hg : Apt gone) (hc : Apt come) (h : ¬ ((leftG gone (exP gone come)).length ≤ 100 ∧ (leftC come (exP gone come)).length ≤ 100)) : allP gone come = exP gone come := by
 obtain ⟨h1, h2, h3⟩ := ex_start hg hc
 unfold allP
 rw [h2, h3, ← h1]
 have : likelyP (leftG gone (exP gone come)) (leftC come (exP gone come)) = [] := by
  unfold likelyP
  rw [if_neg h]
 rw [this]
 exact List.append_nil _
theorem GInv.start {gone come : List FileD} (hg : Apt gone) (hc : Apt come) (h : (leftG gone (exP gone come)).length ≤ 100 ∧ (leftC come (exP gone come)).length ≤ 100) : GInv gone come (exP gone come) (allP gone come) := by
 obtain ⟨h1, h2, h3⟩ := ex_start hg hc
 have e : likelyP (leftG gone (exP gone come)) (leftC come (exP gone come)) = likL2 (leftG gone (exP gone come)) (leftC come (exP gone come)) := by
  unfold likelyP
  rw [if_pos h]
  rfl
 refine ⟨⟨sortBy aheadP (likL2 (leftG gone (exP gone come)) (leftC come (exP gone come))), [], [], sortBy_sorted ahead_ord _, (sortBy_perm _).nodup_iff.2 (likL2_nodup (Apt.filter hg _) (Apt.filter hc _)), ?_, fun _ h => (by cases h), fun _ h => (by cases h), ?_, fun y => ?_⟩⟩
 · unfold allP
   rw [h2, h3, e, h1]
 · intro y hy _ _ x hx
   rw [mem_sortBy, mem_likL2] at hy
   obtain ⟨f, hf, g, hg', _, rfl⟩ := hy
   exact ⟨(mem_leftG.1 hf).2 x hx, (mem_leftC.1 hg').2 x hx⟩
 · rw [mem_sortBy]
   simp
def pairOf (P : List PairD) (f : FileD) : Option PairD := P.find? (fun x => x.old == f.p)
def outP (gone : List FileD) (P : List PairD) : List PairD := gone.filterMap (pairOf P)
theorem pairOf_some {P : List PairD} {f : FileD} {x : PairD} (h : pairOf P f = some x) : x ∈ P ∧ x.old = f.p := by
 unfold pairOf at h
 exact ⟨List.mem_of_find?_eq_some h, beq_iff_eq.1 (List.find?_some (p := fun x : PairD => x.old == f.p) h)⟩
theorem find_nodup {P : List PairD} (hn : (P.map (·.old)).Nodup) {x : PairD} (hx : x ∈ P) : P.find? (fun y => y.old == x.old) = some x := by
 cases h : P.find? (fun y => y.old == x.old) with
 | none =>
  rw [List.find?_eq_none] at h
  exact absurd (h x hx) (by simp)
 | some y =>
  have h1 := List.mem_of_find?_eq_some h
  have h2 := beq_iff_eq.1 (List.find?_some (p := fun y : PairD => y.old == x.old) h)
  rw [nodup_inj hn y h1 x hx h2]
theorem out_sub (P : List PairD) : ∀ gone : List FileD, ((outP gone P).map (·.old)).Sublist (gone.map (·.p))
 | [] => List.Sublist.refl _
 | f :: gone => by
  have ih := out_sub P gone
  unfold outP at ih ⊢
  rw [List.filterMap_cons, List.map_cons]
  split
  · exact ih.cons _
  · rename_i x h
    rw [List.map_cons, (pairOf_some h).2]
    exact ih.cons_cons _
theorem outP_rise {gone : List FileD} (hr : RiseP (gone.map (·.p))) (P : List PairD) : RiseP ((outP gone P).map (·.old)) := List.Pairwise.sublist (out_sub P gone) hr
theorem old_nodup {l : List PairD} (h : (l.map (·.old)).Nodup) : l.Nodup := List.Pairwise.of_map (·.old) (fun a b q e => q (by rw [e])) h
theorem detect_ref {gone come : List FileD} {l : List ChangeD} (hg : goneP l = gone) (hc : comeP l = come) (hr : RiseP (gone.map (·.p))) (ha : Apt come) : outP gone (allP gone come) = detectP l := by
 have hnd : ((detectP l).map (·.old)).Nodup ∧ ((detectP l).map (·.new)).Nodup := detectP_nodup (by rw [hg]; exact rise_nodup hr) (by rw [hc]; exact ha)
 have hmem : ∀ x, x ∈ detectP l ↔ x ∈ allP gone come := fun x => by
  rw [mem_detectP, hg, hc]
  unfold allP
  rw [List.mem_append]
 have hd : detectP l = sortBy (fun a b : PairD => decide (a.old < b.old)) (allP gone come) := by
  unfold detectP allP
  simp only
  rw [hg, hc]
 have hp : (detectP l).Perm (allP gone come) := by rw [hd]; exact sortBy_perm _
 have hn2 : ((allP gone come).map (·.old)).Nodup := (hp.map _).nodup_iff.1 hnd.1
 have hro := outP_rise hr (allP gone come)
 have hperm : (outP gone (allP gone come)).Perm (detectP l) := by
  refine (List.perm_ext_iff_of_nodup (old_nodup (rise_nodup hro)) (old_nodup hnd.1)).2 fun x => ?_
  rw [hmem]
  unfold outP
  rw [List.mem_filterMap]
  constructor
  · rintro ⟨f, _, e⟩
    exact (pairOf_some e).1
  · intro hx
    obtain ⟨⟨f, hf, e⟩, _⟩ := detectP_from ((hmem x).2 hx)
    refine ⟨f, by rw [← hg]; exact hf, ?_⟩
    unfold pairOf
    rw [e]
    exact find_nodup hn2 hx
 refine sorted_unique (lt := fun a b : PairD => decide (a.old < b.old)) hperm ?_ (by rw [hd]; exact sortBy_sorted (pth_ord (fun x : PairD => x.old)) _) fun x hx y hy h k => ?_
 · unfold RiseP at hro
   rw [List.pairwise_map] at hro
   exact hro.imp fun q => decide_eq_false (pth_asym q)
 · have := pth_eq (of_decide_eq_false h) (of_decide_eq_false k)
   exact nodup_inj (rise_nodup hro) x hx y hy this
end Go.Proofs.YteeeehfnldkjlaaGreatDoor
namespace Go.Proofs.YteeeehfnldkjlaaGreatDoor
def rdiffP : List FileD → List FileD → List ChangeD
 | [], b => b.map fun g => ⟨zeroF, g⟩
 | f :: a, [] => ⟨f, zeroF⟩ :: rdiffP a []
 | f :: a, g :: b => if f.p < g.p then ⟨f, zeroF⟩ :: rdiffP a (g :: b) else if g.p < f.p then ⟨zeroF, g⟩ :: rdiffP (f :: a) b else if f = g then rdiffP a b else ⟨f, g⟩ :: rdiffP a b
termination_by a b => a.length + b.length
theorem rdiff_old (f : FileD) (a b : List FileD) (h : b = [] ∨ ∃ g c, b = g :: c ∧ f.p < g.p) : rdiffP (f :: a) b = ⟨f, zeroF⟩ :: rdiffP a b := by
 rcases h with rfl | ⟨g, c, rfl, h⟩
 · rw [rdiffP]
 · rw [rdiffP, if_pos h]
theorem rdiff_new (g : FileD) (a b : List FileD) (h : a = [] ∨ ∃ f c, a = f :: c ∧ g.p < f.p) : rdiffP a (g :: b) = ⟨zeroF, g⟩ :: rdiffP a b := by
 rcases h with rfl | ⟨f, c, rfl, h⟩
 · rw [rdiffP, rdiffP, List.map_cons]
 · rw [rdiffP, if_neg (pth_asym h), if_pos h]
theorem rdiff_two (f g : FileD) (a b : List FileD) (h : f.p = g.p) : rdiffP (f :: a) (g :: b) = (if f = g then [] else [⟨f, g⟩]) ++ rdiffP a b := by
 rw [rdiffP, if_neg (by rw [h]; exact List.lt_irrefl _), if_neg (by rw [h]; exact List.lt_irrefl _)]
 split
 · rw [List.nil_append]
 · rw [List.singleton_append]
theorem getF_cons_ne {f : FileD} {l : List FileD} {p : Pth} (h : f.p ≠ p) : getF (f :: l) p = getF l p := by
 unfold getF
 rw [List.find?_cons_of_neg]
 rw [beq_iff_eq]
 exact h
theorem getF_cons_eq (f : FileD) (l : List FileD) : getF (f :: l) f.p = f := by
 unfold getF
 rw [List.find?_cons_of_pos (by simp)]
 rfl
theorem getF_above {l : List FileD} {p : Pth} (h : ∀ g ∈ l, p < g.p) : getF l p = zeroF := by
 refine getF_none ?_
 cases q : hasF l p with
 | false => rfl
 | true =>
  obtain ⟨g, hg, e⟩ := hasF_iff.1 q
  have := h g hg
  rw [e] at this
  exact absurd this (List.lt_irrefl _)
theorem keys_cons {p : Pth} {l m : List Pth} (hl : ∀ x, x ∈ m ↔ x = p ∨ x ∈ l) (hp : ∀ q ∈ l, p < q) : keysP m = p :: keysP l := by
 refine rise_unique (keysP_rise _) ?_ fun x => ?_
 · unfold RiseP
   rw [List.pairwise_cons]
   exact ⟨fun q hq => hp q (mem_keysP.1 hq), keysP_rise l⟩
 · rw [mem_keysP, hl, List.mem_cons, mem_keysP]
theorem filterMap_on {α β : Type} {f g : α → Option β} : ∀ {l : List α}, (∀ a ∈ l, f a = g a) → l.filterMap f = l.filterMap g
 | [], _ => rfl
 | a :: l, h => by
  rw [List.filterMap_cons, List.filterMap_cons, h a (List.mem_cons_self ..), filterMap_on fun b hb => h b (List.mem_cons_of_mem _ hb)]
theorem diff_cons {a b a' b' : List FileD} {p : Pth} (hl : ∀ x, x ∈ a.map (·.p) ++ b.map (·.p) ↔ x = p ∨ x ∈ a'.map (·.p) ++ b'.map (·.p)) (hp : ∀ q ∈ a'.map (·.p) ++ b'.map (·.p), p < q) (ha : ∀ q, q ≠ p → getF a q = getF a' q) (hb : ∀ q, q ≠ p → getF b q = getF b' q) : diffT a b = (match changeP (getF a p) (getF b p) with | none => [] | some c => [c]) ++ diffT a' b' := by
 unfold diffT
 rw [keys_cons hl hp, List.filterMap_cons]
 have e : (keysP (a'.map (·.p) ++ b'.map (·.p))).filterMap (fun p => changeP (getF a p) (getF b p)) = (keysP (a'.map (·.p) ++ b'.map (·.p))).filterMap (fun p => changeP (getF a' p) (getF b' p)) := filterMap_on fun q hq => by
  have hne : q ≠ p := fun e => by
   have := hp q (mem_keysP.1 hq)
   rw [e] at this
   exact List.lt_irrefl _ this
  rw [ha q hne, hb q hne]
 rw [e]
 cases changeP (getF a p) (getF b p) <;> rfl
theorem rdiff_diff : ∀ (a b : List FileD), RiseP (a.map (·.p)) → RiseP (b.map (·.p)) → KindsOk a → KindsOk b → rdiffP a b = diffT a b
 | [], [], _, _, _, _ => by rw [rdiffP]; rfl
 | [], g :: b, ha, hb, ka, kb => by
  have hb' := hb
  unfold RiseP at hb'
  rw [List.map_cons, List.pairwise_cons] at hb'
  have hlt : ∀ h ∈ b, g.p < h.p := fun h hh => hb'.1 h.p (List.mem_map.2 ⟨h, hh, rfl⟩)
  have hk := kb g (List.mem_cons_self ..)
  rw [rdiff_new g [] b (.inl rfl), rdiff_diff [] b ha hb'.2 ka (fun h hh => kb h (List.mem_cons_of_mem _ hh)), diff_cons (a := []) (b := g :: b) (a' := []) (b' := b) (p := g.p) (fun x => by simp) (fun q hq => by
   obtain ⟨h, hh, rfl⟩ := List.mem_map.1 (by simpa using hq)
   exact hlt h hh) (fun _ _ => rfl) (fun q hq => getF_cons_ne (Ne.symm hq)), getF_cons_eq]
  have e : changeP (getF [] g.p) g = some ⟨zeroF, g⟩ := by
   unfold changeP
   rw [show getF [] g.p = zeroF from rfl, if_pos]
   left
   show (0 : Int) ≠ g.k
   omega
  rw [e]
  rfl
 | f :: a, [], ha, hb, ka, kb => by
  have ha' := ha
  unfold RiseP at ha'
  rw [List.map_cons, List.pairwise_cons] at ha'
  have hlt : ∀ h ∈ a, f.p < h.p := fun h hh => ha'.1 h.p (List.mem_map.2 ⟨h, hh, rfl⟩)
  have hk := ka f (List.mem_cons_self ..)
  rw [rdiff_old f a [] (.inl rfl), rdiff_diff a [] ha'.2 hb (fun h hh => ka h (List.mem_cons_of_mem _ hh)) kb, diff_cons (a := f :: a) (b := []) (a' := a) (b' := []) (p := f.p) (fun x => by simp) (fun q hq => by
   obtain ⟨h, hh, rfl⟩ := List.mem_map.1 (by simpa using hq)
   exact hlt h hh) (fun q hq => getF_cons_ne (Ne.symm hq)) (fun _ _ => rfl), getF_cons_eq]
  have e : changeP f (getF [] f.p) = some ⟨f, zeroF⟩ := by
   unfold changeP
   rw [show getF [] f.p = zeroF from rfl, if_pos]
   left
   show f.k ≠ (0 : Int)
   omega
  rw [e]
  rfl
 | f :: a, g :: b, ha, hb, ka, kb => by
  have ha' := ha
  unfold RiseP at ha'
  rw [List.map_cons, List.pairwise_cons] at ha'
  have hla : ∀ h ∈ a, f.p < h.p := fun h hh => ha'.1 h.p (List.mem_map.2 ⟨h, hh, rfl⟩)
  have hb' := hb
  unfold RiseP at hb'
  rw [List.map_cons, List.pairwise_cons] at hb'
  have hlb : ∀ h ∈ b, g.p < h.p := fun h hh => hb'.1 h.p (List.mem_map.2 ⟨h, hh, rfl⟩)
  have hka := ka f (List.mem_cons_self ..)
  have hkb := kb g (List.mem_cons_self ..)
  have ka' : KindsOk a := fun h hh => ka h (List.mem_cons_of_mem _ hh)
  have kb' : KindsOk b := fun h hh => kb h (List.mem_cons_of_mem _ hh)
  rcases pth_tri f.p g.p with q | q | q
  · have hl2 : ∀ h ∈ g :: b, f.p < h.p := fun h hh => by
     rcases List.mem_cons.1 hh with rfl | hh
     · exact q
     · exact pth_trans q (hlb h hh)
    rw [rdiff_old f a (g :: b) (.inr ⟨g, b, rfl, q⟩), rdiff_diff a (g :: b) ha'.2 hb ka' kb, diff_cons (a := f :: a) (b := g :: b) (a' := a) (b' := g :: b) (p := f.p) (fun x => by rw [List.map_cons, List.cons_append, List.mem_cons]) (fun r hr => by
     rcases List.mem_append.1 hr with hr | hr
     · obtain ⟨h, hh, rfl⟩ := List.mem_map.1 hr
       exact hla h hh
     · obtain ⟨h, hh, rfl⟩ := List.mem_map.1 hr
       exact hl2 h hh) (fun r hr => getF_cons_ne (Ne.symm hr)) (fun _ _ => rfl), getF_cons_eq, getF_above hl2]
    have e : changeP f zeroF = some ⟨f, zeroF⟩ := by
     unfold changeP
     rw [if_pos]
     left
     show f.k ≠ (0 : Int)
     omega
    rw [e]
    rfl
  · rw [rdiff_two f g a b q, rdiff_diff a b ha'.2 hb'.2 ka' kb', diff_cons (a := f :: a) (b := g :: b) (a' := a) (b' := b) (p := f.p) (fun x => by
     simp only [List.map_cons, List.cons_append, List.mem_cons, List.mem_append]
     rw [← q]
     constructor
     · rintro (h | h | h | h)
       · exact .inl h
       · exact .inr (.inl h)
       · exact .inl h
       · exact .inr (.inr h)
     · rintro (h | h | h)
       · exact .inl h
       · exact .inr (.inl h)
       · exact .inr (.inr (.inr h))) (fun r hr => by
     rcases List.mem_append.1 hr with hr | hr
     · obtain ⟨h, hh, rfl⟩ := List.mem_map.1 hr
       exact hla h hh
     · obtain ⟨h, hh, rfl⟩ := List.mem_map.1 hr
       rw [q]
       exact hlb h hh) (fun r hr => getF_cons_ne (Ne.symm hr)) (fun r hr => getF_cons_ne (by rw [← q]; exact Ne.symm hr)), getF_cons_eq]
    have eg : getF (g :: b) f.p = g := by rw [q]; exact getF_cons_eq g b
    rw [eg]
    congr 1
    unfold changeP
    by_cases e : f = g
    · subst e
      rw [if_pos rfl, if_neg]
      rintro (h | h) <;> exact h rfl
    · rw [if_neg e, if_pos]
      by_cases h1 : f.k = g.k
      · right
        intro h2
        refine e ?_
        obtain ⟨p1, k1, d1⟩ := f
        obtain ⟨p2, k2, d2⟩ := g
        simp only at q h1 h2
        rw [q, h1, h2]
      · exact .inl h1
  · have hl2 : ∀ h ∈ f :: a, g.p < h.p := fun h hh => by
     rcases List.mem_cons.1 hh with rfl | hh
     · exact q
     · exact pth_trans q (hla h hh)
    rw [rdiff_new g (f :: a) b (.inr ⟨f, a, rfl, q⟩), rdiff_diff (f :: a) b ha hb'.2 ka kb', diff_cons (a := f :: a) (b := g :: b) (a' := f :: a) (b' := b) (p := g.p) (fun x => by
     simp only [List.map_cons, List.mem_append, List.mem_cons]
     constructor
     · rintro (h | h | h)
       · exact .inr (.inl h)
       · exact .inl h
       · exact .inr (.inr h)
     · rintro (h | h | h)
       · exact .inr (.inl h)
       · exact .inl h
       · exact .inr (.inr h)) (fun r hr => by
     rcases List.mem_append.1 hr with hr | hr
     · obtain ⟨h, hh, rfl⟩ := List.mem_map.1 hr
       exact hl2 h hh
     · obtain ⟨h, hh, rfl⟩ := List.mem_map.1 hr
       exact hlb h hh) (fun _ _ => rfl) (fun r hr => getF_cons_ne (Ne.symm hr)), getF_cons_eq, getF_above hl2]
    have e : changeP zeroF g = some ⟨zeroF, g⟩ := by
     unfold changeP
     rw [if_pos]
     left
     show (0 : Int) ≠ g.k
     omega
    rw [e]
    rfl
termination_by a b => a.length + b.length
end Go.Proofs.YteeeehfnldkjlaaGreatDoor
namespace Go.Proofs.YteeeehfnldkjlaaGreatDoor
theorem gather_at_o {base ours theirs : List FileD} (hb : Apt base) (kb : KindsOk base) (kt : KindsOk theirs) (ho : detectP (diffT base ours) = []) (ht : detectP (diffT base theirs) = []) {p : Pth} (he : getF base p = getF theirs p) (g : FileD) : (g ∈ (gatherP base ours theirs).t ∧ g.p = p) ↔ hasF ours p = true ∧ g = getF ours p := by
 rw [mem_gather, side_nil ho, side_nil ht]
 cases h0 : hasF base p with
 | true =>
  have hk := kind_has kb h0
  have h1 : hasF theirs p = true := by
   cases q : hasF theirs p with
   | true => rfl
   | false => rw [he, getF_none q] at hk; exact absurd rfl hk
  obtain ⟨hm, hp⟩ := getF_has h0
  have key : (fileM ⟨ours, []⟩ ⟨theirs, []⟩ (getF base p)).t = if hasF ours p = true then [getF ours p] else [] := by
   rw [file_nil, hp, h1, ← he]
   cases h2 : hasF ours p with
   | true =>
    have e2 := (getF_has h2).2
    rw [if_pos rfl, if_pos rfl, if_pos rfl, both_m0]
    have k1 : kindP (getF base p).k (getF ours p).k (getF base p).k = ((getF ours p).k, true) := by
     unfold kindP
     rw [if_pos (.inl rfl)]
     by_cases q : (getF ours p).k = (getF base p).k
     · rw [if_pos q, q]
     · rw [if_neg q]
    have k2 : (dataP (getF base p) (getF base p).k (getF ours p) (getF base p)).1 = (getF ours p).d := by
     unfold dataP
     rw [if_pos (.inr rfl)]
    rw [k1, k2]
    simp only [fd_eta e2]
   | false =>
    rw [if_neg (by simp), if_pos rfl, if_neg (by simp)]
    unfold MSt.alone
    rw [if_pos ⟨hp.symm, rfl, rfl⟩]
    rfl
  constructor
  · rintro ⟨⟨f, hf, hg⟩ | ⟨q, hq, hg⟩, e⟩
    · have e1 := ((file_nil_one ours theirs f).mem hg).1
      have : getF base p = f := by rw [← e, e1]; exact getF_mem hb hf
      rw [← this, key] at hg
      split at hg
      · rename_i h2
        rw [List.mem_singleton] at hg
        exact ⟨h2, hg⟩
      · cases hg
    · have e2 := ((fresh_nil_one base ours theirs q).mem hg).1
      rw [fresh_nil, if_pos (by rw [← e2, e]; exact h0)] at hg
      cases hg
  · rintro ⟨h2, rfl⟩
    refine ⟨.inl ⟨_, hm, ?_⟩, (getF_has h2).2⟩
    rw [key, if_pos h2]
    exact List.mem_singleton.2 rfl
 | false =>
  have h1 : hasF theirs p = false := by
   cases q : hasF theirs p with
   | false => rfl
   | true =>
    have := kind_has kt q
    rw [← he, getF_none h0] at this
    exact absurd rfl this
  constructor
  · rintro ⟨⟨f, hf, hg⟩ | ⟨q, hq, hg⟩, e⟩
    · have e1 := ((file_nil_one ours theirs f).mem hg).1
      rw [hasF_iff.2 ⟨f, hf, by rw [← e1, e]⟩] at h0
      cases h0
    · have e2 := ((fresh_nil_one base ours theirs q).mem hg).1
      obtain rfl : q = p := by rw [← e2, e]
      rw [fresh_nil, h0, h1] at hg
      simp only [Bool.false_eq_true, if_false] at hg
      split at hg
      · rename_i h2
        exact ⟨h2, List.mem_singleton.1 hg⟩
      · cases hg
  · rintro ⟨h2, rfl⟩
    refine ⟨.inr ⟨p, ?_, ?_⟩, (getF_has h2).2⟩
    · rw [mem_keysP, List.mem_append]
      exact .inl (mem_paths h2)
    · rw [fresh_nil, h0, h1, h2]
      simp
theorem gather_from {base ours theirs : List FileD} (ho : detectP (diffT base ours) = []) (ht : detectP (diffT base theirs) = []) {g : FileD} (hg : g ∈ (gatherP base ours theirs).t) : hasF base g.p = true ∨ hasF ours g.p = true ∨ hasF theirs g.p = true := by
 rw [mem_gather, side_nil ho, side_nil ht] at hg
 rcases hg with ⟨f, hf, hg⟩ | ⟨q, hq, hg⟩
 · rw [((file_nil_one ours theirs f).mem hg).1]
   exact .inl (hasF_iff.2 ⟨f, hf, rfl⟩)
 · rw [((fresh_nil_one base ours theirs q).mem hg).1]
   rw [mem_keysP, List.mem_append, List.mem_map, List.mem_map] at hq
   rcases hq with ⟨f, hf, rfl⟩ | ⟨f, hf, rfl⟩
   · exact .inr (.inl (hasF_iff.2 ⟨f, hf, rfl⟩))
   · exact .inr (.inr (hasF_iff.2 ⟨f, hf, rfl⟩))
theorem last_next (l : List FileD) (b : Bool) : ∀ (n : Nat) (p : Pth), (nextP l b n p).getLast? = some 126
 | 0, p => by simp [nextP]
 | n + 1, p => by
  rw [nextP]
  split
  · simp
  · exact last_next l b n _
theorem move_keeps {l : List FileD} {i : Nat} {f g : FileD} (h : l[i]? = some f) (hg : g ∈ l) (hn : g ≠ f) (p : Pth) : g ∈ moveP l i p := by
 obtain ⟨j, hj⟩ := List.mem_iff_getElem?.1 hg
 have hij : i ≠ j := fun e => by
  subst e
  rw [h] at hj
  exact hn (Option.some.inj hj).symm
 refine List.mem_iff_getElem?.2 ⟨j, ?_⟩
 unfold moveP
 rw [List.getElem?_modify, hj]
 simp [hij]
theorem move_old {l : List FileD} {i : Nat} {p : Pth} {g : FileD} (h : g ∈ moveP l i p) : g ∈ l ∨ g.p = p := moveP_mem h
structure Asd (l0 l : List FileD) : Prop where
 bel : ∀ p, belowN l p = belowN l0 p
 old : ∀ g ∈ l, g ∈ l0 ∨ g.p.getLast? = some 126
 stay : ∀ f ∈ l0, belowN l0 f.p = 0 → f ∈ l
theorem Asd.refl (l : List FileD) : Asd l l := ⟨fun _ => rfl, fun _ h => .inl h, fun _ h _ => h⟩
theorem Asd.step {l0 l : List FileD} (h : Asd l0 l) (c : List ClashD) (i : Nat) : Asd l0 (asideS (l, c) i).1 := by
 cases hf : l[i]? with
 | none =>
  unfold asideS
  simp only [hf]
  exact h
 | some f =>
  rw [asideS_some hf]
  split
  · rename_i hb
    refine ⟨fun p => by rw [belowN_move hf, h.bel], fun g hg => ?_, fun g hg h0 => ?_⟩
    · rcases move_old hg with q | q
      · exact h.old g q
      · rw [q]; exact .inr (last_next _ _ _ _)
    · refine move_keeps hf (h.stay g hg h0) (fun e => ?_) _
      subst e
      rw [h.bel] at hb
      omega
  · exact h
theorem Asd.range (l0 : List FileD) : ∀ (ns : List Nat) (l : List FileD) (c : List ClashD), Asd l0 l → Asd l0 (ns.foldl asideS (l, c)).1
 | [], _, _, h => h
 | n :: ns, l, c, h => by
  rw [List.foldl_cons]
  have := h.step c n
  generalize asideS (l, c) n = r at *
  obtain ⟨l', c'⟩ := r
  exact Asd.range l0 ns l' c' this
theorem belowN_perm {l m : List FileD} (h : l.Perm m) (p : Pth) : belowN l p = belowN m p := h.countP_eq _
theorem places_asd {l : List FileD} (h : Apt l) (c : List ClashD) : Asd l (placesP l c).1 := by
 unfold placesP
 simp only
 rw [apart_none h]
 have h1 := Asd.range (sortF l) (List.range l.length) (sortF l) c (Asd.refl _)
 refine ⟨fun p => by rw [h1.bel, belowN_perm (sortF_perm l)], fun g hg => ?_, fun f hf h0 => h1.stay f ((sortF_perm l).mem_iff.2 hf) (by rw [belowN_perm (sortF_perm l)]; exact h0)⟩
 rcases h1.old g hg with q | q
 · exact .inl ((sortF_perm l).mem_iff.1 q)
 · exact .inr q
theorem merge_parts {base ours theirs x : List FileD} {v : List ClashD} (h : treemergeP base ours theirs = .ok (x, v)) : checkT base = 0 ∧ checkT ours = 0 ∧ checkT theirs = 0 ∧ (gatherP base ours theirs).e = 0 ∧ x = sortF (placesP (gatherP base ours theirs).t (gatherP base ours theirs).c).1 ∧ v = clashesP (placesP (gatherP base ours theirs).t (gatherP base ours theirs).c).2 ∧ checkT x = 0 := by
 unfold treemergeP at h
 split at h
 · cases h
 · rename_i h1
   split at h
   · cases h
   · rename_i h2
     split at h
     · cases h
     · rename_i h3
       simp only at h
       split at h
       · cases h
       · rename_i h4
         split at h
         · cases h
         · rename_i h5
           injection h with h
           injection h with h6 h7
           exact ⟨Decidable.not_not.1 h1, Decidable.not_not.1 h2, Decidable.not_not.1 h3, Decidable.not_not.1 h4, h6.symm, h7.symm, by rw [← h6]; exact Decidable.not_not.1 h5⟩
theorem merge_changed {base ours theirs x : List FileD} {v : List ClashD} (h : treemergeP base ours theirs = .ok (x, v)) (ho : detectP (diffT base ours) = []) (ht : detectP (diffT base theirs) = []) {p : Pth}
    (ha : ∀ q, hasF base q = true ∨ hasF ours q = true ∨ hasF theirs q = true → p ∉ dirsP q) (hl : p.getLast? ≠ some 126) : (getF base p = getF ours p → getF x p = getF theirs p) ∧ (getF base p = getF theirs p → getF x p = getF ours p) := by
 obtain ⟨hb, hO, hT, _, hx, _, hcx⟩ := merge_parts h
 have tb := (checkT_tree hb).1
 have tO := (checkT_tree hO).1
 have tT := (checkT_tree hT).1
 have hap := gather_apt (ours := ours) (theirs := theirs) tb.apt ho ht
 have hA := places_asd hap (gatherP base ours theirs).c
 have h0 : belowN (gatherP base ours theirs).t p = 0 := belowN_zero fun f hf => ha _ (gather_from ho ht hf)
 have hax : Apt x := (checkT_tree hcx).1.apt
 have key : ∀ s : List FileD, (∀ g, (g ∈ (gatherP base ours theirs).t ∧ g.p = p) ↔ hasF s p = true ∧ g = getF s p) → getF x p = getF s p := fun s hs => by
  cases h2 : hasF s p with
  | true =>
   obtain ⟨q1, q2⟩ := (hs (getF s p)).2 ⟨h2, rfl⟩
   have q3 : getF s p ∈ x := by
    rw [hx, (sortF_perm _).mem_iff]
    exact hA.stay _ q1 (by rw [q2]; exact h0)
   have := getF_mem hax q3
   rw [q2] at this
   exact this
  | false =>
   rw [getF_none h2]
   refine getF_none ?_
   cases q : hasF x p with
   | false => rfl
   | true =>
    obtain ⟨g, hg, e⟩ := hasF_iff.1 q
    rw [hx, (sortF_perm _).mem_iff] at hg
    rcases hA.old g hg with r | r
    · have := ((hs g).1 ⟨r, e⟩).1
      rw [h2] at this
      cases this
    · rw [e] at r
      exact absurd r hl
 exact ⟨fun e => key theirs (gather_at_t tb.apt tb.kinds tO.kinds ho ht e), fun e => key ours (gather_at_o tb.apt tb.kinds tT.kinds ho ht e)⟩
end Go.Proofs.YteeeehfnldkjlaaGreatDoor
