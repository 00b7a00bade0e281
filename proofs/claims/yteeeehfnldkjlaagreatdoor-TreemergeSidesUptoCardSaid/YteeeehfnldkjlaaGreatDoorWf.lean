/-
  Plain: what the merger gathers with sides changed about. No statement of the seat is proved here.
-/
import Derived.Test.YteeeehfnldkjlaaGreatDoorTZ17
namespace Go.Proofs.YteeeehfnldkjlaaGreatDoor

theorem kindP_sw (b x y : Int) : (kindP b y x).2 = (kindP b x y).2 ∧ ((kindP b x y).2 = true → (kindP b y x).1 = (kindP b x y).1) := by
  unfold kindP
  by_cases h1 : b = y
  · by_cases h2 : b = x
    · subst h1 h2
      simp
    · subst h1
      have h3 : ¬ x = b := fun e => h2 e.symm
      simp [h3]
  · by_cases h2 : b = x
    · subst h2
      have h3 : ¬ y = b := fun e => h1 e.symm
      simp [h3]
    · rw [if_neg (by simp [h1, h2]), if_neg (by simp [h1, h2])]
      by_cases h3 : x = y
      · subst h3; simp
      · have h4 : ¬ y = x := fun e => h3 e.symm
        simp [h3, h4]
theorem dataP_sw (b : FileD) (k : Int) (x y : FileD) : (dataP b k y x).2 = (dataP b k x y).2 ∧ ((dataP b k x y).2.1 = true → (dataP b k y x).1 = (dataP b k x y).1) := by
  unfold dataP
  have e : (isText k && isText y.k && isText x.k) = (isText k && isText x.k && isText y.k) := by rw [Bool.and_assoc, Bool.and_comm (isText y.k), ← Bool.and_assoc]
  rw [e]
  by_cases h0 : x.d = y.d
  · rw [if_pos (.inl h0.symm), if_pos (.inl h0)]
    exact ⟨rfl, fun _ => h0.symm⟩
  · have h0' : ¬ y.d = x.d := fun q => h0 q.symm
    by_cases h1 : y.d = b.d
    · by_cases h2 : x.d = b.d
      · exact absurd (h2.trans h1.symm) h0
      · rw [if_neg (show ¬ (y.d = x.d ∨ x.d = b.d) from fun q => q.elim h0' h2), if_pos h1, if_pos (show x.d = y.d ∨ y.d = b.d from .inr h1)]
        exact ⟨rfl, fun _ => rfl⟩
    · by_cases h2 : x.d = b.d
      · rw [if_pos (show y.d = x.d ∨ x.d = b.d from .inr h2), if_neg (show ¬ (x.d = y.d ∨ y.d = b.d) from fun q => q.elim h0 h1), if_pos h2]
        exact ⟨rfl, fun _ => rfl⟩
      · rw [if_neg (show ¬ (y.d = x.d ∨ x.d = b.d) from fun q => q.elim h0' h2), if_neg h1, if_neg (show ¬ (x.d = y.d ∨ y.d = b.d) from fun q => q.elim h0 h1), if_neg h2]
        by_cases h3 : (isText k && isText x.k && isText y.k) = true
        · rw [if_pos h3, if_pos h3]
          rcases merge3_sw b.d x.d y.d with ⟨q1, q2⟩ | ⟨u, v, c, q1, q2, _, q4⟩
          · rw [q1, q2]
            exact ⟨rfl, fun _ => rfl⟩
          · rw [q1, q2]
            exact ⟨rfl, q4⟩
        · rw [if_neg h3, if_neg h3]
          exact ⟨rfl, fun q => by cases q⟩
/-- The same clashes, the same paths; without clashes the same things. -/
structure SwM (d d' : MSt) : Prop where
  c : d'.c = d.c
  e : d'.e = d.e
  paths : (d'.t.map (·.p)).Perm (d.t.map (·.p))
  same : d.c = [] → d'.t = d.t
theorem SwM.refl (d : MSt) : SwM d d := ⟨rfl, rfl, List.Perm.refl _, fun _ => rfl⟩
theorem SwM.app {d d' s s' : MSt} (h : SwM d d') (k : SwM s s') : SwM (d.app s) (d'.app s') where
  c := by show d'.c ++ s'.c = d.c ++ s.c; rw [h.c, k.c]
  e := by show (if d'.e = 0 then s'.e else d'.e) = (if d.e = 0 then s.e else d.e); rw [h.e, k.e]
  paths := by
    show ((d'.t ++ s'.t).map (·.p)).Perm ((d.t ++ s.t).map (·.p))
    rw [List.map_append, List.map_append]
    exact h.paths.append k.paths
  same q := by
    obtain ⟨q1, q2⟩ := List.append_eq_nil_iff.1 (show d.c ++ s.c = [] from q)
    show d'.t ++ s'.t = d.t ++ s.t
    rw [h.same q1, k.same q2]
theorem SwM.sum {α : Type} {f g : α → MSt} : ∀ {l : List α}, (∀ a ∈ l, SwM (f a) (g a)) → SwM (sumM (l.map f)) (sumM (l.map g))
  | [], _ => SwM.refl _
  | a :: _, h => (h a (List.mem_cons_self ..)).app (SwM.sum fun b hb => h b (List.mem_cons_of_mem _ hb))
theorem both_sw (p : Pth) (b : FileD) (k : Int) (x y : FileD) : SwM (m0.both p b k x y) (m0.both p b k y x) := by
  obtain ⟨k1, k2⟩ := kindP_sw b.k x.k y.k
  obtain ⟨d1, d2⟩ := dataP_sw b k x y
  rw [both_m0, both_m0]
  refine ⟨by simp only; rw [k1, d1], by simp only; rw [d1], List.Perm.refl _, fun q => ?_⟩
  simp only at q
  obtain ⟨q1, q2⟩ := List.append_eq_nil_iff.1 q
  have e1 : (kindP b.k x.k y.k).2 = true := by
    cases h : (kindP b.k x.k y.k).2 with
    | true => rfl
    | false => rw [h] at q1; simp at q1
  have e2 : (dataP b k x y).2.1 = true := by
    cases h : (dataP b k x y).2.1 with
    | true => rfl
    | false => rw [h] at q2; simp at q2
  simp only
  rw [k2 e1, d2 e2]
theorem file_sw (o t : SideD) (f : FileD) : SwM (fileM o t f) (fileM t o f) := by
  unfold fileM MSt.file
  simp only
  generalize getF o.f (o.goes f.p).1 = x
  generalize getF t.f (t.goes f.p).1 = y
  obtain ⟨po, mo⟩ := o.goes f.p
  obtain ⟨pt, mt⟩ := t.goes f.p
  simp only
  cases mo <;> cases mt
  · simp; exact SwM.refl _
  · simp; exact SwM.refl _
  · simp; exact SwM.refl _
  · simp only [Bool.true_eq_false, and_false, if_false]
    by_cases h1 : po = pt
    · subst h1
      simp only [ne_eq, not_true_eq_false, false_and, if_false]
      split
      · exact both_sw _ _ _ _ _
      · exact both_sw _ _ _ _ _
    · have h1' : ¬ pt = po := fun e => h1 e.symm
      by_cases h2 : po = f.p
      · subst h2
        simp only [ne_eq, not_true_eq_false, false_and, and_false, if_false, h1', if_true]
        exact both_sw _ _ _ _ _
      · by_cases h3 : pt = f.p
        · subst h3
          simp only [ne_eq, not_true_eq_false, false_and, and_false, if_false, h1, if_true]
          exact both_sw _ _ _ _ _
        · rw [if_pos ⟨h1, h2, h3⟩, if_pos ⟨h1', h3, h2⟩]
          refine ⟨rfl, rfl, ?_, fun q => ?_⟩
          · show ([pt, po] : List Pth).Perm [po, pt]
            exact List.Perm.swap _ _ _
          · simp [MSt.clash, MSt.stay, m0] at q
theorem fresh_sw (base : List FileD) (o t : SideD) (p : Pth) : SwM (freshM base o t p) (freshM base t o p) := by
  unfold freshM MSt.fresh1
  cases o.isNew base p <;> cases t.isNew base p
  · exact SwM.refl _
  · exact SwM.refl _
  · exact SwM.refl _
  · exact both_sw _ _ _ _ _
theorem keys_sw (a b : List Pth) : keysP (a ++ b) = keysP (b ++ a) := rise_unique (keysP_rise _) (keysP_rise _) fun x => by
  rw [mem_keysP, mem_keysP, List.mem_append, List.mem_append, or_comm]
theorem gather_sw (base ours theirs : List FileD) : SwM (gatherP base ours theirs) (gatherP base theirs ours) := by
  rw [gather_sum, gather_sum, keys_sw (theirs.map (·.p))]
  exact (SwM.sum fun f _ => file_sw _ _ f).app (SwM.sum fun p _ => fresh_sw _ _ _ p)

/-! ### Things that fit -/
def FitF (f : FileD) : Prop := (f.k = 1 ∨ f.k = 2 ∨ f.k = 3) ∧ f.d.length ≤ 65536
def FitM (d : MSt) : Prop := (∀ f ∈ d.t, FitF f) ∧ d.e = 0
theorem FitM.app {d s : MSt} (h : FitM d) (k : FitM s) : FitM (d.app s) := ⟨fun f hf => by
  rcases List.mem_append.1 (show f ∈ d.t ++ s.t from hf) with q | q
  · exact h.1 f q
  · exact k.1 f q, by show (if d.e = 0 then s.e else d.e) = 0; rw [if_pos h.2, k.2]⟩
theorem FitM.sum {α : Type} {f : α → MSt} : ∀ {l : List α}, (∀ a ∈ l, FitM (f a)) → FitM (sumM (l.map f))
  | [], _ => ⟨fun _ h => (by cases h), rfl⟩
  | a :: _, h => (h a (List.mem_cons_self ..)).app (FitM.sum fun b hb => h b (List.mem_cons_of_mem _ hb))
/-- A small file. -/
def SmF (f : FileD) : Prop := (f.k = 1 ∨ f.k = 2 ∨ f.k = 3) ∧ f.d.length ≤ 2000
theorem both_fit {p : Pth} {b : FileD} {k : Int} {x y : FileD} (hb : b.d.length ≤ 2000) (hx : SmF x) (hy : SmF y) : FitM (m0.both p b k x y) := by
  rw [both_m0]
  obtain ⟨d1, d2⟩ := data_fits (k := k) hb hx.2 hy.2
  refine ⟨fun f hf => ?_, d1⟩
  rw [List.mem_singleton.1 hf]
  refine ⟨?_, d2⟩
  simp only
  unfold kindP
  split
  · split
    · exact hy.1
    · exact hx.1
  · exact hx.1
theorem stay_fit {f : FileD} (h : SmF f) (p : Pth) : FitF { f with p := p } := ⟨h.1, by have := h.2; simp only; omega⟩
theorem alone_fit {f x : FileD} {p : Pth} (hx : SmF x) : FitM (m0.alone f p x) := by
  unfold MSt.alone
  split
  · exact ⟨fun _ h => (by cases h), rfl⟩
  · refine ⟨fun g hg => ?_, rfl⟩
    have : g ∈ [{ x with p := p }] := hg
    rw [List.mem_singleton.1 this]
    exact stay_fit hx p
theorem SmF.get {l : List FileD} (h : ∀ f ∈ l, SmF f) {p : Pth} (hp : hasF l p = true) : SmF (getF l p) := h _ (getF_has hp).1
theorem file_fit {base o t : List FileD} {ps qs : List PairD} (ho : PairsOf base o ps) (ht : PairsOf base t qs) (so : ∀ f ∈ o, SmF f) (st : ∀ f ∈ t, SmF f) {f : FileD} (hf : SmF f) : FitM (fileM ⟨o, ps⟩ ⟨t, qs⟩ f) := by
  unfold fileM MSt.file
  simp only
  have g1 : (SideD.goes ⟨o, ps⟩ f.p).2 = true → SmF (getF o (SideD.goes ⟨o, ps⟩ f.p).1) := fun h => SmF.get so (goes_in ho h)
  have g2 : (SideD.goes ⟨t, qs⟩ f.p).2 = true → SmF (getF t (SideD.goes ⟨t, qs⟩ f.p).1) := fun h => SmF.get st (goes_in ht h)
  generalize getF o (SideD.goes ⟨o, ps⟩ f.p).1 = x at *
  generalize getF t (SideD.goes ⟨t, qs⟩ f.p).1 = y at *
  generalize SideD.goes ⟨o, ps⟩ f.p = a at *
  generalize SideD.goes ⟨t, qs⟩ f.p = b at *
  split
  · rename_i h; exact alone_fit (g1 h.1)
  · split
    · rename_i h; exact alone_fit (g2 h.1)
    · split
      · exact ⟨fun _ h => (by cases h), rfl⟩
      · rename_i h1 h2 h3
        have e1 : a.2 = true := by simpa using h3
        have e2 : b.2 = true := by
          cases q : b.2 with
          | true => rfl
          | false => exact absurd ⟨e1, q⟩ h1
        split
        · refine ⟨fun g hg => ?_, rfl⟩
          have : g ∈ [{ x with p := a.1 }, { y with p := b.1 }] := hg
          simp only [List.mem_cons, List.not_mem_nil, or_false] at this
          rcases this with rfl | rfl
          · exact stay_fit (g1 e1) _
          · exact stay_fit (g2 e2) _
        · split
          · exact both_fit hf.2 (g1 e1) (g2 e2)
          · exact both_fit hf.2 (g1 e1) (g2 e2)
theorem fresh_fit {base : List FileD} {o t : SideD} (so : ∀ f ∈ o.f, SmF f) (st : ∀ f ∈ t.f, SmF f) (p : Pth) : FitM (freshM base o t p) := by
  unfold freshM MSt.fresh1
  have g1 : o.isNew base p = true → SmF (getF o.f p) := fun h => SmF.get so (isNew_iff.1 h).1
  have g2 : t.isNew base p = true → SmF (getF t.f p) := fun h => SmF.get st (isNew_iff.1 h).1
  cases h1 : o.isNew base p <;> cases h2 : t.isNew base p
  · exact ⟨fun _ h => (by cases h), rfl⟩
  · refine ⟨fun g hg => ?_, rfl⟩
    have : g ∈ [{ getF t.f p with p := p }] := hg
    rw [List.mem_singleton.1 this]
    exact stay_fit (g2 h2) _
  · refine ⟨fun g hg => ?_, rfl⟩
    have : g ∈ [{ getF o.f p with p := p }] := hg
    rw [List.mem_singleton.1 this]
    exact stay_fit (g1 h1) _
  · exact both_fit (by simp [zeroF]) (g1 h1) (g2 h2)
theorem smF_of {l : List FileD} (h : GoodT l) : ∀ f ∈ l, SmF f := fun f hf => ⟨h.tree.kinds f hf, h.data f hf⟩
theorem gather_fit {base ours theirs : List FileD} (hb : GoodT base) (ho : GoodT ours) (ht : GoodT theirs) : FitM (gatherP base ours theirs) := by
  rw [gather_sum]
  exact (FitM.sum fun f hf => file_fit (detect_of hb.tree.apt ho.tree.apt hb.tree.kinds ho.tree.kinds) (detect_of hb.tree.apt ht.tree.apt hb.tree.kinds ht.tree.kinds) (smF_of ho) (smF_of ht) (smF_of hb f hf)).app (FitM.sum fun p _ => fresh_fit (smF_of ho) (smF_of ht) p)
end Go.Proofs.YteeeehfnldkjlaaGreatDoor
