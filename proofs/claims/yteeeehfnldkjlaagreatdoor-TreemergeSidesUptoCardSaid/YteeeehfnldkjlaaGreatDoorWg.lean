/-
  Plain: places, whatever order things come in; a merge with sides changed about. No statement of the seat is proved here.
-/
import Derived.Test.YteeeehfnldkjlaaGreatDoorWf
import Derived.Test.YteeeehfnldkjlaaGreatDoorTZ24
namespace Go.Proofs.YteeeehfnldkjlaaGreatDoor

/-! ### The next free path -/
theorem freeP_false (l : List FileD) (p : Pth) : freeP l false p = true ↔ p ∉ l.map (·.p) := by
  unfold freeP atN
  simp only [Bool.not_false, Bool.true_or, Bool.and_true, beq_iff_eq]
  rw [List.countP_eq_zero]
  simp only [beq_iff_eq, List.mem_map, not_exists, not_and]
def til (p : Pth) (m : Nat) : Pth := p ++ List.replicate (m + 1) 126
theorem til_til (p : Pth) (m k : Nat) : til (til p m) k = til p (m + 1 + k) := by
  unfold til
  rw [List.append_assoc, List.replicate_append_replicate]
  rfl
theorem nextP_til (l : List FileD) (b : Bool) : ∀ (n : Nat) (p : Pth), ∃ m, nextP l b n p = til p m ∧ ∀ j < m, freeP l b (til p j) = false
  | 0, p => ⟨0, rfl, fun _ h => by omega⟩
  | n + 1, p => by
    rw [nextP]
    by_cases h : freeP l b (p ++ [126]) = true
    · rw [if_pos h]
      exact ⟨0, rfl, fun _ h => by omega⟩
    · rw [if_neg h]
      obtain ⟨m, h1, h2⟩ := nextP_til l b n (p ++ [126])
      refine ⟨0 + 1 + m, by rw [h1]; exact til_til p 0 m, fun j hj => ?_⟩
      rcases j with _ | j
      · exact Bool.not_eq_true _ ▸ h
      · have := h2 j (by omega)
        rw [show til (p ++ [126]) j = til p (0 + 1 + j) from til_til p 0 j] at this
        rw [show j + 1 = 0 + 1 + j from by omega]
        exact this
theorem nextF_same {l l' : List FileD} {b : Bool} (h : ∀ p, freeP l b p = freeP l' b p) (p : Pth) : nextF l b p = nextF l' b p := by
  obtain ⟨m, h1, h2⟩ := nextP_til l b (l.map (fun f => f.p.length)).sum p
  obtain ⟨m', h1', h2'⟩ := nextP_til l' b (l'.map (fun f => f.p.length)).sum p
  have f1 := nextF_free l b p
  have f2 := nextF_free l' b p
  unfold nextF at f1 f2 ⊢
  rw [h1] at f1 ⊢
  rw [h1'] at f2 ⊢
  rcases Nat.lt_trichotomy m m' with q | q | q
  · have := h2' m q
    rw [← h, f1] at this
    cases this
  · rw [q]
  · have := h2 m' q
    rw [h, f2] at this
    cases this

/-! ### Parked -/
def SEq (a b : List Pth) : Prop := ∀ p, p ∈ a ↔ p ∈ b
def IsN (ps : List Pth) (q v : Pth) : Prop := ∃ m, v = til q m ∧ v ∉ ps ∧ ∀ j < m, til q j ∈ ps
theorem IsN.unique {ps : List Pth} {q v v' : Pth} (h : IsN ps q v) (h' : IsN ps q v') : v = v' := by
  obtain ⟨m, rfl, h1, h2⟩ := h
  obtain ⟨m', rfl, h1', h2'⟩ := h'
  rcases Nat.lt_trichotomy m m' with r | r | r
  · exact absurd (h2' m r) h1
  · rw [r]
  · exact absurd (h2 m' r) h1'
theorem next_is (l : List FileD) (q : Pth) : IsN (l.map (·.p)) q (nextF l false q) := by
  obtain ⟨m, h1, h2⟩ := nextP_til l false (l.map (fun f => f.p.length)).sum q
  refine ⟨m, h1, (freeP_false l _).1 (nextF_free l false q), fun j hj => ?_⟩
  have h3 := h2 j hj
  rcases Classical.em (til q j ∈ l.map (·.p)) with r | r
  · exact r
  · rw [(freeP_false l _).2 r] at h3
    cases h3
def toF (ps : List Pth) : List FileD := ps.map fun p => ⟨p, 0, []⟩
theorem toF_p (ps : List Pth) : (toF ps).map (·.p) = ps := by unfold toF; rw [List.map_map]; exact List.map_id' ps
def nxt (ps : List Pth) (q : Pth) : Pth := nextF (toF ps) false q
theorem nxt_is (ps : List Pth) (q : Pth) : IsN ps q (nxt ps q) := by
  have := next_is (toF ps) q
  rwa [toF_p] at this
theorem IsN.of {ps ps' : List Pth} {q v : Pth} (h : IsN ps q v) (e : SEq ps ps') : IsN ps' q v := by
  obtain ⟨m, h1, h2, h3⟩ := h
  exact ⟨m, h1, fun r => h2 ((e v).2 r), fun j hj => (e _).1 (h3 j hj)⟩
def parkL (ps : List Pth) (q : Pth) : List Pth := nxt ps q :: ps
theorem parkL_of {ps ps' : List Pth} (e : SEq ps ps') (q : Pth) : SEq (parkL ps q) (parkL ps' q) := by
  have : nxt ps q = nxt ps' q := ((nxt_is ps q).of e).unique (nxt_is ps' q)
  intro p
  unfold parkL
  rw [this, List.mem_cons, List.mem_cons, e p]
theorem IsN.past {ps : List Pth} {q v : Pth} (h : IsN ps q v) (u : Pth) (hu : IsN (v :: ps) v u) : IsN (v :: ps) q u := by
  obtain ⟨m, rfl, h1, h2⟩ := h
  obtain ⟨k, rfl, h3, h4⟩ := hu
  refine ⟨m + 1 + k, til_til q m k, h3, fun j hj => ?_⟩
  rcases Nat.lt_trichotomy j m with r | r | r
  · exact List.mem_cons_of_mem _ (h2 j r)
  · rw [r]; exact List.mem_cons_self ..
  · have := h4 (j - m - 1) (by omega)
    rw [til_til] at this
    rwa [show m + 1 + (j - m - 1) = j from by omega] at this
theorem park_comm (ps : List Pth) (a b : Pth) : SEq (parkL (parkL ps a) b) (parkL (parkL ps b) a) := by
  have ha := nxt_is ps a
  have hb := nxt_is ps b
  have ea : parkL ps a = nxt ps a :: ps := rfl
  have eb : parkL ps b = nxt ps b :: ps := rfl
  by_cases h : nxt ps a = nxt ps b
  · have h1 : nxt (parkL ps a) b = nxt (parkL ps a) (nxt ps a) := by
      refine (nxt_is _ b).unique ?_
      rw [ea, h]
      exact hb.past _ (nxt_is _ _)
    have h2 : nxt (parkL ps b) a = nxt (parkL ps b) (nxt ps b) := by
      refine (nxt_is _ a).unique ?_
      rw [eb, ← h]
      exact ha.past _ (nxt_is _ _)
    intro p
    unfold parkL at h1 h2 ⊢
    rw [h1, h2, h]
  · have h1 : nxt (parkL ps a) b = nxt ps b := by
      refine (nxt_is _ b).unique ?_
      obtain ⟨m, e, q1, q2⟩ := hb
      exact ⟨m, e, fun q => by
        rcases List.mem_cons.1 q with q | q
        · exact h q.symm
        · exact q1 q, fun j hj => List.mem_cons_of_mem _ (q2 j hj)⟩
    have h2 : nxt (parkL ps b) a = nxt ps a := by
      refine (nxt_is _ a).unique ?_
      obtain ⟨m, e, q1, q2⟩ := ha
      exact ⟨m, e, fun q => by
        rcases List.mem_cons.1 q with q | q
        · exact h q
        · exact q1 q, fun j hj => List.mem_cons_of_mem _ (q2 j hj)⟩
    intro p
    show p ∈ nxt (parkL ps a) b :: nxt ps a :: ps ↔ p ∈ nxt (parkL ps b) a :: nxt ps b :: ps
    rw [h1, h2]
    simp only [List.mem_cons]
    constructor
    · rintro (q | q | q)
      · exact .inr (.inl q)
      · exact .inl q
      · exact .inr (.inr q)
    · rintro (q | q | q)
      · exact .inr (.inl q)
      · exact .inl q
      · exact .inr (.inr q)
def parkAll (ps es : List Pth) : List Pth := es.foldl parkL ps
theorem parkAll_of : ∀ (es : List Pth) {ps ps' : List Pth}, SEq ps ps' → SEq (parkAll ps es) (parkAll ps' es)
  | [], _, _, h => h
  | q :: es, _, _, h => parkAll_of es (parkL_of h q)
theorem parkAll_perm {es es' : List Pth} (h : es.Perm es') : ∀ ps, SEq (parkAll ps es) (parkAll ps es') := by
  induction h with
  | nil => exact fun _ _ => Iff.rfl
  | cons x _ ih => exact fun ps => ih (parkL ps x)
  | swap x y l => exact fun ps => parkAll_of l (park_comm ps y x)
  | trans _ _ h1 h2 => exact fun ps p => (h1 ps p).trans (h2 ps p)

/-! ### Second ones -/
def exFrom : List Pth → List Pth → List Pth
  | _, [] => []
  | seen, p :: ps => if p ∈ seen then p :: exFrom seen ps else exFrom (p :: seen) ps
theorem exFrom_snoc (q : Pth) : ∀ (ps seen : List Pth), exFrom seen (ps ++ [q]) = exFrom seen ps ++ if q ∈ seen ∨ q ∈ ps then [q] else []
  | [], seen => by
    simp only [List.nil_append, exFrom, List.not_mem_nil, or_false]
  | p :: ps, seen => by
    rw [List.cons_append, exFrom, exFrom]
    split
    · rename_i h
      rw [exFrom_snoc q ps seen, List.cons_append]
      congr 2
      have : (q ∈ seen ∨ q ∈ ps) ↔ (q ∈ seen ∨ q ∈ p :: ps) := by
        rw [List.mem_cons]
        constructor
        · rintro (r | r)
          · exact .inl r
          · exact .inr (.inr r)
        · rintro (r | r | r)
          · exact .inl r
          · exact .inl (r ▸ h)
          · exact .inr r
      simp only [this]
    · rw [exFrom_snoc q ps (p :: seen)]
      congr 1
      have : (q ∈ p :: seen ∨ q ∈ ps) ↔ (q ∈ seen ∨ q ∈ p :: ps) := by
        rw [List.mem_cons, List.mem_cons]
        constructor
        · rintro ((r | r) | r)
          · exact .inr (.inl r)
          · exact .inl r
          · exact .inr (.inr r)
        · rintro (r | r | r)
          · exact .inl (.inr r)
          · exact .inl (.inl r)
          · exact .inr r
      simp only [this]
theorem exFrom_count (q : Pth) : ∀ (ps seen : List Pth), (exFrom seen ps).count q = ps.count q - if q ∈ seen then 0 else 1
  | [], seen => by simp [exFrom]
  | p :: ps, seen => by
    rw [exFrom]
    by_cases h : p ∈ seen
    · rw [if_pos h, List.count_cons, List.count_cons, exFrom_count q ps seen]
      by_cases e : p = q
      · subst e
        simp [h]
      · simp [e]
    · rw [if_neg h, exFrom_count q ps (p :: seen), List.count_cons]
      by_cases e : p = q
      · subst e
        simp [h]
      · have e' : ¬ q = p := fun r => e r.symm
        simp [e, e']
theorem exFrom_perm {ps ps' : List Pth} (h : ps.Perm ps') : (exFrom [] ps).Perm (exFrom [] ps') := by
  rw [List.perm_iff_count]
  intro q
  rw [exFrom_count, exFrom_count, h.count_eq]

/-! ### The first pass -/
structure PkI (l0 : List FileD) (c0 : List ClashD) (i : Nat) (l : List FileD) (c : List ClashD) : Prop where
  len : l.length = l0.length
  drop : l.drop i = l0.drop i
  j1 : ∀ p ∈ (l0.take i).map (·.p), p ∈ (l.take i).map (·.p)
  j2 : ∀ g ∈ l.take i, g.p ∈ (l0.take i).map (·.p) ∨ g.p ∉ (l0.drop i).map (·.p)
  occ : SEq (l.map (·.p)) (parkAll (l0.map (·.p)) (exFrom [] ((l0.map (·.p)).take i)))
  cl : c = c0 ++ (exFrom [] ((l0.map (·.p)).take i)).map fun q => ⟨q, 5⟩
theorem PkI.start (l : List FileD) (c : List ClashD) : PkI l c 0 l c where
  len := rfl
  drop := rfl
  j1 := by simp
  j2 := by simp
  occ := fun _ => Iff.rfl
  cl := by simp [exFrom]
theorem moveP_drop (l : List FileD) (i : Nat) (p : Pth) : (moveP l i p).drop (i + 1) = l.drop (i + 1) := by
  unfold moveP
  apply List.ext_getElem?
  intro j
  rw [List.getElem?_drop, List.getElem?_drop, List.getElem?_modify]
  have : i ≠ i + 1 + j := by omega
  simp [this]
theorem moveP_map {l : List FileD} {i : Nat} (p : Pth) : (moveP l i p).map (·.p) = (l.map (·.p)).set i p := by
  unfold moveP
  apply List.ext_getElem?
  intro j
  rw [List.getElem?_map, List.getElem?_modify, List.getElem?_set, List.getElem?_map, List.length_map]
  by_cases e : i = j
  · subst e
    cases h : l[i]? with
    | none =>
      have : ¬ i < l.length := fun q => by rw [List.getElem?_eq_getElem q] at h; cases h
      simp [this]
    | some x =>
      have : i < l.length := (List.getElem?_eq_some_iff.1 h).1
      simp [this]
  · simp [e]
theorem PkI.step {l0 l : List FileD} {c0 c : List ClashD} {i : Nat} (h : PkI l0 c0 i l c) (hi : i < l0.length) : PkI l0 c0 (i + 1) (apartS (l, c) i).1 (apartS (l, c) i).2 := by
  have hl : i < l.length := by rw [h.len]; exact hi
  obtain ⟨f, hf⟩ : ∃ f, l[i]? = some f := ⟨_, List.getElem?_eq_getElem hl⟩
  have hf0 : l0[i]? = some f := by
    have := congrArg (·[0]?) h.drop
    simp only [List.getElem?_drop, Nat.add_zero] at this
    rw [← this, hf]
  have ht0 : (l0.map (·.p)).take (i + 1) = (l0.map (·.p)).take i ++ [f.p] := by
    rw [List.take_add_one, List.getElem?_map, hf0]
    rfl
  have ht1 : (l0.take (i + 1)).map (·.p) = (l0.take i).map (·.p) ++ [f.p] := by
    rw [List.take_add_one, hf0, List.map_append]
    rfl
  have hfd : f.p ∈ (l0.drop i).map (·.p) := List.mem_map.2 ⟨f, List.mem_of_getElem? (i := 0) (by rw [List.getElem?_drop, Nat.add_zero]; exact hf0), rfl⟩
  have hsub : ∀ p ∈ (l0.drop (i + 1)).map (·.p), p ∈ (l0.drop i).map (·.p) := fun p hp => by
    obtain ⟨g, hg, rfl⟩ := List.mem_map.1 hp
    refine List.mem_map.2 ⟨g, ?_, rfl⟩
    rw [show i + 1 = i + 1 from rfl, ← List.drop_drop] at hg
    exact List.mem_of_mem_drop hg
  have hcond : (l.take i).any (fun g => g.p == f.p) = true ↔ f.p ∈ (l0.map (·.p)).take i := by
    rw [← List.map_take, List.any_eq_true]
    constructor
    · rintro ⟨g, hg, e⟩
      have e : g.p = f.p := by simpa using e
      rcases h.j2 g hg with q | q
      · rw [← e]; exact q
      · rw [e] at q; exact absurd hfd q
    · intro hp
      obtain ⟨g, hg, e⟩ := List.mem_map.1 (h.j1 _ hp)
      exact ⟨g, hg, by simpa using e⟩
  have hx : exFrom [] ((l0.map (·.p)).take (i + 1)) = exFrom [] ((l0.map (·.p)).take i) ++ if f.p ∈ (l0.map (·.p)).take i then [f.p] else [] := by
    rw [ht0, exFrom_snoc]
    simp only [List.not_mem_nil, false_or]
  rw [apartS_some hf]
  by_cases hc : (l.take i).any (fun g => g.p == f.p) = true
  · have hc' := hcond.1 hc
    rw [if_pos hc]
    rw [if_pos hc'] at hx
    have hin : f.p ∈ (l.take i).map (·.p) := h.j1 _ (by rw [List.map_take]; exact hc')
    have hv := next_is l f.p
    refine ⟨by rw [moveP_len]; exact h.len, ?_, fun p hp => ?_, fun g hg => ?_, ?_, ?_⟩
    · rw [moveP_drop]
      have := congrArg (List.drop 1) h.drop
      rwa [List.drop_drop, List.drop_drop] at this
    · rw [List.take_add_one, moveP_take, List.map_append, List.mem_append]
      rw [ht1, List.mem_append, List.mem_singleton] at hp
      rcases hp with hp | rfl
      · exact .inl (h.j1 p hp)
      · exact .inl hin
    · rw [List.take_add_one, moveP_take, moveP_at hf] at hg
      rw [ht1]
      rcases List.mem_append.1 hg with q | q
      · rcases h.j2 g q with r | r
        · exact .inl (List.mem_append.2 (.inl r))
        · exact .inr fun s => r (hsub _ s)
      · simp only [Option.toList_some, List.mem_singleton] at q
        subst q
        refine .inr fun s => ?_
        obtain ⟨m, _, h2, _⟩ := hv
        refine h2 ?_
        have s' := hsub _ s
        rw [← h.drop] at s'
        obtain ⟨g, hg, e⟩ := List.mem_map.1 s'
        exact List.mem_map.2 ⟨g, List.mem_of_mem_drop hg, e⟩
    · rw [hx]
      unfold parkAll
      rw [List.foldl_append]
      show SEq _ (parkL (parkAll (l0.map (·.p)) (exFrom [] ((l0.map (·.p)).take i))) f.p)
      have e1 : nextF l false f.p = nxt (parkAll (l0.map (·.p)) (exFrom [] ((l0.map (·.p)).take i))) f.p := (hv.of h.occ).unique (nxt_is _ _)
      intro p
      unfold parkL
      rw [← e1, List.mem_cons, ← h.occ p]
      have hsp := split_at hf
      have hm := moveP_split hf (nextF l false f.p)
      rw [hm]
      conv => rhs; rhs; rw [hsp]
      simp only [List.map_append, List.map_cons, List.map_nil, List.mem_append, List.mem_cons, List.not_mem_nil, or_false]
      constructor
      · rintro (q | q | q)
        · exact .inr (.inl q)
        · exact .inl q
        · exact .inr (.inr (.inr q))
      · rintro (q | q | q | q)
        · exact .inr (.inl q)
        · exact .inl q
        · exact .inl (q ▸ hin)
        · exact .inr (.inr q)
    · rw [hx, h.cl]
      simp
  · have hc' : ¬ f.p ∈ (l0.map (·.p)).take i := fun q => hc (hcond.2 q)
    rw [if_neg hc]
    rw [if_neg hc', List.append_nil] at hx
    refine ⟨h.len, ?_, fun p hp => ?_, fun g hg => ?_, by rw [hx]; exact h.occ, by rw [hx]; exact h.cl⟩
    · have := congrArg (List.drop 1) h.drop
      rwa [List.drop_drop, List.drop_drop] at this
    · rw [List.take_add_one, hf, List.map_append, List.mem_append]
      rw [ht1, List.mem_append, List.mem_singleton] at hp
      rcases hp with hp | rfl
      · exact .inl (h.j1 p hp)
      · exact .inr (by simp)
    · rw [List.take_add_one, hf] at hg
      rw [ht1]
      rcases List.mem_append.1 hg with q | q
      · rcases h.j2 g q with r | r
        · exact .inl (List.mem_append.2 (.inl r))
        · exact .inr fun s => r (hsub _ s)
      · simp only [Option.toList_some, List.mem_singleton] at q
        subst q
        exact .inl (List.mem_append.2 (.inr (List.mem_singleton.2 rfl)))
theorem PkI.range (l0 : List FileD) (c0 : List ClashD) : ∀ (i : Nat), i ≤ l0.length → PkI l0 c0 i ((List.range i).foldl apartS (l0, c0)).1 ((List.range i).foldl apartS (l0, c0)).2
  | 0, _ => PkI.start _ _
  | i + 1, hi => by
    rw [range_fold]
    exact (PkI.range l0 c0 i (by omega)).step (by omega)
/-- Paths and clashes behind the first pass. -/
theorem apart_sw {l l' : List FileD} {c : List ClashD} (h : (l'.map (·.p)).Perm (l.map (·.p))) :
    (((List.range l'.length).foldl apartS (l', c)).1.map (·.p)).Perm (((List.range l.length).foldl apartS (l, c)).1.map (·.p)) ∧ (∀ x, x ∈ ((List.range l'.length).foldl apartS (l', c)).2 ↔ x ∈ ((List.range l.length).foldl apartS (l, c)).2) ∧ (∀ x ∈ c, x ∈ ((List.range l.length).foldl apartS (l, c)).2) := by
  have h1 := PkI.range l c l.length (Nat.le_refl _)
  have h2 := PkI.range l' c l'.length (Nat.le_refl _)
  have big : ∀ m : List FileD, ∃ L, ∀ f ∈ m, f.p.length ≤ L := fun m => by
    induction m with
    | nil => exact ⟨0, fun _ h => by cases h⟩
    | cons y m ih =>
      obtain ⟨L, hL⟩ := ih
      refine ⟨max L y.p.length, fun f hf => ?_⟩
      rcases List.mem_cons.1 hf with rfl | q
      · omega
      · have := hL f q; omega
  have apt : ∀ m : List FileD, ∀ c : List ClashD, Apt ((List.range m.length).foldl apartS (m, c)).1 := fun m c => by
    obtain ⟨L, hL⟩ := big m
    have h0 : ApI m.length L 0 m := ⟨rfl, by simp [Apt], fun f hf => by have := hL f hf; omega⟩
    have h1 := apart_range m.length m c (Nat.le_refl _) h0
    have := h1.apt
    rwa [List.take_of_length_le (by rw [h1.len]; exact Nat.le_refl _)] at this
  have n1 := apt l c
  have n2 := apt l' c
  have e1 : ((l.map (·.p)).take l.length) = l.map (·.p) := by rw [List.take_of_length_le]; simp
  have e2 : ((l'.map (·.p)).take l'.length) = l'.map (·.p) := by rw [List.take_of_length_le]; simp
  have o1 := h1.occ
  have o2 := h2.occ
  have c1 := h1.cl
  have c2 := h2.cl
  rw [e1] at o1 c1
  rw [e2] at o2 c2
  have hx := exFrom_perm h
  refine ⟨?_, fun x => ?_, fun x hx => ?_⟩
  · refine (List.perm_ext_iff_of_nodup n2 n1).2 fun p => ?_
    rw [o2 p, o1 p]
    exact (parkAll_perm hx _ p).trans (parkAll_of _ (fun p => h.mem_iff) p)
  · rw [c2, c1, List.mem_append, List.mem_append, (hx.map _).mem_iff]
  · rw [c1]
    exact List.mem_append.2 (.inl hx)

/-! ### The second pass -/
theorem sortF_rise {l : List FileD} (h : Apt l) : RiseP ((sortF l).map (·.p)) := by
  have h1 := sortBy_sorted (pth_ord (fun f : FileD => f.p)) l
  have h2 := sortF_apt h
  unfold SortedP at h1
  unfold RiseP
  unfold Apt at h2
  rw [List.pairwise_map]
  rw [List.nodup_iff_pairwise_ne, List.pairwise_map] at h2
  refine List.Pairwise.imp₂ (fun a b q1 q2 => ?_) h1 h2
  simp only [decide_eq_false_iff_not] at q1
  rcases pth_tri a.p b.p with q | q | q
  · exact q
  · exact absurd q q2
  · exact absurd q q1
theorem sortF_paths {l l' : List FileD} (h : (l'.map (·.p)).Perm (l.map (·.p))) (ha : Apt l) : (sortF l').map (·.p) = (sortF l).map (·.p) := by
  have ha' : Apt l' := h.nodup_iff.2 ha
  refine rise_unique (sortF_rise ha') (sortF_rise ha) fun p => ?_
  rw [((sortF_perm l').map (·.p)).mem_iff, ((sortF_perm l).map (·.p)).mem_iff]
  exact h.mem_iff
theorem belowN_map (l : List FileD) (q : Pth) : belowN l q = (l.map (·.p)).countP fun p => (dirsP p).contains q := by
  unfold belowN
  rw [List.countP_map]
  rfl
theorem atN_map (l : List FileD) (q : Pth) : atN l q = (l.map (·.p)).countP fun p => p == q := by
  unfold atN
  rw [List.countP_map]
  rfl
theorem free_map {l l' : List FileD} (h : l'.map (·.p) = l.map (·.p)) (b : Bool) (p : Pth) : freeP l' b p = freeP l b p := by
  unfold freeP
  rw [atN_map, atN_map, belowN_map, belowN_map, h]
structure PC (r r' : List FileD × List ClashD) : Prop where
  p : r'.1.map (·.p) = r.1.map (·.p)
  c : ∀ x, x ∈ r'.2 ↔ x ∈ r.2
theorem PC.step {r r' : List FileD × List ClashD} (h : PC r r') (i : Nat) : PC (asideS r i) (asideS r' i) ∧ ∀ x ∈ r.2, x ∈ (asideS r i).2 := by
  obtain ⟨l, c⟩ := r
  obtain ⟨l', c'⟩ := r'
  have hp : l'.map (·.p) = l.map (·.p) := h.p
  have hc : ∀ x, x ∈ c' ↔ x ∈ c := h.c
  have hi := congrArg (·[i]?) hp
  simp only [List.getElem?_map] at hi
  cases hf : l[i]? with
  | none =>
    rw [hf, Option.map_none, Option.map_eq_none_iff] at hi
    unfold asideS
    simp only [hf, hi]
    exact ⟨h, fun _ hx => hx⟩
  | some f =>
    rw [hf, Option.map_some, Option.map_eq_some_iff] at hi
    obtain ⟨f', hf', e⟩ := hi
    rw [asideS_some hf, asideS_some hf', belowN_map, belowN_map, hp, e]
    split
    · refine ⟨⟨?_, fun x => ?_⟩, fun x hx => List.mem_append.2 (.inl hx)⟩
      · show (moveP l' i _).map (·.p) = (moveP l i _).map (·.p)
        rw [moveP_map, moveP_map, hp, nextF_same (fun p => free_map hp true p)]
      · show x ∈ c' ++ _ ↔ x ∈ c ++ _
        rw [List.mem_append, List.mem_append, hc]
    · exact ⟨h, fun _ hx => hx⟩
theorem PC.fold : ∀ (ns : List Nat) {r r' : List FileD × List ClashD}, PC r r' → PC (ns.foldl asideS r) (ns.foldl asideS r') ∧ ∀ x ∈ r.2, x ∈ (ns.foldl asideS r).2
  | [], _, _, h => ⟨h, fun _ hx => hx⟩
  | n :: ns, _, _, h => by
    obtain ⟨h1, h2⟩ := h.step n
    obtain ⟨h3, h4⟩ := PC.fold ns h1
    exact ⟨h3, fun x hx => h4 x (h2 x hx)⟩
theorem places_sw {l l' : List FileD} {c : List ClashD} (h : (l'.map (·.p)).Perm (l.map (·.p))) : PC (placesP l c) (placesP l' c) ∧ ∀ x ∈ c, x ∈ (placesP l c).2 := by
  obtain ⟨h1, h2, h3⟩ := apart_sw (c := c) h
  have hn : l'.length = l.length := by simpa using h.length_eq
  unfold placesP
  simp only
  have apt : Apt ((List.range l.length).foldl apartS (l, c)).1 := by
    have big : ∃ L, ∀ f ∈ l, f.p.length ≤ L := ⟨(l.map (fun f => f.p.length)).sum, fun f hf => len_sum hf⟩
    obtain ⟨L, hL⟩ := big
    have h0 : ApI l.length L 0 l := ⟨rfl, by simp [Apt], fun f hf => by have := hL f hf; omega⟩
    have h1 := apart_range l.length l c (Nat.le_refl _) h0
    have := h1.apt
    rwa [List.take_of_length_le (by rw [h1.len]; exact Nat.le_refl _)] at this
  have hpc : PC (sortF ((List.range l.length).foldl apartS (l, c)).1, ((List.range l.length).foldl apartS (l, c)).2) (sortF ((List.range l'.length).foldl apartS (l', c)).1, ((List.range l'.length).foldl apartS (l', c)).2) := ⟨sortF_paths h1 apt, h2⟩
  obtain ⟨q1, q2⟩ := PC.fold (List.range l.length) hpc
  rw [hn] at q1 ⊢
  exact ⟨q1, fun x hx => q2 x (h3 x hx)⟩

/-! ### Sides changed about -/
theorem fileE_path {f g : FileD} (hf : FitF f) (hg : FitF g) (h : f.p = g.p) : fileE f = fileE g := by
  have e1 : ¬ (f.k ≠ 1 ∧ f.k ≠ 2 ∧ f.k ≠ 3) := by have := hf.1; omega
  have e2 : ¬ (g.k ≠ 1 ∧ g.k ≠ 2 ∧ g.k ≠ 3) := by have := hg.1; omega
  have e3 : ¬ 65536 < f.d.length := by have := hf.2; omega
  have e4 : ¬ 65536 < g.d.length := by have := hg.2; omega
  unfold fileE
  rw [h, if_neg e1, if_neg e2, if_neg e3, if_neg e4]
theorem lastLe_map {l l' : List FileD} (h : l'.map (·.p) = l.map (·.p)) (p : Pth) : lastLe l' p = lastLe l p := by
  unfold lastLe
  have := congrArg List.getLast? h
  rw [List.getLast?_map, List.getLast?_map] at this
  cases h1 : l'.getLast? with
  | none =>
    cases h2 : l.getLast? with
    | none => rfl
    | some g => rw [h1, h2] at this; cases this
  | some g' =>
    cases h2 : l.getLast? with
    | none => rw [h1, h2] at this; cases this
    | some g =>
      rw [h1, h2] at this
      simp only [Option.map_some, Option.some.injEq] at this
      simp only [this]
theorem checkL_map : ∀ {l l' d d' : List FileD}, l'.map (·.p) = l.map (·.p) → d'.map (·.p) = d.map (·.p) → (∀ f ∈ l, FitF f) → (∀ f ∈ l', FitF f) → checkL d' l' = checkL d l
  | [], [], _, _, _, _, _, _ => rfl
  | [], _ :: _, _, _, h, _, _, _ => by cases h
  | _ :: _, [], _, _, h, _, _, _ => by cases h
  | f :: l, f' :: l', d, d', h, hd, h1, h2 => by
    rw [List.map_cons, List.map_cons] at h
    injection h with h3 h4
    have e1 := fileE_path (h2 f' (List.mem_cons_self ..)) (h1 f (List.mem_cons_self ..)) h3
    have e2 : (dirsP f'.p).any (fun x => d'.any (fun g => g.p == x)) = (dirsP f.p).any (fun x => d.any (fun g => g.p == x)) := by
      rw [h3]
      congr 1
      funext x
      have key : ∀ m : List FileD, m.any (fun g => g.p == x) = (m.map (·.p)).any (fun p => p == x) := fun m => by rw [List.any_map]; rfl
      rw [key, key, hd]
    rw [checkL, checkL, e1, e2, lastLe_map hd, h3, checkL_map (d := d ++ [f]) (d' := d' ++ [f']) h4 (by rw [List.map_append, List.map_append, hd]; simp [h3]) (fun g hg => h1 g (List.mem_cons_of_mem _ hg)) (fun g hg => h2 g (List.mem_cons_of_mem _ hg))]
theorem ents_map {l l' : List FileD} (h : l'.map (·.p) = l.map (·.p)) : entsP l' = entsP l := by
  have key : ∀ m : List FileD, entsP m = (m.map (·.p)).flatMap fun p => (dirsP p ++ [p]).map fun d => (parN d, lastN d) := fun m => by
    unfold entsP
    rw [List.flatMap_map]
  rw [key, key, h]
theorem checkT_map {l l' : List FileD} (h : l'.map (·.p) = l.map (·.p)) (h1 : ∀ f ∈ l, FitF f) (h2 : ∀ f ∈ l', FitF f) : checkT l' = checkT l := by
  have hn : l'.length = l.length := by simpa using congrArg List.length h
  unfold checkT
  rw [hn, checkL_map (d := []) (d' := []) h rfl h1 h2]
  unfold crowdP
  rw [ents_map h]
theorem places_fit {l : List FileD} {c : List ClashD} (h : ∀ f ∈ l, FitF f) : ∀ f ∈ (placesP l c).1, FitF f := by
  have mv : ∀ (l : List FileD) (i : Nat) (p : Pth), (∀ f ∈ l, FitF f) → ∀ f ∈ moveP l i p, FitF f := fun l i p h f hf => by
    obtain ⟨j, hj⟩ := List.mem_iff_getElem?.1 hf
    unfold moveP at hj
    rw [List.getElem?_modify] at hj
    cases q : l[j]? with
    | none => rw [q] at hj; simp at hj
    | some x =>
      rw [q] at hj
      have hx := h x (List.mem_of_getElem? q)
      by_cases e : i = j
      · simp [e] at hj
        subst hj
        exact hx
      · simp [e] at hj
        subst hj
        exact hx
  have a1 : ∀ (ns : List Nat) (r : List FileD × List ClashD), (∀ f ∈ r.1, FitF f) → ∀ f ∈ (ns.foldl apartS r).1, FitF f := fun ns => by
    induction ns with
    | nil => exact fun r h => h
    | cons n ns ih =>
      intro r h
      refine ih _ ?_
      unfold apartS
      split
      · exact h
      · split
        · exact mv _ _ _ h
        · exact h
  have a2 : ∀ (ns : List Nat) (r : List FileD × List ClashD), (∀ f ∈ r.1, FitF f) → ∀ f ∈ (ns.foldl asideS r).1, FitF f := fun ns => by
    induction ns with
    | nil => exact fun r h => h
    | cons n ns ih =>
      intro r h
      refine ih _ ?_
      unfold asideS
      split
      · exact h
      · split
        · exact mv _ _ _ h
        · exact h
  unfold placesP
  exact a2 _ _ fun f hf => a1 _ _ h f ((sortF_perm _).mem_iff.1 hf)
theorem merge_sides {base ours theirs : List FileD} (hb : GoodT base) (ho : GoodT ours) (ht : GoodT theirs) (lb : base.length ≤ 64) (lo : ours.length ≤ 64) (lt : theirs.length ≤ 64) :
    (∃ e, e ≠ 0 ∧ treemergeP base ours theirs = .error e ∧ treemergeP base theirs ours = .error e) ∨ ∃ x y v, treemergeP base ours theirs = .ok (x, v) ∧ treemergeP base theirs ours = .ok (y, v) ∧ (v = [] → x = y) := by
  have cb := good_check hb lb
  have co := good_check ho lo
  have ct := good_check ht lt
  have hs := gather_sw base ours theirs
  have f1 := gather_fit hb ho ht
  have f2 := gather_fit hb ht ho
  obtain ⟨q1, q2⟩ := places_sw (l := (gatherP base ours theirs).t) (l' := (gatherP base theirs ours).t) (c := (gatherP base ours theirs).c) hs.paths
  have g1 := places_fit (c := (gatherP base ours theirs).c) f1.1
  have g2 := places_fit (c := (gatherP base ours theirs).c) f2.1
  have apt : Apt (placesP (gatherP base ours theirs).t (gatherP base ours theirs).c).1 := by
    have big : ∃ L, ∀ f ∈ (gatherP base ours theirs).t, f.p.length ≤ L := ⟨_, fun f hf => len_sum hf⟩
    obtain ⟨L, hL⟩ := big
    have h0 : ApI _ L 0 (gatherP base ours theirs).t := ⟨rfl, by simp [Apt], fun f hf => by have := hL f hf; omega⟩
    have h1 := apart_range _ _ (gatherP base ours theirs).c (Nat.le_refl _) h0
    have h2 := h1.apt
    rw [List.take_of_length_le (by rw [h1.len]; exact Nat.le_refl _)] at h2
    have h4 : AsI (gatherP base ours theirs).t.length (L + (gatherP base ours theirs).t.length) (sortF ((List.range (gatherP base ours theirs).t.length).foldl apartS ((gatherP base ours theirs).t, (gatherP base ours theirs).c)).1) := ⟨by rw [sortF_len]; exact h1.len, sortF_apt h2, fun f hf => h1.long f ((sortF_perm _).mem_iff.1 hf)⟩
    unfold placesP
    exact (aside_range _ _ _ (Nat.le_refl _) h4).apt
  have hp := sortF_paths (l := (placesP (gatherP base ours theirs).t (gatherP base ours theirs).c).1) (l' := (placesP (gatherP base theirs ours).t (gatherP base ours theirs).c).1) (by rw [q1.p]) apt
  have hck := checkT_map hp (fun f hf => g1 f ((sortF_perm _).mem_iff.1 hf)) (fun f hf => g2 f ((sortF_perm _).mem_iff.1 hf))
  have hcl : clashesP (placesP (gatherP base theirs ours).t (gatherP base ours theirs).c).2 = clashesP (placesP (gatherP base ours theirs).t (gatherP base ours theirs).c).2 := riseC_unique (clashesP_rise _) (clashesP_rise _) fun x => by
    rw [mem_clashesP, mem_clashesP]
    exact q1.c x
  have m1 : treemergeP base ours theirs = if checkT (sortF (placesP (gatherP base ours theirs).t (gatherP base ours theirs).c).1) ≠ 0 then .error (checkT (sortF (placesP (gatherP base ours theirs).t (gatherP base ours theirs).c).1)) else .ok (sortF (placesP (gatherP base ours theirs).t (gatherP base ours theirs).c).1, clashesP (placesP (gatherP base ours theirs).t (gatherP base ours theirs).c).2) := by
    unfold treemergeP
    rw [if_neg (by omega), if_neg (by omega), if_neg (by omega)]
    simp only [f1.2, ne_eq, not_true_eq_false, if_false]
  have m2 : treemergeP base theirs ours = if checkT (sortF (placesP (gatherP base ours theirs).t (gatherP base ours theirs).c).1) ≠ 0 then .error (checkT (sortF (placesP (gatherP base ours theirs).t (gatherP base ours theirs).c).1)) else .ok (sortF (placesP (gatherP base theirs ours).t (gatherP base ours theirs).c).1, clashesP (placesP (gatherP base ours theirs).t (gatherP base ours theirs).c).2) := by
    unfold treemergeP
    rw [if_neg (by omega), if_neg (by omega), if_neg (by omega)]
    simp only [f2.2, ne_eq, not_true_eq_false, if_false]
    rw [hs.c, hck, hcl]
  by_cases hc : checkT (sortF (placesP (gatherP base ours theirs).t (gatherP base ours theirs).c).1) ≠ 0
  · rw [if_pos hc] at m1 m2
    exact .inl ⟨_, hc, m1, m2⟩
  · rw [if_neg hc] at m1 m2
    refine .inr ⟨_, _, _, m1, m2, fun hv => ?_⟩
    have hc0 : (gatherP base ours theirs).c = [] := by
      rw [List.eq_nil_iff_forall_not_mem]
      intro x hx
      have := mem_clashesP.2 (q2 x hx)
      rw [hv] at this
      cases this
    rw [hs.same hc0]
end Go.Proofs.YteeeehfnldkjlaaGreatDoor
