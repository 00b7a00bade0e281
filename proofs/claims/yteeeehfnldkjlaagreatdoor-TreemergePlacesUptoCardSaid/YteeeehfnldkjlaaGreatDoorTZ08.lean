/-
  Plain: where one side is as base the merge is the other one. No statement of the seat is proved here.
  Joined of: Tg, Va, Th.
-/
import Derived.Test.YteeeehfnldkjlaaGreatDoorTZ07
import Derived.Test.YteeeehfnldkjlaaGreatDoorTZ06
import Derived.Test.YteeeehfnldkjlaaGreatDoorTZ05
import Derived.Lib.SplitLaws
namespace Go.Proofs.YteeeehfnldkjlaaGreatDoor

theorem dirsFrom_mem {d : Pth} : ∀ {b cur : Pth}, d ∈ dirsFrom cur b ↔ ∃ x y, b = x ++ 47 :: y ∧ d = cur ++ x
  | [], cur => by simp [dirsFrom]
  | c :: b, cur => by
    have ih := dirsFrom_mem (d := d) (b := b) (cur := cur ++ [c])
    unfold dirsFrom
    split
    · rename_i h
      subst h
      rw [List.mem_cons, ih]
      constructor
      · rintro (rfl | ⟨x, y, h1, h2⟩)
        · exact ⟨[], b, rfl, by simp⟩
        · exact ⟨47 :: x, y, by rw [h1]; rfl, by rw [h2]; simp⟩
      · rintro ⟨x, y, h1, h2⟩
        cases x with
        | nil => exact .inl (by simpa using h2)
        | cons a x =>
          simp only [List.cons_append, List.cons.injEq] at h1
          exact .inr ⟨x, y, h1.2, by rw [h2, ← h1.1]; simp⟩
    · rename_i hc
      rw [ih]
      constructor
      · rintro ⟨x, y, h1, h2⟩
        exact ⟨c :: x, y, by rw [h1]; rfl, by rw [h2]; simp⟩
      · rintro ⟨x, y, h1, h2⟩
        cases x with
        | nil => simp at h1; exact absurd h1.1 hc
        | cons a x =>
          simp only [List.cons_append, List.cons.injEq] at h1
          exact ⟨x, y, h1.2, by rw [h2, ← h1.1]; simp⟩
/-- A directory above a path: the path goes on behind it with a stroke. -/
theorem mem_dirsP {d p : Pth} : d ∈ dirsP p ↔ ∃ q, p = d ++ 47 :: q := by
  unfold dirsP
  rw [dirsFrom_mem]
  constructor
  · rintro ⟨x, y, h1, h2⟩
    exact ⟨y, by rw [h1, h2]; rfl⟩
  · rintro ⟨q, h⟩
    exact ⟨d, q, h, rfl⟩
theorem lt_append (a : Pth) (x : UInt8) (q : Pth) : a < a ++ x :: q := by
  induction a with
  | nil => exact List.nil_lt_cons ..
  | cons c a ih => rw [List.cons_append, List.cons_lt_cons_iff]; exact .inr ⟨rfl, ih⟩
theorem dirsP_lt {d p : Pth} (h : d ∈ dirsP p) : d < p := by
  obtain ⟨q, rfl⟩ := mem_dirsP.1 h
  exact lt_append d 47 q
theorem dirsP_trans {a b c : Pth} (h : a ∈ dirsP b) (k : b ∈ dirsP c) : a ∈ dirsP c := by
  obtain ⟨q, rfl⟩ := mem_dirsP.1 h
  obtain ⟨r, rfl⟩ := mem_dirsP.1 k
  exact mem_dirsP.2 ⟨q ++ 47 :: r, by simp⟩
theorem lastLe_false {done : List FileD} {p : Pth} (hr : RiseP (done.map (·.p))) (h : lastLe done p = false) : ∀ g ∈ done, g.p < p := by
  unfold lastLe at h
  rcases List.eq_nil_or_concat done with rfl | ⟨l, x, rfl⟩
  · intro g hg; cases hg
  · rw [List.concat_eq_append] at *
    rw [List.getLast?_append] at h
    simp only [List.getLast?_singleton, Option.some_or, decide_eq_false_iff_not] at h
    have hx : x.p < p := List.not_le.1 h
    unfold RiseP at hr
    rw [List.map_append, List.pairwise_append] at hr
    intro g hg
    rcases List.mem_append.1 hg with q | q
    · exact pth_trans (hr.2.2 g.p (List.mem_map.2 ⟨g, q, rfl⟩) x.p (by simp)) hx
    · rw [List.mem_singleton.1 q]; exact hx
theorem lastLe_of {done : List FileD} {p : Pth} (h : ∀ g ∈ done, g.p < p) : lastLe done p = false := by
  unfold lastLe
  split
  · rename_i g hg
    rw [decide_eq_false_iff_not]
    exact List.not_le.2 (h g (List.mem_of_getLast? hg))
  · rfl
/-- A tree: files that may be, by paths that rise, none above another one. -/
structure TreeOk (l : List FileD) : Prop where
  file : ∀ f ∈ l, fileE f = 0
  rise : RiseP (l.map (·.p))
  apart : ∀ f ∈ l, ∀ g ∈ l, g.p ∉ dirsP f.p
theorem checkL_ok : ∀ (l done : List FileD), RiseP (done.map (·.p)) → (checkL done l = 0 ↔ (∀ f ∈ l, fileE f = 0) ∧ RiseP ((done ++ l).map (·.p)) ∧ ∀ f ∈ l, ∀ g ∈ done ++ l, g.p ∉ dirsP f.p)
  | [], done, hr => by
    rw [List.append_nil]
    simp [checkL, hr]
  | f :: l, done, hr => by
    unfold checkL
    by_cases h1 : fileE f = 0
    · rw [if_neg (fun q => q h1)]
      by_cases h2 : lastLe done f.p = true
      · rw [if_pos h2]
        refine ⟨fun q => absurd q (by decide), fun q => ?_⟩
        exfalso
        have : lastLe done f.p = false := lastLe_of fun g hg => by
          have := q.2.1
          unfold RiseP at this
          rw [List.map_append, List.pairwise_append] at this
          exact this.2.2 g.p (List.mem_map.2 ⟨g, hg, rfl⟩) f.p (by simp)
        rw [this] at h2
        cases h2
      · rw [if_neg h2]
        have h2 := Bool.eq_false_iff.2 h2
        have hlt := lastLe_false hr h2
        have hr2 : RiseP ((done ++ [f]).map (·.p)) := by
          unfold RiseP
          rw [List.map_append, List.pairwise_append]
          refine ⟨hr, by simp, fun a ha b hb => ?_⟩
          obtain ⟨g, hg, rfl⟩ := List.mem_map.1 ha
          simp at hb
          rw [hb]
          exact hlt g hg
        by_cases h3 : (dirsP f.p).any (fun d => done.any (fun g => g.p == d)) = true
        · rw [if_pos h3]
          refine ⟨fun q => absurd q (by decide), fun q => ?_⟩
          exfalso
          simp only [List.any_eq_true, beq_iff_eq] at h3
          obtain ⟨d, hd, g, hg, e⟩ := h3
          exact q.2.2 f (List.mem_cons_self ..) g (List.mem_append_left _ hg) (by rw [e]; exact hd)
        · rw [if_neg h3]
          rw [checkL_ok l (done ++ [f]) hr2]
          simp only [List.append_assoc, List.cons_append, List.nil_append]
          constructor
          · rintro ⟨q1, q2, q3⟩
            refine ⟨fun g hg => ?_, q2, fun g hg g' hg' => ?_⟩
            · rcases List.mem_cons.1 hg with rfl | hg
              · exact h1
              · exact q1 g hg
            · rcases List.mem_cons.1 hg with rfl | hg
              · intro hd
                rcases List.mem_append.1 hg' with r | r
                · exact h3 (by simp only [List.any_eq_true, beq_iff_eq]; exact ⟨_, hd, g', r, rfl⟩)
                · have hlt2 := dirsP_lt hd
                  rcases List.mem_cons.1 r with r | r
                  · rw [r] at hlt2; exact List.lt_irrefl _ hlt2
                  · unfold RiseP at q2
                    rw [List.map_append, List.pairwise_append] at q2
                    have := q2.2.1
                    rw [List.map_cons, List.pairwise_cons] at this
                    exact pth_asym hlt2 (this.1 g'.p (List.mem_map.2 ⟨g', r, rfl⟩))
              · exact q3 g hg g' hg'
          · rintro ⟨q1, q2, q3⟩
            exact ⟨fun g hg => q1 g (List.mem_cons_of_mem _ hg), q2, fun g hg => q3 g (List.mem_cons_of_mem _ hg)⟩
    · rw [if_pos h1]
      refine ⟨fun q => absurd q h1, fun q => absurd (q.1 f (List.mem_cons_self ..)) h1⟩
theorem checkL_tree {l : List FileD} : checkL [] l = 0 ↔ TreeOk l := by
  rw [checkL_ok l [] List.Pairwise.nil]
  simp only [List.nil_append]
  exact ⟨fun h => ⟨h.1, h.2.1, h.2.2⟩, fun h => ⟨h.file, h.rise, h.apart⟩⟩
theorem checkT_tree {l : List FileD} (h : checkT l = 0) : TreeOk l ∧ l.length ≤ 1000 ∧ crowdP l = false := by
  unfold checkT at h
  split at h
  · cases h
  · split at h
    · rename_i q; exact absurd h q
    · rename_i q1 q2
      split at h
      · cases h
      · rename_i q3
        exact ⟨checkL_tree.1 (Decidable.not_not.1 q2), by omega, Bool.eq_false_iff.2 q3⟩
theorem checkT_of {l : List FileD} (h : TreeOk l) (hl : l.length ≤ 1000) (hc : crowdP l = false) : checkT l = 0 := by
  unfold checkT
  rw [if_neg (by omega), if_neg (fun q => q (checkL_tree.2 h)), hc, if_neg (by decide)]
theorem fileE_kind {f : FileD} (h : fileE f = 0) : (f.k = 1 ∨ f.k = 2 ∨ f.k = 3) ∧ f.d.length ≤ 65536 ∧ (nmP f.p).length ≤ 8 ∧ ∀ s ∈ nmP f.p, nameOk s = true := by
  unfold fileE at h
  split at h
  · cases h
  · rename_i q
    split at h
    · cases h
    · rename_i q2
      split at h
      · cases h
      · rename_i q3
        rw [not_or] at q2
        refine ⟨by omega, by omega, by omega, fun s hs => ?_⟩
        have := q2.2
        simp only [List.any_eq_true, Bool.not_eq_true', not_exists, not_and, Bool.not_eq_false] at this
        exact this s hs
theorem TreeOk.kinds {l : List FileD} (h : TreeOk l) : KindsOk l := fun f hf => (fileE_kind (h.file f hf)).1
theorem TreeOk.apt {l : List FileD} (h : TreeOk l) : Apt l := rise_nodup h.rise
end Go.Proofs.YteeeehfnldkjlaaGreatDoor
namespace Go.Proofs.YteeeehfnldkjlaaGreatDoor
open Go.RowKit

theorem idx_no {c : UInt8} {l : List UInt8} (h : c ∉ l) : Lib.indexByte l c = -1 := by
  have h1 := Lib.indexByte_ge l c
  rcases Int.lt_or_le (Lib.indexByte l c) 0 with q | q
  · omega
  · obtain ⟨o, ho⟩ : ∃ o : Nat, Lib.indexByte l c = (o : Int) := ⟨(Lib.indexByte l c).toNat, by omega⟩
    exact absurd (List.mem_of_getElem? (Lib.indexByte_some ho).1) h
theorem idx_yes {c : UInt8} {l : List UInt8} (h : c ∈ l) : ∃ p q : List UInt8, l = p ++ c :: q ∧ c ∉ p ∧ Lib.indexByte l c = (p.length : Int) := by
  have h1 := Lib.indexByte_ge l c
  rcases Int.lt_or_le (Lib.indexByte l c) 0 with q | q
  · obtain ⟨j, hj, hx⟩ := List.mem_iff_getElem.1 h
    exact absurd (by rw [List.getElem?_eq_getElem hj, hx]) (Lib.indexByte_none (l := l) (c := c) (by omega) j)
  · obtain ⟨o, ho⟩ : ∃ o : Nat, Lib.indexByte l c = (o : Int) := ⟨(Lib.indexByte l c).toNat, by omega⟩
    obtain ⟨h2, h3⟩ := Lib.indexByte_some ho
    have hlt := (List.getElem?_eq_some_iff.1 h2).1
    refine ⟨l.take o, l.drop (o + 1), ?_, fun hm => ?_, by rw [ho, List.length_take, Nat.min_eq_left (by omega)]⟩
    · have : l.drop o = c :: l.drop (o + 1) := List.drop_eq_getElem?_toList_append.trans (by rw [h2]; rfl)
      rw [← this, List.take_append_drop]
    · obtain ⟨j, hj, hx⟩ := List.mem_iff_getElem.1 hm
      rw [List.length_take] at hj
      refine h3 j (by omega) ?_
      rw [List.getElem_take] at hx
      rw [List.getElem?_eq_getElem (by omega), hx]
theorem nmFrom_row {q : Pth} : ∀ {p cur : Pth}, (47 : UInt8) ∉ p → nmFrom cur (p ++ 47 :: q) = (cur ++ p) :: nmFrom [] q
  | [], cur, _ => by simp [nmFrom]
  | x :: p, cur, h => by
    have hx : x ≠ 47 := fun e => h (by simp [e])
    have := nmFrom_row (q := q) (p := p) (cur := cur ++ [x]) (fun hm => h (by simp [hm]))
    simp [nmFrom, hx, this]
theorem nmFrom_rest : ∀ {p cur : Pth}, (47 : UInt8) ∉ p → nmFrom cur p = [cur ++ p]
  | [], cur, _ => by simp [nmFrom]
  | x :: p, cur, h => by
    have hx : x ≠ 47 := fun e => h (by simp [e])
    have := nmFrom_rest (p := p) (cur := cur ++ [x]) (fun hm => h (by simp [hm]))
    simp [nmFrom, hx, this]
/-- strings.Split at a stroke gives the names. -/
theorem splitK_names : ∀ (n : Nat) (s : Pth), s.length ≤ n → Lib.splitK [47] 0 (s.count 47) s = nmP s
  | n, s, hn => by
    by_cases hm : (47 : UInt8) ∈ s
    · obtain ⟨p, q, rfl, hp, hi⟩ := idx_yes hm
      have hc : (p ++ 47 :: q).count 47 = q.count 47 + 1 := by
        rw [List.count_append, List.count_eq_zero_of_not_mem hp, List.count_cons_self]
        omega
      rw [hc, Lib.splitK, Lib.index_one, hi, if_neg (by simp)]
      unfold nmP
      rw [nmFrom_row hp]
      have e1 : (p ++ 47 :: q).take (((p.length : Int)).toNat + 0) = [] ++ p := by simp
      have e2 : (p ++ 47 :: q).drop (((p.length : Int)).toNat + [(47 : UInt8)].length) = q := by
        rw [Int.toNat_natCast, List.drop_append, List.drop_eq_nil_of_le (by simp)]
        simp
      rw [e1, e2]
      congr 1
      cases n with
      | zero => simp at hn
      | succ n => exact splitK_names n q (by simp at hn; omega)
    · rw [List.count_eq_zero_of_not_mem hm, Lib.splitK]
      unfold nmP
      rw [nmFrom_rest hm]
      rfl
end Go.Proofs.YteeeehfnldkjlaaGreatDoor
namespace Go.Proofs.YteeeehfnldkjlaaGreatDoor

theorem diffT_self {a : List FileD} : diffT a a = [] := by
  unfold diffT
  rw [List.filterMap_eq_nil_iff]
  intro p _
  unfold changeP
  rw [if_neg (by simp)]
theorem find_old {base l : List FileD} {ps : List PairD} (h : PairsOf base l ps) {x : PairD} (hx : x ∈ ps) : ps.find? (fun y => y.old == x.old) = some x := by
  have hn := h.olds
  clear h
  induction ps with
  | nil => cases hx
  | cons a ps ih =>
    rw [List.map_cons, List.nodup_cons] at hn
    rw [List.find?_cons]
    rcases List.mem_cons.1 hx with rfl | hx
    · simp
    · have hne : (a.old == x.old) = false := beq_eq_false_iff_ne.2 fun e => hn.1 (List.mem_map.2 ⟨x, hx, e.symm⟩)
      rw [hne]
      exact ih hx hn.2
/-- Where files of base went: to a pair's path, or they are where they were. -/
theorem goes_or (l : List FileD) (ps : List PairD) (p : Pth) : (∃ x ∈ ps, x.old = p ∧ SideD.goes ⟨l, ps⟩ p = (x.new, true)) ∨ ((∀ x ∈ ps, x.old ≠ p) ∧ SideD.goes ⟨l, ps⟩ p = (p, hasF l p)) := by
  unfold SideD.goes
  cases hq : ps.find? (fun x => x.old == p) with
  | some x =>
    have hx := List.mem_of_find?_eq_some hq
    have he : x.old = p := by simpa using List.find?_some hq
    exact .inl ⟨x, hx, he, rfl⟩
  | none =>
    rw [List.find?_eq_none] at hq
    exact .inr ⟨fun x hx e => hq x hx (by simpa using e), rfl⟩
theorem goes_in {base l : List FileD} {ps : List PairD} (h : PairsOf base l ps) {p : Pth} (hg : (SideD.goes ⟨l, ps⟩ p).2 = true) : hasF l (SideD.goes ⟨l, ps⟩ p).1 = true := by
  rcases goes_or l ps p with ⟨x, hx, _, e⟩ | ⟨_, e⟩
  · rw [e]; exact (h.new x hx).1
  · rw [e] at hg ⊢; exact hg
theorem goes_inj {base l : List FileD} {ps : List PairD} (h : PairsOf base l ps) {p q : Pth} (hp : hasF base p = true) (hq : hasF base q = true) (e : (SideD.goes ⟨l, ps⟩ p).1 = (SideD.goes ⟨l, ps⟩ q).1) : p = q := by
  rcases goes_or l ps p with ⟨x, hx, hx2, e1⟩ | ⟨_, e1⟩ <;> rcases goes_or l ps q with ⟨y, hy, hy2, e2⟩ | ⟨_, e2⟩
  · rw [e1, e2] at e
    simp only at e
    obtain ⟨i, hi, rfl⟩ := List.mem_iff_getElem.1 hx
    obtain ⟨j, hj, rfl⟩ := List.mem_iff_getElem.1 hy
    have : i = j := (List.getElem_inj (xs := ps.map (·.new)) (h₀ := by simpa using hi) (h₁ := by simpa using hj) h.news).1 (by simpa using e)
    subst this
    rw [← hx2, ← hy2]
  · rw [e1, e2] at e
    simp only at e
    have := (h.new x hx).2
    rw [e, hq] at this
    cases this
  · rw [e1, e2] at e
    simp only at e
    have := (h.new y hy).2
    rw [← e, hp] at this
    cases this
  · rw [e1, e2] at e
    exact e
/-- What a side has of base's files, and what is new there. -/
def keptOf (s : SideD) (base : List FileD) : List FileD := base.filterMap fun f => if (s.goes f.p).2 = true then some (getF s.f (s.goes f.p).1) else none
def newOf (s : SideD) (base : List FileD) (ks : List Pth) : List FileD := ks.filterMap fun p => if s.isNew base p = true then some (getF s.f p) else none
theorem mem_keptOf {s : SideD} {base : List FileD} {f : FileD} : f ∈ keptOf s base ↔ ∃ g ∈ base, (s.goes g.p).2 = true ∧ getF s.f (s.goes g.p).1 = f := by
  unfold keptOf
  rw [List.mem_filterMap]
  constructor
  · rintro ⟨g, hg, h⟩
    split at h
    · exact ⟨g, hg, by assumption, Option.some.inj h⟩
    · cases h
  · rintro ⟨g, hg, h1, h2⟩
    exact ⟨g, hg, by rw [if_pos h1, h2]⟩
theorem mem_newOf {s : SideD} {base : List FileD} {ks : List Pth} {f : FileD} : f ∈ newOf s base ks ↔ ∃ p ∈ ks, s.isNew base p = true ∧ getF s.f p = f := by
  unfold newOf
  rw [List.mem_filterMap]
  constructor
  · rintro ⟨g, hg, h⟩
    split at h
    · exact ⟨g, hg, by assumption, Option.some.inj h⟩
    · cases h
  · rintro ⟨g, hg, h1, h2⟩
    exact ⟨g, hg, by rw [if_pos h1, h2]⟩
theorem isNew_iff {s : SideD} {base : List FileD} {p : Pth} : s.isNew base p = true ↔ hasF s.f p = true ∧ hasF base p = false ∧ ∀ x ∈ s.l, x.new ≠ p := by
  unfold SideD.isNew
  simp only [Bool.and_eq_true, Bool.not_eq_true', List.any_eq_false, beq_iff_eq]
  exact ⟨fun h => ⟨h.1.1, h.1.2, h.2⟩, fun h => ⟨⟨h.1, h.2.1⟩, h.2.2⟩⟩
theorem nodup_filterMap {α β : Type} {f : α → Option β} : ∀ {l : List α}, l.Nodup → (∀ a ∈ l, ∀ b ∈ l, ∀ y, f a = some y → f b = some y → a = b) → (l.filterMap f).Nodup
  | [], _, _ => List.nodup_nil
  | a :: l, hn, hi => by
    rw [List.nodup_cons] at hn
    rw [List.filterMap_cons]
    have ih := nodup_filterMap hn.2 fun x hx y hy => hi x (List.mem_cons_of_mem _ hx) y (List.mem_cons_of_mem _ hy)
    cases hq : f a with
    | none => exact ih
    | some y =>
      refine List.nodup_cons.2 ⟨fun hm => ?_, ih⟩
      obtain ⟨b, hb, h⟩ := List.mem_filterMap.1 hm
      have := hi a (List.mem_cons_self ..) b (List.mem_cons_of_mem _ hb) y hq h
      exact hn.1 (this ▸ hb)
theorem apt_nodup {l : List FileD} (h : Apt l) : l.Nodup := List.Pairwise.of_map (·.p) (fun a b q e => q (by rw [e])) h
/-- The parts of a side are the side. -/
theorem side_perm {base l : List FileD} {ps : List PairD} (hb : Apt base) (hl : Apt l) (h : PairsOf base l ps) {ks : List Pth} (hks : ks.Nodup) (hk : ∀ p, hasF l p = true → p ∈ ks) : (keptOf ⟨l, ps⟩ base ++ newOf ⟨l, ps⟩ base ks).Perm l := by
  refine (List.perm_ext_iff_of_nodup ?_ (apt_nodup hl)).2 fun f => ?_
  · rw [List.nodup_append]
    refine ⟨?_, ?_, fun a ha b hb' e => ?_⟩
    · refine nodup_filterMap (apt_nodup hb) fun f hf g hg y h1 h2 => ?_
      split at h1
      · split at h2
        · rename_i q1 q2
          have e1 := getF_has (goes_in h q1)
          have e2 := getF_has (goes_in h q2)
          have := goes_inj h (hasF_iff.2 ⟨f, hf, rfl⟩) (hasF_iff.2 ⟨g, hg, rfl⟩) (by rw [← e1.2, ← e2.2, Option.some.inj h1, Option.some.inj h2])
          have e3 := getF_mem hb hf
          rw [this, getF_mem hb hg] at e3
          exact e3.symm
        · cases h2
      · cases h1
    · refine nodup_filterMap hks fun p _ q _ y h1 h2 => ?_
      split at h1
      · split at h2
        · rename_i q1 q2
          have e1 := getF_has (isNew_iff.1 q1).1
          have e2 := getF_has (isNew_iff.1 q2).1
          rw [← e1.2, ← e2.2, Option.some.inj h1, Option.some.inj h2]
        · cases h2
      · cases h1
    · subst e
      obtain ⟨g, hg, q1, q2⟩ := mem_keptOf.1 ha
      obtain ⟨p, _, r1, r2⟩ := mem_newOf.1 hb'
      obtain ⟨r1a, r1b, r1c⟩ := isNew_iff.1 r1
      have ep := (getF_has r1a).2
      have eg := (getF_has (goes_in h q1)).2
      rw [r2] at ep
      rw [q2] at eg
      rcases goes_or l ps g.p with ⟨x, hx, _, e⟩ | ⟨_, e⟩
      · rw [e] at eg
        exact r1c x hx (by rw [← ep, eg])
      · rw [e] at eg
        simp only at eg
        rw [← ep, eg, hasF_iff.2 ⟨g, hg, rfl⟩] at r1b
        cases r1b
  · rw [List.mem_append, mem_keptOf, mem_newOf]
    constructor
    · rintro (⟨g, hg, q1, q2⟩ | ⟨p, _, q1, q2⟩)
      · rw [← q2]; exact (getF_has (goes_in h q1)).1
      · rw [← q2]; exact (getF_has (isNew_iff.1 q1).1).1
    · intro hf
      have hfl : hasF l f.p = true := hasF_iff.2 ⟨f, hf, rfl⟩
      by_cases hfb : hasF base f.p = true
      · obtain ⟨g, hg, e⟩ := hasF_iff.1 hfb
        refine .inl ⟨g, hg, ?_⟩
        rcases goes_or l ps g.p with ⟨x, hx, hx2, _⟩ | ⟨_, e2⟩
        · have := (h.old x hx).2
          rw [hx2, e, hfl] at this
          cases this
        · rw [e2, e]
          exact ⟨hfl, getF_mem hl hf⟩
      · have hfb := Bool.eq_false_iff.2 hfb
        by_cases hx : ∃ x ∈ ps, x.new = f.p
        · obtain ⟨x, hx, e⟩ := hx
          obtain ⟨g, hg, eg⟩ := hasF_iff.1 (h.old x hx).1
          refine .inl ⟨g, hg, ?_⟩
          have : SideD.goes ⟨l, ps⟩ g.p = (x.new, true) := by
            unfold SideD.goes
            rw [eg, find_old h hx]
          rw [this, e]
          exact ⟨rfl, getF_mem hl hf⟩
        · exact .inr ⟨f.p, hk _ hfl, isNew_iff.2 ⟨hfl, hfb, fun x hx' e => hx ⟨x, hx', e⟩⟩, getF_mem hl hf⟩
theorem stay_self (s : MSt) {f : FileD} {p : Pth} (h : f.p = p) : s.stay p f = { s with t := s.t ++ [f] } := by
  subst h
  rfl
theorem fold_kept {s' : SideD} {step : MSt → FileD → MSt} (base : List FileD) (h : ∀ f ∈ base, ∀ s, step s f = if (s'.goes f.p).2 = true then { s with t := s.t ++ [getF s'.f (s'.goes f.p).1] } else s) : ∀ s : MSt, base.foldl step s = { s with t := s.t ++ keptOf s' base } := by
  induction base with
  | nil => intro s; simp [keptOf]
  | cons f l ih =>
    intro s
    rw [List.foldl_cons, h f (List.mem_cons_self ..), ih fun g hg => h g (List.mem_cons_of_mem _ hg)]
    unfold keptOf
    rw [List.filterMap_cons]
    by_cases q : (s'.goes f.p).2 = true
    · simp [q]
    · simp [q]
theorem fold_new {s' : SideD} {base : List FileD} {step : MSt → Pth → MSt} (ks : List Pth) (h : ∀ p ∈ ks, ∀ s, step s p = if s'.isNew base p = true then { s with t := s.t ++ [getF s'.f p] } else s) : ∀ s : MSt, ks.foldl step s = { s with t := s.t ++ newOf s' base ks } := by
  induction ks with
  | nil => intro s; simp [newOf]
  | cons f l ih =>
    intro s
    rw [List.foldl_cons, h f (List.mem_cons_self ..), ih fun g hg => h g (List.mem_cons_of_mem _ hg)]
    unfold newOf
    rw [List.filterMap_cons]
    by_cases q : s'.isNew base f = true
    · simp [q]
    · simp [q]
/-- Where no two things stand at one place, and none above another one, they stay. -/
theorem apart_none {l : List FileD} (h : Apt l) (c : List ClashD) : ∀ ns : List Nat, ns.foldl apartS (l, c) = (l, c)
  | [] => rfl
  | i :: ns => by
    rw [List.foldl_cons]
    have : apartS (l, c) i = (l, c) := by
      unfold apartS
      split
      · rfl
      · rename_i f hf
        simp only at hf ⊢
        rw [if_neg]
        intro hq
        simp only [List.any_eq_true, beq_iff_eq] at hq
        obtain ⟨g, hg, e⟩ := hq
        obtain ⟨j, hj, rfl⟩ := List.mem_iff_getElem.1 hg
        rw [List.length_take] at hj
        rw [List.getElem_take] at e
        have hil := (List.getElem?_eq_some_iff.1 hf)
        obtain ⟨hi, rfl⟩ := hil
        have hn : (l.map (·.p)).Nodup := h
        have : j = i := (List.getElem_inj (xs := l.map (·.p)) (h₀ := by simp; omega) (h₁ := by simpa using hi) hn).1 (by simpa using e)
        omega
    rw [this]
    exact apart_none h c ns
theorem belowN_zero {l : List FileD} {p : Pth} (h : ∀ f ∈ l, p ∉ dirsP f.p) : belowN l p = 0 := by
  unfold belowN
  rw [List.countP_eq_zero]
  intro f hf
  simpa using h f hf
theorem aside_none {l : List FileD} (h : ∀ f ∈ l, ∀ g ∈ l, g.p ∉ dirsP f.p) (c : List ClashD) : ∀ ns : List Nat, ns.foldl asideS (l, c) = (l, c)
  | [] => rfl
  | i :: ns => by
    rw [List.foldl_cons]
    have : asideS (l, c) i = (l, c) := by
      unfold asideS
      split
      · rfl
      · rename_i f hf
        simp only at hf ⊢
        rw [if_neg]
        rw [belowN_zero fun g hg => h g hg f (List.mem_of_getElem? hf)]
        omega
    rw [this]
    exact aside_none h c ns
theorem sortF_sorted {l : List FileD} (h : RiseP (l.map (·.p))) : SortedP (fun a b : FileD => decide (a.p < b.p)) l := by
  unfold SortedP
  refine List.Pairwise.imp (fun {a b} q => ?_) (List.pairwise_map.1 h)
  rw [decide_eq_false_iff_not]
  exact pth_asym q
theorem places_none {l m : List FileD} (hp : l.Perm m) (hm : TreeOk m) (c : List ClashD) : placesP l c = (m, c) := by
  have hl : Apt l := (hp.map (fun f : FileD => f.p)).nodup_iff.2 hm.apt
  unfold placesP
  simp only [apart_none hl c]
  rw [sortF_unique hp (sortF_sorted hm.rise) hl]
  exact aside_none hm.apart c _
theorem sortF_self {m : List FileD} (hm : TreeOk m) : sortF m = m := sortF_unique (List.Perm.refl _) (sortF_sorted hm.rise) hm.apt
/-- The merge, where what is gathered is a tree, without clashes. -/
theorem merge_ok {base ours theirs m : List FileD} (hb : checkT base = 0) (ho : checkT ours = 0) (ht : checkT theirs = 0) (hm : checkT m = 0) (he : (gatherP base ours theirs).e = 0) (hc : (gatherP base ours theirs).c = []) (hp : (gatherP base ours theirs).t.Perm m) : treemergeP base ours theirs = .ok (m, []) := by
  unfold treemergeP
  rw [if_neg (by omega), if_neg (by omega), if_neg (by omega)]
  simp only [he, hc, ne_eq, not_true_eq_false, if_false]
  rw [places_none hp (checkT_tree hm).1]
  simp only [sortF_self (checkT_tree hm).1, hm, not_true_eq_false, if_false]
  rfl
theorem both_as (s : MSt) {p : Pth} {base x y z : FileD} {lines : Int} (hk : kindP base.k x.k y.k = (z.k, true)) (hd : dataP base lines x y = (z.d, true, 0)) (hz : z.p = p) : s.both p base lines x y = { s with t := s.t ++ [z] } := by
  unfold MSt.both
  simp only [hk, hd, if_true]
  subst hz
  unfold MSt.stay
  simp only
  congr 1
  split
  · rename_i h; rw [h]
  · rfl
theorem goes_none (l : List FileD) (p : Pth) : SideD.goes ⟨l, []⟩ p = (p, hasF l p) := rfl
theorem gather_of {base ours theirs l : List FileD} {ps : List PairD} (hb : Apt base) (hl : Apt l) (h : PairsOf base l ps) (hu : ∀ p, hasF l p = true → p ∈ ours.map (·.p) ++ theirs.map (·.p))
    (h1 : ∀ f ∈ base, ∀ s, MSt.file (sideP base ours) (sideP base theirs) s f = if (SideD.goes ⟨l, ps⟩ f.p).2 = true then { s with t := s.t ++ [getF l (SideD.goes ⟨l, ps⟩ f.p).1] } else s)
    (h2 : ∀ p s, MSt.fresh1 base (sideP base ours) (sideP base theirs) s p = if SideD.isNew ⟨l, ps⟩ base p = true then { s with t := s.t ++ [getF l p] } else s) :
    (gatherP base ours theirs).e = 0 ∧ (gatherP base ours theirs).c = [] ∧ (gatherP base ours theirs).t.Perm l := by
  have hp := side_perm hb hl h (ks := keysP (ours.map (·.p) ++ theirs.map (·.p))) (rise_nodup (keysP_rise _)) (fun p hp => mem_keysP.2 (hu p hp))
  have e : gatherP base ours theirs = ⟨keptOf ⟨l, ps⟩ base ++ newOf ⟨l, ps⟩ base (keysP (ours.map (·.p) ++ theirs.map (·.p))), [], 0⟩ := by
    unfold gatherP
    simp only
    rw [fold_kept (s' := ⟨l, ps⟩) base h1, fold_new (s' := ⟨l, ps⟩) (base := base) _ (fun p _ s => h2 p s)]
    rfl
  rw [e]
  exact ⟨rfl, rfl, hp⟩
theorem mem_paths {l : List FileD} {p : Pth} (h : hasF l p = true) : p ∈ l.map (·.p) := by
  obtain ⟨f, h1, h2⟩ := hasF_iff.1 h
  exact List.mem_map.2 ⟨f, h1, h2⟩
theorem isNew_base (base : List FileD) (ps : List PairD) (p : Pth) : SideD.isNew ⟨base, ps⟩ base p = false := by
  rw [Bool.eq_false_iff]
  intro h
  obtain ⟨h1, h2, _⟩ := isNew_iff.1 h
  rw [h1] at h2
  cases h2
theorem one_ours {base side : List FileD} (hb : checkT base = 0) (hs : checkT side = 0) : treemergeP base side base = .ok (side, []) := by
  have tb := (checkT_tree hb).1
  have ts := (checkT_tree hs).1
  have hp := detect_of tb.apt ts.apt tb.kinds ts.kinds
  obtain ⟨h1, h2, h3⟩ := gather_of (ours := side) (theirs := base) tb.apt ts.apt hp (fun p h => List.mem_append_left _ (mem_paths h)) (fun f hf s => by
    have hfb : hasF base f.p = true := hasF_iff.2 ⟨f, hf, rfl⟩
    unfold MSt.file sideP
    rw [diffT_self]
    simp only [show detectP [] = [] from rfl, goes_none, hfb, getF_mem tb.apt hf]
    cases hq : (SideD.goes ⟨side, detectP (diffT base side)⟩ f.p).2 with
    | false =>
      simp only [Bool.false_eq_true, false_and, if_false, and_self, if_true]
      unfold MSt.alone
      rw [if_pos ⟨rfl, rfl, rfl⟩]
    | true =>
      simp only [Bool.true_eq_false, and_false, if_false, if_true, not_true_eq_false, ne_eq]
      refine both_as s ?_ ?_ (getF_has (goes_in hp hq)).2
      · unfold kindP
        rw [if_pos (.inl rfl)]
        split
        · rename_i e; rw [e]
        · rfl
      · unfold dataP
        rw [if_pos (.inr rfl)]) (fun p s => by
    unfold MSt.fresh1
    have e2 : (sideP base base).isNew base p = false := isNew_base base _ p
    rw [e2]
    have e1 : (sideP base side) = ⟨side, detectP (diffT base side)⟩ := rfl
    rw [e1]
    cases hq : SideD.isNew ⟨side, detectP (diffT base side)⟩ base p with
    | false => simp
    | true =>
      simp only [if_true]
      exact stay_self s (getF_has (isNew_iff.1 hq).1).2)
  exact merge_ok hb hs hb hs h1 h2 h3
theorem one_theirs {base side : List FileD} (hb : checkT base = 0) (hs : checkT side = 0) : treemergeP base base side = .ok (side, []) := by
  have tb := (checkT_tree hb).1
  have ts := (checkT_tree hs).1
  have hp := detect_of tb.apt ts.apt tb.kinds ts.kinds
  obtain ⟨h1, h2, h3⟩ := gather_of (ours := base) (theirs := side) tb.apt ts.apt hp (fun p h => List.mem_append_right _ (mem_paths h)) (fun f hf s => by
    have hfb : hasF base f.p = true := hasF_iff.2 ⟨f, hf, rfl⟩
    unfold MSt.file sideP
    rw [diffT_self]
    simp only [show detectP [] = [] from rfl, goes_none, hfb, getF_mem tb.apt hf]
    cases hq : (SideD.goes ⟨side, detectP (diffT base side)⟩ f.p).2 with
    | false =>
      simp only [Bool.false_eq_true, and_self, if_true, if_false]
      unfold MSt.alone
      rw [if_pos ⟨rfl, rfl, rfl⟩]
    | true =>
      have e0 : ∀ (s : MSt) (q : Pth), q = (SideD.goes ⟨side, detectP (diffT base side)⟩ f.p).1 → s.both q f f.k f (getF side (SideD.goes ⟨side, detectP (diffT base side)⟩ f.p).1) = { s with t := s.t ++ [getF side (SideD.goes ⟨side, detectP (diffT base side)⟩ f.p).1] } := fun s q e => by
        refine both_as s ?_ ?_ (by rw [e]; exact (getF_has (goes_in hp hq)).2)
        · unfold kindP
          rw [if_pos (.inr rfl), if_pos rfl]
        · unfold dataP
          by_cases q1 : f.d = (getF side (SideD.goes ⟨side, detectP (diffT base side)⟩ f.p).1).d
          · rw [if_pos (.inl q1), q1]
          · by_cases q2 : (getF side (SideD.goes ⟨side, detectP (diffT base side)⟩ f.p).1).d = f.d
            · exact absurd q2.symm q1
            · rw [if_neg (fun q => q.elim q1 q2), if_pos rfl]
      simp only [Bool.true_eq_false, and_false, if_false, if_true, not_true_eq_false, ne_eq, false_and]
      split
      · rename_i q
        exact e0 s f.p q.symm
      · exact e0 s _ rfl) (fun p s => by
    unfold MSt.fresh1
    have e2 : (sideP base base).isNew base p = false := isNew_base base _ p
    rw [e2]
    have e1 : (sideP base side) = ⟨side, detectP (diffT base side)⟩ := rfl
    rw [e1]
    cases hq : SideD.isNew ⟨side, detectP (diffT base side)⟩ base p with
    | false => simp
    | true =>
      simp only [if_true]
      exact stay_self s (getF_has (isNew_iff.1 hq).1).2)
  exact merge_ok hb hb hs hs h1 h2 h3
theorem one_both {base side : List FileD} (hb : checkT base = 0) (hs : checkT side = 0) : treemergeP base side side = .ok (side, []) := by
  have tb := (checkT_tree hb).1
  have ts := (checkT_tree hs).1
  have hp := detect_of tb.apt ts.apt tb.kinds ts.kinds
  have hkk : ∀ b x : Int, kindP b x x = (x, true) := fun b x => by
    unfold kindP
    split
    · split <;> rfl
    · simp
  have hdd : ∀ (b x : FileD) (n : Int), dataP b n x x = (x.d, true, 0) := fun b x n => by
    unfold dataP
    rw [if_pos (.inl rfl)]
  obtain ⟨h1, h2, h3⟩ := gather_of (ours := side) (theirs := side) tb.apt ts.apt hp (fun p h => List.mem_append_left _ (mem_paths h)) (fun f hf s => by
    unfold MSt.file sideP
    simp only
    cases hq : (SideD.goes ⟨side, detectP (diffT base side)⟩ f.p).2 with
    | false => simp
    | true =>
      simp only [Bool.true_eq_false, and_false, if_false, if_true, not_true_eq_false, ne_eq, false_and]
      have e := both_as s (hkk f.k _) (hdd f _ f.k) (getF_has (goes_in hp hq)).2
      split <;> exact e) (fun p s => by
    unfold MSt.fresh1
    have e1 : (sideP base side) = ⟨side, detectP (diffT base side)⟩ := rfl
    rw [e1]
    cases hq : SideD.isNew ⟨side, detectP (diffT base side)⟩ base p with
    | false => simp
    | true =>
      simp only [if_true]
      exact both_as s (hkk _ _) (hdd _ _ _) (getF_has (isNew_iff.1 hq).1).2)
  exact merge_ok hb hs hs hs h1 h2 h3
end Go.Proofs.YteeeehfnldkjlaaGreatDoor
