/- Plain: where one side is as base the merge is the other one. No statement of the seat is proved here. -/
import Derived.Test.YteeeehfnldkjlaaGreatDoorTC06
import Derived.Test.YteeeehfnldkjlaaGreatDoorTC05
import Derived.Test.YteeeehfnldkjlaaGreatDoorTC04
import Derived.Lib.SplitLaws
namespace Go.Proofs.YteeeehfnldkjlaaGreatDoor
theorem dirsFrom_mem {d : Pth} : ∀ {b cur : Pth}, d ∈ dirsFrom cur b ↔ ∃ x y, b = x ++ 47 :: y ∧ d = cur ++ x
 | [], cur => by simp [dirsFrom]
 | c :: b, cur => by
  have ih := dirsFrom_mem (d := d) (b := b) (cur := cur ++ [c])
  unfold dirsFrom
  split
  · rename_i h
    subst h
    rw [List.mem_cons, ih]
    constructor
    · rintro (rfl | ⟨x, y, h1, h2⟩)
      · exact ⟨[], b, rfl, by simp⟩
      · exact ⟨47 :: x, y, by rw [h1]; rfl, by rw [h2]; simp⟩
    · rintro ⟨x, y, h1, h2⟩
      cases x with
      | nil => exact .inl (by simpa using h2)
      | cons a x =>
       simp only [List.cons_append, List.cons.injEq] at h1
       exact .inr ⟨x, y, h1.2, by rw [h2, ← h1.1]; simp⟩
  · rename_i hc
    rw [ih]
    constructor
    · rintro ⟨x, y, h1, h2⟩
      exact ⟨c :: x, y, by rw [h1]; rfl, by rw [h2]; simp⟩
    · rintro ⟨x, y, h1, h2⟩
      cases x with
      | nil => simp at h1; exact absurd h1.1 hc
      | cons a x =>
       simp only [List.cons_append, List.cons.injEq] at h1
       exact ⟨x, y, h1.2, by rw [h2, ← h1.1]; simp⟩
theorem mem_dirsP {d p : Pth} : d ∈ dirsP p ↔ ∃ q, p = d ++ 47 :: q := by
 unfold dirsP
 rw [dirsFrom_mem]
 constructor
 · rintro ⟨x, y, h1, h2⟩
   exact ⟨y, by rw [h1, h2]; rfl⟩
 · rintro ⟨q, h⟩
   exact ⟨d, q, h, rfl⟩
theorem lt_append (a : Pth) (x : UInt8) (q : Pth) : a < a ++ x :: q := by
 induction a with
 | nil => exact List.nil_lt_cons ..
 | cons c a ih => rw [List.cons_append, List.cons_lt_cons_iff]; exact .inr ⟨rfl, ih⟩
theorem dirsP_lt {d p : Pth} (h : d ∈ dirsP p) : d < p := by
 obtain ⟨q, rfl⟩ := mem_dirsP.1 h
 exact lt_append d 47 q
theorem lastLe_false {done : List FileD} {p : Pth} (hr : RiseP (done.map (·.p))) (h : lastLe done p = false) : ∀ g ∈ done, g.p < p := by
 unfold lastLe at h
 rcases List.eq_nil_or_concat done with rfl | ⟨l, x, rfl⟩
 · intro g hg; cases hg
 · rw [List.concat_eq_append] at *
   rw [List.getLast?_append] at h
   simp only [List.getLast?_singleton, Option.some_or, decide_eq_false_iff_not] at h
   have hx : x.p < p := List.not_le.1 h
   unfold RiseP at hr
   rw [List.map_append, List.pairwise_append] at hr
   intro g hg
   rcases List.mem_append.1 hg with q | q
   · exact pth_trans (hr.2.2 g.p (List.mem_map.2 ⟨g, q, rfl⟩) x.p (by simp)) hx
   · rw [List.mem_singleton.1 q]; exact hx
theorem lastLe_of {done : List FileD} {p : Pth} (h : ∀ g ∈ done, g.p < p) : lastLe done p = false := by
 unfold lastLe
 split
 · rename_i g hg
   rw [decide_eq_false_iff_not]
   exact List.not_le.2 (h g (List.mem_of_getLast? hg))
 · rfl
structure TreeOk (l : List FileD) : Prop where
 file : ∀ f ∈ l, fileE f = 0
 rise : RiseP (l.map (·.p))
 apart : ∀ f ∈ l, ∀ g ∈ l, g.p ∉ dirsP f.p
theorem checkL_ok : ∀ (l done : List FileD), RiseP (done.map (·.p)) → (checkL done l = 0 ↔ (∀ f ∈ l, fileE f = 0) ∧ RiseP ((done ++ l).map (·.p)) ∧ ∀ f ∈ l, ∀ g ∈ done ++ l, g.p ∉ dirsP f.p)
 | [], done, hr => by
  rw [List.append_nil]
  simp [checkL, hr]
 | f :: l, done, hr => by
  unfold checkL
  by_cases h1 : fileE f = 0
  · rw [if_neg (fun q => q h1)]
    by_cases h2 : lastLe done f.p = true
    · rw [if_pos h2]
      refine ⟨fun q => absurd q (by decide), fun q => ?_⟩
      exfalso
      have : lastLe done f.p = false := lastLe_of fun g hg => by
       have := q.2.1
       unfold RiseP at this
       rw [List.map_append, List.pairwise_append] at this
       exact this.2.2 g.p (List.mem_map.2 ⟨g, hg, rfl⟩) f.p (by simp)
      rw [this] at h2
      cases h2
    · rw [if_neg h2]
      have h2 := Bool.eq_false_iff.2 h2
      have hlt := lastLe_false hr h2
      have hr2 : RiseP ((done ++ [f]).map (·.p)) := by
       unfold RiseP
       rw [List.map_append, List.pairwise_append]
       refine ⟨hr, by simp, fun a ha b hb => ?_⟩
       obtain ⟨g, hg, rfl⟩ := List.mem_map.1 ha
       simp at hb
       rw [hb]
       exact hlt g hg
      by_cases h3 : (dirsP f.p).any (fun d => done.any (fun g => g.p == d)) = true
      · rw [if_pos h3]
        refine ⟨fun q => absurd q (by decide), fun q => ?_⟩
        exfalso
        simp only [List.any_eq_true, beq_iff_eq] at h3
        obtain ⟨d, hd, g, hg, e⟩ := h3
        exact q.2.2 f (List.mem_cons_self ..) g (List.mem_append_left _ hg) (by rw [e]; exact hd)
      · rw [if_neg h3]
        rw [checkL_ok l (done ++ [f]) hr2]
        simp only [List.append_assoc, List.cons_append, List.nil_append]
        constructor
        · rintro ⟨q1, q2, q3⟩
          refine ⟨fun g hg => ?_, q2, fun g hg g' hg' => ?_⟩
          · rcases List.mem_cons.1 hg with rfl | hg
            · exact h1
            · exact q1 g hg
          · rcases List.mem_cons.1 hg with rfl | hg
            · intro hd
              rcases List.mem_append.1 hg' with r | r
              · exact h3 (by simp only [List.any_eq_true, beq_iff_eq]; exact ⟨_, hd, g', r, rfl⟩)
              · have hlt2 := dirsP_lt hd
                rcases List.mem_cons.1 r with r | r
                · rw [r] at hlt2; exact List.lt_irrefl _ hlt2
                · unfold RiseP at q2
                  rw [List.map_append, List.pairwise_append] at q2
                  have := q2.2.1
                  rw [List.map_cons, List.pairwise_cons] at this
                  exact pth_asym hlt2 (this.1 g'.p (List.mem_map.2 ⟨g', r, rfl⟩))
            · exact q3 g hg g' hg'
        · rintro ⟨q1, q2, q3⟩
          exact ⟨fun g hg => q1 g (List.mem_cons_of_mem _ hg), q2, fun g hg => q3 g (List.mem_cons_of_mem _ hg)⟩
  · rw [if_pos h1]
    refine ⟨fun q => absurd q h1, fun q => absurd (q.1 f (List.mem_cons_self ..)) h1⟩
theorem checkL_tree {l : List FileD} : checkL [] l = 0 ↔ TreeOk l := by
 rw [checkL_ok l [] List.Pairwise.nil]
 simp only [List.nil_append]
 exact ⟨fun h => ⟨h.1, h.2.1, h.2.2⟩, fun h => ⟨h.file, h.rise, h.apart⟩⟩
theorem checkT_tree {l : List FileD} (h : checkT l = 0) : TreeOk l ∧ l.length ≤ 1000 ∧ crowdP l = false := by
 unfold checkT at h
 split at h
 · cases h
 · split at h
   · rename_i q; exact absurd h q
   · rename_i q1 q2
     split at h
     · cases h
     · rename_i q3
       exact ⟨checkL_tree.1 (Decidable.not_not.1 q2), by omega, Bool.eq_false_iff.2 q3⟩
theorem checkT_of {l : List FileD} (h : TreeOk l) (hl : l.length ≤ 1000) (hc : crowdP l = false) : checkT l = 0 := by
 unfold checkT
 rw [if_neg (by omega), if_neg (fun q => q (checkL_tree.2 h)), hc, if_neg (by decide)]
theorem fileE_kind {f : FileD} (h : fileE f = 0) : (f.k = 1 ∨ f.k = 2 ∨ f.k = 3) ∧ f.d.length ≤ 65536 ∧ (nmP f.p).length ≤ 8 ∧ ∀ s ∈ nmP f.p, nameOk s = true := by
 unfold fileE at h
 split at h
 · cases h
 · rename_i q
   split at h
   · cases h
   · rename_i q2
     split at h
     · cases h
     · rename_i q3
       rw [not_or] at q2
       refine ⟨by omega, by omega, by omega, fun s hs => ?_⟩
       have := q2.2
       simp only [List.any_eq_true, Bool.not_eq_true', not_exists, not_and, Bool.not_eq_false] at this
       exact this s hs
theorem TreeOk.kinds {l : List FileD} (h : TreeOk l) : KindsOk l := fun f hf => (fileE_kind (h.file f hf)).1
theorem TreeOk.apt {l : List FileD} (h : TreeOk l) : Apt l := rise_nodup h.rise
end Go.Proofs.YteeeehfnldkjlaaGreatDoor
namespace Go.Proofs.YteeeehfnldkjlaaGreatDoor
open Go.RowKit
theorem idx_yes {c : UInt8} {l : List UInt8} (h : c ∈ l) : ∃ p q : List UInt8, l = p ++ c :: q ∧ c ∉ p ∧ Lib.indexByte l c = (p.length : Int) := by
 have h1 := Lib.indexByte_ge l c
 rcases Int.lt_or_le (Lib.indexByte l c) 0 with q | q
 · obtain ⟨j, hj, hx⟩ := List.mem_iff_getElem.1 h
   exact absurd (by rw [List.getElem?_eq_getElem hj, hx]) (Lib.indexByte_none (l := l) (c := c) (by omega) j)
 · obtain ⟨o, ho⟩ : ∃ o : Nat, Lib.indexByte l c = (o : Int) := ⟨(Lib.indexByte l c).toNat, by omega⟩
   obtain ⟨h2, h3⟩ := Lib.indexByte_some ho
   have hlt := (List.getElem?_eq_some_iff.1 h2).1
   refine ⟨l.take o, l.drop (o + 1), ?_, fun hm => ?_, by rw [ho, List.length_take, Nat.min_eq_left (by omega)]⟩
   · have : l.drop o = c :: l.drop (o + 1) := List.drop_eq_getElem?_toList_append.trans (by rw [h2]; rfl)
     rw [← this, List.take_append_drop]
   · obtain ⟨j, hj, hx⟩ := List.mem_iff_getElem.1 hm
     rw [List.length_take] at hj
     refine h3 j (by omega) ?_
     rw [List.getElem_take] at hx
     rw [List.getElem?_eq_getElem (by omega), hx]
theorem nmFrom_row {q : Pth} : ∀ {p cur : Pth}, (47 : UInt8) ∉ p → nmFrom cur (p ++ 47 :: q) = (cur ++ p) :: nmFrom [] q
 | [], cur, _ => by simp [nmFrom]
 | x :: p, cur, h => by
  have hx : x ≠ 47 := fun e => h (by simp [e])
  have := nmFrom_row (q := q) (p := p) (cur := cur ++ [x]) (fun hm => h (by simp [hm]))
  simp [nmFrom, hx, this]
theorem nmFrom_rest : ∀ {p cur : Pth}, (47 : UInt8) ∉ p → nmFrom cur p = [cur ++ p]
 | [], cur, _ => by simp [nmFrom]
 | x :: p, cur, h => by
  have hx : x ≠ 47 := fun e => h (by simp [e])
  have := nmFrom_rest (p := p) (cur := cur ++ [x]) (fun hm => h (by simp [hm]))
  simp [nmFrom, hx, this]
theorem splitK_names : ∀ (n : Nat) (s : Pth), s.length ≤ n → Lib.splitK [47] 0 (s.count 47) s = nmP s
 | n, s, hn => by
  by_cases hm : (47 : UInt8) ∈ s
  · obtain ⟨p, q, rfl, hp, hi⟩ := idx_yes hm
    have hc : (p ++ 47 :: q).count 47 = q.count 47 + 1 := by
     rw [List.count_append, List.count_eq_zero_of_not_mem hp, List.count_cons_self]
     omega
    rw [hc, Lib.splitK, Lib.index_one, hi, if_neg (by simp)]
    unfold nmP
    rw [nmFrom_row hp]
    have e1 : (p ++ 47 :: q).take (((p.length : Int)).toNat + 0) = [] ++ p := by simp
    have e2 : (p ++ 47 :: q).drop (((p.length : Int)).toNat + [(47 : UInt8)].length) = q := by
     rw [Int.toNat_natCast, List.drop_append, List.drop_eq_nil_of_le (by simp)]
     simp
    rw [e1, e2]
    congr 1
    cases n with
    | zero => simp at hn
    | succ n => exact splitK_names n q (by simp at hn; omega)
  · rw [List.count_eq_zero_of_not_mem hm, Lib.splitK]
    unfold nmP
    rw [nmFrom_rest hm]
    rfl
end Go.Proofs.YteeeehfnldkjlaaGreatDoor
namespace Go.Proofs.YteeeehfnldkjlaaGreatDoor
theorem goes_or (l : List FileD) (ps : List PairD) (p : Pth) : (∃ x ∈ ps, x.old = p ∧ SideD.goes ⟨l, ps⟩ p = (x.new, true)) ∨ ((∀ x ∈ ps, x.old ≠ p) ∧ SideD.goes ⟨l, ps⟩ p = (p, hasF l p)) := by
 unfold SideD.goes
 cases hq : ps.find? (fun x => x.old == p) with
 | some x =>
  have hx := List.mem_of_find?_eq_some hq
  have he : x.old = p := by simpa using List.find?_some hq
  exact .inl ⟨x, hx, he, rfl⟩
 | none =>
  rw [List.find?_eq_none] at hq
  exact .inr ⟨fun x hx e => hq x hx (by simpa using e), rfl⟩
theorem nodup_filterMap {α β : Type} {f : α → Option β} : ∀ {l : List α}, l.Nodup → (∀ a ∈ l, ∀ b ∈ l, ∀ y, f a = some y → f b = some y → a = b) → (l.filterMap f).Nodup
 | [], _, _ => List.nodup_nil
 | a :: l, hn, hi => by
  rw [List.nodup_cons] at hn
  rw [List.filterMap_cons]
  have ih := nodup_filterMap hn.2 fun x hx y hy => hi x (List.mem_cons_of_mem _ hx) y (List.mem_cons_of_mem _ hy)
  cases hq : f a with
  | none => exact ih
  | some y =>
   refine List.nodup_cons.2 ⟨fun hm => ?_, ih⟩
   obtain ⟨b, hb, h⟩ := List.mem_filterMap.1 hm
   have := hi a (List.mem_cons_self ..) b (List.mem_cons_of_mem _ hb) y hq h
   exact hn.1 (this ▸ hb)
theorem apt_nodup {l : List FileD} (h : Apt l) : l.Nodup := List.Pairwise.of_map (·.p) (fun a b q e => q (by rw [e])) h
theorem stay_self (s : MSt) {f : FileD} {p : Pth} (h : f.p = p) : s.stay p f = { s with t := s.t ++ [f] } := by
 subst h
 rfl
theorem apart_none {l : List FileD} (h : Apt l) (c : List ClashD) : ∀ ns : List Nat, ns.foldl apartS (l, c) = (l, c)
 | [] => rfl
 | i :: ns => by
  rw [List.foldl_cons]
  have : apartS (l, c) i = (l, c) := by
   unfold apartS
   split
   · rfl
   · rename_i f hf
     simp only at hf ⊢
     rw [if_neg]
     intro hq
     simp only [List.any_eq_true, beq_iff_eq] at hq
     obtain ⟨g, hg, e⟩ := hq
     obtain ⟨j, hj, rfl⟩ := List.mem_iff_getElem.1 hg
     rw [List.length_take] at hj
     rw [List.getElem_take] at e
     have hil := (List.getElem?_eq_some_iff.1 hf)
     obtain ⟨hi, rfl⟩ := hil
     have hn : (l.map (·.p)).Nodup := h
     have : j = i := (List.getElem_inj (xs := l.map (·.p)) (h₀ := by simp; omega) (h₁ := by simpa using hi) hn).1 (by simpa using e)
     omega
  rw [this]
  exact apart_none h c ns
theorem belowN_zero {l : List FileD} {p : Pth} (h : ∀ f ∈ l, p ∉ dirsP f.p) : belowN l p = 0 := by
 unfold belowN
 rw [List.countP_eq_zero]
 intro f hf
 simpa using h f hf
theorem aside_none {l : List FileD} (h : ∀ f ∈ l, ∀ g ∈ l, g.p ∉ dirsP f.p) (c : List ClashD) : ∀ ns : List Nat, ns.foldl asideS (l, c) = (l, c)
 | [] => rfl
 | i :: ns => by
  rw [List.foldl_cons]
  have : asideS (l, c) i = (l, c) := by
   unfold asideS
   split
   · rfl
   · rename_i f hf
     simp only at hf ⊢
     rw [if_neg]
     rw [belowN_zero fun g hg => h g hg f (List.mem_of_getElem? hf)]
     omega
  rw [this]
  exact aside_none h c ns
theorem sortF_sorted {l : List FileD} (h : RiseP (l.map (·.p))) : SortedP (fun a b : FileD => decide (a.p < b.p)) l := by
 unfold SortedP
 refine List.Pairwise.imp (fun {a b} q => ?_) (List.pairwise_map.1 h)
 rw [decide_eq_false_iff_not]
 exact pth_asym q
theorem places_none {l m : List FileD} (hp : l.Perm m) (hm : TreeOk m) (c : List ClashD) : placesP l c = (m, c) := by
 have hl : Apt l := (hp.map (fun f : FileD => f.p)).nodup_iff.2 hm.apt
 unfold placesP
 simp only [apart_none hl c]
 rw [sortF_unique hp (sortF_sorted hm.rise) hl]
 exact aside_none hm.apart c _
theorem sortF_self {m : List FileD} (hm : TreeOk m) : sortF m = m := sortF_unique (List.Perm.refl _) (sortF_sorted hm.rise) hm.apt
theorem merge_ok {base ours theirs m : List FileD} (hb : checkT base = 0) (ho : checkT ours = 0) (ht : checkT theirs = 0) (hm : checkT m = 0) (he : (gatherP base ours theirs).e = 0) (hc : (gatherP base ours theirs).c = []) (hp : (gatherP base ours theirs).t.Perm m) : treemergeP base ours theirs = .ok (m, []) := by
 unfold treemergeP
 rw [if_neg (by omega), if_neg (by omega), if_neg (by omega)]
 simp only [he, hc, ne_eq, not_true_eq_false, if_false]
 rw [places_none hp (checkT_tree hm).1]
 simp only [sortF_self (checkT_tree hm).1, hm, not_true_eq_false, if_false]
 rfl
theorem goes_none (l : List FileD) (p : Pth) : SideD.goes ⟨l, []⟩ p = (p, hasF l p) := rfl
theorem mem_paths {l : List FileD} {p : Pth} (h : hasF l p = true) : p ∈ l.map (·.p) := by
 obtain ⟨f, h1, h2⟩ := hasF_iff.1 h
 exact List.mem_map.2 ⟨f, h1, h2⟩
end Go.Proofs.YteeeehfnldkjlaaGreatDoor
