/-
 Plain law of TreemergePlaces: the law's files. No statement of the seat is proved here.
-/
import Derived.Test.YteeeehfnldkjlaaGreatDoorWi
import Derived.Test.YteeeehfnldkjlaaGreatDoorTZ14
namespace Go.Proofs.YteeeehfnldkjlaaGreatDoor
open Go.RowKit

/-! ### Files that Good keeps -/
def Clear (g f : FileD) : Prop := g.p ≠ f.p ∧ f.p ∉ dirsP g.p ∧ g.p ∉ dirsP f.p
theorem good_steps : ∀ (l out : List FileD), (∀ f ∈ l, goodF f = f ∧ fileE f = 0) → l.Pairwise Clear → (∀ g ∈ out, ∀ f ∈ l, Clear g f) → (∀ f, f ∈ l.foldl goodStep out ↔ f ∈ out ∨ f ∈ l) ∧ (l.foldl goodStep out).length = out.length + l.length
 | [], out, _, _, _ => by simp
 | f :: l, out, h1, h2, h3 => by
  obtain ⟨e1, e2⟩ := h1 f (List.mem_cons_self ..)
  rw [List.pairwise_cons] at h2
  have hs : goodStep out f = insG f out := by
   unfold goodStep
   rw [e1, if_neg (fun q => q e2), if_pos]
   unfold fitsG
   rw [List.all_eq_true]
   intro g hg
   obtain ⟨c1, c2, c3⟩ := h3 g hg f (List.mem_cons_self ..)
   simp only [Bool.and_eq_true, bne_iff_ne, Bool.not_eq_true', belowB, List.contains_eq_mem, decide_eq_false_iff_not]
   exact ⟨⟨c1, c2⟩, c3⟩
  obtain ⟨r1, r2⟩ := good_steps l (insG f out) (fun g hg => h1 g (List.mem_cons_of_mem _ hg)) h2.2 fun g hg x hx => by
   rcases mem_insG.1 hg with rfl | hg
   · exact h2.1 x hx
   · exact h3 g hg x (List.mem_cons_of_mem _ hx)
  rw [List.foldl_cons, hs]
  refine ⟨fun g => ?_, ?_⟩
  · rw [r1, mem_insG, List.mem_cons]
    constructor
    · rintro ((h | h) | h)
      · exact .inr (.inl h)
      · exact .inl h
      · exact .inr (.inr h)
    · rintro (h | h | h)
      · exact .inl (.inr h)
      · exact .inl (.inl h)
      · exact .inr h
  · rw [r2, insG_len, List.length_cons]
    omega
theorem good_keeps {l : List FileD} (hl : l.length ≤ 40) (h1 : ∀ f ∈ l, goodF f = f ∧ fileE f = 0) (h2 : l.Pairwise Clear) : (∀ f, f ∈ goodP l ↔ f ∈ l) ∧ (goodP l).length = l.length := by
 unfold goodP
 rw [List.take_of_length_le hl]
 have := good_steps l [] h1 h2 fun g hg => by cases hg
 simpa using this

/-! ### The law's files -/
def plD0 : List UInt8 := [111, 110, 101, 10, 116, 119, 111, 10]
def plD1 : List UInt8 := [116, 104, 114, 101, 101, 10, 102, 111, 117, 114, 10]
def plNew : List UInt8 := [110, 101, 119, 10]
def plFil : List UInt8 := [102, 105, 108, 101, 10]
def plBel : List UInt8 := [98, 101, 108, 111, 119, 10]
def plA : FileD := ⟨[110], 1, plD0⟩
def plB : FileD := ⟨[109], 1, plD1⟩
theorem pl_base : goodP [plA, plB] = [plB, plA] := by decide
/-- A name of one path. -/
structure PlName (p : Pth) : Prop where
 flat : (47 : UInt8) ∉ p
 ok : nameOk p = true
 ne : p ≠ []
 nm : p ≠ [109]
 nn : p ≠ [110]
 len : p.length ≤ 30
theorem nm_one : ∀ (p cur : Pth), (nmFrom cur p).length = 1 → (47 : UInt8) ∉ p
 | [], _, _ => by simp
 | x :: p, cur, h => by
  unfold nmFrom at h
  split at h
  · exfalso
    have : 0 < (nmFrom [] p).length := List.length_pos_iff.2 (nmFrom_ne p [])
    rw [List.length_cons] at h
    omega
  · rename_i hx
    intro q
    rcases List.mem_cons.1 q with q | q
    · exact hx q.symm
    · exact nm_one p _ h q
theorem plName_of {p : Pth} (h : (rnP p).length = 1) (hm : p ≠ [109]) (hn : p ≠ [110]) (hl : p.length ≤ 30) : PlName p := by
 have e : ¬ ((nmP p).all nameOk = true ∧ (nmP p).length ≤ 8) → False := fun q => by
  unfold rnP at h
  rw [if_neg q] at h
  cases h
 obtain ⟨h1, h2⟩ := Classical.byContradiction e
 unfold rnP at h
 rw [if_pos ⟨h1, h2⟩] at h
 have hf := nm_one p [] h
 have e : nmP p = [p] := by
  unfold nmP
  rw [flat_names p [] hf, List.nil_append]
 rw [e] at h1
 have ok : nameOk p = true := by simpa using h1
 refine ⟨hf, ok, fun q => ?_, hm, hn, hl⟩
 subst q
 revert ok
 decide
section
variable {p : Pth} (h : PlName p)
include h
theorem PlName.file {k : Int} {d : List UInt8} (hk : k = 1) (hd : d.length ≤ 65536) : fileE ⟨p, k, d⟩ = 0 := flat_file h.flat h.ok (.inl hk) hd
theorem PlName.tflat : (47 : UInt8) ∉ p ++ [126] := by
 rw [List.mem_append]
 rintro (q | q)
 · exact h.flat q
 · revert q; decide
theorem PlName.tok : nameOk (p ++ [126]) = true := by
 have hk := h.ok
 have hl := h.len
 unfold nameOk at hk ⊢
 simp only [Bool.and_eq_true, Bool.not_eq_true', decide_eq_true_eq, bne_iff_ne] at hk ⊢
 have la : (p ++ [126]).getLast? = some 126 := by simp
 refine ⟨by simp, by simp; omega, fun q => ?_, fun q => ?_, ?_⟩
 · rw [q] at la; revert la; decide
 · rw [q] at la; revert la; decide
 · have := hk.2.2.2.2
   unfold anySlz at this ⊢
   rw [List.any_append, this]
   rfl
theorem PlName.tfile {k : Int} {d : List UInt8} (hk : k = 1) (hd : d.length ≤ 65536) : fileE ⟨p ++ [126], k, d⟩ = 0 := flat_file h.tflat h.tok (.inl hk) hd
theorem PlName.dirs : dirsP p = [] := flat_dirs p [] h.flat
theorem PlName.tdirs : dirsP (p ++ [126]) = [] := flat_dirs _ [] h.tflat
theorem PlName.tne {q : Pth} (hq : q.length ≤ 1) : p ++ [126] ≠ q := fun e => by
 have := h.ne
 have e := congrArg List.length e
 rw [List.length_append, List.length_cons, List.length_nil] at e
 exact this (List.length_eq_zero_iff.1 (by omega))
end
theorem tilde_ne (p : Pth) : p ++ [126] ≠ p := fun e => by
 have e := congrArg List.length e
 rw [List.length_append] at e
 simp at e
theorem fileA : fileE plA = 0 := by decide
theorem fileB : fileE plB = 0 := by decide
theorem good_plain {p : Pth} {d : List UInt8} (hd : d.length ≤ 2000) : goodF ⟨p, 1, d⟩ = ⟨p, 1, d⟩ := by
 unfold goodF
 simp only
 rw [List.take_of_length_le hd]
 rfl

local macro "anyN" : tactic => `(tactic| simp only [List.any_cons, List.any_nil, Bool.or_false, Bool.or_eq_false_iff, beq_eq_false_iff_ne])
local macro "nodS" : tactic => `(tactic| simp only [List.map_cons, List.map_nil, List.nodup_cons, List.mem_cons, List.not_mem_nil, or_false, not_false_eq_true, List.nodup_nil, and_true])
/-! ### A merge by its parts -/
theorem merge_by {base ours theirs : List FileD} {r : List FileD × List ClashD} (hb : checkT base = 0) (ho : checkT ours = 0) (ht : checkT theirs = 0) (he : (gatherP base ours theirs).e = 0) (hp : placesP (gatherP base ours theirs).t (gatherP base ours theirs).c = r) (hc : checkT (sortF r.1) = 0) : treemergeP base ours theirs = .ok (sortF r.1, clashesP r.2) := by
 unfold treemergeP
 simp only
 rw [hb, ho, ht, he, hp, hc]
 rfl
theorem move_at {a b : List FileD} {f : FileD} (q : Pth) : moveP (a ++ f :: b) a.length q = a ++ ⟨q, f.k, f.d⟩ :: b := by
 unfold moveP
 induction a with
 | nil => rfl
 | cons x a ih => rw [List.cons_append, List.length_cons, List.modify_succ_cons, ih, List.cons_append]
/-- Flat files with names of their own: none is set aside. -/
theorem places_flat {l l' : List FileD} {c c' : List ClashD} (h : (List.range l.length).foldl apartS (l, c) = (l', c')) (hd : ∀ f ∈ l', dirsP f.p = []) : placesP l c = (sortF l', c') := by
 unfold placesP
 simp only
 rw [h]
 simp only
 rw [aside_none]
 intro f hfm g hg
 rw [hd f ((sortF_perm l').mem_iff.1 hfm)]
 simp

/-- What a merge is to give. -/
def PlSays (base ours theirs : List FileD) (p : Pth) (why n : Nat) : Prop := ∃ x, treemergeP base ours theirs = .ok (x, [⟨p, why⟩]) ∧ x.length = n ∧ (getF x (p ++ [126])).k = 1
/-- Things at flat paths of their own, one of them at the path moved to. -/
theorem says_flat {base ours theirs : List FileD} {p : Pth} {l' : List FileD} (hb : checkT base = 0) (ho : checkT ours = 0) (ht : checkT theirs = 0) (he : (gatherP base ours theirs).e = 0)
    (hr : (List.range (gatherP base ours theirs).t.length).foldl apartS ((gatherP base ours theirs).t, (gatherP base ours theirs).c) = (l', [⟨p, 5⟩])) (ha : Apt l') (hf : ∀ f ∈ l', fileE f = 0) (hd : ∀ f ∈ l', dirsP f.p = []) (hl : l'.length ≤ 64)
    (hm : ∃ f ∈ l', f.p = p ++ [126] ∧ f.k = 1) : PlSays base ours theirs p 5 l'.length := by
 have hc : checkT (sortF l') = 0 := sort_tree ha hf (fun f hfm g _ => by rw [hd f hfm]; simp) hl
 have hs : sortF (sortF l') = sortF l' := sortF_self (checkT_tree hc).1
 have h := merge_by hb ho ht he (places_flat hr hd) (by simp only; rw [hs]; exact hc)
 simp only at h
 rw [hs] at h
 refine ⟨_, h, sortF_len l', ?_⟩
 obtain ⟨f, hfm, e1, e2⟩ := hm
 rw [← e1, getF_mem (checkT_tree hc).1.apt ((sortF_perm l').mem_iff.2 hfm)]
 exact e2
theorem cf_A : countsP plA = true := by decide
theorem cf_B : countsP plB = true := by decide
theorem cf_file {p : Pth} {d : List UInt8} (hd : 0 < d.length) : countsP ⟨p, 1, d⟩ = true := by
 unfold countsP
 simp only [beq_self_eq_true, Bool.true_or, Bool.true_and, decide_eq_true_eq]
 exact hd
/-- A tree that holds a few files. -/
structure Holds (t l : List FileD) : Prop where
 tree : TreeOk t
 mem : ∀ f, f ∈ t ↔ f ∈ l
 check : checkT t = 0
theorem holds_good {l : List FileD} (hl : l.length ≤ 40) (h1 : ∀ f ∈ l, goodF f = f ∧ fileE f = 0) (h2 : l.Pairwise Clear) : Holds (goodP l) l := ⟨(goodP_good l).1.tree, (good_keeps hl h1 h2).1, good_check (goodP_good l).1 (Nat.le_trans (goodP_good l).2 (by decide))⟩
theorem Holds.has {t l : List FileD} (h : Holds t l) (p : Pth) : hasF t p = l.any (fun f => f.p == p) := by
 rw [Bool.eq_iff_iff, hasF_iff, List.any_eq_true]
 constructor
 · rintro ⟨f, hf, e⟩; exact ⟨f, (h.mem f).1 hf, beq_iff_eq.2 e⟩
 · rintro ⟨f, hf, e⟩; exact ⟨f, (h.mem f).2 hf, beq_iff_eq.1 e⟩
theorem Holds.get {t l : List FileD} (h : Holds t l) {f : FileD} (hf : f ∈ l) : getF t f.p = f := getF_mem h.tree.apt ((h.mem f).2 hf)
theorem Holds.keys {t l : List FileD} (h : Holds t l) {q : Pth} (hq : q ∈ t.map (·.p)) : ∃ f ∈ l, f.p = q := by
 obtain ⟨f, hf, e⟩ := List.mem_map.1 hq
 exact ⟨f, (h.mem f).1 hf, e⟩
theorem base_holds : Holds [plB, plA] [plA, plB] := pl_base ▸ holds_good (l := [plA, plB]) (by decide) (by decide) (by unfold Clear; decide)
/-- Both versions at q: the bytes and the kind as they were. -/
theorem both_kept {q : Pth} {b x y : FileD} (hk1 : x.k = b.k) (hk2 : y.k = b.k) (hd1 : x.d = b.d) (hd2 : y.d = b.d) : m0.both q b b.k x y = ⟨[⟨q, b.k, b.d⟩], [], 0⟩ := by
 rw [both_m0]
 have e1 : kindP b.k x.k y.k = (b.k, true) := by unfold kindP; rw [hk1, hk2]; simp
 have e2 : dataP b b.k x y = (b.d, true, 0) := by unfold dataP; rw [hd1, hd2]; simp
 rw [e1, e2]
 rfl
/-- A file of base that both sides have as it was, one of them at another path, or neither. -/
theorem file_kept {o t : SideD} {b x y : FileD} {po pt q : Pth} (ho : o.goes b.p = (po, true)) (ht : t.goes b.p = (pt, true)) (hq : (pt = b.p ∧ q = po) ∨ (po = b.p ∧ pt ≠ b.p ∧ q = pt)) (gx : getF o.f po = x) (gy : getF t.f pt = y) (hk1 : x.k = b.k) (hk2 : y.k = b.k) (hd1 : x.d = b.d) (hd2 : y.d = b.d) : fileM o t b = ⟨[⟨q, b.k, b.d⟩], [], 0⟩ := by
 unfold fileM MSt.file
 simp only [ho, ht, gx, gy]
 rw [if_neg (by simp), if_neg (by simp), if_neg (by simp)]
 rcases hq with ⟨rfl, rfl⟩ | ⟨rfl, h, rfl⟩
 · rw [if_neg (fun q => q.2.2 rfl), if_pos rfl]
   exact both_kept hk1 hk2 hd1 hd2
 · rw [if_neg (fun q => q.2.1 rfl), if_neg h]
   exact both_kept hk1 hk2 hd1 hd2
/-- One path alone is new. -/
theorem fresh_one {base : List FileD} {o t : SideD} {p : Pth} : ∀ (ks : List Pth), ks.Nodup → (∀ q ∈ ks, q ≠ p → o.isNew base q = false ∧ t.isNew base q = false) → p ∈ ks → sumM (ks.map (freshM base o t)) = freshM base o t p
 | [], _, _, h => by cases h
 | q :: ks, hn, h, hp => by
  rw [List.nodup_cons] at hn
  by_cases e : q = p
  · subst e
    rw [List.map_cons, sumM, fresh_none_all ks fun r hr => h r (List.mem_cons_of_mem _ hr) fun e => hn.1 (e ▸ hr), app_m0]
  · have hp : p ∈ ks := by
     rcases List.mem_cons.1 hp with r | r
     · exact absurd r.symm e
     · exact r
    obtain ⟨h1, h2⟩ := h q (List.mem_cons_self ..) e
    rw [List.map_cons, sumM, fresh_one ks hn.2 (fun r hr => h r (List.mem_cons_of_mem _ hr)) hp]
    have : freshM base o t q = m0 := by
     unfold freshM MSt.fresh1
     rw [h1, h2]
    rw [this, m0_app]
theorem nmFrom_cons (cur : Pth) (x : UInt8) (b : Pth) : nmFrom cur (x :: b) = if x = 47 then cur :: nmFrom [] b else nmFrom (cur ++ [x]) b := rfl
theorem dirsFrom_cons (cur : Pth) (x : UInt8) (b : Pth) : dirsFrom cur (x :: b) = if x = 47 then cur :: dirsFrom (cur ++ [x]) b else dirsFrom (cur ++ [x]) b := rfl
theorem nm_under (s : Pth) : ∀ (p cur : Pth), (47 : UInt8) ∉ p → nmFrom cur (p ++ 47 :: s) = (cur ++ p) :: nmFrom [] s
 | [], cur, _ => by rw [List.nil_append, nmFrom_cons, if_pos rfl, List.append_nil]
 | x :: p, cur, h => by
  rw [List.cons_append, nmFrom_cons, if_neg fun e => h (by rw [e]; exact List.mem_cons_self ..), nm_under s p _ fun q => h (List.mem_cons_of_mem _ q), List.append_assoc]
  rfl
theorem dirs_under (s : Pth) : ∀ (p cur : Pth), (47 : UInt8) ∉ p → dirsFrom cur (p ++ 47 :: s) = (cur ++ p) :: dirsFrom (cur ++ p ++ [47]) s
 | [], cur, _ => by rw [List.nil_append, dirsFrom_cons, if_pos rfl, List.append_nil]
 | x :: p, cur, h => by
  rw [List.cons_append, dirsFrom_cons, if_neg fun e => h (by rw [e]; exact List.mem_cons_self ..), dirs_under s p _ fun q => h (List.mem_cons_of_mem _ q), List.append_assoc cur [x]]
  rfl
theorem plX_ne {p q : Pth} (hq : (47 : UInt8) ∉ q) : p ++ [47, 120] ≠ q := fun e => hq (by rw [← e]; simp)
def plX (p : Pth) : FileD := ⟨p ++ [47, 120], 1, plBel⟩
theorem base_nox (p : Pth) : hasF [plB, plA] (plX p).p = false := by
 rw [base_holds.has]
 anyN
 exact ⟨fun e => plX_ne (q := plA.p) (by decide) e.symm, fun e => plX_ne (q := plB.p) (by decide) e.symm⟩
theorem side_l (base l : List FileD) : (sideP base l).l = detectP (diffT base l) := rfl
theorem flat_dirs' {q : Pth} (h : (47 : UInt8) ∉ q) : dirsP q = [] := flat_dirs q [] h
theorem apt_idx {l : List FileD} (h : Apt l) {i j : Nat} {f : FileD} (hi : l[i]? = some f) (hj : l[j]? = some f) : i = j := by
 obtain ⟨a, ea⟩ := List.getElem?_eq_some_iff.1 hi
 obtain ⟨b, eb⟩ := List.getElem?_eq_some_iff.1 hj
 have hp := List.pairwise_iff_getElem.1 (apt_nodup h)
 rcases Nat.lt_trichotomy i j with q | q | q
 · exact absurd (ea.trans eb.symm) (hp i j a b q)
 · exact q
 · exact absurd (eb.trans ea.symm) (hp j i b a q)
section
variable {p : Pth} (h : PlName p)
include h
theorem PlName.clear (q : Pth) {k k' : Int} {d d' : List UInt8} (hq : q ≠ p) (hd : dirsP q = []) : Clear ⟨p, k, d⟩ ⟨q, k', d'⟩ ∧ Clear ⟨q, k', d'⟩ ⟨p, k, d⟩ := by
 unfold Clear
 simp only
 rw [h.dirs, hd]
 exact ⟨⟨fun e => hq e.symm, by simp, by simp⟩, ⟨hq, by simp, by simp⟩⟩
theorem PlName.good {d : List UInt8} (hd : d.length ≤ 2000) : goodF ⟨p, 1, d⟩ = ⟨p, 1, d⟩ ∧ fileE ⟨p, 1, d⟩ = 0 := ⟨good_plain hd, h.file rfl (by omega)⟩
/-- Moved, beside one that was kept. -/
theorem PlName.mv : Holds (goodP [⟨p, 1, plD0⟩, plB]) [⟨p, 1, plD0⟩, plB] := holds_good (by simp) (by
    intro f hf
    rcases List.mem_cons.1 hf with rfl | hf
    · exact h.good (by decide)
    · rw [List.mem_singleton.1 hf]; exact ⟨by decide, fileB⟩) (List.pairwise_pair.2 (h.clear [109] (Ne.symm h.nm) rfl).1)
theorem PlName.mv2 : Holds (goodP [plA, ⟨p, 1, plD1⟩]) [plA, ⟨p, 1, plD1⟩] := holds_good (by simp) (by
    intro f hf
    rcases List.mem_cons.1 hf with rfl | hf
    · exact ⟨by decide, fileA⟩
    · rw [List.mem_singleton.1 hf]; exact h.good (by decide)) (List.pairwise_pair.2 (h.clear [110] (Ne.symm h.nn) rfl).2)
theorem PlName.add {d : List UInt8} (hd : d.length ≤ 2000) : Holds (goodP [plA, plB, ⟨p, 1, d⟩]) [plA, plB, ⟨p, 1, d⟩] := holds_good (by simp) (by
    intro f hf
    rcases List.mem_cons.1 hf with rfl | hf
    · exact ⟨by decide, fileA⟩
    · rcases List.mem_cons.1 hf with rfl | hf
      · exact ⟨by decide, fileB⟩
      · rw [List.mem_singleton.1 hf]; exact h.good hd) (by
    rw [List.pairwise_cons, List.pairwise_pair]
    refine ⟨fun f hf => ?_, (h.clear [109] (Ne.symm h.nm) rfl).2⟩
    rcases List.mem_cons.1 hf with rfl | hf
    · unfold Clear; decide
    · rw [List.mem_singleton.1 hf]; exact (h.clear [110] (Ne.symm h.nn) rfl).2)
theorem PlName.side1 : sideP [plB, plA] (goodP [⟨p, 1, plD0⟩, plB]) = ⟨goodP [⟨p, 1, plD0⟩, plB], [⟨[110], p, 100⟩]⟩ := by
 unfold sideP
 rw [detect_pair (b := plA) (x := ⟨p, 1, plD0⟩) base_holds.tree h.mv.tree (fun f => ?_) (fun f => ?_) rfl]
 · rfl
 · rw [base_holds.mem, h.mv.has]
   constructor
   · rintro ⟨hf, hh, _⟩
     rcases List.mem_cons.1 hf with rfl | hf
     · rfl
     · rw [List.mem_singleton.1 hf] at hh
       simp at hh
   · rintro rfl
     refine ⟨List.mem_cons_self .., ?_, cf_A⟩
     anyN
     exact ⟨h.nn, by decide⟩
 · rw [h.mv.mem, base_holds.has]
   constructor
   · rintro ⟨hf, hh, _⟩
     rcases List.mem_cons.1 hf with rfl | hf
     · rfl
     · rw [List.mem_singleton.1 hf] at hh
       simp at hh
   · rintro rfl
     refine ⟨List.mem_cons_self .., ?_, cf_file (by decide)⟩
     anyN
     exact ⟨fun e => h.nn e.symm, fun e => h.nm e.symm⟩
theorem PlName.side2 : sideP [plB, plA] (goodP [plA, ⟨p, 1, plD1⟩]) = ⟨goodP [plA, ⟨p, 1, plD1⟩], [⟨[109], p, 100⟩]⟩ := by
 unfold sideP
 rw [detect_pair (b := plB) (x := ⟨p, 1, plD1⟩) base_holds.tree h.mv2.tree (fun f => ?_) (fun f => ?_) rfl]
 · rfl
 · rw [base_holds.mem, h.mv2.has]
   constructor
   · rintro ⟨hf, hh, _⟩
     rcases List.mem_cons.1 hf with rfl | hf
     · simp at hh
     · exact List.mem_singleton.1 hf
   · rintro rfl
     refine ⟨by simp, ?_, cf_B⟩
     anyN
     exact ⟨by decide, h.nm⟩
 · rw [h.mv2.mem, base_holds.has]
   constructor
   · rintro ⟨hf, hh, _⟩
     rcases List.mem_cons.1 hf with rfl | hf
     · simp at hh
     · exact List.mem_singleton.1 hf
   · rintro rfl
     refine ⟨by simp, ?_, cf_file (by decide)⟩
     anyN
     exact ⟨fun e => h.nn e.symm, fun e => h.nm e.symm⟩
theorem PlName.side3 {d : List UInt8} (hd : d.length ≤ 2000) : sideP [plB, plA] (goodP [plA, plB, ⟨p, 1, d⟩]) = ⟨goodP [plA, plB, ⟨p, 1, d⟩], []⟩ := side_nil (detect_kept base_holds.tree (h.add hd).tree fun f hf => by
 rw [(h.add hd).has]
 rcases List.mem_cons.1 hf with rfl | hf
 · simp
 · rw [List.mem_singleton.1 hf]; simp)
/-- Both come to one place. -/
theorem PlName.case0 : PlSays [plB, plA] (goodP [⟨p, 1, plD0⟩, plB]) (goodP [plA, ⟨p, 1, plD1⟩]) p 5 2 := by
 have ho := h.mv
 have ht := h.mv2
 have hg : gatherP [plB, plA] (goodP [⟨p, 1, plD0⟩, plB]) (goodP [plA, ⟨p, 1, plD1⟩]) = ⟨[⟨p, 1, plD1⟩, ⟨p, 1, plD0⟩], [], 0⟩ := by
  rw [gather_sum, h.side1, h.side2, fresh_none_all _ fun q hq => ?_, app_m0]
  · have hB : fileM ⟨goodP [⟨p, 1, plD0⟩, plB], [⟨[110], p, 100⟩]⟩ ⟨goodP [plA, ⟨p, 1, plD1⟩], [⟨[109], p, 100⟩]⟩ plB = ⟨[⟨p, 1, plD1⟩], [], 0⟩ := file_kept (b := plB) (x := plB) (y := ⟨p, 1, plD1⟩) (po := [109]) (pt := p) (q := p) (by
        unfold SideD.goes
        have : ((⟨[110], p, 100⟩ : PairD).old == plB.p) = false := rfl
        simp only [List.find?_cons, this, List.find?_nil]
        rw [ho.has]
        show (plB.p, _) = _
        simp [plB]) (by unfold SideD.goes; simp [plB]) (.inr ⟨rfl, h.nm, rfl⟩) (ho.get (f := plB) (by simp)) (ht.get (f := ⟨p, 1, plD1⟩) (by simp)) rfl rfl rfl rfl
    have hA : fileM ⟨goodP [⟨p, 1, plD0⟩, plB], [⟨[110], p, 100⟩]⟩ ⟨goodP [plA, ⟨p, 1, plD1⟩], [⟨[109], p, 100⟩]⟩ plA = ⟨[⟨p, 1, plD0⟩], [], 0⟩ := file_kept (b := plA) (x := ⟨p, 1, plD0⟩) (y := plA) (po := p) (pt := [110]) (q := p) (by unfold SideD.goes; simp [plA]) (by
        unfold SideD.goes
        have : ((⟨[109], p, 100⟩ : PairD).old == plA.p) = false := rfl
        simp only [List.find?_cons, this, List.find?_nil]
        rw [ht.has]
        show (plA.p, _) = _
        simp [plA]) (.inl ⟨rfl, rfl⟩) (ho.get (f := ⟨p, 1, plD0⟩) (by simp)) (ht.get (f := plA) (by simp)) rfl rfl rfl rfl
    simp only [List.map_cons, List.map_nil, sumM, app_m0, hA, hB]
    rfl
  · rw [mem_keysP, List.mem_append] at hq
    unfold SideD.isNew
    rw [ho.has, ht.has, base_holds.has]
    have hc : q = p ∨ q = [109] ∨ q = [110] := by
     rcases hq with hq | hq
     · obtain ⟨f, hf, rfl⟩ := ho.keys hq
       rcases List.mem_cons.1 hf with rfl | hf
       · exact .inl rfl
       · rw [List.mem_singleton.1 hf]; exact .inr (.inl rfl)
     · obtain ⟨f, hf, rfl⟩ := ht.keys hq
       rcases List.mem_cons.1 hf with rfl | hf
       · exact .inr (.inr rfl)
       · rw [List.mem_singleton.1 hf]; exact .inl rfl
    rcases hc with rfl | rfl | rfl
    · simp
    · simp [plA, plB]
    · simp [plA, plB]
 have hn : nextF [⟨p, 1, plD1⟩, ⟨p, 1, plD0⟩] false p = p ++ [126] := next_tilde (by
  rw [freeP_false]
  simp only [List.map_cons, List.map_nil, List.mem_cons, List.not_mem_nil, or_false, or_self]
  exact tilde_ne p)
 have hr : (List.range 2).foldl apartS ([⟨p, 1, plD1⟩, ⟨p, 1, plD0⟩], []) = ([⟨p, 1, plD1⟩, ⟨p ++ [126], 1, plD0⟩], [⟨p, 5⟩]) := by
  rw [show List.range 2 = [0, 1] from rfl, List.foldl_cons, List.foldl_cons, List.foldl_nil]
  rw [apartS_some (l := [⟨p, 1, plD1⟩, ⟨p, 1, plD0⟩]) (c := []) (i := 0) rfl, if_neg (by simp), apartS_some (l := [⟨p, 1, plD1⟩, ⟨p, 1, plD0⟩]) (c := []) (i := 1) rfl, if_pos (by simp), hn]
  rfl
 refine says_flat (l' := [⟨p, 1, plD1⟩, ⟨p ++ [126], 1, plD0⟩]) base_holds.check ho.check ht.check (by rw [hg]) (by rw [hg]; exact hr) ?_ ?_ ?_ (by simp) ⟨⟨p ++ [126], 1, plD0⟩, by simp, rfl, rfl⟩
 · unfold Apt
   nodS
   exact fun e => tilde_ne p e.symm
 · intro f hf
   rcases List.mem_cons.1 hf with rfl | hf
   · exact h.file rfl (by decide)
   · rw [List.mem_singleton.1 hf]; exact h.tfile rfl (by decide)
 · intro f hf
   rcases List.mem_cons.1 hf with rfl | hf
   · exact h.dirs
   · rw [List.mem_singleton.1 hf]; exact h.tdirs
theorem PlName.base_no : hasF [plB, plA] p = false := by
 rw [base_holds.has]
 anyN
 exact ⟨fun e => h.nn e.symm, fun e => h.nm e.symm⟩
/-- Moved to where the other side makes a file. -/
theorem PlName.case1 : PlSays [plB, plA] (goodP [⟨p, 1, plD0⟩, plB]) (goodP [plA, plB, ⟨p, 1, plNew⟩]) p 5 3 := by
 have ho := h.mv
 have ht := h.add (d := plNew) (by decide)
 have hg : gatherP [plB, plA] (goodP [⟨p, 1, plD0⟩, plB]) (goodP [plA, plB, ⟨p, 1, plNew⟩]) = ⟨[plB, ⟨p, 1, plD0⟩, ⟨p, 1, plNew⟩], [], 0⟩ := by
  rw [gather_sum, h.side1, h.side3 (by decide), fresh_one (p := p) _ (rise_nodup (keysP_rise _)) (fun q hq hne => ?_) ?_]
  · have hB : fileM ⟨goodP [⟨p, 1, plD0⟩, plB], [⟨[110], p, 100⟩]⟩ ⟨goodP [plA, plB, ⟨p, 1, plNew⟩], []⟩ plB = ⟨[plB], [], 0⟩ := file_kept (b := plB) (x := plB) (y := plB) (po := [109]) (pt := [109]) (q := [109]) (by
        unfold SideD.goes
        have : ((⟨[110], p, 100⟩ : PairD).old == plB.p) = false := rfl
        simp only [List.find?_cons, this, List.find?_nil]
        rw [ho.has]
        show (plB.p, _) = _
        simp [plB]) (by rw [goes_none, ht.has]; simp [plB]) (.inl ⟨rfl, rfl⟩) (ho.get (f := plB) (by simp)) (ht.get (f := plB) (by simp)) rfl rfl rfl rfl
    have hA : fileM ⟨goodP [⟨p, 1, plD0⟩, plB], [⟨[110], p, 100⟩]⟩ ⟨goodP [plA, plB, ⟨p, 1, plNew⟩], []⟩ plA = ⟨[⟨p, 1, plD0⟩], [], 0⟩ := file_kept (b := plA) (x := ⟨p, 1, plD0⟩) (y := plA) (po := p) (pt := [110]) (q := p) (by unfold SideD.goes; simp [plA]) (by rw [goes_none, ht.has]; simp [plA]) (.inl ⟨rfl, rfl⟩) (ho.get (f := ⟨p, 1, plD0⟩) (by simp)) (ht.get (f := plA) (by simp)) rfl rfl rfl rfl
    have hF : freshM [plB, plA] ⟨goodP [⟨p, 1, plD0⟩, plB], [⟨[110], p, 100⟩]⟩ ⟨goodP [plA, plB, ⟨p, 1, plNew⟩], []⟩ p = ⟨[⟨p, 1, plNew⟩], [], 0⟩ := by
     unfold freshM MSt.fresh1
     have e1 : SideD.isNew ⟨goodP [⟨p, 1, plD0⟩, plB], [⟨[110], p, 100⟩]⟩ [plB, plA] p = false := by unfold SideD.isNew; simp
     have e2 : SideD.isNew ⟨goodP [plA, plB, ⟨p, 1, plNew⟩], []⟩ [plB, plA] p = true := by rw [isNew_nil, ht.has, h.base_no]; simp
     rw [e1, e2]
     simp only
     rw [ht.get (f := ⟨p, 1, plNew⟩) (by simp)]
     exact stay_m0 rfl
    simp only [List.map_cons, List.map_nil, sumM, app_m0, hA, hB, hF]
    rfl
  · rw [mem_keysP, List.mem_append]
    exact .inl (List.mem_map.2 ⟨_, (ho.mem ⟨p, 1, plD0⟩).2 (by simp), rfl⟩)
  · rw [mem_keysP, List.mem_append] at hq
    unfold SideD.isNew
    rw [ho.has, ht.has, base_holds.has]
    have hc : q = [109] ∨ q = [110] := by
     rcases hq with hq | hq
     · obtain ⟨f, hf, rfl⟩ := ho.keys hq
       rcases List.mem_cons.1 hf with rfl | hf
       · exact absurd rfl hne
       · rw [List.mem_singleton.1 hf]; exact .inl rfl
     · obtain ⟨f, hf, rfl⟩ := ht.keys hq
       rcases List.mem_cons.1 hf with rfl | hf
       · exact .inr rfl
       · rcases List.mem_cons.1 hf with rfl | hf
         · exact .inl rfl
         · rw [List.mem_singleton.1 hf] at hne; exact absurd rfl hne
    rcases hc with rfl | rfl
    · simp [plA, plB]
    · simp [plA, plB]
 have hn : nextF [plB, ⟨p, 1, plD0⟩, ⟨p, 1, plNew⟩] false p = p ++ [126] := next_tilde (by
  rw [freeP_false]
  simp only [List.map_cons, List.map_nil, List.mem_cons, List.not_mem_nil, or_false, or_self]
  rintro (e | e)
  · exact h.tne (q := plB.p) (by decide) e
  · exact tilde_ne p e)
 have hmp : (plB.p == p) = false := beq_eq_false_iff_ne.2 fun e => h.nm e.symm
 have hr : (List.range 3).foldl apartS ([plB, ⟨p, 1, plD0⟩, ⟨p, 1, plNew⟩], []) = ([plB, ⟨p, 1, plD0⟩, ⟨p ++ [126], 1, plNew⟩], [⟨p, 5⟩]) := by
  rw [show List.range 3 = [0, 1, 2] from rfl, List.foldl_cons, List.foldl_cons, List.foldl_cons, List.foldl_nil]
  rw [apartS_some (l := [plB, ⟨p, 1, plD0⟩, ⟨p, 1, plNew⟩]) (c := []) (i := 0) rfl, if_neg (by simp), apartS_some (l := [plB, ⟨p, 1, plD0⟩, ⟨p, 1, plNew⟩]) (c := []) (i := 1) rfl, if_neg (by simp [hmp]), apartS_some (l := [plB, ⟨p, 1, plD0⟩, ⟨p, 1, plNew⟩]) (c := []) (i := 2) rfl, if_pos (by simp), hn]
  rfl
 refine says_flat (l' := [plB, ⟨p, 1, plD0⟩, ⟨p ++ [126], 1, plNew⟩]) base_holds.check ho.check ht.check (by rw [hg]) (by rw [hg]; exact hr) ?_ ?_ ?_ (by simp) ⟨⟨p ++ [126], 1, plNew⟩, by simp, rfl, rfl⟩
 · unfold Apt
   nodS
   exact ⟨fun e => e.elim (fun e => h.nm e.symm) fun e => h.tne (q := plB.p) (by decide) e.symm, fun e => tilde_ne p e.symm⟩
 · intro f hf
   rcases List.mem_cons.1 hf with rfl | hf
   · exact fileB
   · rcases List.mem_cons.1 hf with rfl | hf
     · exact h.file rfl (by decide)
     · rw [List.mem_singleton.1 hf]; exact h.tfile rfl (by decide)
 · intro f hf
   rcases List.mem_cons.1 hf with rfl | hf
   · rfl
   · rcases List.mem_cons.1 hf with rfl | hf
     · exact h.dirs
     · rw [List.mem_singleton.1 hf]; exact h.tdirs

def plF (p : Pth) : FileD := ⟨p, 1, plFil⟩
def plT (p : Pth) : FileD := ⟨p ++ [126], 1, plFil⟩
theorem PlName.xdirs : dirsP (plX p).p = [p] := by
 show dirsFrom [] (p ++ 47 :: [120]) = _
 rw [dirs_under [120] p [] h.flat]
 simp [dirsFrom]
theorem PlName.xfile : fileE (plX p) = 0 := by
 have e : nmP (plX p).p = [p, [120]] := by
  show nmFrom [] (p ++ 47 :: [120]) = _
  rw [nm_under [120] p [] h.flat]
  simp [nmFrom]
 have hx : nameOk [120] = true := by decide
 unfold fileE
 rw [e, if_neg (by unfold plX; simp only; decide), if_neg (by simp [h.ok, hx]), if_neg (by unfold plX; simp only; decide)]
theorem PlName.xclear {q : Pth} {k : Int} {d : List UInt8} (hq : (47 : UInt8) ∉ q) (hne : q ≠ p) : Clear ⟨q, k, d⟩ (plX p) := by
 unfold Clear
 simp only
 rw [flat_dirs' hq, h.xdirs]
 exact ⟨fun e => plX_ne hq e.symm, by simp, by simpa using hne⟩
theorem PlName.addX : Holds (goodP [plA, plB, plX p]) [plA, plB, plX p] := holds_good (by simp) (by
    intro f hf
    rcases List.mem_cons.1 hf with rfl | hf
    · exact ⟨by decide, fileA⟩
    · rcases List.mem_cons.1 hf with rfl | hf
      · exact ⟨by decide, fileB⟩
      · rw [List.mem_singleton.1 hf]; exact ⟨good_plain (by decide), h.xfile⟩) (by
    rw [List.pairwise_cons, List.pairwise_pair]
    refine ⟨fun f hf => ?_, h.xclear (q := [109]) (by decide) (Ne.symm h.nm)⟩
    rcases List.mem_cons.1 hf with rfl | hf
    · unfold Clear; decide
    · rw [List.mem_singleton.1 hf]; exact h.xclear (q := [110]) (by decide) (Ne.symm h.nn))
theorem PlName.sideX : sideP [plB, plA] (goodP [plA, plB, plX p]) = ⟨(goodP [plA, plB, plX p]), []⟩ := side_nil (detect_kept base_holds.tree h.addX.tree fun f hf => by
 rw [h.addX.has]
 rcases List.mem_cons.1 hf with rfl | hf
 · simp
 · rw [List.mem_singleton.1 hf]; simp)
local notation:max "gF" p:max => goodP [plA, plB, plF p]
local notation:max "gX" p:max => goodP [plA, plB, plX p]
theorem PlName.case2 : PlSays [plB, plA] (gF p) (gX p) p 6 4 := by
 have ho : Holds (gF p) [plA, plB, plF p] := h.add (by decide)
 have ht := h.addX
 have sO : sideP [plB, plA] (gF p) = ⟨(gF p), []⟩ := h.side3 (by decide)
 have dO : detectP (diffT [plB, plA] (gF p)) = [] := by rw [← side_l, sO]
 have dT : detectP (diffT [plB, plA] (gX p)) = [] := by rw [← side_l, h.sideX]
 have hpx : p ≠ (plX p).p := fun e => plX_ne h.flat e.symm
 have kept : ∀ b, b = plA ∨ b = plB → fileM ⟨(gF p), []⟩ ⟨(gX p), []⟩ b = ⟨[b], [], 0⟩ := fun b hb => by
  have h1 : b ∈ [plA, plB, plF p] := by rcases hb with rfl | rfl <;> simp
  have h2 : b ∈ [plA, plB, plX p] := by rcases hb with rfl | rfl <;> simp
  exact file_kept (b := b) (x := b) (y := b) (po := b.p) (pt := b.p) (q := b.p) (by rw [goes_none, hasF_iff.2 ⟨b, (ho.mem b).2 h1, rfl⟩]) (by rw [goes_none, hasF_iff.2 ⟨b, (ht.mem b).2 h2, rfl⟩]) (.inl ⟨rfl, rfl⟩) (ho.get h1) (ht.get h2) rfl rfl rfl rfl
 have fresh : ∀ q, freshM [plB, plA] ⟨(gF p), []⟩ ⟨(gX p), []⟩ q = if q = p then ⟨[plF p], [], 0⟩ else if q = (plX p).p then ⟨[plX p], [], 0⟩ else m0 := fun q => by
  rw [fresh_nil]
  by_cases e1 : q = p
  · subst e1
    rw [if_pos rfl, h.base_no, if_neg (by simp), ho.has, if_pos (by simp [plF]), ht.has, if_neg, show getF (goodP [plA, plB, plF q]) q = plF q from ho.get (f := plF q) (by simp)]
    simp only [List.any_cons, List.any_nil, Bool.or_false, Bool.or_eq_true, beq_iff_eq]
    rintro (e | e | e)
    · exact h.nn e.symm
    · exact h.nm e.symm
    · exact hpx e.symm
  · rw [if_neg e1]
    by_cases e2 : q = (plX p).p
    · subst e2
      rw [if_pos rfl, base_nox p, if_neg (by simp), ho.has, if_neg, ht.has, if_pos (by simp), ht.get (f := plX p) (by simp)]
      simp only [List.any_cons, List.any_nil, Bool.or_false, Bool.or_eq_true, beq_iff_eq]
      rintro (e | e | e)
      · exact plX_ne (q := plA.p) (by decide) e.symm
      · exact plX_ne (q := plB.p) (by decide) e.symm
      · exact hpx e
    · rw [if_neg e2]
      by_cases e3 : hasF [plB, plA] q = true
      · rw [if_pos e3]
      · rw [if_neg e3]
        have n1 : hasF (gF p) q = false := by
         rw [base_holds.has] at e3
         rw [ho.has]
         simp only [List.any_cons, List.any_nil, Bool.or_false, Bool.or_eq_true, beq_iff_eq, not_or, Bool.or_eq_false_iff, beq_eq_false_iff_ne] at e3 ⊢
         exact ⟨e3.1, e3.2, fun e => e1 e.symm⟩
        have n2 : hasF (gX p) q = false := by
         rw [base_holds.has] at e3
         rw [ht.has]
         simp only [List.any_cons, List.any_nil, Bool.or_false, Bool.or_eq_true, beq_iff_eq, not_or, Bool.or_eq_false_iff, beq_eq_false_iff_ne] at e3 ⊢
         exact ⟨e3.1, e3.2, fun e => e2 e.symm⟩
        rw [n1, n2]
        rfl
 generalize hT : gatherP [plB, plA] (gF p) (gX p) = g at *
 have gA : Apt g.t := hT ▸ gather_apt base_holds.tree.apt dO dT
 have gM : ∀ f, f ∈ g.t ↔ f = plB ∨ f = plA ∨ f = plF p ∨ f = plX p := fun f => by
  rw [← hT, mem_gather, sO, h.sideX]
  constructor
  · rintro (⟨b, hb, hf⟩ | ⟨q, hq, hf⟩)
    · have hb' : b = plA ∨ b = plB := by
       rcases List.mem_cons.1 hb with e | e
       · exact .inr e
       · exact .inl (List.mem_singleton.1 e)
      rw [kept b hb'] at hf
      rw [List.mem_singleton.1 hf]
      rcases hb' with rfl | rfl
      · exact .inr (.inl rfl)
      · exact .inl rfl
    · rw [fresh] at hf
      split at hf
      · exact .inr (.inr (.inl (List.mem_singleton.1 hf)))
      · split at hf
        · exact .inr (.inr (.inr (List.mem_singleton.1 hf)))
        · cases hf
  · rintro (rfl | rfl | rfl | rfl)
    · exact .inl ⟨plB, by simp, by rw [kept plB (.inr rfl)]; simp⟩
    · exact .inl ⟨plA, by simp, by rw [kept plA (.inl rfl)]; simp⟩
    · refine .inr ⟨p, ?_, by rw [fresh, if_pos rfl]; simp⟩
      rw [mem_keysP, List.mem_append]
      exact .inl (List.mem_map.2 ⟨plF p, (ho.mem _).2 (by simp), rfl⟩)
    · refine .inr ⟨(plX p).p, ?_, by rw [fresh, if_neg (Ne.symm hpx), if_pos rfl]; simp⟩
      rw [mem_keysP, List.mem_append]
      exact .inr (List.mem_map.2 ⟨plX p, (ht.mem _).2 (by simp), rfl⟩)
 have gC : g.c = [] := by
  rw [List.eq_nil_iff_forall_not_mem]
  intro x hx
  rw [← hT, mem_gatherC, sO, h.sideX] at hx
  rcases hx with ⟨b, hb, hf⟩ | ⟨q, _, hf⟩
  · have hb' : b = plA ∨ b = plB := by
     rcases List.mem_cons.1 hb with e | e
     · exact .inr e
     · exact .inl (List.mem_singleton.1 e)
    rw [kept b hb'] at hf
    cases hf
  · rw [fresh] at hf
    split at hf
    · cases hf
    · split at hf <;> cases hf
 have gE : g.e = 0 := by
  rw [← hT, gather_sum, sO, h.sideX]
  unfold MSt.app
  simp only
  have s1 : (sumM ([plB, plA].map (fileM ⟨(gF p), []⟩ ⟨(gX p), []⟩))).e = 0 := sumM_e fun d hd => by
   obtain ⟨b, hb, rfl⟩ := List.mem_map.1 hd
   have hb' : b = plA ∨ b = plB := by
    rcases List.mem_cons.1 hb with e | e
    · exact .inr e
    · exact .inl (List.mem_singleton.1 e)
   rw [kept b hb']
  rw [if_pos s1]
  exact sumM_e fun d hd => by
   obtain ⟨q, _, rfl⟩ := List.mem_map.1 hd
   rw [fresh]
   split
   · rfl
   · split <;> rfl
 have hApt4 : Apt [plB, plA, plF p, plX p] := by
  unfold Apt
  nodS
  refine ⟨?_, ?_, hpx⟩
  · rintro (e | e | e)
    · revert e; decide
    · exact h.nm e.symm
    · exact plX_ne (q := plB.p) (by decide) e.symm
  · rintro (e | e)
    · exact h.nn e.symm
    · exact plX_ne (q := plA.p) (by decide) e.symm
 have hperm : g.t.Perm [plB, plA, plF p, plX p] := (List.perm_ext_iff_of_nodup (apt_nodup gA) (apt_nodup hApt4)).2 fun f => by rw [gM]; simp
 have hmF : plF p ∈ sortF g.t := (sortF_perm g.t).mem_iff.2 ((gM _).2 (.inr (.inr (.inl rfl))))
 obtain ⟨a, b, hab⟩ := List.append_of_mem hmF
 have hpm : (a ++ plF p :: b).Perm [plB, plA, plF p, plX p] := hab ▸ (sortF_perm g.t).trans hperm
 have hrest : (a ++ b).Perm [plB, plA, plX p] := by
  have e1 : (plF p :: (a ++ b)).Perm (plF p :: [plB, plA, plX p]) := (List.perm_middle.symm.trans hpm).trans (List.perm_middle (l₁ := [plB, plA]) (l₂ := [plX p]) (a := plF p))
  exact e1.cons_inv
 have hmove : (a ++ plT p :: b).Perm [plT p, plB, plA, plX p] := List.perm_middle.trans (hrest.cons _)
 have below : ∀ q, belowN (sortF g.t) q = if q = p then 1 else 0 := fun q => by
  unfold belowN
  rw [((sortF_perm g.t).trans hperm).countP_eq]
  simp only [List.countP_cons, List.countP_nil]
  rw [h.xdirs, show dirsP plB.p = [] from rfl, show dirsP plA.p = [] from rfl, show dirsP (plF p).p = [] from h.dirs]
  by_cases e : q = p
  · subst e; simp
  · simp [e]
 have hn : nextF (sortF g.t) true (plF p).p = p ++ [126] := next_tilde (by
  unfold freeP
  have e1 : atN (sortF g.t) (p ++ [126]) = 0 := by
   unfold atN
   rw [((sortF_perm g.t).trans hperm).countP_eq]
   simp only [List.countP_cons, List.countP_nil]
   rw [beq_eq_false_iff_ne.2 (show plB.p ≠ p ++ [126] from fun e => h.tne (q := plB.p) (by decide) e.symm), beq_eq_false_iff_ne.2 (show plA.p ≠ p ++ [126] from fun e => h.tne (q := plA.p) (by decide) e.symm), beq_eq_false_iff_ne.2 (show (plF p).p ≠ p ++ [126] from fun e => tilde_ne p e.symm), beq_eq_false_iff_ne.2 (show (plX p).p ≠ p ++ [126] from plX_ne h.tflat)]
   rfl
  show (atN (sortF g.t) (p ++ [126]) == 0 && (!true || belowN (sortF g.t) (p ++ [126]) == 0)) = true
  rw [e1, below, if_neg (tilde_ne p)]
  rfl)
 have hj : (sortF g.t)[a.length]? = some (plF p) := by rw [hab]; simp
 have sapt : Apt (sortF g.t) := rise_nodup (sortF_rise gA)
 have hplaces : placesP g.t g.c = (a ++ plT p :: b, [⟨p, 6⟩]) := by
  unfold placesP
  simp only
  rw [apart_none gA, gC]
  simp only
  rw [← sortF_len g.t, aside_one hj (by rw [show (plF p).p = p from rfl, below, if_pos rfl]; omega) (fun i f hi hf => by
   rw [below, if_neg]
   intro e
   have hne : f = plF p := by
    have := getF_mem sapt (List.mem_of_getElem? hf)
    have q := getF_mem sapt hmF
    rw [← this, ← q, e]
    rfl
   rw [hne] at hf
   exact hi (apt_idx sapt hf hj)) _ (Nat.le_refl _), if_neg (by rw [hab]; simp), hn, hab, move_at]
  rfl
 have hpm4 : ∀ f, f ∈ a ++ plT p :: b ↔ f = plT p ∨ f = plB ∨ f = plA ∨ f = plX p := fun f => by rw [hmove.mem_iff]; simp
 have tapt : Apt (a ++ plT p :: b) := by
  have : Apt [plT p, plB, plA, plX p] := by
   unfold Apt
   nodS
   refine ⟨?_, ?_, ?_⟩
   · rintro (e | e | e)
     · exact h.tne (q := plB.p) (by decide) e
     · exact h.tne (q := plA.p) (by decide) e
     · exact plX_ne h.tflat e.symm
   · rintro (e | e)
     · revert e; decide
     · exact plX_ne (q := plB.p) (by decide) e.symm
   · exact fun e => plX_ne (q := plA.p) (by decide) e.symm
  exact (hmove.map (fun f : FileD => f.p)).nodup_iff.2 this
 have hdirs : ∀ f ∈ a ++ plT p :: b, ∀ g ∈ a ++ plT p :: b, g.p ∉ dirsP f.p := fun f hf g hg => by
  rw [hpm4] at hf hg
  rcases hf with rfl | rfl | rfl | rfl
  · rw [show dirsP (plT p).p = [] from h.tdirs]; simp
  · rw [show dirsP plB.p = [] from rfl]; simp
  · rw [show dirsP plA.p = [] from rfl]; simp
  · rw [h.xdirs, List.mem_singleton]
    rcases hg with rfl | rfl | rfl | rfl
    · exact tilde_ne p
    · exact fun e => h.nm e.symm
    · exact fun e => h.nn e.symm
    · exact fun e => hpx e.symm
 have hlen : (a ++ plT p :: b).length = 4 := hmove.length_eq
 have hfile : ∀ f ∈ a ++ plT p :: b, fileE f = 0 := fun f hf => by
  rcases (hpm4 f).1 hf with rfl | rfl | rfl | rfl
  · exact h.tfile rfl (by decide)
  · exact fileB
  · exact fileA
  · exact h.xfile
 have hc := sort_tree tapt hfile hdirs (by omega)
 have hm := merge_by base_holds.check ho.check ht.check (r := (a ++ plT p :: b, [⟨p, 6⟩])) (hT.symm ▸ gE) (hT.symm ▸ hplaces) hc
 refine ⟨_, hm, by rw [sortF_len]; exact hlen, ?_⟩
 rw [show p ++ [126] = (plT p).p from rfl, getF_mem (checkT_tree hc).1.apt ((sortF_perm _).mem_iff.2 ((hpm4 _).2 (.inl rfl)))]
 rfl
end
end Go.Proofs.YteeeehfnldkjlaaGreatDoor
