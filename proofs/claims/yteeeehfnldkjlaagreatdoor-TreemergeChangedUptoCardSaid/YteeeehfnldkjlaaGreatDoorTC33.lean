/- Plain: how many files a merge has. No statement of the seat is proved here. -/
import Derived.Test.YteeeehfnldkjlaaGreatDoorTC31
import Derived.Test.YteeeehfnldkjlaaGreatDoorTCZq
import Derived.Test.YteeeehfnldkjlaaGreatDoorTC14
namespace Go.Proofs.YteeeehfnldkjlaaGreatDoor
structure MLen (L n : Nat) (s : MSt) : Prop where
 len : s.t.length ≤ n
 p : ∀ f ∈ s.t, f.p.length ≤ L
 c : ∀ x ∈ s.c, x.p.length ≤ L ∧ x.why ≤ 6
 d : ∀ f ∈ s.t, f.d.length ≤ 1000000
theorem merge3_bound {b o t x : List UInt8} {cl : Bool} (hb : b.length ≤ 100000) (ho : o.length ≤ 100000) (ht : t.length ≤ 100000) (h : merge3P b o t = some (x, cl)) : x.length ≤ 1000000 := by
 unfold merge3P at h
 split at h
 · rename_i hl
   injection h with h
   injection h with h _
   have h1 := renderP_bound (chunksP (splitL b) (splitL o) (splitL t))
   obtain ⟨r1, r2, r3, r4⟩ := chunksP_rows hl.1 hl.2.1 hl.2.2
   rw [r1, r2, r3, h] at h1
   unfold joinP at h1
   rw [splitL_flat, splitL_flat, splitL_flat] at h1
   omega
 · cases h
theorem data_bound {base x y : FileD} (k : Int) (hb : base.d.length ≤ 100000) (hx : x.d.length ≤ 100000) (hy : y.d.length ≤ 100000) : (dataP base k x y).1.length ≤ 1000000 := by
 unfold dataP
 split
 · simp only; omega
 · split
   · simp only; omega
   · split
     · cases h : merge3P base.d x.d y.d with
       | none => exact Nat.zero_le _
       | some r =>
        obtain ⟨d, cl⟩ := r
        exact merge3_bound hb hx hy h
     · simp only; omega
section
variable {L n : Nat} {s : MSt}
theorem MLen.nil_ (L : Nat) : MLen L 0 ⟨[], [], 0⟩ := ⟨Nat.le_refl _, fun _ h => (by cases h), fun _ h => (by cases h), fun _ h => (by cases h)⟩
theorem MLen.stay (h : MLen L n s) {p : Pth} (hp : p.length ≤ L) {f : FileD} (hd : f.d.length ≤ 1000000) : MLen L (n + 1) (s.stay p f) := ⟨by rw [stay_len]; have := h.len; omega, fun g hg => by
 rcases List.mem_append.1 hg with q | q
 · exact h.p g q
 · rw [List.mem_singleton.1 q]; exact hp, h.c, fun g hg => by
 rcases List.mem_append.1 hg with q | q
 · exact h.d g q
 · rw [List.mem_singleton.1 q]; exact hd⟩
theorem MLen.clash (h : MLen L n s) {p : Pth} (hp : p.length ≤ L) {w : Nat} (hw : w ≤ 6) : MLen L n (s.clash p w) := ⟨h.len, h.p, fun x hx => by
 rcases List.mem_append.1 hx with q | q
 · exact h.c x q
 · rw [List.mem_singleton.1 q]; exact ⟨hp, hw⟩, h.d⟩
theorem MLen.more {n' : Nat} (h : MLen L n s) (hn : n ≤ n') : MLen L n' s := ⟨Nat.le_trans h.len hn, h.p, h.c, h.d⟩
theorem MLen.both (h : MLen L n s) {p : Pth} (hp : p.length ≤ L) {b : FileD} (k : Int) {x y : FileD} (hb : b.d.length ≤ 100000) (hx : x.d.length ≤ 100000) (hy : y.d.length ≤ 100000) : MLen L (n + 1) (s.both p b k x y) := by
 unfold MSt.both
 simp only
 refine MLen.stay ?_ hp (data_bound k hb hx hy)
 have h1 : MLen L n (if (kindP b.k x.k y.k).2 = true then s else s.clash p 3) := by
  split
  · exact h
  · exact h.clash hp (by omega)
 split
 · exact ⟨h1.len, h1.p, h1.c, h1.d⟩
 · refine MLen.clash (w := 1) ?_ hp (by omega)
   exact ⟨h1.len, h1.p, h1.c, h1.d⟩
theorem MLen.alone (h : MLen L n s) {p : Pth} (hp : p.length ≤ L) (f : FileD) {x : FileD} (hx : x.d.length ≤ 100000) : MLen L (n + 1) (s.alone f p x) := by
 unfold MSt.alone
 split
 · exact h.more (by omega)
 · exact (h.stay hp (f := x) (by omega)).clash hp (by omega)
theorem MLen.file (h : MLen L n s) {o t : SideD} {f : FileD} (hf : f.p.length ≤ L) (ho : (o.goes f.p).1.length ≤ L) (ht : (t.goes f.p).1.length ≤ L) (df : f.d.length ≤ 100000) (do_ : ∀ p, (getF o.f p).d.length ≤ 100000) (dt : ∀ p, (getF t.f p).d.length ≤ 100000) : MLen L (n + 2) (s.file o t f) := by
 unfold MSt.file
 simp only
 split
 · exact (h.alone ho _ (do_ _)).more (by omega)
 · split
   · exact (h.alone ht _ (dt _)).more (by omega)
   · split
     · exact h.more (by omega)
     · split
       · exact ((h.stay ho (Nat.le_trans (do_ _) (by omega))).stay ht (Nat.le_trans (dt _) (by omega))).clash hf (by omega)
       · split
         · exact (h.both ho _ df (do_ _) (dt _)).more (by omega)
         · exact (h.both ht _ df (do_ _) (dt _)).more (by omega)
theorem MLen.fresh1 (h : MLen L n s) {p : Pth} (hp : p.length ≤ L) (base : List FileD) {o t : SideD} (do_ : ∀ p, (getF o.f p).d.length ≤ 100000) (dt : ∀ p, (getF t.f p).d.length ≤ 100000) : MLen L (n + 1) (MSt.fresh1 base o t s p) := by
 unfold MSt.fresh1
 split
 · exact h.both hp _ (by simp [zeroF]) (do_ _) (dt _)
 · exact h.stay hp (Nat.le_trans (do_ _) (by omega))
 · exact h.stay hp (Nat.le_trans (dt _) (by omega))
 · exact h.more (by omega)
end
theorem goes_len {base l : List FileD} {ps : List PairD} (h : PairsOf base l ps) {L : Nat} (hl : ∀ f ∈ l, f.p.length ≤ L) {p : Pth} (hp : p.length ≤ L) : (SideD.goes ⟨l, ps⟩ p).1.length ≤ L := by
 rcases goes_or l ps p with ⟨x, hx, _, e⟩ | ⟨_, e⟩
 · rw [e]
   obtain ⟨f, hf, e⟩ := hasF_iff.1 (h.new x hx).1
   simp only
   rw [← e]
   exact hl f hf
 · rw [e]; exact hp
theorem tree_paths {l : List FileD} (h : checkT l = 0) : ∀ f ∈ l, f.p.length ≤ 328 := fun f hf => path_small ((checkT_tree h).1.file f hf)
theorem tree_data {l : List FileD} (h : checkT l = 0) (p : Pth) : (getF l p).d.length ≤ 65536 := by
 cases q : hasF l p with
 | true => exact (fileE_kind ((checkT_tree h).1.file _ (getF_has q).1)).2.1
 | false => rw [getF_none q]; exact Nat.zero_le _
theorem side_goes {base l : List FileD} (hb : checkT base = 0) (hl : checkT l = 0) {p : Pth} (hp : p.length ≤ 328) : ((sideP base l).goes p).1.length ≤ 328 :=
 goes_len (detect_of (checkT_tree hb).1.apt (checkT_tree hl).1.apt (checkT_tree hb).1.kinds (checkT_tree hl).1.kinds) (tree_paths hl) hp
theorem base_mlen {base ours theirs : List FileD} (hb : checkT base = 0) (ho : checkT ours = 0) (ht : checkT theirs = 0) : ∀ k : Nat, k ≤ base.length → MLen 328 (2 * k) ((base.take k).foldl (MSt.file (sideP base ours) (sideP base theirs)) ⟨[], [], 0⟩)
 | 0, _ => MLen.nil_ _
 | k + 1, hk => by
  rw [List.take_add_one, List.getElem?_eq_getElem (by omega), Option.toList_some, List.foldl_append]
  have h2 := tree_paths hb (base[k]'(by omega)) (List.getElem_mem _)
  exact (base_mlen hb ho ht k (by omega)).file h2 (side_goes hb ho h2) (side_goes hb ht h2) (Nat.le_trans (fileE_kind ((checkT_tree hb).1.file _ (List.getElem_mem _))).2.1 (by omega)) (fun p => Nat.le_trans (tree_data ho p) (by omega)) (fun p => Nat.le_trans (tree_data ht p) (by omega))
theorem gather_mlen {base ours theirs : List FileD} (hb : checkT base = 0) (ho : checkT ours = 0) (ht : checkT theirs = 0) : MLen 328 4000 (gatherP base ours theirs) := by
 have h1 := base_mlen hb ho ht base.length (Nat.le_refl _)
 rw [List.take_length] at h1
 unfold gatherP
 simp only
 have key : ∀ (ks : List Pth) (n : Nat) (s : MSt), (∀ p ∈ ks, p.length ≤ 328) → MLen 328 n s → MLen 328 (n + ks.length) (ks.foldl (MSt.fresh1 base (sideP base ours) (sideP base theirs)) s) := by
  intro ks
  induction ks with
  | nil => exact fun n s _ h => h
  | cons p ks ih =>
   intro n s hp h
   rw [List.foldl_cons, List.length_cons]
   exact (ih _ _ (fun q hq => hp q (List.mem_cons_of_mem _ hq)) (h.fresh1 (hp p (List.mem_cons_self ..)) _ (fun p => Nat.le_trans (tree_data ho p) (by omega)) (fun p => Nat.le_trans (tree_data ht p) (by omega)))).more (by omega)
 have hk : ∀ p ∈ keysP (ours.map (·.p) ++ theirs.map (·.p)), p.length ≤ 328 := fun p hp => by
  rw [mem_keysP, List.mem_append, List.mem_map, List.mem_map] at hp
  rcases hp with ⟨f, hf, rfl⟩ | ⟨f, hf, rfl⟩
  · exact tree_paths ho f hf
  · exact tree_paths ht f hf
 have hl := keysP_len (ours.map (·.p) ++ theirs.map (·.p))
 rw [List.length_append, List.length_map, List.length_map] at hl
 have n1 := (checkT_tree hb).2.1
 have n2 := (checkT_tree ho).2.1
 have n3 := (checkT_tree ht).2.1
 exact (key _ _ _ hk h1).more (by omega)
theorem apart_step {l : List FileD} {c : List ClashD} {i n L : Nat} (h : ApI n L i l) (hi : i < n) : ApI n L (i + 1) (apartS (l, c) i).1 := by
 have hf : l[i]? = some (l[i]'(by rw [h.len]; exact hi)) := List.getElem?_eq_getElem _
 rw [apartS_some hf]
 split
 · exact h.moved hf false
 · rename_i q
   rw [Bool.not_eq_true] at q
   exact h.stay hf q
theorem apart_range {n L : Nat} : ∀ (i : Nat) (l : List FileD) (c : List ClashD), i ≤ n → ApI n L 0 l → ApI n L i ((List.range i).foldl apartS (l, c)).1
 | 0, _, _, _, h => h
 | i + 1, l, c, hi, h => by
  rw [range_fold]
  have := apart_range i l c (by omega) h
  exact apart_step (c := ((List.range i).foldl apartS (l, c)).2) this (by omega)
theorem move_apt {l : List FileD} {i : Nat} {f : FileD} (h : Apt l) (hf : l[i]? = some f) (b : Bool) : Apt (moveP l i (nextF l b f.p)) := by
 have hn : ∀ g ∈ l, g.p ≠ nextF l b f.p := nextF_not
 unfold Apt at h ⊢
 have e := split_at hf
 rw [moveP_split hf]
 rw [e] at h
 simp only [List.map_append, List.map_cons, List.map_nil] at h ⊢
 have hp : (l.take i).map (·.p) ++ ([nextF l b f.p] ++ (l.drop (i + 1)).map (·.p)) = (l.take i).map (·.p) ++ (nextF l b f.p :: (l.drop (i + 1)).map (·.p)) := rfl
 rw [hp]
 have h' : ((l.take i).map (·.p) ++ (f.p :: (l.drop (i + 1)).map (·.p))).Nodup := h
 rw [(List.perm_middle).nodup_iff, List.nodup_cons] at h' ⊢
 refine ⟨fun q => ?_, h'.2⟩
 rcases List.mem_append.1 q with q | q
 · obtain ⟨g, hg, e⟩ := List.mem_map.1 q
   exact hn g (List.mem_of_mem_take hg) e
 · obtain ⟨g, hg, e⟩ := List.mem_map.1 q
   exact hn g (List.mem_of_mem_drop hg) e
def ClLen (L : Nat) (c : List ClashD) : Prop := ∀ x ∈ c, x.p.length ≤ L ∧ x.why ≤ 6
theorem ClLen.more {L L' : Nat} {c : List ClashD} (h : ClLen L c) (hl : L ≤ L') : ClLen L' c := fun x hx => ⟨Nat.le_trans (h x hx).1 hl, (h x hx).2⟩
theorem ClLen.snoc {L : Nat} {c : List ClashD} (h : ClLen L c) {p : Pth} (hp : p.length ≤ L) {w : Nat} (hw : w ≤ 6) : ClLen L (c ++ [⟨p, w⟩]) := fun x hx => by
 rcases List.mem_append.1 hx with q | q
 · exact h x q
 · rw [List.mem_singleton.1 q]; exact ⟨hp, hw⟩
theorem apart_cl {n L : Nat} : ∀ (i : Nat) (l : List FileD) (c : List ClashD), i ≤ n → ApI n L 0 l → ClLen (L + n) c → ClLen (L + n) ((List.range i).foldl apartS (l, c)).2
 | 0, _, _, _, _, h => h
 | i + 1, l, c, hi, h, hc => by
  rw [range_fold]
  have h1 := apart_range i l c (by omega) h
  have h2 := apart_cl i l c (by omega) h hc
  generalize (List.range i).foldl apartS (l, c) = r at *
  obtain ⟨l', c'⟩ := r
  have hf : l'[i]? = some (l'[i]'(by rw [h1.len]; exact hi)) := List.getElem?_eq_getElem _
  rw [apartS_some hf]
  split
  · exact h2.snoc (by have := h1.long _ (List.mem_of_getElem? hf); omega) (by omega)
  · exact h2
structure AsI (n L : Nat) (l : List FileD) : Prop where
 len : l.length = n
 apt : Apt l
 long : ∀ f ∈ l, f.p.length ≤ L
theorem aside_step {l : List FileD} {c : List ClashD} {i n L : Nat} (h : AsI n L l) (hi : i < n) : AsI n (L + 1) (asideS (l, c) i).1 := by
 have hf : l[i]? = some (l[i]'(by rw [h.len]; exact hi)) := List.getElem?_eq_getElem _
 rw [asideS_some hf]
 split
 · refine ⟨by rw [moveP_len]; exact h.len, move_apt h.apt hf true, fun g hg => ?_⟩
   rcases moveP_mem hg with q | q
   · have := h.long g q; omega
   · rw [q]
     exact nextP_len h.long _ _ (h.long _ (List.mem_of_getElem? hf))
 · exact ⟨h.len, h.apt, fun f hf => by have := h.long f hf; omega⟩
theorem aside_range {n L : Nat} : ∀ (i : Nat) (l : List FileD) (c : List ClashD), i ≤ n → AsI n L l → AsI n (L + i) ((List.range i).foldl asideS (l, c)).1
 | 0, _, _, _, h => h
 | i + 1, l, c, hi, h => by
  rw [range_fold]
  have := aside_range i l c (by omega) h
  exact aside_step (c := ((List.range i).foldl asideS (l, c)).2) this (by omega)
theorem aside_cl {n L : Nat} : ∀ (i : Nat) (l : List FileD) (c : List ClashD), i ≤ n → AsI n L l → ClLen (L + n) c → ClLen (L + n) ((List.range i).foldl asideS (l, c)).2
 | 0, _, _, _, _, h => h
 | i + 1, l, c, hi, h, hc => by
  rw [range_fold]
  have h1 := aside_range i l c (by omega) h
  have h2 := aside_cl i l c (by omega) h hc
  generalize (List.range i).foldl asideS (l, c) = r at *
  obtain ⟨l', c'⟩ := r
  have hf : l'[i]? = some (l'[i]'(by rw [h1.len]; exact hi)) := List.getElem?_eq_getElem _
  rw [asideS_some hf]
  split
  · exact h2.snoc (by have := h1.long _ (List.mem_of_getElem? hf); omega) (by omega)
  · exact h2
theorem sortF_apt {l : List FileD} (h : Apt l) : Apt (sortF l) := by
 unfold Apt at h ⊢
 exact ((sortF_perm l).map (fun f : FileD => f.p)).nodup_iff.2 h
theorem places_asi {l : List FileD} {c : List ClashD} {L : Nat} (h : ∀ f ∈ l, f.p.length ≤ L) (hc : ClLen L c) : AsI l.length (L + l.length + l.length) (placesP l c).1 ∧ ClLen (L + l.length + l.length) (placesP l c).2 := by
 have h0 : ApI l.length L 0 l := ⟨rfl, by simp [Apt], fun f hf => by have := h f hf; omega⟩
 have h1 := apart_range l.length l c (Nat.le_refl _) h0
 have h2 : Apt ((List.range l.length).foldl apartS (l, c)).1 := by
  have := h1.apt
  rwa [List.take_of_length_le (by rw [h1.len]; exact Nat.le_refl _)] at this
 have h3 := apart_cl l.length l c (Nat.le_refl _) h0 (hc.more (by omega))
 unfold placesP
 have h4 : AsI l.length (L + l.length) (sortF ((List.range l.length).foldl apartS (l, c)).1) := ⟨by rw [sortF_len]; exact h1.len, sortF_apt h2, fun f hf => h1.long f ((sortF_perm _).mem_iff.1 hf)⟩
 exact ⟨aside_range l.length _ _ (Nat.le_refl _) h4, aside_cl l.length _ _ (Nat.le_refl _) h4 (h3.more (by omega))⟩
theorem places_keep {Q : List UInt8 → Prop} {l : List FileD} {c : List ClashD} (h : ∀ f ∈ l, Q f.d) : ∀ f ∈ (placesP l c).1, Q f.d := by
 have mv : ∀ (l : List FileD) (i : Nat) (p : Pth), (∀ f ∈ l, Q f.d) → ∀ f ∈ moveP l i p, Q f.d := fun l i p h f hf => by
  obtain ⟨j, hj⟩ := List.mem_iff_getElem?.1 hf
  unfold moveP at hj
  rw [List.getElem?_modify] at hj
  cases q : l[j]? with
  | none => rw [q] at hj; simp at hj
  | some x =>
   rw [q] at hj
   have hx := h x (List.mem_of_getElem? q)
   by_cases e : i = j
   · simp [e] at hj
     subst hj
     exact hx
   · simp [e] at hj
     subst hj
     exact hx
 have a1 : ∀ (ns : List Nat) (r : List FileD × List ClashD), (∀ f ∈ r.1, Q f.d) → ∀ f ∈ (ns.foldl apartS r).1, Q f.d := fun ns => by
  induction ns with
  | nil => exact fun r h => h
  | cons n ns ih =>
   intro r h
   refine ih _ ?_
   unfold apartS
   split
   · exact h
   · split
     · exact mv _ _ _ h
     · exact h
 have a2 : ∀ (ns : List Nat) (r : List FileD × List ClashD), (∀ f ∈ r.1, Q f.d) → ∀ f ∈ (ns.foldl asideS r).1, Q f.d := fun ns => by
  induction ns with
  | nil => exact fun r h => h
  | cons n ns ih =>
   intro r h
   refine ih _ ?_
   unfold asideS
   split
   · exact h
   · split
     · exact mv _ _ _ h
     · exact h
 unfold placesP
 exact a2 _ _ fun f hf => a1 _ _ h f ((sortF_perm _).mem_iff.1 hf)
end Go.Proofs.YteeeehfnldkjlaaGreatDoor
namespace Go.Proofs.YteeeehfnldkjlaaGreatDoor
theorem gather_len {base ours theirs : List FileD} (hb : checkT base = 0) (ho : checkT ours = 0) (ht : checkT theirs = 0) : MLen 328 (2 * base.length + (ours.length + theirs.length)) (gatherP base ours theirs) := by
 have h1 := base_mlen hb ho ht base.length (Nat.le_refl _)
 rw [List.take_length] at h1
 unfold gatherP
 simp only
 have key : ∀ (ks : List Pth) (n : Nat) (s : MSt), (∀ p ∈ ks, p.length ≤ 328) → MLen 328 n s → MLen 328 (n + ks.length) (ks.foldl (MSt.fresh1 base (sideP base ours) (sideP base theirs)) s) := by
  intro ks
  induction ks with
  | nil => exact fun n s _ h => h
  | cons p ks ih =>
   intro n s hp h
   rw [List.foldl_cons, List.length_cons]
   exact (ih _ _ (fun q hq => hp q (List.mem_cons_of_mem _ hq)) (h.fresh1 (hp p (List.mem_cons_self ..)) _ (fun p => Nat.le_trans (tree_data ho p) (by omega)) (fun p => Nat.le_trans (tree_data ht p) (by omega)))).more (by omega)
 have hk : ∀ p ∈ keysP (ours.map (·.p) ++ theirs.map (·.p)), p.length ≤ 328 := fun p hp => by
  rw [mem_keysP, List.mem_append, List.mem_map, List.mem_map] at hp
  rcases hp with ⟨f, hf, rfl⟩ | ⟨f, hf, rfl⟩
  · exact tree_paths ho f hf
  · exact tree_paths ht f hf
 have hl := keysP_len (ours.map (·.p) ++ theirs.map (·.p))
 rw [List.length_append, List.length_map, List.length_map] at hl
 exact (key _ _ _ hk h1).more (by omega)
theorem merge_size {base ours theirs x : List FileD} {v : List ClashD} (h : treemergeP base ours theirs = .ok (x, v)) : x.length ≤ 2 * base.length + (ours.length + theirs.length) := by
 unfold treemergeP at h
 split at h
 · cases h
 · rename_i hb
   split at h
   · cases h
   · rename_i ho
     split at h
     · cases h
     · rename_i ht
       simp only at h
       have hb := Decidable.not_not.1 hb
       have ho := Decidable.not_not.1 ho
       have ht := Decidable.not_not.1 ht
       have hg := gather_len hb ho ht
       split at h
       · cases h
       · split at h
         · cases h
         · injection h with h
           injection h with h1 h2
           have hp := (places_asi (l := (gatherP base ours theirs).t) (c := (gatherP base ours theirs).c) hg.p fun x hx => hg.c x hx).1.len
           rw [← h1, sortF_len, hp]
           exact hg.len
end Go.Proofs.YteeeehfnldkjlaaGreatDoor
