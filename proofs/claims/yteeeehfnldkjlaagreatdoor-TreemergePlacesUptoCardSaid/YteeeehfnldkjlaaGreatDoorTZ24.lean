/-
  Plain: how many things there are, and how long their paths. No statement of the seat is proved here.
  Joined of: Zt, Zu, Zx.
-/
import Derived.Test.YteeeehfnldkjlaaGreatDoorTZ08
import Derived.Test.YteeeehfnldkjlaaGreatDoorTZZi
import Derived.Test.YteeeehfnldkjlaaGreatDoorTZZk
import Derived.Test.YteeeehfnldkjlaaGreatDoorTZ23
import Derived.Test.YteeeehfnldkjlaaGreatDoorTZZq
import Derived.Test.YteeeehfnldkjlaaGreatDoorTZ15
namespace Go.Proofs.YteeeehfnldkjlaaGreatDoor

theorem nmFrom_sum : ∀ (b cur : Pth), cur.length + b.length ≤ ((nmFrom cur b).map (fun s => s.length + 1)).sum
  | [], cur => by simp [nmFrom]
  | x :: b, cur => by
    unfold nmFrom
    split
    · rw [List.map_cons, List.sum_cons, List.length_cons]
      have := nmFrom_sum b []
      simp only [List.length_nil] at this
      omega
    · have := nmFrom_sum b (cur ++ [x])
      rw [List.length_append, List.length_singleton] at this
      rw [List.length_cons]
      omega
theorem sum_names {l : List Pth} {L : Nat} (h : ∀ s ∈ l, s.length ≤ L) : (l.map (fun s => s.length + 1)).sum ≤ l.length * (L + 1) := by
  induction l with
  | nil => simp
  | cons x l ih =>
    rw [List.map_cons, List.sum_cons, List.length_cons, Nat.add_mul]
    have h1 := h x (List.mem_cons_self ..)
    have h2 := ih fun f hf => h f (List.mem_cons_of_mem _ hf)
    omega
/-- Where each name has at most L bytes, a path has at most 8 * (L + 1). -/
theorem path_len {f : FileD} {L : Nat} (h : fileE f = 0) (hL : ∀ s, nameOk s = true → s.length ≤ L) : f.p.length ≤ 8 * (L + 1) := by
  obtain ⟨_, _, h3, h4⟩ := fileE_kind h
  have h5 := nmFrom_sum f.p []
  have h6 := sum_names (l := nmP f.p) (L := L) fun s hs => hL s (h4 s hs)
  have h7 := Nat.mul_le_mul_right (L + 1) h3
  unfold nmP at h6 h7
  simp only [List.length_nil, Nat.zero_add] at h5
  omega
theorem nameOk_len {s : Pth} (h : nameOk s = true) : s.length ≤ 40 := by
  unfold nameOk at h
  simp only [Bool.and_eq_true, decide_eq_true_eq] at h
  exact h.2.1
theorem path_small {f : FileD} (h : fileE f = 0) : f.p.length ≤ 328 := path_len h fun _ hs => nameOk_len hs
theorem checkT_fits {l : List FileD} (h : checkT l = 0) : Fits l := by
  obtain ⟨h1, h2, _⟩ := checkT_tree h
  refine ⟨by omega, fun f hf => ?_⟩
  have h3 := path_small (h1.file f hf)
  have h4 := (fileE_kind (h1.file f hf)).2.1
  exact ⟨by omega, by omega⟩
/-- Checked trees are such as sides are made of. -/
theorem sidesIn_of {base l : List FileD} (hb : checkT base = 0) (hl : checkT l = 0) : SidesIn base l where
  nb := (checkT_tree hb).2.1
  nl := (checkT_tree hl).2.1
  ab := (checkT_tree hb).1.apt
  al := (checkT_tree hl).1.apt
  fb := checkT_fits hb
  fl := checkT_fits hl
  kb := (checkT_tree hb).1.kinds
  kl := (checkT_tree hl).1.kinds
end Go.Proofs.YteeeehfnldkjlaaGreatDoor
namespace Go.Proofs.YteeeehfnldkjlaaGreatDoor
open Go.RowKit Go.Maps

theorem FMap.more {w : World} {z z' : Nat} {l : List FileD} {f : Mp} (h : FMap w z l f) (hz : z ≤ z') : FMap w z' l f :=
  ⟨h.1, fun s v e => by
    obtain ⟨D, d, h1, h2⟩ := h.2 s v e
    exact ⟨D, d, h1, h2.more hz⟩⟩
theorem SideM.toX {w : World} {B z mb cb q : Nat} {s : SideD} {b1 b2 b3 n1 n2 n3 : Nat} {f1 f2 f3 : Mp} (h : SideM w B q s b1 b2 b3 n1 n2 n3 f1 f2 f3) (hz : B ≤ z) (hm : w.heap.size ≤ mb) (hc : w.heap.size ≤ cb) : SideX w z mb cb q s := by
  have key : ∀ i, i < w.heap.size → i ∉ [mb, cb] := fun i hi => by simp only [List.mem_cons, List.not_mem_nil, or_false]; omega
  exact ⟨b1, b2, b3, n1, n2, n3, f1, f2, f3, ⟨h.blk, h.m1, h.m2, h.m3, h.p1.more hz, h.p2, h.p3, h.sz⟩, key _ h.blk.lt, key _ h.m1.lt, key _ h.m2.lt, key _ h.m3.lt⟩
/-! ### A thing's bytes turned in place -/
def ftData (ds : List FT) (i : Nat) (A : Option Addr) (c : Nat) : List FT := ds.modify i fun x => (x.1, (A, c))
theorem ftData_fst (ds : List FT) (i : Nat) (A : Option Addr) (c : Nat) : (ftData ds i A c).map (·.1) = ds.map (·.1) := by
  unfold ftData
  apply List.ext_getElem?
  intro j
  rw [List.getElem?_map, List.getElem?_modify, List.getElem?_map]
  cases ds[j]? with
  | none => simp
  | some x => by_cases e : i = j <;> simp [e]
theorem ftData_cells {ds : List FT} {i : Nat} {x : FT} (h : ds[i]? = some x) (A : Option Addr) (c : Nat) : (ds.flatMap ftL).set (i * 3 + 2) (.slice A x.1.d.length c) = (ftData ds i A c).flatMap ftL := by
  obtain ⟨hi, hx⟩ := List.getElem?_eq_some_iff.1 h
  have e1 : ds = ds.take i ++ (x :: ds.drop (i + 1)) := by rw [← hx, List.getElem_cons_drop, List.take_append_drop]
  have e2 : ftData ds i A c = ds.take i ++ ((x.1, (A, c)) :: ds.drop (i + 1)) := by
    unfold ftData
    rw [List.modify_eq_take_cons_drop hi, hx]
  have l1 : ((ds.take i).flatMap ftL).length = i * 3 := by rw [ftL_len, List.length_take, Nat.min_eq_left (by omega)]
  rw [e2]
  conv => lhs; rw [e1]
  rw [List.flatMap_append, List.flatMap_append, List.flatMap_cons, List.flatMap_cons, List.set_append_right _ _ (by omega), l1, Nat.add_sub_cancel_left]
  rfl
theorem MGA.data {w : World} {z mb so st cb N g i : Nat} {s : MSt} {f : FileD} {A : Option Addr} {c : Nat} (h : MGA w z mb so st cb N (some ⟨g, 0, none⟩) s) (hf : s.t[i]? = some f) (hd : DataK w z (f, (A, c))) :
    ∃ v, w.cell? ⟨g, i * 3 + 2, none⟩ = some v ∧ w.frozen? ⟨g, i * 3 + 2, none⟩ = false ∧ MGA (w.setCell ⟨g, i * 3 + 2, none⟩ (.slice A f.d.length c)) z mb so st cb N (some ⟨g, 0, none⟩) s ∧ Frm z mb cb w (w.setCell ⟨g, i * 3 + 2, none⟩ (.slice A f.d.length c)) := by
  obtain ⟨c1, n, f9, h1, h2⟩ := h
  obtain ⟨ds, h3, h4, h5⟩ := h2.things
  rw [← h3, List.getElem?_map, Option.map_eq_some_iff] at hf
  obtain ⟨x, hx, rfl⟩ := hf
  have hi : i < ds.length := (List.getElem?_eq_some_iff.1 hx).1
  have hl : ds.length = s.t.length := by rw [← h3, List.length_map]
  have ht := Own.turn h4 (i * 3 + 2) (.slice A x.1.d.length c) (ftData_cells hx A c)
  have hc := ftL_at hx 2 (.slice x.2.1 x.1.d.length x.2.2) rfl
  have hk : Kept z [41] [] w (w.setCell ⟨g, i * 3 + 2, none⟩ (.slice A x.1.d.length c)) := ht.2
  have hF : Frm z mb cb w (w.setCell ⟨g, i * 3 + 2, none⟩ (.slice A x.1.d.length c)) := Kept.mono hk (Nat.le_refl _) (by simp) (by simp)
  refine ⟨_, (World.ownsRow.cellAt h4 (i * 3 + 2) (by omega)).trans hc, World.ownsRow.frozenAt h4 (i * 3 + 2), ⟨c1, n, f9, h1, ⟨hk.blk h2.blk (by simp) (by decide), Nat.le_trans h2.zs hk.size, h2.zm, h2.zc, ⟨ftData ds i A c, by rw [ftData_fst, h3], ht.1, fun y hy => ?_⟩, h2.map.keep hk fun t => ?_, h2.cl⟩⟩, hF⟩
  · obtain ⟨j, hj⟩ := List.mem_iff_getElem?.1 hy
    unfold ftData at hj
    rw [List.getElem?_modify] at hj
    cases q : ds[j]? with
    | none => rw [q] at hj; simp at hj
    | some v =>
      rw [q] at hj
      by_cases e : i = j
      · subst e
        rw [hx] at q
        injection q with q
        subst q
        simp at hj
        subst hj
        exact hd.mg h2 hF
      · simp [e] at hj
        subst hj
        exact (h5 v (List.mem_of_getElem? q)).mg h2 hF
  · rcases t with t | ⟨_, e, _, cs, fz, hcc⟩
    · cases t
    · obtain ⟨D, ⟨es, clock, q1, _⟩, _⟩ := h2.map
      rw [q1] at hcc
      cases hcc
end Go.Proofs.YteeeehfnldkjlaaGreatDoor
namespace Go.Proofs.YteeeehfnldkjlaaGreatDoor

structure MLen (L n : Nat) (s : MSt) : Prop where
  len : s.t.length ≤ n
  p : ∀ f ∈ s.t, f.p.length ≤ L
  c : ∀ x ∈ s.c, x.p.length ≤ L ∧ x.why ≤ 6
  d : ∀ f ∈ s.t, f.d.length ≤ 1000000
theorem merge3_bound {b o t x : List UInt8} {cl : Bool} (hb : b.length ≤ 100000) (ho : o.length ≤ 100000) (ht : t.length ≤ 100000) (h : merge3P b o t = some (x, cl)) : x.length ≤ 1000000 := by
  unfold merge3P at h
  split at h
  · rename_i hl
    injection h with h
    injection h with h _
    have h1 := renderP_bound (chunksP (splitL b) (splitL o) (splitL t))
    obtain ⟨r1, r2, r3, r4⟩ := chunksP_rows hl.1 hl.2.1 hl.2.2
    rw [r1, r2, r3, h] at h1
    unfold joinP at h1
    rw [splitL_flat, splitL_flat, splitL_flat] at h1
    omega
  · cases h
theorem data_bound {base x y : FileD} (k : Int) (hb : base.d.length ≤ 100000) (hx : x.d.length ≤ 100000) (hy : y.d.length ≤ 100000) : (dataP base k x y).1.length ≤ 1000000 := by
  unfold dataP
  split
  · simp only; omega
  · split
    · simp only; omega
    · split
      · cases h : merge3P base.d x.d y.d with
        | none => exact Nat.zero_le _
        | some r =>
          obtain ⟨d, cl⟩ := r
          exact merge3_bound hb hx hy h
      · simp only; omega
section
variable {L n : Nat} {s : MSt}
theorem MLen.nil_ (L : Nat) : MLen L 0 ⟨[], [], 0⟩ := ⟨Nat.le_refl _, fun _ h => (by cases h), fun _ h => (by cases h), fun _ h => (by cases h)⟩
theorem MLen.stay (h : MLen L n s) {p : Pth} (hp : p.length ≤ L) {f : FileD} (hd : f.d.length ≤ 1000000) : MLen L (n + 1) (s.stay p f) := ⟨by rw [stay_len]; have := h.len; omega, fun g hg => by
  rcases List.mem_append.1 hg with q | q
  · exact h.p g q
  · rw [List.mem_singleton.1 q]; exact hp, h.c, fun g hg => by
  rcases List.mem_append.1 hg with q | q
  · exact h.d g q
  · rw [List.mem_singleton.1 q]; exact hd⟩
theorem MLen.clash (h : MLen L n s) {p : Pth} (hp : p.length ≤ L) {w : Nat} (hw : w ≤ 6) : MLen L n (s.clash p w) := ⟨h.len, h.p, fun x hx => by
  rcases List.mem_append.1 hx with q | q
  · exact h.c x q
  · rw [List.mem_singleton.1 q]; exact ⟨hp, hw⟩, h.d⟩
theorem MLen.more {n' : Nat} (h : MLen L n s) (hn : n ≤ n') : MLen L n' s := ⟨Nat.le_trans h.len hn, h.p, h.c, h.d⟩
theorem MLen.both (h : MLen L n s) {p : Pth} (hp : p.length ≤ L) {b : FileD} (k : Int) {x y : FileD} (hb : b.d.length ≤ 100000) (hx : x.d.length ≤ 100000) (hy : y.d.length ≤ 100000) : MLen L (n + 1) (s.both p b k x y) := by
  unfold MSt.both
  simp only
  refine MLen.stay ?_ hp (data_bound k hb hx hy)
  have h1 : MLen L n (if (kindP b.k x.k y.k).2 = true then s else s.clash p 3) := by
    split
    · exact h
    · exact h.clash hp (by omega)
  split
  · exact ⟨h1.len, h1.p, h1.c, h1.d⟩
  · refine MLen.clash (w := 1) ?_ hp (by omega)
    exact ⟨h1.len, h1.p, h1.c, h1.d⟩
theorem MLen.alone (h : MLen L n s) {p : Pth} (hp : p.length ≤ L) (f : FileD) {x : FileD} (hx : x.d.length ≤ 100000) : MLen L (n + 1) (s.alone f p x) := by
  unfold MSt.alone
  split
  · exact h.more (by omega)
  · exact (h.stay hp (f := x) (by omega)).clash hp (by omega)
theorem MLen.file (h : MLen L n s) {o t : SideD} {f : FileD} (hf : f.p.length ≤ L) (ho : (o.goes f.p).1.length ≤ L) (ht : (t.goes f.p).1.length ≤ L) (df : f.d.length ≤ 100000) (do_ : ∀ p, (getF o.f p).d.length ≤ 100000) (dt : ∀ p, (getF t.f p).d.length ≤ 100000) : MLen L (n + 2) (s.file o t f) := by
  unfold MSt.file
  simp only
  split
  · exact (h.alone ho _ (do_ _)).more (by omega)
  · split
    · exact (h.alone ht _ (dt _)).more (by omega)
    · split
      · exact h.more (by omega)
      · split
        · exact ((h.stay ho (Nat.le_trans (do_ _) (by omega))).stay ht (Nat.le_trans (dt _) (by omega))).clash hf (by omega)
        · split
          · exact (h.both ho _ df (do_ _) (dt _)).more (by omega)
          · exact (h.both ht _ df (do_ _) (dt _)).more (by omega)
theorem MLen.fresh1 (h : MLen L n s) {p : Pth} (hp : p.length ≤ L) (base : List FileD) {o t : SideD} (do_ : ∀ p, (getF o.f p).d.length ≤ 100000) (dt : ∀ p, (getF t.f p).d.length ≤ 100000) : MLen L (n + 1) (MSt.fresh1 base o t s p) := by
  unfold MSt.fresh1
  split
  · exact h.both hp _ (by simp [zeroF]) (do_ _) (dt _)
  · exact h.stay hp (Nat.le_trans (do_ _) (by omega))
  · exact h.stay hp (Nat.le_trans (dt _) (by omega))
  · exact h.more (by omega)
end
theorem goes_len {base l : List FileD} {ps : List PairD} (h : PairsOf base l ps) {L : Nat} (hl : ∀ f ∈ l, f.p.length ≤ L) {p : Pth} (hp : p.length ≤ L) : (SideD.goes ⟨l, ps⟩ p).1.length ≤ L := by
  rcases goes_or l ps p with ⟨x, hx, _, e⟩ | ⟨_, e⟩
  · rw [e]
    obtain ⟨f, hf, e⟩ := hasF_iff.1 (h.new x hx).1
    simp only
    rw [← e]
    exact hl f hf
  · rw [e]; exact hp
theorem tree_paths {l : List FileD} (h : checkT l = 0) : ∀ f ∈ l, f.p.length ≤ 328 := fun f hf => path_small ((checkT_tree h).1.file f hf)
theorem tree_data {l : List FileD} (h : checkT l = 0) (p : Pth) : (getF l p).d.length ≤ 65536 := by
  cases q : hasF l p with
  | true => exact (fileE_kind ((checkT_tree h).1.file _ (getF_has q).1)).2.1
  | false => rw [getF_none q]; exact Nat.zero_le _
theorem side_goes {base l : List FileD} (hb : checkT base = 0) (hl : checkT l = 0) {p : Pth} (hp : p.length ≤ 328) : ((sideP base l).goes p).1.length ≤ 328 :=
  goes_len (detect_of (checkT_tree hb).1.apt (checkT_tree hl).1.apt (checkT_tree hb).1.kinds (checkT_tree hl).1.kinds) (tree_paths hl) hp
/-- Behind k files of base. -/
theorem base_mlen {base ours theirs : List FileD} (hb : checkT base = 0) (ho : checkT ours = 0) (ht : checkT theirs = 0) : ∀ k : Nat, k ≤ base.length → MLen 328 (2 * k) ((base.take k).foldl (MSt.file (sideP base ours) (sideP base theirs)) ⟨[], [], 0⟩)
  | 0, _ => MLen.nil_ _
  | k + 1, hk => by
    rw [List.take_add_one, List.getElem?_eq_getElem (by omega), Option.toList_some, List.foldl_append]
    have h2 := tree_paths hb (base[k]'(by omega)) (List.getElem_mem _)
    exact (base_mlen hb ho ht k (by omega)).file h2 (side_goes hb ho h2) (side_goes hb ht h2) (Nat.le_trans (fileE_kind ((checkT_tree hb).1.file _ (List.getElem_mem _))).2.1 (by omega)) (fun p => Nat.le_trans (tree_data ho p) (by omega)) (fun p => Nat.le_trans (tree_data ht p) (by omega))
theorem keysP_len' (l : List Pth) : (keysP l).length ≤ l.length := keysP_len l
theorem gather_mlen {base ours theirs : List FileD} (hb : checkT base = 0) (ho : checkT ours = 0) (ht : checkT theirs = 0) : MLen 328 4000 (gatherP base ours theirs) := by
  have h1 := base_mlen hb ho ht base.length (Nat.le_refl _)
  rw [List.take_length] at h1
  unfold gatherP
  simp only
  have key : ∀ (ks : List Pth) (n : Nat) (s : MSt), (∀ p ∈ ks, p.length ≤ 328) → MLen 328 n s → MLen 328 (n + ks.length) (ks.foldl (MSt.fresh1 base (sideP base ours) (sideP base theirs)) s) := by
    intro ks
    induction ks with
    | nil => exact fun n s _ h => h
    | cons p ks ih =>
      intro n s hp h
      rw [List.foldl_cons, List.length_cons]
      exact (ih _ _ (fun q hq => hp q (List.mem_cons_of_mem _ hq)) (h.fresh1 (hp p (List.mem_cons_self ..)) _ (fun p => Nat.le_trans (tree_data ho p) (by omega)) (fun p => Nat.le_trans (tree_data ht p) (by omega)))).more (by omega)
  have hk : ∀ p ∈ keysP (ours.map (·.p) ++ theirs.map (·.p)), p.length ≤ 328 := fun p hp => by
    rw [mem_keysP, List.mem_append, List.mem_map, List.mem_map] at hp
    rcases hp with ⟨f, hf, rfl⟩ | ⟨f, hf, rfl⟩
    · exact tree_paths ho f hf
    · exact tree_paths ht f hf
  have hl := keysP_len (ours.map (·.p) ++ theirs.map (·.p))
  rw [List.length_append, List.length_map, List.length_map] at hl
  have n1 := (checkT_tree hb).2.1
  have n2 := (checkT_tree ho).2.1
  have n3 := (checkT_tree ht).2.1
  exact (key _ _ _ hk h1).more (by omega)
/-! ### Behind places -/
theorem apart_step {l : List FileD} {c : List ClashD} {i n L : Nat} (h : ApI n L i l) (hi : i < n) : ApI n L (i + 1) (apartS (l, c) i).1 := by
  have hf : l[i]? = some (l[i]'(by rw [h.len]; exact hi)) := List.getElem?_eq_getElem _
  rw [apartS_some hf]
  split
  · exact h.moved hf false
  · rename_i q
    rw [Bool.not_eq_true] at q
    exact h.stay hf q
theorem apart_range {n L : Nat} : ∀ (i : Nat) (l : List FileD) (c : List ClashD), i ≤ n → ApI n L 0 l → ApI n L i ((List.range i).foldl apartS (l, c)).1
  | 0, _, _, _, h => h
  | i + 1, l, c, hi, h => by
    rw [range_fold]
    have := apart_range i l c (by omega) h
    exact apart_step (c := ((List.range i).foldl apartS (l, c)).2) this (by omega)
theorem move_apt {l : List FileD} {i : Nat} {f : FileD} (h : Apt l) (hf : l[i]? = some f) (b : Bool) : Apt (moveP l i (nextF l b f.p)) := by
  have hn : ∀ g ∈ l, g.p ≠ nextF l b f.p := nextF_not
  unfold Apt at h ⊢
  have e := split_at hf
  rw [moveP_split hf]
  rw [e] at h
  simp only [List.map_append, List.map_cons, List.map_nil] at h ⊢
  have hp : (l.take i).map (·.p) ++ ([nextF l b f.p] ++ (l.drop (i + 1)).map (·.p)) = (l.take i).map (·.p) ++ (nextF l b f.p :: (l.drop (i + 1)).map (·.p)) := rfl
  rw [hp]
  have h' : ((l.take i).map (·.p) ++ (f.p :: (l.drop (i + 1)).map (·.p))).Nodup := h
  rw [(List.perm_middle).nodup_iff, List.nodup_cons] at h' ⊢
  refine ⟨fun q => ?_, h'.2⟩
  rcases List.mem_append.1 q with q | q
  · obtain ⟨g, hg, e⟩ := List.mem_map.1 q
    exact hn g (List.mem_of_mem_take hg) e
  · obtain ⟨g, hg, e⟩ := List.mem_map.1 q
    exact hn g (List.mem_of_mem_drop hg) e
/-- What clashes of places keep. -/
def ClLen (L : Nat) (c : List ClashD) : Prop := ∀ x ∈ c, x.p.length ≤ L ∧ x.why ≤ 6
theorem ClLen.more {L L' : Nat} {c : List ClashD} (h : ClLen L c) (hl : L ≤ L') : ClLen L' c := fun x hx => ⟨Nat.le_trans (h x hx).1 hl, (h x hx).2⟩
theorem ClLen.snoc {L : Nat} {c : List ClashD} (h : ClLen L c) {p : Pth} (hp : p.length ≤ L) {w : Nat} (hw : w ≤ 6) : ClLen L (c ++ [⟨p, w⟩]) := fun x hx => by
  rcases List.mem_append.1 hx with q | q
  · exact h x q
  · rw [List.mem_singleton.1 q]; exact ⟨hp, hw⟩
theorem apart_cl {n L : Nat} : ∀ (i : Nat) (l : List FileD) (c : List ClashD), i ≤ n → ApI n L 0 l → ClLen (L + n) c → ClLen (L + n) ((List.range i).foldl apartS (l, c)).2
  | 0, _, _, _, _, h => h
  | i + 1, l, c, hi, h, hc => by
    rw [range_fold]
    have h1 := apart_range i l c (by omega) h
    have h2 := apart_cl i l c (by omega) h hc
    generalize (List.range i).foldl apartS (l, c) = r at *
    obtain ⟨l', c'⟩ := r
    have hf : l'[i]? = some (l'[i]'(by rw [h1.len]; exact hi)) := List.getElem?_eq_getElem _
    rw [apartS_some hf]
    split
    · exact h2.snoc (by have := h1.long _ (List.mem_of_getElem? hf); omega) (by omega)
    · exact h2
structure AsI (n L : Nat) (l : List FileD) : Prop where
  len : l.length = n
  apt : Apt l
  long : ∀ f ∈ l, f.p.length ≤ L
theorem aside_step {l : List FileD} {c : List ClashD} {i n L : Nat} (h : AsI n L l) (hi : i < n) : AsI n (L + 1) (asideS (l, c) i).1 := by
  have hf : l[i]? = some (l[i]'(by rw [h.len]; exact hi)) := List.getElem?_eq_getElem _
  rw [asideS_some hf]
  split
  · refine ⟨by rw [moveP_len]; exact h.len, move_apt h.apt hf true, fun g hg => ?_⟩
    rcases moveP_mem hg with q | q
    · have := h.long g q; omega
    · rw [q]
      exact nextP_len h.long _ _ (h.long _ (List.mem_of_getElem? hf))
  · exact ⟨h.len, h.apt, fun f hf => by have := h.long f hf; omega⟩
theorem aside_range {n L : Nat} : ∀ (i : Nat) (l : List FileD) (c : List ClashD), i ≤ n → AsI n L l → AsI n (L + i) ((List.range i).foldl asideS (l, c)).1
  | 0, _, _, _, h => h
  | i + 1, l, c, hi, h => by
    rw [range_fold]
    have := aside_range i l c (by omega) h
    exact aside_step (c := ((List.range i).foldl asideS (l, c)).2) this (by omega)
theorem aside_cl {n L : Nat} : ∀ (i : Nat) (l : List FileD) (c : List ClashD), i ≤ n → AsI n L l → ClLen (L + n) c → ClLen (L + n) ((List.range i).foldl asideS (l, c)).2
  | 0, _, _, _, _, h => h
  | i + 1, l, c, hi, h, hc => by
    rw [range_fold]
    have h1 := aside_range i l c (by omega) h
    have h2 := aside_cl i l c (by omega) h hc
    generalize (List.range i).foldl asideS (l, c) = r at *
    obtain ⟨l', c'⟩ := r
    have hf : l'[i]? = some (l'[i]'(by rw [h1.len]; exact hi)) := List.getElem?_eq_getElem _
    rw [asideS_some hf]
    split
    · exact h2.snoc (by have := h1.long _ (List.mem_of_getElem? hf); omega) (by omega)
    · exact h2
theorem sortF_apt {l : List FileD} (h : Apt l) : Apt (sortF l) := by
  unfold Apt at h ⊢
  exact ((sortF_perm l).map (fun f : FileD => f.p)).nodup_iff.2 h
theorem places_asi {l : List FileD} {c : List ClashD} {L : Nat} (h : ∀ f ∈ l, f.p.length ≤ L) (hc : ClLen L c) : AsI l.length (L + l.length + l.length) (placesP l c).1 ∧ ClLen (L + l.length + l.length) (placesP l c).2 := by
  have h0 : ApI l.length L 0 l := ⟨rfl, by simp [Apt], fun f hf => by have := h f hf; omega⟩
  have h1 := apart_range l.length l c (Nat.le_refl _) h0
  have h2 : Apt ((List.range l.length).foldl apartS (l, c)).1 := by
    have := h1.apt
    rwa [List.take_of_length_le (by rw [h1.len]; exact Nat.le_refl _)] at this
  have h3 := apart_cl l.length l c (Nat.le_refl _) h0 (hc.more (by omega))
  unfold placesP
  have h4 : AsI l.length (L + l.length) (sortF ((List.range l.length).foldl apartS (l, c)).1) := ⟨by rw [sortF_len]; exact h1.len, sortF_apt h2, fun f hf => h1.long f ((sortF_perm _).mem_iff.1 hf)⟩
  exact ⟨aside_range l.length _ _ (Nat.le_refl _) h4, aside_cl l.length _ _ (Nat.le_refl _) h4 (h3.more (by omega))⟩
/-- Places leave the bytes as they are. -/
theorem places_keep {Q : List UInt8 → Prop} {l : List FileD} {c : List ClashD} (h : ∀ f ∈ l, Q f.d) : ∀ f ∈ (placesP l c).1, Q f.d := by
  have mv : ∀ (l : List FileD) (i : Nat) (p : Pth), (∀ f ∈ l, Q f.d) → ∀ f ∈ moveP l i p, Q f.d := fun l i p h f hf => by
    obtain ⟨j, hj⟩ := List.mem_iff_getElem?.1 hf
    unfold moveP at hj
    rw [List.getElem?_modify] at hj
    cases q : l[j]? with
    | none => rw [q] at hj; simp at hj
    | some x =>
      rw [q] at hj
      have hx := h x (List.mem_of_getElem? q)
      by_cases e : i = j
      · simp [e] at hj
        subst hj
        exact hx
      · simp [e] at hj
        subst hj
        exact hx
  have a1 : ∀ (ns : List Nat) (r : List FileD × List ClashD), (∀ f ∈ r.1, Q f.d) → ∀ f ∈ (ns.foldl apartS r).1, Q f.d := fun ns => by
    induction ns with
    | nil => exact fun r h => h
    | cons n ns ih =>
      intro r h
      refine ih _ ?_
      unfold apartS
      split
      · exact h
      · split
        · exact mv _ _ _ h
        · exact h
  have a2 : ∀ (ns : List Nat) (r : List FileD × List ClashD), (∀ f ∈ r.1, Q f.d) → ∀ f ∈ (ns.foldl asideS r).1, Q f.d := fun ns => by
    induction ns with
    | nil => exact fun r h => h
    | cons n ns ih =>
      intro r h
      refine ih _ ?_
      unfold asideS
      split
      · exact h
      · split
        · exact mv _ _ _ h
        · exact h
  unfold placesP
  exact a2 _ _ fun f hf => a1 _ _ h f ((sortF_perm _).mem_iff.1 hf)
end Go.Proofs.YteeeehfnldkjlaaGreatDoor
