/-
  What (objects).lay has in hand between its steps. No statement of the seat is proved here.
-/
import Derived.Test.YtbaapjlmpmpocaaGreatDoorDd
import Derived.Test.YtbaapjlmpmpocaaGreatDoorDe
import Derived.Test.YtbaapjlmpmpocaaGreatDoorDf
import Derived.Test.YtbaapjlmpmpocaaGreatDoorDT08
import Derived.Test.YtbaapjlmpmpocaaGreatDoorDTYo
namespace Go.Proofs.YtbaapjlmpmpocaaGreatDoor
open Go.RowKit Go.Maps

/-! ### Plain -/
def blobI (d : List UInt8) : Id := (idObj 1 d).1
def treeI (es : List EntC9) : Id := (idObj 2 (encTree es).1).1
def entF (f : FileD) : EntC9 := ⟨⟨f.p.toArray⟩, f.k, blobI f.d⟩
def flatE (l : List FileD) : List EntC9 := (flatP l).map entF
def blobG (g : Gm) (l : List FileD) : Gm := (flatP l).foldl (fun g f => gput g (blobI f.d) 1) g
theorem flatP_snoc (l : List FileD) (f : FileD) : flatP (l ++ [f]) = flatP l ++ if (cutP f.p).2.2 = true then [] else [f] := by
  unfold flatP
  rw [List.filter_append]
  congr 1
  cases h : (cutP f.p).2.2 <;> simp [h]
theorem flatP_len (l : List FileD) : (flatP l).length ≤ l.length := List.length_filter_le _ _
theorem flatE_len (l : List FileD) : (flatE l).length = (flatP l).length := List.length_map ..
theorem flatE_deep {l : List FileD} {f : FileD} (h : (cutP f.p).2.2 = true) : flatE (l ++ [f]) = flatE l := by
  unfold flatE
  rw [flatP_snoc, if_pos h, List.append_nil]
theorem flatE_flat {l : List FileD} {f : FileD} (h : (cutP f.p).2.2 = false) : flatE (l ++ [f]) = flatE l ++ [entF f] := by
  unfold flatE
  rw [flatP_snoc, if_neg (by rw [h]; decide), List.map_append]
  rfl
theorem blobG_deep {g : Gm} {l : List FileD} {f : FileD} (h : (cutP f.p).2.2 = true) : blobG g (l ++ [f]) = blobG g l := by
  unfold blobG
  rw [flatP_snoc, if_pos h, List.append_nil]
theorem blobG_flat {g : Gm} {l : List FileD} {f : FileD} (h : (cutP f.p).2.2 = false) : blobG g (l ++ [f]) = gput (blobG g l) (blobI f.d) 1 := by
  unfold blobG
  rw [flatP_snoc, if_neg (by rw [h]; decide), List.foldl_append]
  rfl
/-- What one file makes. -/
inductive LayR : Gm → FileD → Gm → Id → Prop
  | flat (g : Gm) (f : FileD) (h : (cutP f.p).2.2 = false) : LayR g f (gput (gput g (blobI f.d) 1) (treeI [entF f]) 2) (treeI [entF f])
  | deep (g g1 : Gm) (f : FileD) (i : Id) (h : (cutP f.p).2.2 = true) (r : LayR g ⟨(cutP f.p).2.1, f.k, f.d⟩ g1 i) : LayR g f (gput g1 (treeI [⟨⟨(cutP f.p).1.toArray⟩, 4, i⟩]) 2) (treeI [⟨⟨(cutP f.p).1.toArray⟩, 4, i⟩])

theorem encGo_len9 : ∀ (l : List EntC9) (e : Int) (was : ByteArray) (first : Bool) (bs : List UInt8), (encGo e was first bs l).1.length ≤ bs.length + l.length * 74
  | [], _, _, _, bs => by simp [encGo]
  | x :: l, e, was, first, bs => by
    rw [encGo]
    split
    · rename_i h
      have h1 := (entE_zero h).2.2.1
      simp only [nameOk, Bool.and_eq_true, decide_eq_true_eq] at h1
      have h2 := h1.2.1
      have h3 : x.name.size ≤ 40 := by rw [show x.name.size = x.name.data.toList.length from Array.length_toList.symm]; exact h2
      have h4 : (entB x).length = 34 + x.name.size := by simp only [entB, List.length_append, be_len, x.id.2, show x.name.data.toList.length = x.name.size from Array.length_toList]; omega
      have h5 := encGo_len9 l 0 x.name false (bs ++ entB x)
      rw [List.length_append] at h5
      rw [List.length_cons]
      omega
    · rw [List.length_cons]
      show bs.length ≤ _
      omega
theorem encTree_le9 (l : List EntC9) : (encTree l).1.length ≤ l.length * 74 := by
  have h := encGo_len9 l (note 0 (decide ((l.length : Int) ≤ 512)) 4) ByteArray.empty true []
  rw [encTree]
  simp only [doneL]
  split
  · simpa using h
  · simp
theorem encTree_many9 {l : List EntC9} (h : 512 < l.length) : encTree l = ([], 4) := by
  have h1 : note 0 (decide ((l.length : Int) ≤ 512)) 4 = 4 := by rw [decide_eq_false (by omega)]; rfl
  unfold encTree
  rw [h1]
  cases l with
  | nil => simp at h
  | cons x l =>
    have he : entE 4 x ByteArray.empty true = 4 := by
      have hn : ∀ b e, note 4 b e = 4 := fun b e => by unfold note; rw [if_neg (by decide)]
      unfold entE
      rw [hn, hn, hn, hn]
    simp only [encGo, he]
    rfl
theorem encTree_le' (l : List EntC9) : (encTree l).1.length ≤ 50000 := by
  rcases Nat.lt_or_ge 512 l.length with q | q
  · rw [encTree_many9 q]
    exact Nat.zero_le _
  · exact Nat.le_trans (encTree_le9 l) (by omega)
/-! ### The loop over directories -/
theorem uc_ge {l : List FileD} {d : Pth} (h : underP l d ≠ []) : 3 ≤ ucP l d := by
  unfold ucP
  cases hu : underP l d with
  | nil => exact absurd hu h
  | cons f m =>
    rw [List.map_cons, List.sum_cons]
    omega
theorem sz_le {l : List FileD} (h : ∀ f ∈ l, f.p.length ≤ 400) : szP l ≤ l.length * 402 := by
  unfold szP
  induction l with
  | nil => exact Nat.le_refl _
  | cons f l ih =>
    have h1 := h f (List.mem_cons_self ..)
    have h2 := ih fun g hg => h g (List.mem_cons_of_mem _ hg)
    rw [List.map_cons, List.sum_cons, List.length_cons]
    omega
structure Lay2 (l : List FileD) (g : Gm) (n1 : Nat) (left : Pth → Bool) (ds : List Pth) (es : List EntC9) (n2 : Nat) (g2 : Gm) : Prop where
  nd : ds.Nodup
  dom : ∀ d, d ∈ ds ↔ (underP l d ≠ [] ∧ left d = false)
  num : n2 ≤ n1 + (ds.map (ucP l)).sum
  cnt : 3 * ds.length ≤ (ds.map (ucP l)).sum
  len : es.length = (flatE l).length + ds.length
  start : ds = [] → es = flatE l ∧ g2 = blobG g l
  one : ∀ f d, l = [f] → ds = [d] → ∃ i, (cutP f.p).2.2 = true ∧ (cutP f.p).1 = d ∧ LayR g ⟨(cutP f.p).2.1, f.k, f.d⟩ g2 i ∧ es = [⟨⟨d.toArray⟩, 4, i⟩]
theorem Lay2.step {l : List FileD} {g : Gm} {n1 : Nat} {left : Pth → Bool} {ds : List Pth} {es : List EntC9} {n2 n3 : Nat} {g2 g3 : Gm} (h : Lay2 l g n1 left ds es n2 g2) {d : Pth} {i : Id} (hl : left d = true) (hu : underP l d ≠ []) (hn : n3 ≤ n2 + szP (underP l d) + 1) (hr : ∀ f, underP l d = [f] → LayR g2 f g3 i) : Lay2 l g n1 (fun x => left x && !decide (x = d)) (ds ++ [d]) (es ++ [⟨⟨d.toArray⟩, 4, i⟩]) n3 g3 where
  nd := by
    rw [List.nodup_append]
    refine ⟨h.nd, by simp, fun a ha b hb e => ?_⟩
    rw [List.mem_singleton] at hb
    subst hb e
    have := ((h.dom _).1 ha).2
    rw [hl] at this
    cases this
  dom x := by
    rw [List.mem_append, List.mem_singleton, h.dom]
    constructor
    · rintro (⟨q1, q2⟩ | rfl)
      · exact ⟨q1, by rw [q2]; rfl⟩
      · exact ⟨hu, by simp⟩
    · rintro ⟨q1, q2⟩
      by_cases e : x = d
      · exact .inr e
      · rw [decide_eq_false e] at q2
        exact .inl ⟨q1, by simpa using q2⟩
  num := by
    have h1 := h.num
    have h2 := sz_uc hu
    rw [List.map_append, List.sum_append]
    simp only [List.map_cons, List.map_nil, List.sum_cons, List.sum_nil]
    omega
  cnt := by
    have h1 := h.cnt
    have h2 := uc_ge hu
    rw [List.map_append, List.sum_append, List.length_append]
    simp only [List.map_cons, List.map_nil, List.sum_cons, List.sum_nil, List.length_singleton]
    omega
  len := by
    rw [List.length_append, List.length_append, h.len]
    simp only [List.length_singleton]
    omega
  start q := by simp at q
  one f d' hf hd := by
    subst hf
    have hds : ds = [] := by
      have := congrArg List.length hd
      simp at this
      exact this
    obtain ⟨s1, s2⟩ := h.start hds
    subst hds
    rw [List.nil_append] at hd
    injection hd with hd
    subst hd
    have hi : ∃ y, inDir d f = some y := by
      cases q : inDir d f with
      | some y => exact ⟨y, rfl⟩
      | none =>
        exfalso
        apply hu
        unfold underP
        rw [List.filterMap_cons, q]
        rfl
    obtain ⟨y, hy⟩ := hi
    have hu1 : underP [f] d = [y] := by unfold underP; rw [List.filterMap_cons, hy]; rfl
    unfold inDir at hy
    split at hy
    · rename_i hc
      injection hy with hy
      subst hy
      have e1 : flatE [f] = [] := by rw [show [f] = [] ++ [f] from rfl, flatE_deep hc.1]; rfl
      have e2 : blobG g [f] = g := by rw [show [f] = [] ++ [f] from rfl, blobG_deep hc.1]; rfl
      have := hr _ hu1
      rw [s2, e2] at this
      exact ⟨i, hc.1, hc.2, this, by rw [s1, e1]; rfl⟩
    · cases hy
theorem Lay2.room {l : List FileD} {g : Gm} {n1 : Nat} {left : Pth → Bool} {ds : List Pth} {es : List EntC9} {n2 : Nat} {g2 : Gm} (h : Lay2 l g n1 left ds es n2 g2) {d : Pth} (hl : left d = true) (hu : underP l d ≠ []) : n2 + szP (underP l d) + 1 + (flatP l).length ≤ n1 + szP l := by
  have hnd : (ds ++ [d]).Nodup := by
    rw [List.nodup_append]
    refine ⟨h.nd, by simp, fun a ha b hb e => ?_⟩
    rw [List.mem_singleton] at hb
    subst hb e
    have := ((h.dom _).1 ha).2
    rw [hl] at this
    cases this
  have q1 := sum_uc (ds ++ [d]) hnd l
  rw [List.map_append, List.sum_append] at q1
  simp only [List.map_cons, List.map_nil, List.sum_cons, List.sum_nil] at q1
  have q2 := sz_uc hu
  have q3 := h.num
  omega
theorem Lay2.size {l : List FileD} {g : Gm} {n1 : Nat} {left : Pth → Bool} {ds : List Pth} {es : List EntC9} {n2 : Nat} {g2 : Gm} (h : Lay2 l g n1 left ds es n2 g2) (h1 : l.length ≤ 1000) (h2 : ∀ f ∈ l, f.p.length ≤ 400) : es.length ≤ 140000 ∧ (ds.map (ucP l)).sum + (flatP l).length ≤ szP l := by
  have q1 := sum_uc ds h.nd l
  have q2 := sz_le h2
  have q3 := h.cnt
  have q4 := h.len
  rw [flatE_len] at q4
  have q5 := flatP_len l
  exact ⟨by omega, q1⟩

/-! ### Between the steps -/
structure LaySt (w0 : World) (q B m n : Nat) (g : Gm) (fb : Mp) (nb : Nat) (done : List FileD) (es : List EntC9) (A : Option Addr) (c : Nat) (w : World) : Prop where
  om : OMap w m n g
  vm : VM w (q + 1) nb fb
  dir : DirRows w q B fb done
  own : Own w q 79 34 A es.length c (es.flatMap entL)
  keep : Keep (Only m) w0 w
  res : Blk w q 30 (idC noId)
  qs : q ≤ w.heap.size
section
variable {w0 w w' : World} {q B m n nb c : Nat} {g : Gm} {fb : Mp} {done : List FileD} {es : List EntC9} {A : Option Addr}
theorem blk_eq {t : TypeId} {cs : Array Value} {k : Nat} (h : Blk w k t cs) (h' : Blk w' k t cs) : w'.heap[k]? = w.heap[k]? := by
  unfold Blk at h h'
  rw [h, h']
theorem DirRows.kept {b : Nat} {E : List TypeId} (h : DirRows w q B fb done) (hk : Kept b E [] w w') (he : 27 ∉ E) (hB : B ≤ b) (hz : B ≤ w.heap.size) : DirRows w' q B fb done :=
  h.same (fun a _ _ ⟨cs, hb⟩ => blk_eq hb (hk.blk hb (by simp) he)) (hk.below hB hz (by simp))
theorem LaySt.still (h : LaySt w0 q B m n g fb nb done es A c w) (hk : Keep Nothing w w') (hBq : B ≤ q) : LaySt w0 q B m n g fb nb done es A c w' where
  om := h.om.keep hk (fun q => q)
  vm := h.vm.keep hk (fun q => q)
  dir := h.dir.same (fun a _ h2 _ => hk.block a h2 (fun q => q)) (hk.all.mono (Nat.le_trans hBq h.qs))
  own := Own.same h.own fun k _ h2 _ => hk.block k h2 (fun q => q)
  keep := h.keep.then_ hk (fun _ _ q => q.elim)
  res := h.res.keep hk (fun q => q)
  qs := Nat.le_trans h.qs hk.size
theorem LaySt.put {n' : Nat} {g' : Gm} (h : LaySt w0 q B m n g fb nb done es A c w) (hk : Keep (Only m) w w') (ho : OMap w' m n' g') (hBm : B ≤ m) (hmq : m < q) : LaySt w0 q B m n' g' fb nb done es A c w' where
  om := ho
  vm := h.vm.keep hk (by unfold Only; omega)
  dir := h.dir.same (fun a h1 h2 _ => hk.block a h2 (by unfold Only; omega)) (hk.below (by have := h.qs; omega) (by unfold Only; omega))
  own := Own.same h.own fun k h1 h2 _ => hk.block k h2 (by unfold Only; omega)
  keep := h.keep.trans hk
  res := h.res.keep hk (by unfold Only; omega)
  qs := Nat.le_trans h.qs hk.size
theorem LaySt.ent {A' : Option Addr} {c' : Nat} {x : EntC9} (h : LaySt w0 q B m n g fb nb done es A c w) (hq : w0.heap.size ≤ q) (hk : Kept q [79] [] w w') (ho : Own w' q 79 34 A' (es.length + 1) c' (es.flatMap entL ++ entL x)) (hBq : B ≤ q) (hmq : m < q) : LaySt w0 q B m n g fb nb done (es ++ [x]) A' c' w' where
  om := h.om.below (hk.below (Nat.le_refl q) h.qs (by simp)) hmq
  vm := h.vm.kept hk
  dir := h.dir.kept hk (by simp) hBq (Nat.le_trans hBq h.qs)
  own := by
    rw [List.length_append, List.flatMap_append]
    simpa using ho
  keep := h.keep.then_ hk fun i hi q => by
    rcases q with q | ⟨h1, _⟩
    · cases q
    · omega
  res := hk.blk h.res (by simp) (by simp)
  qs := Nat.le_trans h.qs hk.size
theorem LaySt.file {d : Pth} {nb' : Nat} {w6 w7 : World} {x y : FileD} {D : Option Addr} {dd : Nat} {v : Value} (h : LaySt w0 q B m n g fb nb done es A c w6) (hq : w0.heap.size ≤ q) (hBq : B ≤ q) (hmq : m < q)
    (k9 : Kept q [27] [] (w6.alloc (.cells (fileC y D dd) 27)) w7) (hdr : DirRows w7 q B (mput fb d v) (done ++ [x])) (hvm : VM w' (q + 1) nb' (mput fb d v)) (hv7 : VM w7 (q + 1) nb fb) (hk : Keep (Only (q + 1)) w7 w') : LaySt w0 q B m n g (mput fb d v) nb' (done ++ [x]) es A c w' where
  om := by
    have h1 := h.om.alloc (.cells (fileC y D dd) 27)
    have h2 := h1.below (k9.below (Nat.le_refl q) (by have := h.qs; simp; omega) (by simp)) hmq
    exact h2.keep hk (by unfold Only; omega)
  vm := hvm
  dir := hdr.same (fun a _ h2 ⟨cs, hb⟩ => hk.block a h2 (by unfold Only; exact hv7.ne hb)) (hk.below (by have h1 := k9.size; have h2 := h.qs; rw [World.size_alloc] at h1; omega) (by unfold Only; omega))
  own := by
    have h1 := h.own.alloc (.cells (fileC y D dd) 27)
    have h2 := Own.kept h1 k9 (by simp) (by simp)
    exact Own.same h2 fun k _ hk2 ⟨cs, hb⟩ => hk.block k hk2 (by unfold Only; exact hv7.ne hb)
  keep := by
    have h1 : Keep (Only m) w0 (w6.alloc (.cells (fileC y D dd) 27)) := h.keep.alloc _
    have h2 : Keep (Only m) w0 w7 := h1.then_ k9 fun i hi q => by
      rcases q with q | ⟨h1, _⟩
      · cases q
      · omega
    exact h2.then_ hk (by unfold Only; omega)
  res := by
    have h1 := h.res.alloc (.cells (fileC y D dd) 27)
    exact (k9.blk h1 (by simp) (by simp)).keep hk (by unfold Only; omega)
  qs := by
    have := k9.size
    have := hk.size
    have := h.qs
    simp at *
    omega
end
theorem Lay2.done {l : List FileD} {g : Gm} {n1 : Nat} {left : Pth → Bool} {ds : List Pth} {es : List EntC9} {n2 : Nat} {g2 : Gm} (h : Lay2 l g n1 left ds es n2 g2) (hl : ∀ s, left s = false) : (l = [] → es = [] ∧ g2 = g) ∧ ∀ f, l = [f] → (∃ e, es = [e]) ∧ LayR g f (gput g2 (treeI es) 2) (treeI es) := by
  refine ⟨fun hn => ?_, fun f hf => ?_⟩
  · subst hn
    have : ds = [] := by
      cases ds with
      | nil => rfl
      | cons d ds => exact absurd rfl ((h.dom d).1 (List.mem_cons_self ..)).1
    obtain ⟨e1, e2⟩ := h.start this
    exact ⟨e1, e2⟩
  · cases hc : (cutP f.p).2.2 with
    | false =>
      have hd : ds = [] := by
        cases ds with
        | nil => rfl
        | cons d ds =>
          have h1 := ((h.dom d).1 (List.mem_cons_self ..)).1
          subst hf
          exfalso
          apply h1
          have : inDir d f = none := if_neg fun q => by rw [hc] at q; cases q.1
          unfold underP
          rw [List.filterMap_cons, this]
          rfl
      obtain ⟨e1, e2⟩ := h.start hd
      subst hf
      have e3 : flatE [f] = [entF f] := by rw [show [f] = [] ++ [f] from rfl, flatE_flat hc]; rfl
      have e4 : blobG g [f] = gput g (blobI f.d) 1 := by rw [show [f] = [] ++ [f] from rfl, blobG_flat hc]; rfl
      rw [e1, e2, e3, e4]
      exact ⟨⟨_, rfl⟩, LayR.flat g f hc⟩
    | true =>
      have hin : inDir (cutP f.p).1 f = some ⟨(cutP f.p).2.1, f.k, f.d⟩ := if_pos ⟨hc, rfl⟩
      have hu : underP l (cutP f.p).1 ≠ [] := by
        subst hf
        unfold underP
        rw [List.filterMap_cons, hin]
        simp
      have hm : (cutP f.p).1 ∈ ds := (h.dom _).2 ⟨hu, hl _⟩
      have ho : ∀ d ∈ ds, d = (cutP f.p).1 := fun d hd => by
        have h1 := ((h.dom d).1 hd).1
        subst hf
        by_cases e : (cutP f.p).1 = d
        · exact e.symm
        · exfalso
          apply h1
          have : inDir d f = none := if_neg fun q => e q.2
          unfold underP
          rw [List.filterMap_cons, this]
          rfl
      have hds : ds = [(cutP f.p).1] := by
        have hnd := h.nd
        cases ds with
        | nil => cases hm
        | cons d ds =>
          have e0 := ho d (List.mem_cons_self ..)
          subst e0
          cases ds with
          | nil => rfl
          | cons d2 ds =>
            have e1 := ho d2 (List.mem_cons_of_mem _ (List.mem_cons_self ..))
            rw [List.nodup_cons] at hnd
            exact absurd (by rw [e1]; exact List.mem_cons_self ..) hnd.1
      obtain ⟨i, _, _, hr, he⟩ := h.one f _ hf hds
      rw [he]
      exact ⟨⟨_, rfl⟩, LayR.deep g g2 f i hc hr⟩
theorem VR.ne_blk {w : World} {b r n : Nat} {f : Mp} {left : Pth → Bool} {cnt : Nat} (h : VR w b r n f left cnt) {k : Nat} {t : TypeId} {cs : Array Value} (hb : Blk w k t cs) : k ≠ r := by
  obtain ⟨D, L, ⟨es, clock, since, seen, c0, q1, q2, q3, q4, q5, q6⟩, _⟩ := h
  rintro rfl
  rw [show w.heap[k]? = some (.cells cs t (0, 0)) from hb] at q5
  cases q5
theorem VR.kept {w w' : World} {b r n base : Nat} {f : Mp} {left : Pth → Bool} {cnt : Nat} {E : List TypeId} (h : VR w b r n f left cnt) (hk : Kept base E [] w w') : VR w' b r n f left cnt := by
  refine h.keep hk (fun q => ?_) (fun q => ?_)
  · rcases q with q | ⟨_, e, _, cs, fz, hc⟩
    · cases q
    · obtain ⟨D, ⟨es, clock, q1, _⟩, _⟩ := h.owns
      rw [hc] at q1
      cases q1
  · rcases q with q | ⟨_, e, _, cs, fz, hc⟩
    · cases q
    · obtain ⟨D, L, ⟨es, clock, since, seen, c0, q1, q2, q3, q4, q5, q6⟩, _⟩ := h
      rw [hc] at q5
      cases q5
theorem LaySt.iter {w0 w w' : World} {q B m n nb c r : Nat} {g : Gm} {fb : Mp} {done : List FileD} {es : List EntC9} {A : Option Addr} {left : Pth → Bool} {cnt : Nat} (h : LaySt w0 q B m n g fb nb done es A c w) (hv : VR w (q + 1) r nb fb left cnt) (hk : Keep (Only r) w w') (hq : w0.heap.size ≤ q) (hBq : B ≤ q) (hmq : m < q) (hqr : q ≤ r) : LaySt w0 q B m n g fb nb done es A c w' where
  om := h.om.keep hk (by unfold Only; omega)
  vm := h.vm.keep hk (by unfold Only; exact fun e => hv.ne e.symm)
  dir := h.dir.same (fun a _ h2 ⟨cs, hb⟩ => hk.block a h2 (hv.ne_blk hb)) (hk.below (by have := h.qs; omega) (by unfold Only; omega))
  own := Own.same h.own fun k _ h2 ⟨cs, hb⟩ => hk.block k h2 (hv.ne_blk hb)
  keep := h.keep.then_ hk (by unfold Only; omega)
  res := h.res.keep hk (hv.ne_blk h.res)
  qs := Nat.le_trans h.qs hk.size
end Go.Proofs.YtbaapjlmpmpocaaGreatDoor
