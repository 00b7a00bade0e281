/- Contracts of maps.Keys and slices.Sorted on maps from texts. No statement of the seat is proved here. -/
import Derived.Test.YtbaapjlmpmpocaaGreatDoorDT15
import Derived.Test.YtbaapjlmpmpocaaGreatDoorShelf2
import Derived.Test.YtbaapjlmpmpocaaGreatDoorDT05
namespace Go.Proofs.YtbaapjlmpmpocaaGreatDoor
section
variable {α : Type} {lt : α → α → Bool}
theorem insBy_perm (x : α) : ∀ l : List α, (insBy lt x l).Perm (x :: l)
 | [] => List.Perm.refl _
 | y :: l => by
  unfold insBy
  split
  · exact ((insBy_perm x l).cons y).trans (List.Perm.swap x y l)
  · exact List.Perm.refl _
theorem sortBy_perm : ∀ l : List α, (sortBy lt l).Perm l
 | [] => List.Perm.refl _
 | x :: l => (insBy_perm x (sortBy lt l)).trans ((sortBy_perm l).cons x)
theorem sortBy_len (l : List α) : (sortBy lt l).length = l.length := (sortBy_perm l).length_eq
theorem mem_sortBy {l : List α} {x : α} : x ∈ sortBy lt l ↔ x ∈ l := (sortBy_perm l).mem_iff
structure Ord (lt : α → α → Bool) : Prop where
 asym : ∀ x y, lt x y = true → lt y x = false
 ntr : ∀ x y z, lt y x = false → lt z y = false → lt z x = false
def SortedP (lt : α → α → Bool) (l : List α) : Prop := l.Pairwise fun a b => lt b a = false
theorem insBy_sorted (H : Ord lt) (x : α) : ∀ l : List α, SortedP lt l → SortedP lt (insBy lt x l)
 | [], _ => by simp [insBy, SortedP]
 | y :: l, h => by
  unfold SortedP at h ⊢
  rw [List.pairwise_cons] at h
  unfold insBy
  split
  · rename_i hl
    rw [List.pairwise_cons]
    refine ⟨fun z hz => ?_, insBy_sorted H x l h.2⟩
    rcases List.mem_cons.1 ((insBy_perm x l).mem_iff.1 hz) with rfl | hz
    · exact H.asym _ _ hl
    · exact h.1 z hz
  · rename_i hl
    rw [Bool.not_eq_true] at hl
    rw [List.pairwise_cons, List.pairwise_cons]
    refine ⟨fun z hz => ?_, h⟩
    rcases List.mem_cons.1 hz with rfl | hz
    · exact hl
    · exact H.ntr x y z hl (h.1 z hz)
theorem sortBy_sorted (H : Ord lt) : ∀ l : List α, SortedP lt (sortBy lt l)
 | [] => List.Pairwise.nil
 | x :: l => insBy_sorted H x _ (sortBy_sorted H l)
theorem sorted_unique : ∀ {l m : List α}, l.Perm m → SortedP lt l → SortedP lt m → (∀ x ∈ l, ∀ y ∈ l, lt x y = false → lt y x = false → x = y) → l = m
 | [], m, hp, _, _, _ => (List.perm_nil.1 hp.symm).symm
 | x :: l, [], hp, _, _, _ => absurd hp.length_eq (by simp)
 | x :: l, y :: m, hp, h1, h2, hu => by
  have hxy : x = y := by
   have hx : x ∈ y :: m := hp.mem_iff.1 (List.mem_cons_self ..)
   have hy : y ∈ x :: l := hp.mem_iff.2 (List.mem_cons_self ..)
   rcases List.mem_cons.1 hx with e | hx
   · exact e
   · rcases List.mem_cons.1 hy with e | hy
     · exact e.symm
     · exact hu x (List.mem_cons_self ..) y (List.mem_cons_of_mem _ hy) ((List.pairwise_cons.1 h2).1 x hx) ((List.pairwise_cons.1 h1).1 y hy)
  subst hxy
  rw [sorted_unique (List.Perm.cons_inv hp) (List.pairwise_cons.1 h1).2 (List.pairwise_cons.1 h2).2 (fun a ha b hb => hu a (List.mem_cons_of_mem _ ha) b (List.mem_cons_of_mem _ hb))]
end
theorem pth_asym {a b : Pth} (h : a < b) : ¬ b < a := List.lt_asymm h
theorem pth_tri (a b : Pth) : a < b ∨ a = b ∨ b < a := by
 by_cases h1 : a < b
 · exact .inl h1
 · by_cases h2 : b < a
   · exact .inr (.inr h2)
   · exact .inr (.inl (List.le_antisymm (List.not_lt.1 h2) (List.not_lt.1 h1)))
theorem pth_trans {a b c : Pth} (h : a < b) (k : b < c) : a < c := List.lt_trans h k
theorem pth_ntr {a b c : Pth} (h : ¬ b < a) (k : ¬ c < b) : ¬ c < a := by
 rcases pth_tri a b with q | q | q
 · rcases pth_tri b c with r | r | r
   · exact pth_asym (pth_trans q r)
   · subst r; exact pth_asym q
   · exact absurd r k
 · subst q; exact k
 · exact absurd q h
theorem pth_ord {α : Type} (f : α → Pth) : Ord (fun a b : α => decide (f a < f b)) where
 asym x y h := by simp only [decide_eq_true_eq, decide_eq_false_iff_not] at *; exact pth_asym h
 ntr x y z h k := by simp only [decide_eq_false_iff_not] at *; exact pth_ntr h k
theorem pth_eq {a b : Pth} (h : ¬ a < b) (k : ¬ b < a) : a = b := by
 rcases pth_tri a b with q | q | q
 · exact absurd q h
 · exact q
 · exact absurd q k
theorem sortF_perm (l : List FileD) : (sortF l).Perm l := sortBy_perm l
theorem sortF_len (l : List FileD) : (sortF l).length = l.length := sortBy_len l
theorem sortF_unique {l m : List FileD} (hp : l.Perm m) (hs : SortedP (fun a b : FileD => decide (a.p < b.p)) m) (hd : (l.map (·.p)).Nodup) : sortF l = m := by
 refine sorted_unique ((sortF_perm l).trans hp) (sortBy_sorted (pth_ord _) l) hs fun x hx y hy h1 h2 => ?_
 simp only [decide_eq_false_iff_not] at h1 h2
 have e := pth_eq h1 h2
 have hx := mem_sortBy.1 hx
 have hy := mem_sortBy.1 hy
 obtain ⟨i, hi, rfl⟩ := List.mem_iff_getElem.1 hx
 obtain ⟨j, hj, rfl⟩ := List.mem_iff_getElem.1 hy
 have : i = j := by
  have := (List.getElem_inj (xs := l.map (·.p)) (h₀ := by simpa using hi) (h₁ := by simpa using hj) hd).1 (by simpa using e)
  exact this
 subst this
 rfl
theorem mem_insK {p x : Pth} : ∀ {l : List Pth}, x ∈ insK p l ↔ x = p ∨ x ∈ l
 | [] => by simp [insK]
 | q :: l => by
  unfold insK
  split
  · rename_i h
    subst h
    simp
  · split
    · simp
    · simp only [List.mem_cons, mem_insK (l := l)]
      constructor
      · rintro (h | h | h) <;> simp [h]
      · rintro (h | h | h) <;> simp [h]
def RiseP (l : List Pth) : Prop := l.Pairwise (· < ·)
theorem insK_rise (p : Pth) : ∀ {l : List Pth}, RiseP l → RiseP (insK p l)
 | [], _ => by simp [insK, RiseP]
 | q :: l, h => by
  unfold RiseP at h ⊢
  rw [List.pairwise_cons] at h
  unfold insK
  split
  · exact List.pairwise_cons.2 h
  · rename_i hne
    split
    · rename_i hlt
      rw [List.pairwise_cons, List.pairwise_cons]
      refine ⟨fun z hz => ?_, h⟩
      rcases List.mem_cons.1 hz with rfl | hz
      · exact hlt
      · exact pth_trans hlt (h.1 z hz)
    · rename_i hlt
      rw [List.pairwise_cons]
      refine ⟨fun z hz => ?_, insK_rise p h.2⟩
      rcases mem_insK.1 hz with rfl | hz
      · rcases pth_tri q z with r | r | r
        · exact r
        · exact absurd r.symm hne
        · exact absurd r hlt
      · exact h.1 z hz
theorem keysP_rise : ∀ l : List Pth, RiseP (keysP l)
 | [] => List.Pairwise.nil
 | x :: l => insK_rise x (keysP_rise l)
theorem mem_keysP {x : Pth} : ∀ {l : List Pth}, x ∈ keysP l ↔ x ∈ l
 | [] => Iff.rfl
 | y :: l => by
  show x ∈ insK y (keysP l) ↔ _
  rw [mem_insK, mem_keysP, List.mem_cons]
theorem rise_unique : ∀ {l m : List Pth}, RiseP l → RiseP m → (∀ x, x ∈ l ↔ x ∈ m) → l = m
 | [], [], _, _, _ => rfl
 | [], y :: m, _, _, h => absurd ((h y).2 (List.mem_cons_self ..)) (by simp)
 | x :: l, [], _, _, h => absurd ((h x).1 (List.mem_cons_self ..)) (by simp)
 | x :: l, y :: m, h1, h2, h => by
  have a1 := List.pairwise_cons.1 h1
  have a2 := List.pairwise_cons.1 h2
  have hxy : x = y := by
   rcases List.mem_cons.1 ((h x).1 (List.mem_cons_self ..)) with e | hx
   · exact e
   · rcases List.mem_cons.1 ((h y).2 (List.mem_cons_self ..)) with e | hy
     · exact e.symm
     · exact absurd (a1.1 y hy) (pth_asym (a2.1 x hx))
  subst hxy
  rw [rise_unique a1.2 a2.2 fun z => ?_]
  constructor
  · intro hz
    rcases List.mem_cons.1 ((h z).1 (List.mem_cons_of_mem _ hz)) with e | e
    · exact absurd (a1.1 z hz) (by rw [e]; exact List.lt_irrefl _)
    · exact e
  · intro hz
    rcases List.mem_cons.1 ((h z).2 (List.mem_cons_of_mem _ hz)) with e | e
    · exact absurd (a2.1 z hz) (by rw [e]; exact List.lt_irrefl _)
    · exact e
theorem rise_nodup {l : List Pth} (h : RiseP l) : l.Nodup := h.imp fun q e => by subst e; exact List.lt_irrefl _ q
end Go.Proofs.YtbaapjlmpmpocaaGreatDoor
namespace Go.Proofs.YtbaapjlmpmpocaaGreatDoor
open Go.RowKit Go.Maps Go.Sort Go.Shelf
theorem owns_texts {w : World} {b n : Nat} {D : DataW Value} (h : w.ownsMap Tryz.prog 9 heldE b n D) : ∃ E, D = .map E ∧ ∀ p ∈ E, ∃ s, p.1 = keyS s := by
 obtain ⟨es, clock, _, F, _, rfl⟩ := h
 refine ⟨_, rfl, fun p hp => ?_⟩
 obtain ⟨v, hv⟩ := fit_keys F p (mem_sorted.1 hp)
 obtain ⟨s, _, hs⟩ := key_text hv
 exact ⟨s, hs⟩
theorem VM.keys {w : World} {b n : Nat} {f : Mp} {D : DataW Value} (h1 : w.ownsMap Tryz.prog 9 heldE b n D) (h3 : DatM D f) : (strKeys D).Nodup ∧ ∀ s, s ∈ strKeys D ↔ (f s).isSome = true := by
 obtain ⟨E, rfl, hE⟩ := owns_texts h1
 obtain ⟨E', e, hp⟩ := h3.1
 injection e with e
 subst e
 constructor
 · unfold strKeys
   rw [List.nodup_iff_pairwise_ne, List.pairwise_map]
   refine List.Pairwise.imp_of_mem (fun {p q} hp' hq' hne e => ?_) hp
   obtain ⟨s, hs⟩ := hE p hp'
   obtain ⟨t, ht⟩ := hE q hq'
   rw [hs, ht] at hne e
   exact hne (by rw [show s = t from e])
 · intro s
   rw [← h3.has s]
   unfold strKeys
   rw [List.mem_map, has_eq, List.any_eq_true]
   constructor
   · rintro ⟨p, hp', e⟩
     obtain ⟨t, ht⟩ := hE p hp'
     refine ⟨p, hp', ?_⟩
     rw [ht] at e ⊢
     rw [keyS_same, decide_eq_true_eq]
     exact e
   · rintro ⟨p, hp', e⟩
     obtain ⟨t, ht⟩ := hE p hp'
     refine ⟨p, hp', ?_⟩
     rw [ht] at e ⊢
     rw [keyS_same, decide_eq_true_eq] at e
     exact e
theorem merge_rise {l : List Pth} (h : l.Nodup) : RiseP (l.mergeSort fun x y => decide (x ≤ y)) := by
 have hs := List.pairwise_mergeSort (le := fun x y : Pth => decide (x ≤ y)) (fun a b c h1 h2 => by
  simp only [decide_eq_true_eq] at *
  exact List.le_trans h1 h2) (fun a b => by
  simp only [Bool.or_eq_true, decide_eq_true_eq]
  exact List.le_total a b) l
 have hn : (l.mergeSort fun x y => decide (x ≤ y)).Nodup := (List.mergeSort_perm l _).nodup_iff.2 h
 refine List.Pairwise.imp₂ (fun a b h1 h2 => ?_) hs hn
 simp only [decide_eq_true_eq] at h1
 rcases pth_tri a b with q | q | q
 · exact q
 · exact absurd q h2
 · exact absurd q (List.not_lt.2 h1)
theorem sorts_any (m : Nat) : AnyZ.SortsIn Tryz.prog Tryz.sortedS_ren Fence.wide m :=
 ⟨fun blk off cap ss W hH hblk hsz => callsIn_wide.2 (AnyM.slices_Sort_string Tryz.sortS blk off cap ss W hH hblk hsz), fun p cap W => callsIn_wide.2 (AnyM.slices_Sort_string_none Tryz.sortS p cap W)⟩
theorem keysC_any (mb : Option Nat) (W : World) : Calls Tryz.prog 28 #[.map mb] W fun e w' => e = .returned (.func (.func 51) #[] #[.pointer (some ⟨W.heap.size, 0, none⟩)]) ∧ w' = W.alloc (.cells #[.map mb] 64) :=
 callsIn_wide.1 (AnyZ.keys_in Tryz.keysC Fence.wide 5 trivial rfl mb W)
def SortedPost (f : Mp) (B : Nat) (w : World) (e : Ending) (w' : World) : Prop := ∃ (ks : List Pth) (A : Option Addr) (c : Nat), e = .returned (.slice A ks.length c) ∧ RiseP ks ∧ (∀ s, s ∈ ks ↔ (f s).isSome = true) ∧ Own w' B 9 1 A ks.length c (strL ks) ∧ Below B w w'
theorem sorted_post {w w' : World} {B n b : Nat} {f : Mp} {D : DataW Value} {e : Ending} (h1 : w.ownsMap Tryz.prog 9 heldE b n D) (h3 : DatM D f) {w0 : World} (h : ∃ (v : Value) (ss : List (List UInt8)), e = .returned v ∧ ss.Perm (strKeys D) ∧ w'.ownsRow B 9 1 v ss.length ((ss.mergeSort (fun x y => decide (x ≤ y))).map encStr) ∧ (v = .slice none 0 0 ↔ ss = []) ∧ Below B w0 w') : SortedPost f B w0 e w' := by
 obtain ⟨v, ss, rfl, hp, hrow, _, hb⟩ := h
 obtain ⟨q1, q2⟩ := VM.keys h1 h3
 obtain ⟨A, c, rfl⟩ := slice_of_own hrow
 have hlen : (ss.mergeSort fun x y => decide (x ≤ y)).length = ss.length := List.length_mergeSort ss
 refine ⟨ss.mergeSort fun x y => decide (x ≤ y), A, c, by rw [hlen], merge_rise (hp.nodup_iff.2 q1), fun s => ?_, ?_, hb⟩
 · rw [← q2, List.mem_mergeSort]
   exact hp.mem_iff
 · unfold Own
   rw [hlen]
   exact hrow
set_option maxHeartbeats 1000000 in
theorem sortedC_any {w : World} {b n : Nat} {f : Mp} (h : VM w b n f) (hn : n ≤ 100000000) : Calls Tryz.prog 27 #[.func (.func 51) #[] #[.pointer (some ⟨w.heap.size, 0, none⟩)]] (w.alloc (.cells #[.map (some b)] 64)) (SortedPost f (w.alloc (.cells #[.map (some b)] 64)).heap.size (w.alloc (.cells #[.map (some b)] 64))) := by
 obtain ⟨D, hown, hsz, hd⟩ := h
 have hbl := hown.lt
 have hmax : Maps.size D ≤ maxLen := by rw [hsz]; unfold maxLen; omega
 have hbytes : Maps.size D * 16 ≤ 140737488355328 := by rw [hsz]; omega
 have hseq : SeqGives Fence.wide 2 Tryz.prog 51 #[.pointer (some ⟨w.heap.size, 0, none⟩)] encStr (fun ss => ss.Perm (strKeys D)) (Maps.size D) (w.alloc (.cells #[.map (some b)] 64)) :=
  AnyZ.keys_gives (ρ := Tryz.keysC_ren) { Tryz.keysC with } Fence.wide _ trivial rfl (by omega) w.heap.size b n D _ (by simp) (by simp) (by
   obtain ⟨es, clock, hb, Ft, hs, hD⟩ := hown
   exact ⟨es, clock, (Below.heap_alloc _ _ b hbl).trans hb, Ft, hs, hD⟩)
 have hcon := AnyZ.sorted_in Tryz.sortedS Fence.wide 5 trivial trivial trivial trivial rfl (by omega) (sorts_any _) (enters_of Tryz.func50 (by kernel_rfl) rfl) 51 #[.pointer (some ⟨w.heap.size, 0, none⟩)] trivial (enters_of Tryz.func51 (by kernel_rfl) rfl) _ _ hmax hbytes _ hseq
 refine (callsIn_wide.1 hcon).mono fun e w' hq => ?_
 exact sorted_post (w0 := w.alloc (.cells #[.map (some b)] 64)) hown hd hq
end Go.Proofs.YtbaapjlmpmpocaaGreatDoor
