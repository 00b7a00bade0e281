/- Plain: what the changes of two trees do. No statement of the seat is proved here. -/
import Derived.Test.YtbaapjlmpmpocaaGreatDoorDT17
import Derived.Test.YtbaapjlmpmpocaaGreatDoorDTZi
import Derived.Test.YtbaapjlmpmpocaaGreatDoorDT24
import Derived.Test.YtbaapjlmpmpocaaGreatDoorDTZq
import Derived.Deep.CutBlock
import Derived.Test.YtbaapjlmpmpocaaGreatDoorDT30
import Derived.Test.YtbaapjlmpmpocaaGreatDoorDT21
import Derived.Test.YtbaapjlmpmpocaaGreatDoorDT31
import Derived.Test.YtbaapjlmpmpocaaGreatDoorDT29
import Derived.Test.YtbaapjlmpmpocaaGreatDoorDT25
import Derived.Test.YtbaapjlmpmpocaaGreatDoorDT15
namespace Go.Proofs.YtbaapjlmpmpocaaGreatDoor
theorem nmFrom_sum : ∀ (b cur : Pth), cur.length + b.length ≤ ((nmFrom cur b).map (fun s => s.length + 1)).sum
 | [], cur => by simp [nmFrom]
 | x :: b, cur => by
  unfold nmFrom
  split
  · rw [List.map_cons, List.sum_cons, List.length_cons]
    have := nmFrom_sum b []
    simp only [List.length_nil] at this
    omega
  · have := nmFrom_sum b (cur ++ [x])
    rw [List.length_append, List.length_singleton] at this
    rw [List.length_cons]
    omega
theorem sum_names {l : List Pth} {L : Nat} (h : ∀ s ∈ l, s.length ≤ L) : (l.map (fun s => s.length + 1)).sum ≤ l.length * (L + 1) := by
 induction l with
 | nil => simp
 | cons x l ih =>
  rw [List.map_cons, List.sum_cons, List.length_cons, Nat.add_mul]
  have h1 := h x (List.mem_cons_self ..)
  have h2 := ih fun f hf => h f (List.mem_cons_of_mem _ hf)
  omega
theorem path_len {f : FileD} {L : Nat} (h : fileE f = 0) (hL : ∀ s, nameOk s = true → s.length ≤ L) : f.p.length ≤ 8 * (L + 1) := by
 obtain ⟨_, _, h3, h4⟩ := fileE_kind h
 have h5 := nmFrom_sum f.p []
 have h6 := sum_names (l := nmP f.p) (L := L) fun s hs => hL s (h4 s hs)
 have h7 := Nat.mul_le_mul_right (L + 1) h3
 unfold nmP at h6 h7
 simp only [List.length_nil, Nat.zero_add] at h5
 omega
theorem nameOk_len {s : Pth} (h : nameOk s = true) : s.length ≤ 40 := by
 unfold nameOk at h
 simp only [Bool.and_eq_true, decide_eq_true_eq] at h
 exact h.2.1
theorem path_small {f : FileD} (h : fileE f = 0) : f.p.length ≤ 328 := path_len h fun _ hs => nameOk_len hs
theorem checkT_fits {l : List FileD} (h : checkT l = 0) : Fits l := by
 obtain ⟨h1, h2, _⟩ := checkT_tree h
 refine ⟨by omega, fun f hf => ?_⟩
 have h3 := path_small (h1.file f hf)
 have h4 := (fileE_kind (h1.file f hf)).2.1
 exact ⟨by omega, by omega⟩
theorem sidesIn_of {base l : List FileD} (hb : checkT base = 0) (hl : checkT l = 0) : SidesIn base l where
 nb := (checkT_tree hb).2.1
 nl := (checkT_tree hl).2.1
 ab := (checkT_tree hb).1.apt
 al := (checkT_tree hl).1.apt
 fb := checkT_fits hb
 fl := checkT_fits hl
 kb := (checkT_tree hb).1.kinds
 kl := (checkT_tree hl).1.kinds
end Go.Proofs.YtbaapjlmpmpocaaGreatDoor
namespace Go.Proofs.YtbaapjlmpmpocaaGreatDoor
def rdiffP : List FileD → List FileD → List ChangeD
 | [], b => b.map fun g => ⟨zeroF, g⟩
 | f :: a, [] => ⟨f, zeroF⟩ :: rdiffP a []
 | f :: a, g :: b => if f.p < g.p then ⟨f, zeroF⟩ :: rdiffP a (g :: b) else if g.p < f.p then ⟨zeroF, g⟩ :: rdiffP (f :: a) b else if f = g then rdiffP a b else ⟨f, g⟩ :: rdiffP a b
termination_by a b => a.length + b.length
theorem rdiff_old (f : FileD) (a b : List FileD) (h : b = [] ∨ ∃ g c, b = g :: c ∧ f.p < g.p) : rdiffP (f :: a) b = ⟨f, zeroF⟩ :: rdiffP a b := by
 rcases h with rfl | ⟨g, c, rfl, h⟩
 · rw [rdiffP]
 · rw [rdiffP, if_pos h]
theorem rdiff_new (g : FileD) (a b : List FileD) (h : a = [] ∨ ∃ f c, a = f :: c ∧ g.p < f.p) : rdiffP a (g :: b) = ⟨zeroF, g⟩ :: rdiffP a b := by
 rcases h with rfl | ⟨f, c, rfl, h⟩
 · rw [rdiffP, rdiffP, List.map_cons]
 · rw [rdiffP, if_neg (pth_asym h), if_pos h]
theorem rdiff_two (f g : FileD) (a b : List FileD) (h : f.p = g.p) : rdiffP (f :: a) (g :: b) = (if f = g then [] else [⟨f, g⟩]) ++ rdiffP a b := by
 rw [rdiffP, if_neg (by rw [h]; exact List.lt_irrefl _), if_neg (by rw [h]; exact List.lt_irrefl _)]
 split
 · rw [List.nil_append]
 · rw [List.singleton_append]
theorem getF_cons_ne {f : FileD} {l : List FileD} {p : Pth} (h : f.p ≠ p) : getF (f :: l) p = getF l p := by
 unfold getF
 rw [List.find?_cons_of_neg]
 rw [beq_iff_eq]
 exact h
theorem getF_cons_eq (f : FileD) (l : List FileD) : getF (f :: l) f.p = f := by
 unfold getF
 rw [List.find?_cons_of_pos (by simp)]
 rfl
theorem getF_above {l : List FileD} {p : Pth} (h : ∀ g ∈ l, p < g.p) : getF l p = zeroF := by
 refine getF_none ?_
 cases q : hasF l p with
 | false => rfl
 | true =>
  obtain ⟨g, hg, e⟩ := hasF_iff.1 q
  have := h g hg
  rw [e] at this
  exact absurd this (List.lt_irrefl _)
theorem keys_cons {p : Pth} {l m : List Pth} (hl : ∀ x, x ∈ m ↔ x = p ∨ x ∈ l) (hp : ∀ q ∈ l, p < q) : keysP m = p :: keysP l := by
 refine rise_unique (keysP_rise _) ?_ fun x => ?_
 · unfold RiseP
   rw [List.pairwise_cons]
   exact ⟨fun q hq => hp q (mem_keysP.1 hq), keysP_rise l⟩
 · rw [mem_keysP, hl, List.mem_cons, mem_keysP]
theorem filterMap_on {α β : Type} {f g : α → Option β} : ∀ {l : List α}, (∀ a ∈ l, f a = g a) → l.filterMap f = l.filterMap g
 | [], _ => rfl
 | a :: l, h => by
  rw [List.filterMap_cons, List.filterMap_cons, h a (List.mem_cons_self ..), filterMap_on fun b hb => h b (List.mem_cons_of_mem _ hb)]
theorem diff_cons {a b a' b' : List FileD} {p : Pth} (hl : ∀ x, x ∈ a.map (·.p) ++ b.map (·.p) ↔ x = p ∨ x ∈ a'.map (·.p) ++ b'.map (·.p)) (hp : ∀ q ∈ a'.map (·.p) ++ b'.map (·.p), p < q) (ha : ∀ q, q ≠ p → getF a q = getF a' q) (hb : ∀ q, q ≠ p → getF b q = getF b' q) : diffT a b = (match changeP (getF a p) (getF b p) with | none => [] | some c => [c]) ++ diffT a' b' := by
 unfold diffT
 rw [keys_cons hl hp, List.filterMap_cons]
 have e : (keysP (a'.map (·.p) ++ b'.map (·.p))).filterMap (fun p => changeP (getF a p) (getF b p)) = (keysP (a'.map (·.p) ++ b'.map (·.p))).filterMap (fun p => changeP (getF a' p) (getF b' p)) := filterMap_on fun q hq => by
  have hne : q ≠ p := fun e => by
   have := hp q (mem_keysP.1 hq)
   rw [e] at this
   exact List.lt_irrefl _ this
  rw [ha q hne, hb q hne]
 rw [e]
 cases changeP (getF a p) (getF b p) <;> rfl
theorem rdiff_diff : ∀ (a b : List FileD), RiseP (a.map (·.p)) → RiseP (b.map (·.p)) → KindsOk a → KindsOk b → rdiffP a b = diffT a b
 | [], [], _, _, _, _ => by rw [rdiffP]; rfl
 | [], g :: b, ha, hb, ka, kb => by
  have hb' := hb
  unfold RiseP at hb'
  rw [List.map_cons, List.pairwise_cons] at hb'
  have hlt : ∀ h ∈ b, g.p < h.p := fun h hh => hb'.1 h.p (List.mem_map.2 ⟨h, hh, rfl⟩)
  have hk := kb g (List.mem_cons_self ..)
  rw [rdiff_new g [] b (.inl rfl), rdiff_diff [] b ha hb'.2 ka (fun h hh => kb h (List.mem_cons_of_mem _ hh)), diff_cons (a := []) (b := g :: b) (a' := []) (b' := b) (p := g.p) (fun x => by simp) (fun q hq => by
   obtain ⟨h, hh, rfl⟩ := List.mem_map.1 (by simpa using hq)
   exact hlt h hh) (fun _ _ => rfl) (fun q hq => getF_cons_ne (Ne.symm hq)), getF_cons_eq]
  have e : changeP (getF [] g.p) g = some ⟨zeroF, g⟩ := by
   unfold changeP
   rw [show getF [] g.p = zeroF from rfl, if_pos]
   left
   show (0 : Int) ≠ g.k
   omega
  rw [e]
  rfl
 | f :: a, [], ha, hb, ka, kb => by
  have ha' := ha
  unfold RiseP at ha'
  rw [List.map_cons, List.pairwise_cons] at ha'
  have hlt : ∀ h ∈ a, f.p < h.p := fun h hh => ha'.1 h.p (List.mem_map.2 ⟨h, hh, rfl⟩)
  have hk := ka f (List.mem_cons_self ..)
  rw [rdiff_old f a [] (.inl rfl), rdiff_diff a [] ha'.2 hb (fun h hh => ka h (List.mem_cons_of_mem _ hh)) kb, diff_cons (a := f :: a) (b := []) (a' := a) (b' := []) (p := f.p) (fun x => by simp) (fun q hq => by
   obtain ⟨h, hh, rfl⟩ := List.mem_map.1 (by simpa using hq)
   exact hlt h hh) (fun q hq => getF_cons_ne (Ne.symm hq)) (fun _ _ => rfl), getF_cons_eq]
  have e : changeP f (getF [] f.p) = some ⟨f, zeroF⟩ := by
   unfold changeP
   rw [show getF [] f.p = zeroF from rfl, if_pos]
   left
   show f.k ≠ (0 : Int)
   omega
  rw [e]
  rfl
 | f :: a, g :: b, ha, hb, ka, kb => by
  have ha' := ha
  unfold RiseP at ha'
  rw [List.map_cons, List.pairwise_cons] at ha'
  have hla : ∀ h ∈ a, f.p < h.p := fun h hh => ha'.1 h.p (List.mem_map.2 ⟨h, hh, rfl⟩)
  have hb' := hb
  unfold RiseP at hb'
  rw [List.map_cons, List.pairwise_cons] at hb'
  have hlb : ∀ h ∈ b, g.p < h.p := fun h hh => hb'.1 h.p (List.mem_map.2 ⟨h, hh, rfl⟩)
  have hka := ka f (List.mem_cons_self ..)
  have hkb := kb g (List.mem_cons_self ..)
  have ka' : KindsOk a := fun h hh => ka h (List.mem_cons_of_mem _ hh)
  have kb' : KindsOk b := fun h hh => kb h (List.mem_cons_of_mem _ hh)
  rcases pth_tri f.p g.p with q | q | q
  · have hl2 : ∀ h ∈ g :: b, f.p < h.p := fun h hh => by
     rcases List.mem_cons.1 hh with rfl | hh
     · exact q
     · exact pth_trans q (hlb h hh)
    rw [rdiff_old f a (g :: b) (.inr ⟨g, b, rfl, q⟩), rdiff_diff a (g :: b) ha'.2 hb ka' kb, diff_cons (a := f :: a) (b := g :: b) (a' := a) (b' := g :: b) (p := f.p) (fun x => by rw [List.map_cons, List.cons_append, List.mem_cons]) (fun r hr => by
     rcases List.mem_append.1 hr with hr | hr
     · obtain ⟨h, hh, rfl⟩ := List.mem_map.1 hr
       exact hla h hh
     · obtain ⟨h, hh, rfl⟩ := List.mem_map.1 hr
       exact hl2 h hh) (fun r hr => getF_cons_ne (Ne.symm hr)) (fun _ _ => rfl), getF_cons_eq, getF_above hl2]
    have e : changeP f zeroF = some ⟨f, zeroF⟩ := by
     unfold changeP
     rw [if_pos]
     left
     show f.k ≠ (0 : Int)
     omega
    rw [e]
    rfl
  · rw [rdiff_two f g a b q, rdiff_diff a b ha'.2 hb'.2 ka' kb', diff_cons (a := f :: a) (b := g :: b) (a' := a) (b' := b) (p := f.p) (fun x => by
     simp only [List.map_cons, List.cons_append, List.mem_cons, List.mem_append]
     rw [← q]
     constructor
     · rintro (h | h | h | h)
       · exact .inl h
       · exact .inr (.inl h)
       · exact .inl h
       · exact .inr (.inr h)
     · rintro (h | h | h)
       · exact .inl h
       · exact .inr (.inl h)
       · exact .inr (.inr (.inr h))) (fun r hr => by
     rcases List.mem_append.1 hr with hr | hr
     · obtain ⟨h, hh, rfl⟩ := List.mem_map.1 hr
       exact hla h hh
     · obtain ⟨h, hh, rfl⟩ := List.mem_map.1 hr
       rw [q]
       exact hlb h hh) (fun r hr => getF_cons_ne (Ne.symm hr)) (fun r hr => getF_cons_ne (by rw [← q]; exact Ne.symm hr)), getF_cons_eq]
    have eg : getF (g :: b) f.p = g := by rw [q]; exact getF_cons_eq g b
    rw [eg]
    congr 1
    unfold changeP
    by_cases e : f = g
    · subst e
      rw [if_pos rfl, if_neg]
      rintro (h | h) <;> exact h rfl
    · rw [if_neg e, if_pos]
      by_cases h1 : f.k = g.k
      · right
        intro h2
        refine e ?_
        obtain ⟨p1, k1, d1⟩ := f
        obtain ⟨p2, k2, d2⟩ := g
        simp only at q h1 h2
        rw [q, h1, h2]
      · exact .inl h1
  · have hl2 : ∀ h ∈ f :: a, g.p < h.p := fun h hh => by
     rcases List.mem_cons.1 hh with rfl | hh
     · exact q
     · exact pth_trans q (hla h hh)
    rw [rdiff_new g (f :: a) b (.inr ⟨f, a, rfl, q⟩), rdiff_diff (f :: a) b ha hb'.2 ka kb', diff_cons (a := f :: a) (b := g :: b) (a' := f :: a) (b' := b) (p := g.p) (fun x => by
     simp only [List.map_cons, List.mem_append, List.mem_cons]
     constructor
     · rintro (h | h | h)
       · exact .inr (.inl h)
       · exact .inl h
       · exact .inr (.inr h)
     · rintro (h | h | h)
       · exact .inr (.inl h)
       · exact .inl h
       · exact .inr (.inr h)) (fun r hr => by
     rcases List.mem_append.1 hr with hr | hr
     · obtain ⟨h, hh, rfl⟩ := List.mem_map.1 hr
       exact hl2 h hh
     · obtain ⟨h, hh, rfl⟩ := List.mem_map.1 hr
       exact hlb h hh) (fun _ _ => rfl) (fun r hr => getF_cons_ne (Ne.symm hr)), getF_cons_eq, getF_above hl2]
    have e : changeP zeroF g = some ⟨zeroF, g⟩ := by
     unfold changeP
     rw [if_pos]
     left
     show (0 : Int) ≠ g.k
     omega
    rw [e]
    rfl
termination_by a b => a.length + b.length
end Go.Proofs.YtbaapjlmpmpocaaGreatDoor
namespace Go.Proofs.YtbaapjlmpmpocaaGreatDoor
def doP : List FileD → List ChangeD → Option (List FileD)
 | [], [] => some []
 | [], c :: x => if c.old.k = 0 then (doP [] x).map (c.new :: ·) else none
 | f :: a, [] => (doP a []).map (f :: ·)
 | f :: a, c :: x => if c.old.k = 0 ∧ c.new.p < f.p then (doP (f :: a) x).map (c.new :: ·) else if c.old.p = f.p then (doP a x).map ((if c.new.k ≠ 0 then [c.new] else []) ++ ·) else (doP a (c :: x)).map (f :: ·)
termination_by a x => a.length + x.length
theorem rdiff_mem : ∀ (a b : List FileD) (c : ChangeD), c ∈ rdiffP a b → c.old ∈ a ∨ c.old = zeroF ∧ c.new ∈ b := by
 intro a b
 induction a, b using rdiffP.induct with
 | case1 b => intro c hc; rw [rdiffP, List.mem_map] at hc; obtain ⟨g, hg, rfl⟩ := hc; exact .inr ⟨rfl, hg⟩
 | case2 f a ih => intro c hc; rw [rdiffP, List.mem_cons] at hc; rcases hc with rfl | hc; · exact .inl (List.mem_cons_self ..)
                   · rcases ih c hc with h | h; · exact .inl (List.mem_cons_of_mem _ h)
                     · exact .inr h
 | case3 f a g b h ih => intro c hc; rw [rdiffP, if_pos h, List.mem_cons] at hc; rcases hc with rfl | hc; · exact .inl (List.mem_cons_self ..)
                         · rcases ih c hc with h | h; · exact .inl (List.mem_cons_of_mem _ h)
                           · exact .inr h
 | case4 f a g b h1 h2 ih => intro c hc; rw [rdiffP, if_neg h1, if_pos h2, List.mem_cons] at hc; rcases hc with rfl | hc; · exact .inr ⟨rfl, List.mem_cons_self ..⟩
                             · rcases ih c hc with h | h; · exact .inl h
                               · exact .inr ⟨h.1, List.mem_cons_of_mem _ h.2⟩
 | case5 a g b h1 h2 ih => 
  intro c hc
  rw [rdiffP, if_neg h1, if_neg h2, if_pos rfl] at hc
  rcases ih c hc with h | h
  · exact .inl (List.mem_cons_of_mem _ h)
  · exact .inr ⟨h.1, List.mem_cons_of_mem _ h.2⟩
 | case6 f a g b h1 h2 h3 ih =>
  intro c hc
  rw [rdiffP, if_neg h1, if_neg h2, if_neg h3, List.mem_cons] at hc
  rcases hc with rfl | hc
  · exact .inl (List.mem_cons_self ..)
  · rcases ih c hc with h | h
    · exact .inl (List.mem_cons_of_mem _ h)
    · exact .inr ⟨h.1, List.mem_cons_of_mem _ h.2⟩
def Plainly (l : List FileD) : Prop := ∀ f ∈ l, f.k ≠ 0 ∧ f.p ≠ []
theorem do_diff : ∀ (a b : List FileD), RiseP (a.map (·.p)) → RiseP (b.map (·.p)) → Plainly a → Plainly b → doP a (rdiffP a b) = some b := by
 intro a b
 induction a, b using rdiffP.induct with
 | case1 b =>
  intro _ _ _ _
  rw [rdiffP]
  rename_i x1 x2 x3 x4
  clear x1 x2 x3 x4
  induction b with
  | nil => rw [List.map_nil, doP]
  | cons g b ih => rw [List.map_cons, doP, if_pos (by rfl), ih]; rfl
 | case2 f a ih =>
  intro ra rb ha hb
  have hf := ha f (List.mem_cons_self ..)
  rw [rdiffP, doP, if_neg (fun q => hf.1 q.1), if_pos rfl, ih (by unfold RiseP at *; rw [List.map_cons, List.pairwise_cons] at ra; exact ra.2) rb (fun f hf => ha f (List.mem_cons_of_mem _ hf)) hb]
  rfl
 | case3 f a g b h ih =>
  intro ra rb ha hb
  have hf := ha f (List.mem_cons_self ..)
  rw [rdiffP, if_pos h, doP, if_neg (fun q => hf.1 q.1), if_pos rfl, ih (by unfold RiseP at *; rw [List.map_cons, List.pairwise_cons] at ra; exact ra.2) rb (fun f hf => ha f (List.mem_cons_of_mem _ hf)) hb]
  rfl
 | case4 f a g b h1 h2 ih =>
  intro ra rb ha hb
  have hf := hb g (List.mem_cons_self ..)
  rw [rdiffP, if_neg h1, if_pos h2, doP, if_pos ⟨rfl, h2⟩, ih ra (by unfold RiseP at *; rw [List.map_cons, List.pairwise_cons] at rb; exact rb.2) ha (fun f hf => hb f (List.mem_cons_of_mem _ hf))]
  rfl
 | case5 a g b h1 h2 ih =>
  intro ra rb ha hb
  have hf := ha g (List.mem_cons_self ..)
  have ra' : RiseP (a.map (·.p)) ∧ ∀ x ∈ a, g.p < x.p := by unfold RiseP at *; rw [List.map_cons, List.pairwise_cons] at ra; exact ⟨ra.2, fun x hx => ra.1 _ (List.mem_map_of_mem hx)⟩
  have rb' : RiseP (b.map (·.p)) ∧ ∀ x ∈ b, g.p < x.p := by unfold RiseP at *; rw [List.map_cons, List.pairwise_cons] at rb; exact ⟨rb.2, fun x hx => rb.1 _ (List.mem_map_of_mem hx)⟩
  have hi := ih ra'.1 rb'.1 (fun f hf => ha f (List.mem_cons_of_mem _ hf)) (fun f hf => hb f (List.mem_cons_of_mem _ hf))
  rw [rdiffP, if_neg h1, if_neg h2, if_pos rfl]
  have hm := rdiff_mem a b
  cases hx : rdiffP a b with
  | nil => rw [hx] at hi; rw [doP, hi]; rfl
  | cons c x =>
   rw [hx] at hi hm
   have q1 : ¬ (c.old.k = 0 ∧ c.new.p < g.p) := by
    rintro ⟨e1, e2⟩
    rcases hm c (List.mem_cons_self ..) with h | h
    · exact (ha _ (List.mem_cons_of_mem _ h)).1 e1
    · exact absurd (rb'.2 _ h.2) (pth_asym e2)
   have q2 : ¬ c.old.p = g.p := by
    intro e
    rcases hm c (List.mem_cons_self ..) with h | h
    · have := ra'.2 _ h; rw [e] at this; exact absurd this (List.lt_irrefl _)
    · rw [h.1] at e; exact hf.2 e.symm
   rw [doP, if_neg q1, if_neg q2, hi]
   rfl
 | case6 f a g b h1 h2 h3 ih =>
  intro ra rb ha hb
  have hf := ha f (List.mem_cons_self ..)
  have hg := hb g (List.mem_cons_self ..)
  rw [rdiffP, if_neg h1, if_neg h2, if_neg h3, doP, if_neg (fun q => hf.1 q.1), if_pos rfl, ih (by unfold RiseP at *; rw [List.map_cons, List.pairwise_cons] at ra; exact ra.2) (by unfold RiseP at *; rw [List.map_cons, List.pairwise_cons] at rb; exact rb.2) (fun f hf => ha f (List.mem_cons_of_mem _ hf)) (fun f hf => hb f (List.mem_cons_of_mem _ hf)), if_pos hg.1]
  rfl
theorem do_diffT {a b : List FileD} (ha : RiseP (a.map (·.p))) (hb : RiseP (b.map (·.p))) (ka : KindsOk a) (kb : KindsOk b) (pa : Plainly a) (pb : Plainly b) : doP a (diffT a b) = some b := by
 rw [← rdiff_diff a b ha hb ka kb]
 exact do_diff a b ha hb pa pb
end Go.Proofs.YtbaapjlmpmpocaaGreatDoor
