/- Plain: how many things stand at a path and below it. No statement of the seat is proved here. -/
import Derived.Test.YtbaapjlmpmpocaaGreatDoorDT28
import Derived.Test.YtbaapjlmpmpocaaGreatDoorDT17
import Derived.Test.YtbaapjlmpmpocaaGreatDoorDT16
import Derived.Test.YtbaapjlmpmpocaaGreatDoorDT15
import Derived.Test.YtbaapjlmpmpocaaGreatDoorDTVl
import Derived.Test.YtbaapjlmpmpocaaGreatDoorDT19
namespace Go.Proofs.YtbaapjlmpmpocaaGreatDoor
open Go.Sort
theorem Ord.lex {α : Type} {l1 l2 : α → α → Bool} (H1 : Ord l1) (H2 : Ord l2) : Ord (fun a b => l1 a b || (!l1 b a && l2 a b)) where
 asym x y h := by
  simp only [Bool.or_eq_true, Bool.and_eq_true, Bool.not_eq_true'] at h
  rcases h with h | ⟨h1, h2⟩
  · simp [h, H1.asym _ _ h]
  · simp [h1, H2.asym _ _ h2]
 ntr x y z h k := by
  simp only [Bool.or_eq_false_iff, Bool.and_eq_false_iff, Bool.not_eq_false'] at h k ⊢
  obtain ⟨h1, h2⟩ := h
  obtain ⟨k1, k2⟩ := k
  have c1 := H1.ntr _ _ _ h1 k1
  refine ⟨c1, ?_⟩
  cases q : l1 x z with
  | true => exact .inl rfl
  | false =>
   have a1 := H1.ntr _ _ _ k1 q
   have a2 := H1.ntr _ _ _ q h1
   rw [a1] at h2
   rw [a2] at k2
   simp only [Bool.false_eq_true, false_or] at h2 k2
   exact .inr (H2.ntr _ _ _ h2 k2)
theorem Ord.swo {α : Type} {lt : α → α → Bool} (H : Ord lt) : SWO lt where
 irrefl x := by
  cases h : lt x x with
  | false => rfl
  | true => rw [H.asym _ _ h] at h; cases h
 trans x y z h k := by
  cases q : lt x z with
  | true => rfl
  | false =>
   have := H.ntr _ _ _ (H.asym _ _ k) q
   rw [this] at h
   cases h
 ntrans x y z h k := H.ntr _ _ _ k h
theorem num_ord {α : Type} (f : α → Nat) : Ord (fun a b : α => decide (f a < f b)) where
 asym x y h := by simp only [decide_eq_true_eq, decide_eq_false_iff_not] at *; omega
 ntr x y z h k := by simp only [decide_eq_false_iff_not] at *; omega
theorem num_ord' {α : Type} (f : α → Nat) : Ord (fun a b : α => decide (f b < f a)) where
 asym x y h := by simp only [decide_eq_true_eq, decide_eq_false_iff_not] at *; omega
 ntr x y z h k := by simp only [decide_eq_false_iff_not] at *; omega
theorem lexN (x y : Nat) (r : Bool) : (decide (x < y) || (x == y && r)) = (decide (x < y) || (!decide (y < x) && r)) := by
 rcases Nat.lt_trichotomy x y with h | h | h
 · simp [h]
 · subst h; simp
 · have e : (x == y) = false := by rw [beq_eq_false_iff_ne]; omega
   rw [e]; simp [h]
theorem lexS (x y : Pth) (r : Bool) : (decide (x < y) || (x == y && r)) = (decide (x < y) || (!decide (y < x) && r)) := by
 rcases pth_tri x y with h | h | h
 · simp only [h, decide_true, Bool.true_or]
 · subst h; rw [decide_eq_false (List.lt_irrefl x)]; simp
 · have e : (x == y) = false := by rw [beq_eq_false_iff_ne]; intro q; subst q; exact List.lt_irrefl _ h
   rw [e, decide_eq_true h]; simp
theorem ahead_lex (a b : LikD) : aheadP a b = (decide (b.sc < a.sc) || (!decide (a.sc < b.sc) && (decide (a.near < b.near) || (!decide (b.near < a.near) && (decide (a.old < b.old) || (!decide (b.old < a.old) && decide (a.new < b.new))))))) := by
 unfold aheadP
 rw [show (a.sc == b.sc) = (b.sc == a.sc) from Bool.beq_comm, lexS, lexN, lexN]
theorem ahead_ord : Ord aheadP := by
 have : aheadP = fun a b : LikD => decide (b.sc < a.sc) || (!decide (a.sc < b.sc) && (decide (a.near < b.near) || (!decide (b.near < a.near) && (decide (a.old < b.old) || (!decide (b.old < a.old) && decide (a.new < b.new)))))) := by
  funext a b; exact ahead_lex a b
 rw [this]
 exact (num_ord' (fun x : LikD => x.sc)).lex ((num_ord (fun x : LikD => x.near)).lex ((pth_ord (fun x : LikD => x.old)).lex (pth_ord (fun x : LikD => x.new))))
theorem ahead_one {a b : LikD} (h : aheadP a b = false) (k : aheadP b a = false) : a = b := by
 rw [ahead_lex] at h k
 simp only [Bool.or_eq_false_iff, Bool.and_eq_false_iff, Bool.not_eq_false', decide_eq_false_iff_not, decide_eq_true_eq] at h k
 obtain ⟨h1, h2⟩ := h
 obtain ⟨k1, k2⟩ := k
 rcases h2 with h2 | ⟨h2, h3⟩
 · exact absurd h2 k1
 rcases k2 with k2 | ⟨k2, k3⟩
 · exact absurd k2 h1
 rcases h3 with h3 | ⟨h3, h4⟩
 · exact absurd h3 k2
 rcases k3 with k3 | ⟨k3, k4⟩
 · exact absurd k3 h2
 rcases h4 with h4 | h4
 · exact absurd h4 k3
 rcases k4 with k4 | k4
 · exact absurd k4 h3
 obtain ⟨o1, n1, s1, m1⟩ := a
 obtain ⟨o2, n2, s2, m2⟩ := b
 simp only at h1 k1 h2 k2 h3 k3 h4 k4
 rw [pth_eq h3 k3, pth_eq h4 k4, show s1 = s2 by omega, show m1 = m2 by omega]
theorem orP_lt (x : Int) (l : List Int) : decide (orP (x :: l) < 0) = (decide (x < 0) || (x == 0 && decide (orP l < 0))) := by
 rw [show orP (x :: l) = if x = 0 then orP l else x from rfl]
 by_cases h : x = 0
 · subst h; simp
 · rw [if_neg h, show (x == 0) = false from by simpa using h]; simp
theorem cmpI_lt (a b : Nat) : decide (Lib.compareInt (a : Int) (b : Int) < 0) = decide (a < b) := by
 unfold Lib.compareInt
 rw [Bool.eq_iff_iff, decide_eq_true_eq, decide_eq_true_eq]
 split <;> first | omega | (split <;> omega)
theorem cmpI_zero (a b : Nat) : (Lib.compareInt (a : Int) (b : Int) == 0) = (a == b) := by
 unfold Lib.compareInt
 rw [Bool.eq_iff_iff, beq_iff_eq, beq_iff_eq]
 split <;> first | omega | (split <;> omega)
theorem cmpS_lt (a b : Pth) : decide (cmpS a b < 0) = decide (a < b) := by
 unfold cmpS
 rw [Bool.eq_iff_iff, decide_eq_true_eq, decide_eq_true_eq]
 rcases pth_tri a b with q | q | q
 · simp [q]
 · subst q; simp [List.lt_irrefl]
 · rw [if_neg (pth_asym q), if_pos q]; constructor
   · intro h; omega
   · intro h; exact absurd h (pth_asym q)
theorem cmpS_zero (a b : Pth) : (cmpS a b == 0) = (a == b) := by
 unfold cmpS
 rw [Bool.eq_iff_iff, beq_iff_eq, beq_iff_eq]
 rcases pth_tri a b with q | q | q
 · rw [if_pos q]; constructor
   · intro h; omega
   · intro h; subst h; exact absurd q (List.lt_irrefl _)
 · subst q; simp [List.lt_irrefl]
 · rw [if_neg (pth_asym q), if_pos q]; constructor
   · intro h; omega
   · intro h; subst h; exact absurd q (List.lt_irrefl _)
theorem ltOf_lik : ltOf cmpL = aheadP := by
 funext a b
 show decide (cmpL a b < 0) = _
 unfold cmpL aheadP
 rw [orP_lt, orP_lt, orP_lt, orP_lt, cmpI_lt, cmpI_zero, cmpI_lt, cmpI_zero, cmpS_lt, cmpS_zero, cmpS_lt, Bool.beq_comm (a := a.sc)]
 simp [orP]
theorem ltOf_old : ltOf (fun x y : PairD => cmpS x.old y.old) = fun a b => decide (a.old < b.old) := by
 funext a b
 exact cmpS_lt _ _
theorem ltOf_path : ltOf (fun x y : FileD => cmpS x.p y.p) = fun a b => decide (a.p < b.p) := by
 funext a b
 exact cmpS_lt _ _
theorem lik_sorted {l m : List LikD} (hp : m.Perm l) (hs : m.Pairwise fun a b => ltOf cmpL b a = false) : m = sortBy aheadP l := by
 rw [ltOf_lik] at hs
 exact sorted_unique (hp.trans (sortBy_perm l).symm) hs (sortBy_sorted ahead_ord l) fun x _ y _ h k => ahead_one h k
theorem nodup_inj {α β : Type} {f : α → β} : ∀ {l : List α}, (l.map f).Nodup → ∀ x ∈ l, ∀ y ∈ l, f x = f y → x = y
 | [], _, x, hx, _, _, _ => by cases hx
 | a :: l, h, x, hx, y, hy, e => by
  rw [List.map_cons, List.nodup_cons] at h
  rcases List.mem_cons.1 hx with h1 | h1
  · rcases List.mem_cons.1 hy with h2 | h2
    · rw [h1, h2]
    · exact absurd (List.mem_map.2 ⟨y, h2, by rw [← e, h1]⟩) h.1
  · rcases List.mem_cons.1 hy with h2 | h2
    · exact absurd (List.mem_map.2 ⟨x, h1, by rw [e, h2]⟩) h.1
    · exact nodup_inj h.2 x h1 y h2 e
theorem pair_sorted {l m : List PairD} (hp : m.Perm l) (hs : m.Pairwise fun a b => ltOf (fun x y : PairD => cmpS x.old y.old) b a = false) (hd : (l.map (·.old)).Nodup) : m = sortBy (fun a b => decide (a.old < b.old)) l := by
 rw [ltOf_old] at hs
 refine sorted_unique (hp.trans (sortBy_perm l).symm) hs (sortBy_sorted (pth_ord _) l) fun x hx y hy h k => ?_
 simp only [decide_eq_false_iff_not] at h k
 exact nodup_inj hd x (hp.mem_iff.1 hx) y (hp.mem_iff.1 hy) (pth_eq h k)
def likS (f g : FileD) : Option LikD := if 50 ≤ scoreP f.d g.d then some ⟨f.p, g.p, scoreP f.d g.d, nearP f.p g.p⟩ else none
theorem likelyP_eq (gone come : List FileD) : likelyP gone come = if gone.length ≤ 100 ∧ come.length ≤ 100 then gone.flatMap fun f => come.filterMap (likS f) else [] := rfl
def SetM (f : Mp) (a : List Pth) : Prop := ∀ s, (f s).getD (.int .i64 0) = .int .i64 (if s ∈ a then 1 else 0)
theorem SetM.nil_ : SetM mpNil [] := fun _ => rfl
theorem SetM.put {f : Mp} {a : List Pth} (h : SetM f a) (s : Pth) : SetM (mput f s (.int .i64 1)) (s :: a) := by
 intro t
 unfold mput
 by_cases e : t = s
 · subst e
   simp
 · rw [if_neg e, h]
   have : (t ∈ s :: a) ↔ t ∈ a := by rw [List.mem_cons]; exact ⟨fun q => q.resolve_left e, .inr⟩
   by_cases q : t ∈ a
   · rw [if_pos q, if_pos (this.2 q)]
   · rw [if_neg q, if_neg (fun r => q (this.1 r))]
theorem greedyP_step (x : LikD) (l : List LikD) (a b : List Pth) : greedyP (x :: l) a b = if x.old ∈ a ∨ x.new ∈ b then greedyP l a b else ⟨x.old, x.new, x.sc⟩ :: greedyP l (x.old :: a) (x.new :: b) := rfl
end Go.Proofs.YtbaapjlmpmpocaaGreatDoor
namespace Go.Proofs.YtbaapjlmpmpocaaGreatDoor
open Go.RowKit Go.Maps
abbrev FT : Type := FileD × (Option Addr × Nat)
def ftL (x : FT) : List Value := [strC x.1.p, .int .i64 x.1.k, .slice x.2.1 x.1.d.length x.2.2]
theorem ftL_one (x : FT) : ∀ v ∈ ftL x, v.oneCell' = true := by
 intro v hv
 simp only [ftL, strC, List.mem_cons, List.not_mem_nil, or_false] at hv
 rcases hv with rfl | rfl | rfl <;> rfl
def DataK (w : World) (z : Nat) (x : FT) : Prop := x.1.d.length ≤ x.2.2 ∧ x.2.2 ≤ maxLen ∧ (Reads w z 1 x.2.1 x.1.d.length (x.1.d.map byteV) ∨ OwnB w z x.2.1 x.2.2 x.1.d)
def FM (w : World) (z : Nat) (A : Option Addr) (c : Nat) (fs : List FileD) : Prop := ∃ ds : List FT, ds.map (·.1) = fs ∧ Own w z 27 3 A fs.length c (ds.flatMap ftL) ∧ ∀ x ∈ ds, DataK w z x
def NoRow (w : World) (G : List Nat) (e : TypeId) : Prop := ∀ g ∈ G, ∀ cs fz, w.heap[g]? ≠ some (.cells cs e fz)
section
variable {w w' : World} {z b mb cb : Nat} {A : Option Addr} {c : Nat} {fs : List FileD} {E : List TypeId} {G : List Nat}
theorem Own.frm {base : Nat} {e : TypeId} {size n : Nat} {xs : List Value} (h : Own w base e size A n c xs) (hk : Kept b E G w w') (he : e ∉ E) (hG : NoRow w G e) : Own w' base e size A n c xs :=
 h.same fun k _ hlt ⟨cs, hc⟩ => hk.block k hlt fun q => by
  rcases q with q | ⟨_, e', he', cs', fz, hc'⟩
  · exact hG k q _ _ hc
  · rw [hc] at hc'
    injection hc' with hc'
    injection hc' with _ hc'
    subst hc'
    exact he he'
theorem DataK.frm {x : FT} (h : DataK w z x) (hk : Kept z E G w w') (hz : z ≤ w.heap.size) (hg : ∀ g ∈ G, z ≤ g) (he : 5 ∉ E) (hG : NoRow w G 5) : DataK w' z x := by
 obtain ⟨h1, h2, h3⟩ := h
 refine ⟨h1, h2, ?_⟩
 rcases h3 with h3 | h3
 · exact .inl (h3.below (hk.below (Nat.le_refl _) hz hg))
 · exact .inr (Own.frm h3 hk he hG)
theorem DataK.keepB {x : FT} (h : DataK w z x) (hb : Below w.heap.size w w') (hz : z ≤ w.heap.size) : DataK w' z x :=
 h.frm (E := []) (G := []) (Kept.ofBelow hb) hz (by simp) (by simp) (by intro g hg; cases hg)
theorem DataK.reads {x : FT} (h : DataK w z x) (hz : z ≤ w.heap.size) : DataR w w.heap.size x.1 (.slice x.2.1 x.1.d.length x.2.2) := by
 obtain ⟨h1, h2, h3⟩ := h
 refine ⟨_, _, rfl, h1, h2, ?_⟩
 rcases h3 with h3 | h3
 · exact h3.more hz
 · exact Own.reads h3
theorem DataK.of_reads {x : FileD} {D : Option Addr} {d : Nat} (h : DataR w z x (.slice D x.d.length d)) : DataK w z (x, (D, d)) := by
 obtain ⟨A, c, e, h1, h2, h3⟩ := h
 injection e with e1 _ e2
 subst e1 e2
 exact ⟨h1, h2, .inl h3⟩
theorem FM.nil_ (w : World) (z : Nat) : FM w z none 0 [] := ⟨[], rfl, Own.nil _ _ _ _, fun _ h => by cases h⟩
theorem FM.frm (h : FM w z A c fs) (hk : Kept z E G w w') (hz : z ≤ w.heap.size) (hg : ∀ g ∈ G, z ≤ g) (he : 5 ∉ E) (hG : NoRow w G 5) (he' : 27 ∉ E) (hG' : NoRow w G 27) : FM w' z A c fs := by
 obtain ⟨ds, h1, h2, h3⟩ := h
 exact ⟨ds, h1, h2.frm hk he' hG', fun x hx => (h3 x hx).frm hk hz hg he hG⟩
theorem FM.keepB (h : FM w z A c fs) (hb : Below w.heap.size w w') (hz : z ≤ w.heap.size) : FM w' z A c fs :=
 h.frm (E := []) (G := []) (Kept.ofBelow hb) hz (by simp) (by simp) (by intro g hg; cases hg) (by simp) (by intro g hg; cases hg)
theorem ftL_len (ds : List FT) : (ds.flatMap ftL).length = ds.length * 3 := flatn_len (f := ftL) (C := 3) (fun _ => rfl) ds
theorem FM.fi (h : FM w z A c fs) (hz : z ≤ w.heap.size) : FI w w.heap.size A fs := by
 obtain ⟨ds, h1, h2, h3⟩ := h
 have hl : ds.length = fs.length := by rw [← h1, List.length_map]
 refine ⟨ds.map fun x => .slice x.2.1 x.1.d.length x.2.2, by rw [List.length_map, hl], ?_, fun k x y e1 e2 => ?_⟩
 · have : filesL fs (ds.map fun x => .slice x.2.1 x.1.d.length x.2.2) = ds.flatMap ftL := by
    rw [← h1]
    clear h1 h2 h3 hl
    induction ds with
    | nil => rfl
    | cons x ds ih => simp only [List.map_cons, filesL, List.zip_cons_cons, List.flatMap_cons] at ih ⊢; rw [ih]; rfl
   rw [this]
   exact h2.reads
 · rw [List.getElem?_map, Option.map_eq_some_iff] at e2
   obtain ⟨v, hv, rfl⟩ := e2
   rw [← h1, List.getElem?_map, hv] at e1
   injection e1 with e1
   subst e1
   exact (h3 v (List.mem_of_getElem? hv)).reads hz
theorem FM.snoc {A' : Option Addr} {c' : Nat} {ds : List FT} {x : FT} (h1 : ds.map (·.1) = fs) (h3 : ∀ x ∈ ds, DataK w' z x) (hx : DataK w' z x) (ho : Own w' z 27 3 A' (fs.length + 1) c' (ds.flatMap ftL ++ ftL x)) : FM w' z A' c' (fs ++ [x.1]) := by
 refine ⟨ds ++ [x], by rw [List.map_append, h1]; rfl, by rw [List.length_append, List.flatMap_append]; simpa using ho, fun y hy => ?_⟩
 rcases List.mem_append.1 hy with q | q
 · exact h3 y q
 · rw [List.mem_singleton] at q
   subst q
   exact hx
end
abbrev Frm (z mb cb : Nat) (w w' : World) : Prop := Kept z [27] [mb, cb] w w'
section
variable {w w' : World} {z mb so st cb : Nat} {A : Option Addr} {c n : Nat} {f : Mc} {s : MSt}
end
end Go.Proofs.YtbaapjlmpmpocaaGreatDoor
namespace Go.Proofs.YtbaapjlmpmpocaaGreatDoor
def one (a b : Pth) : Int := if a = b then 1 else 0
end Go.Proofs.YtbaapjlmpmpocaaGreatDoor
