/- The rows of the reference's Detect in memory. No statement of the seat is proved here. -/
import Derived.Test.YteeeehfnldkjlaaGreatDoorTC41
import Derived.Test.YteeeehfnldkjlaaGreatDoorTCIh
namespace Go.Proofs.YteeeehfnldkjlaaGreatDoor
def newIn (P : List PairD) (g : FileD) : Bool := P.any (fun x => x.new == g.p)
def idxF (cs : List FileD) (p : Pth) : Nat := cs.findIdx (fun g => g.p == p)
def toN (cs : List FileD) (P : List PairD) (f : FileD) : Nat := match pairOf P f with
 | none => 0
 | some x => idxF cs x.new + 1
def scN (P : List PairD) (f : FileD) : Nat := match pairOf P f with
 | none => 0
 | some x => x.sc
def toL (gs cs : List FileD) (P : List PairD) : List Nat := gs.map (toN cs P)
def scL (gs : List FileD) (P : List PairD) : List Nat := gs.map (scN P)
def usL (cs : List FileD) (P : List PairD) : List Bool := cs.map (newIn P)
theorem apt_at {l : List FileD} (h : Apt l) {i j : Nat} {f g : FileD} (hi : l[i]? = some f) (hj : l[j]? = some g) (e : f.p = g.p) : i = j := by
 obtain ⟨a, ea⟩ := List.getElem?_eq_some_iff.1 hi
 obtain ⟨b, eb⟩ := List.getElem?_eq_some_iff.1 hj
 have hp := List.pairwise_iff_getElem.1 (List.pairwise_map.1 (List.nodup_iff_pairwise_ne.1 h))
 rcases Nat.lt_trichotomy i j with q | q | q
 · exact absurd (by rw [ea, eb]; exact e) (hp i j a b q)
 · exact q
 · exact absurd (by rw [ea, eb]; exact e.symm) (hp j i b a q)
theorem idx_at {cs : List FileD} (h : Apt cs) {k : Nat} {g : FileD} (hk : cs[k]? = some g) : idxF cs g.p = k := by
 unfold idxF
 have hlt := (List.getElem?_eq_some_iff.1 hk).1
 have h1 : cs.findIdx (fun x => x.p == g.p) < cs.length := List.findIdx_lt_length_of_exists ⟨g, List.mem_of_getElem? hk, by simp⟩
 have h2 := List.findIdx_getElem (p := fun x : FileD => x.p == g.p) (w := h1)
 exact apt_at h (List.getElem?_eq_getElem h1) hk (beq_iff_eq.1 h2)
theorem pairOf_snoc (P : List PairD) (x : PairD) (f : FileD) : pairOf (P ++ [x]) f = match pairOf P f with | some y => some y | none => if x.old = f.p then some x else none := by
 unfold pairOf
 rw [List.find?_append]
 cases P.find? (fun y => y.old == f.p) with
 | some y => rfl
 | none =>
  rw [Option.none_or]
  by_cases h : x.old = f.p
  · rw [List.find?_cons_of_pos (by simpa using h), if_pos h]
  · rw [List.find?_cons_of_neg (by simpa using h), if_neg h]; rfl
theorem map_set {α β : Type} {F G : α → β} {l : List α} {i : Nat} {a : α} {u : β} (hi : l[i]? = some a) (hu : G a = u) (ho : ∀ j b, j ≠ i → l[j]? = some b → G b = F b) : l.map G = (l.map F).set i u := by
 refine List.ext_getElem? fun j => ?_
 rw [List.getElem?_set, List.getElem?_map, List.getElem?_map]
 by_cases q : i = j
 · subst q
   rw [if_pos rfl, hi, List.length_map, if_pos (List.getElem?_eq_some_iff.1 hi).1, Option.map_some, hu]
 · rw [if_neg q]
   cases h : l[j]? with
   | none => rfl
   | some b => rw [Option.map_some, Option.map_some, ho j b (fun e => q e.symm) h]
section
variable {gs cs : List FileD} {P : List PairD} {i k s : Nat} {f g : FileD}
theorem toL_snoc (hg : Apt gs) (hc : Apt cs) (hi : gs[i]? = some f) (hk : cs[k]? = some g) (hn : pairOf P f = none) : toL gs cs (P ++ [⟨f.p, g.p, s⟩]) = (toL gs cs P).set i (k + 1) := by
 refine map_set hi ?_ fun j b hj hb => ?_
 · unfold toN
   rw [pairOf_snoc, hn]
   simp only [if_true]
   rw [idx_at hc hk]
 · unfold toN
   rw [pairOf_snoc]
   have : ¬ f.p = b.p := fun e => hj (apt_at hg hb hi e.symm)
   cases pairOf P b with
   | some y => rfl
   | none => simp only; rw [if_neg this]
theorem scL_snoc (hg : Apt gs) (hi : gs[i]? = some f) (hn : pairOf P f = none) (q : Pth) : scL gs (P ++ [⟨f.p, q, s⟩]) = (scL gs P).set i s := by
 refine map_set hi ?_ fun j b hj hb => ?_
 · unfold scN
   rw [pairOf_snoc, hn]
   simp only [if_true]
 · unfold scN
   rw [pairOf_snoc]
   have : ¬ f.p = b.p := fun e => hj (apt_at hg hb hi e.symm)
   cases pairOf P b with
   | some y => rfl
   | none => simp only; rw [if_neg this]
theorem usL_snoc (hc : Apt cs) (hk : cs[k]? = some g) (q : Pth) : usL cs (P ++ [⟨q, g.p, s⟩]) = (usL cs P).set k true := by
 refine map_set hk ?_ fun j b hj hb => ?_
 · unfold newIn
   simp
 · unfold newIn
   have : ¬ g.p = b.p := fun e => hj (apt_at hc hb hk e.symm)
   rw [List.any_append]
   simp [this]
end
theorem map_all {α β : Type} (u : β) : ∀ l : List α, l.map (fun _ => u) = List.replicate l.length u
 | [] => rfl
 | a :: l => by rw [List.map_cons, map_all u l, List.length_cons, List.replicate_succ]
theorem toL_nil (gs cs : List FileD) : toL gs cs [] = List.replicate gs.length 0 := by
 exact map_all 0 gs
theorem scL_nil (gs : List FileD) : scL gs [] = List.replicate gs.length 0 := by
 exact map_all 0 gs
theorem usL_nil (cs : List FileD) : usL cs [] = List.replicate cs.length false := by
 exact map_all false cs
theorem pairOf_none {P : List PairD} {f : FileD} : pairOf P f = none ↔ ∀ x ∈ P, x.old ≠ f.p := by
 unfold pairOf
 rw [List.find?_eq_none]
 simp
theorem leftG_eq (gs : List FileD) (P : List PairD) : leftG gs P = gs.filter fun f => (pairOf P f).isNone := by
 unfold leftG
 refine List.filter_congr fun f _ => ?_
 rw [Bool.eq_iff_iff, Bool.not_eq_true', Option.isNone_iff_eq_none, pairOf_none, List.any_eq_false]
 simp
theorem leftC_eq (cs : List FileD) (P : List PairD) : leftC cs P = cs.filter fun g => !newIn P g := rfl
theorem bestP_snoc (f g : FileD) : ∀ (l : List FileD) (j : Nat) (b : Option (Nat × FileD)), bestP f (l ++ [g]) j b = if f.d = g.d ∧ betterP f g (bestP f l j b) = true then some (j + l.length, g) else bestP f l j b
 | [], j, b => by
  rw [List.nil_append, bestP, bestP, bestP]
  rfl
 | x :: l, j, b => by
  rw [List.cons_append, bestP, bestP_snoc f g l, bestP, List.length_cons]
  rw [show j + 1 + l.length = j + (l.length + 1) by omega]
def rbS (f : FileD) (cs : List FileD) (P : List PairD) : Nat → Option Nat
 | 0 => none
 | k + 1 => match cs[k]? with
  | none => rbS f cs P k
  | some g => if newIn P g = false ∧ f.d = g.d ∧ (match rbS f cs P k with | none => true | some b => decide (nearP f.p g.p < nearP f.p (cs.getD b zeroF).p)) = true then some k else rbS f cs P k
theorem rbS_lt {f : FileD} {cs : List FileD} {P : List PairD} : ∀ {k b : Nat}, rbS f cs P k = some b → b < k ∧ b < cs.length
 | 0, _, h => by cases h
 | k + 1, b, h => by
  unfold rbS at h
  split at h
  · have := rbS_lt h; omega
  · rename_i g hg
    have hlt := (List.getElem?_eq_some_iff.1 hg).1
    by_cases hc : newIn P g = false ∧ f.d = g.d ∧ (match rbS f cs P k with | none => true | some b => decide (nearP f.p g.p < nearP f.p (cs.getD b zeroF).p)) = true
    · rw [if_pos hc] at h
      injection h with h
      omega
    · rw [if_neg hc] at h
      have := rbS_lt h
      omega
theorem rbS_best (f : FileD) (cs : List FileD) (P : List PairD) : ∀ k, (bestP f (leftC (cs.take k) P) 0 none).map (·.2) = (rbS f cs P k).bind (fun b => cs[b]?)
 | 0 => by
  rw [List.take_zero]
  rfl
 | k + 1 => by
  have ih := rbS_best f cs P k
  rw [rbS, List.take_add_one]
  cases hg : cs[k]? with
  | none =>
   simp only
   rw [Option.toList_none, List.append_nil]
   exact ih
  | some g =>
   simp only
   rw [Option.toList_some, leftC_eq, List.filter_append, ← leftC_eq]
   by_cases hu : newIn P g = true
   · have : [g].filter (fun g => !newIn P g) = [] := by simp [hu]
     rw [this, List.append_nil, if_neg (by rw [hu]; simp)]
     exact ih
   · have hu : newIn P g = false := by simpa using hu
     have : [g].filter (fun g => !newIn P g) = [g] := by simp [hu]
     rw [this, bestP_snoc]
     have hb : betterP f g (bestP f (leftC (cs.take k) P) 0 none) = (match rbS f cs P k with | none => true | some b => decide (nearP f.p g.p < nearP f.p (cs.getD b zeroF).p)) := by
      cases hr : rbS f cs P k with
      | none =>
       rw [hr] at ih
       have : bestP f (leftC (cs.take k) P) 0 none = none := by simpa using ih
       rw [this]
       rfl
      | some b =>
       rw [hr] at ih
       obtain ⟨_, hlt⟩ := rbS_lt hr
       have e : cs[b]? = some (cs.getD b zeroF) := by
        rw [List.getD_eq_getElem?_getD, List.getElem?_eq_getElem hlt]; rfl
       simp only [Option.bind_some] at ih
       rw [e] at ih
       obtain ⟨y, hy, e2⟩ := Option.map_eq_some_iff.1 ih
       rw [hy]
       show decide (nearP f.p g.p < nearP f.p y.2.p) = _
       rw [e2]
     rw [hb]
     by_cases hc : f.d = g.d ∧ (match rbS f cs P k with | none => true | some b => decide (nearP f.p g.p < nearP f.p (cs.getD b zeroF).p)) = true
     · rw [if_pos hc, if_pos ⟨hu, hc⟩]
       simp [hg]
     · rw [if_neg hc, if_neg (fun q => hc q.2)]
       exact ih
theorem ex_step (f : FileD) (cs : List FileD) (P : List PairD) : exStep cs P f = match rbS f cs P cs.length with
    | none => P
    | some b => P ++ [⟨f.p, (cs.getD b zeroF).p, 100⟩] := by
 have h := rbS_best f cs P cs.length
 rw [List.take_length] at h
 cases hr : rbS f cs P cs.length with
 | none =>
  rw [hr] at h
  exact exStep_none (by simpa using h)
 | some b =>
  rw [hr] at h
  obtain ⟨_, hlt⟩ := rbS_lt hr
  have e : cs[b]? = some (cs.getD b zeroF) := by
   rw [List.getD_eq_getElem?_getD, List.getElem?_eq_getElem hlt]; rfl
  simp only [Option.bind_some] at h
  rw [e] at h
  obtain ⟨y, hy, e2⟩ := Option.map_eq_some_iff.1 h
  rw [exStep_some hy, e2]
end Go.Proofs.YteeeehfnldkjlaaGreatDoor
namespace Go.Proofs.YteeeehfnldkjlaaGreatDoor
def likR (f g : FileD) : Option LikD := if 50 ≤ scoreP f.d g.d then some ⟨f.p, g.p, scoreP f.d g.d, nearP f.p g.p⟩ else none
theorem likL2_eq (G C : List FileD) : likL2 G C = G.flatMap fun f => C.filterMap (likR f) := rfl
def rowS (cs : List FileD) (P : List PairD) (f : FileD) (k : Nat) : List LikD := if pairOf P f = none then (leftC (cs.take k) P).filterMap (likR f) else []
def scanS (gs cs : List FileD) (P : List PairD) (i : Nat) : List LikD := likL2 (leftG (gs.take i) P) (leftC cs P)
def candS (gs cs : List FileD) (P : List PairD) (i : Nat) (f : FileD) (k : Nat) : Option LikD := firstL (scanS gs cs P i ++ rowS cs P f k) none
section
variable {gs cs : List FileD} {P : List PairD} {i k : Nat} {f g : FileD}
theorem rowS_zero : rowS cs P f 0 = [] := by
 unfold rowS
 rw [List.take_zero]
 split <;> rfl
theorem rowS_skip (hk : cs[k]? = some g) (h : pairOf P f ≠ none ∨ newIn P g = true) : rowS cs P f (k + 1) = rowS cs P f k := by
 unfold rowS
 by_cases hf : pairOf P f = none
 · rcases h with h | h
   · exact absurd hf h
   · rw [if_pos hf, if_pos hf, List.take_add_one, hk, Option.toList_some, leftC_eq, List.filter_append, ← leftC_eq]
     have : [g].filter (fun g => !newIn P g) = [] := by simp [h]
     rw [this, List.append_nil]
 · rw [if_neg hf, if_neg hf]
theorem rowS_step (hk : cs[k]? = some g) (hf : pairOf P f = none) (hg : newIn P g = false) : rowS cs P f (k + 1) = rowS cs P f k ++ (likR f g).toList := by
 unfold rowS
 rw [if_pos hf, if_pos hf, List.take_add_one, hk, Option.toList_some, leftC_eq, List.filter_append, ← leftC_eq, List.filterMap_append]
 have : [g].filter (fun g => !newIn P g) = [g] := by simp [hg]
 rw [this, List.filterMap_cons, List.filterMap_nil]
 cases likR f g <;> rfl
theorem scanS_next (hi : gs[i]? = some f) : scanS gs cs P (i + 1) = scanS gs cs P i ++ rowS cs P f cs.length := by
 unfold scanS rowS
 rw [List.take_add_one, hi, Option.toList_some, leftG_eq, List.filter_append, ← leftG_eq, likL2_eq, likL2_eq, List.flatMap_append, List.take_length]
 congr 1
 cases h : pairOf P f with
 | none =>
  have : [f].filter (fun f => (pairOf P f).isNone) = [f] := by simp [h]
  rw [this, if_pos rfl, List.flatMap_cons, List.flatMap_nil, List.append_nil]
 | some x =>
  have : [f].filter (fun f => (pairOf P f).isNone) = [] := by simp [h]
  rw [this, if_neg (by simp), List.flatMap_nil]
theorem scanS_all : scanS gs cs P gs.length = likL2 (leftG gs P) (leftC cs P) := by
 unfold scanS
 rw [List.take_length]
theorem firstL_app (l m : List LikD) (b : Option LikD) : firstL (l ++ m) b = firstL m (firstL l b) := List.foldl_append
theorem candS_start : candS gs cs P i f 0 = firstL (scanS gs cs P i) none := by
 unfold candS
 rw [rowS_zero, List.append_nil]
theorem candS_skip (hk : cs[k]? = some g) (h : pairOf P f ≠ none ∨ newIn P g = true) : candS gs cs P i f (k + 1) = candS gs cs P i f k := by
 unfold candS
 rw [rowS_skip hk h]
theorem candS_low (hk : cs[k]? = some g) (h : ¬ 50 ≤ scoreP f.d g.d) : candS gs cs P i f (k + 1) = candS gs cs P i f k := by
 by_cases hf : pairOf P f = none
 · cases hg : newIn P g with
   | true => exact candS_skip hk (.inr hg)
   | false =>
    unfold candS
    rw [rowS_step hk hf hg]
    unfold likR
    rw [if_neg h, Option.toList_none, List.append_nil]
 · exact candS_skip hk (.inl hf)
theorem candS_step (hk : cs[k]? = some g) (hf : pairOf P f = none) (hg : newIn P g = false) (h : 50 ≤ scoreP f.d g.d) : candS gs cs P i f (k + 1) = firstS (candS gs cs P i f k) (likOf ⟨f.p, g.p, scoreP f.d g.d⟩) := by
 unfold candS
 rw [rowS_step hk hf hg]
 unfold likR
 rw [if_pos h, Option.toList_some, ← List.append_assoc, firstL_app _ [_]]
 rfl
theorem candS_end (hi : gs[i]? = some f) : firstL (scanS gs cs P (i + 1)) none = candS gs cs P i f cs.length := by
 unfold candS
 rw [scanS_next hi]
end
def CandAt (gs cs : List FileD) (P : List PairD) (b : Option LikD) (x y : Int) (p : PairD) : Prop := match b with
 | none => x = -1 ∧ y = -1
 | some z => z = likOf p ∧ ∃ (i k : Nat) (f g : FileD), x = (i : Nat) ∧ y = (k : Nat) ∧ gs[i]? = some f ∧ cs[k]? = some g ∧ pairOf P f = none ∧ newIn P g = false ∧ p = ⟨f.p, g.p, scoreP f.d g.d⟩
theorem CandAt.put {gs cs : List FileD} {P : List PairD} {i k : Nat} {f g : FileD} (hi : gs[i]? = some f) (hk : cs[k]? = some g) (hf : pairOf P f = none) (hg : newIn P g = false) : CandAt gs cs P (some (likOf ⟨f.p, g.p, scoreP f.d g.d⟩)) (i : Nat) (k : Nat) ⟨f.p, g.p, scoreP f.d g.d⟩ :=
 ⟨rfl, i, k, f, g, rfl, rfl, hi, hk, hf, hg, rfl⟩
theorem left_count (gs cs : List FileD) (P : List PairD) : ∀ k, (leftG (gs.take (k + 1)) P).length = (leftG (gs.take k) P).length + if (gs[k]?.map (toN cs P)) = some 0 then 1 else 0 := fun k => by
 rw [List.take_add_one, leftG_eq, List.filter_append, ← leftG_eq, List.length_append]
 congr 1
 cases h : gs[k]? with
 | none => rfl
 | some f =>
  rw [Option.toList_some, Option.map_some]
  unfold toN
  cases hf : pairOf P f with
  | none => simp [hf]
  | some x => simp [hf]
theorem leftC_count (cs : List FileD) (P : List PairD) : ∀ k, (leftC (cs.take (k + 1)) P).length = (leftC (cs.take k) P).length + if (cs[k]?.map (newIn P)) = some false then 1 else 0 := fun k => by
 rw [List.take_add_one, leftC_eq, List.filter_append, ← leftC_eq, List.length_append]
 congr 1
 cases h : cs[k]? with
 | none => rfl
 | some g =>
  rw [Option.toList_some, Option.map_some]
  cases hg : newIn P g <;> simp [hg]
theorem outP_take (gs : List FileD) (P : List PairD) (k : Nat) {f : FileD} (hk : gs[k]? = some f) : outP (gs.take (k + 1)) P = outP (gs.take k) P ++ (pairOf P f).toList := by
 unfold outP
 rw [List.take_add_one, hk, Option.toList_some, List.filterMap_append, List.filterMap_cons, List.filterMap_nil]
 cases pairOf P f <;> rfl
end Go.Proofs.YteeeehfnldkjlaaGreatDoor
namespace Go.Proofs.YteeeehfnldkjlaaGreatDoor
open Go.RowKit Go.Maps
def natsC (l : List Nat) : Array Value := (natL l).toArray
theorem natsC_at {w : World} {g : Nat} {l : List Nat} {k n : Nat} (h : Blk w g 3 (natsC l)) (hu : l[k]? = some n) : w.cell? ⟨g, k, none⟩ = some (.int .i64 (n : Int)) := (h.cell k).trans (by simp [natsC, natL, hu])
theorem natsC_set {w : World} {g : Nat} {l : List Nat} (h : Blk w g 3 (natsC l)) (k n : Nat) {u : Int} (hu : u = (n : Int)) : Blk (w.setCell ⟨g, k, none⟩ (.int .i64 u)) g 3 (natsC (l.set k n)) := by
 subst hu
 have := h.set_ k (.int .i64 (n : Int))
 rwa [show (natsC l).setIfInBounds k (.int .i64 (n : Int)) = natsC (l.set k n) from by simp [natsC, natL, List.map_set]] at this
structure DSt (w : World) (q : Nat) (gs cs : List FileD) (P : List PairD) : Prop where
 tt : Blk w q 3 (natsC (toL gs cs P))
 us : Blk w (q + 1) 4 (boolsC (usL cs P))
 sc : Blk w (q + 2) 3 (natsC (scL gs P))
 sz : q + 3 ≤ w.heap.size
section
variable {w w' : World} {q : Nat} {gs cs : List FileD} {P : List PairD}
theorem DSt.below (h : DSt w q gs cs P) (k : Below (q + 3) w w') : DSt w' q gs cs P := ⟨h.tt.below k (by omega), h.us.below k (by omega), h.sc.below k (by omega), Nat.le_trans h.sz k.size⟩
theorem DSt.start (hq : w.heap.size = q) : DSt (((w.alloc (.cells (Array.replicate gs.length (.int .i64 0)) 3)).alloc (.cells (Array.replicate cs.length (.bool false)) 4)).alloc (.cells (Array.replicate gs.length (.int .i64 0)) 3)) q gs cs [] := by
 have e1 : natsC (toL gs cs []) = Array.replicate gs.length (.int .i64 0) := by rw [toL_nil]; simp [natsC, natL]
 have e2 : boolsC (usL cs []) = Array.replicate cs.length (.bool false) := by rw [usL_nil]; simp [boolsC]
 have e3 : natsC (scL gs []) = Array.replicate gs.length (.int .i64 0) := by rw [scL_nil]; simp [natsC, natL]
 refine ⟨?_, ?_, ?_, by simp [hq]⟩
 · rw [e1]; exact ((blk_new_at w _ _ q hq).alloc _).alloc _
 · rw [e2]; exact (blk_new_at _ _ _ (q + 1) (size_at w _ q hq)).alloc _
 · rw [e3]; exact blk_new_at _ _ _ (q + 2) (size_at _ _ (q + 1) (size_at w _ q hq))
theorem DSt.pair (h : DSt w q gs cs P) (hg : Apt gs) (hc : Apt cs) {i k s : Nat} {f g : FileD} (hi : gs[i]? = some f) (hk : cs[k]? = some g) (hn : pairOf P f = none) {u v : Int} (hu : u = (k : Int) + 1) (hv : v = (s : Int)) :
    DSt (((w.setCell ⟨q, i, none⟩ (.int .i64 u)).setCell ⟨q + 1, k, none⟩ (.bool true)).setCell ⟨q + 2, i, none⟩ (.int .i64 v)) q gs cs (P ++ [⟨f.p, g.p, s⟩]) := by
 refine ⟨?_, ?_, ?_, by simpa using h.sz⟩
 · rw [toL_snoc hg hc hi hk hn]
   exact ((natsC_set h.tt i (k + 1) (by rw [hu]; simp)).far (p := ⟨q + 1, k, none⟩) (show q ≠ q + 1 by omega) _).far (p := ⟨q + 2, i, none⟩) (show q ≠ q + 2 by omega) _
 · rw [usL_snoc hc hk]
   exact (boolsC_set (h.us.far (p := ⟨q, i, none⟩) (show q + 1 ≠ q by omega) _) k true).far (p := ⟨q + 2, i, none⟩) (show q + 1 ≠ q + 2 by omega) _
 · rw [scL_snoc hg hi hn]
   exact natsC_set ((h.sc.far (p := ⟨q, i, none⟩) (show q + 2 ≠ q by omega) _).far (p := ⟨q + 1, k, none⟩) (show q + 2 ≠ q + 1 by omega) _) i s hv
theorem DSt.toAt (h : DSt w q gs cs P) {i : Nat} {f : FileD} (hi : gs[i]? = some f) : w.cell? ⟨q, i, none⟩ = some (.int .i64 (toN cs P f : Nat)) := natsC_at h.tt (by unfold toL; rw [List.getElem?_map, hi]; rfl)
theorem DSt.usAt (h : DSt w q gs cs P) {k : Nat} {g : FileD} (hk : cs[k]? = some g) : w.cell? ⟨q + 1, k, none⟩ = some (.bool (newIn P g)) := boolsC_at h.us (by unfold usL; rw [List.getElem?_map, hk]; rfl)
theorem DSt.scAt (h : DSt w q gs cs P) {i : Nat} {f : FileD} (hi : gs[i]? = some f) : w.cell? ⟨q + 2, i, none⟩ = some (.int .i64 (scN P f : Nat)) := natsC_at h.sc (by unfold scL; rw [List.getElem?_map, hi]; rfl)
end
def StPr (p v : Value) : Sem Unit := Instr.storeAt 99 p v
theorem st_pr (p v : Value) : Instr.storeAt 99 p v = StPr p v := rfl
theorem StPr.go {w : World} {g : Nat} {cs : Array Value} (h : Blk w g 99 cs) (hs : cs.size = 3) (x : PairD) : ∃ w', (StPr (.pointer (some ⟨g, 0, none⟩)) (.agg (pairL x).toArray)).run Tryz.prog w = .ok () w' ∧ Blk w' g 99 (pairL x).toArray ∧ Keep (Only g) w w' ∧ w'.heap.size = w.heap.size := by
 have := run_storeAt_blk (P := Tryz.prog) (ty := 99) (vs := (pairL x).toArray) h 0 info_pair (by rw [hs]; exact Nat.le_refl _) (pairL_one x)
 refine ⟨_, this, ?_, Keep.setRow (Keep.refl (Only g) w) (.inl rfl) _, by simp⟩
 rw [spl_all (by rw [hs]; rfl)]
 exact h.row _
def exT (gs cs : List FileD) (i : Nat) : List PairD := (gs.take i).foldl (exStep cs) []
theorem exT_next {gs cs : List FileD} {i : Nat} {f : FileD} (hi : gs[i]? = some f) : exT gs cs (i + 1) = exStep cs (exT gs cs i) f := by
 unfold exT
 rw [List.take_add_one, hi, List.foldl_append]
 rfl
theorem exT_old {gs cs : List FileD} : ∀ {i : Nat} {x : PairD}, x ∈ exT gs cs i → ∃ f ∈ gs.take i, f.p = x.old
 | 0, x, h => by simp [exT] at h
 | i + 1, x, h => by
  cases hi : gs[i]? with
  | none =>
   have e : gs.take (i + 1) = gs.take i := by rw [List.take_add_one, hi]; simp
   unfold exT at h
   rw [e] at h ⊢
   exact exT_old h
  | some f =>
   rw [exT_next hi] at h
   have hm : ∀ g ∈ gs.take i, g ∈ gs.take (i + 1) := fun g hg => by rw [List.take_add_one]; exact List.mem_append_left _ hg
   rw [ex_step] at h
   split at h
   · obtain ⟨g, hg, e⟩ := exT_old h
     exact ⟨g, hm g hg, e⟩
   · rcases List.mem_append.1 h with h | h
     · obtain ⟨g, hg, e⟩ := exT_old h
       exact ⟨g, hm g hg, e⟩
     · rw [List.mem_singleton.1 h]
       exact ⟨f, by rw [List.take_add_one, hi]; simp, rfl⟩
theorem exT_none {gs cs : List FileD} (hg : Apt gs) {i : Nat} {f : FileD} (hi : gs[i]? = some f) : pairOf (exT gs cs i) f = none := by
 rw [pairOf_none]
 intro x hx e
 obtain ⟨g, hgm, e2⟩ := exT_old hx
 obtain ⟨j, hj⟩ := List.mem_iff_getElem?.1 hgm
 have hji : j < i := by
  have := (List.getElem?_eq_some_iff.1 hj).1
  rw [List.length_take] at this
  omega
 rw [List.getElem?_take, if_pos hji] at hj
 have := apt_at hg hj hi (e2.trans e)
 omega
theorem exT_all (gs cs : List FileD) : exT gs cs gs.length = exP gs cs := by
 unfold exT exP
 rw [List.take_length]
def zerosW (w : World) (q : Nat) : Nat := match w.heap[q]? with
 | some (.cells c _ _) => (c.toList.filter fun v => intOf v == 0).length
 | _ => 0
theorem zerosW_eq {w : World} {q : Nat} {l : List Nat} (h : Blk w q 3 (natsC l)) : zerosW w q = (l.filter fun n => n == 0).length := by
 unfold zerosW
 rw [show w.heap[q]? = some (.cells (natsC l) 3 (0, 0)) from h]
 simp only [natsC, natL]
 rw [List.filter_map, List.length_map]
 congr 1
 refine List.filter_congr fun n _ => ?_
 show (intOf (Value.int .i64 (n : Int)) == 0) = (n == 0)
 rw [Bool.eq_iff_iff, beq_iff_eq, beq_iff_eq]
 show ((n : Int) = 0) ↔ n = 0
 omega
theorem filter_set {l : List Nat} : ∀ {i k : Nat}, l[i]? = some 0 → ((l.set i (k + 1)).filter fun n => n == 0).length < (l.filter fun n => n == 0).length := by
 induction l with
 | nil => intro i k h; simp at h
 | cons a l ih =>
  intro i k h
  cases i with
  | zero =>
   simp at h
   subst h
   rw [List.set_cons_zero, List.filter_cons, List.filter_cons, if_neg (by simp), if_pos (by simp), List.length_cons]
   omega
  | succ i =>
   have := ih (i := i) (k := k) (by simpa using h)
   rw [List.set_cons_succ, List.filter_cons, List.filter_cons]
   split
   · rw [List.length_cons, List.length_cons]; omega
   · exact this
theorem DSt.less {w w' : World} {q : Nat} {gs cs : List FileD} {P : List PairD} (h : DSt w q gs cs P) {i k s : Nat} {f g : FileD} (hg : Apt gs) (hc : Apt cs) (hi : gs[i]? = some f) (hk : cs[k]? = some g) (hn : pairOf P f = none) (h' : DSt w' q gs cs (P ++ [⟨f.p, g.p, s⟩])) : zerosW w' q < zerosW w q := by
 rw [zerosW_eq h.tt, zerosW_eq h'.tt, toL_snoc hg hc hi hk hn]
 refine filter_set ?_
 unfold toL
 rw [List.getElem?_map, hi, Option.map_some]
 unfold toN
 rw [hn]
def bestI : Option Nat → Int
 | none => -1
 | some b => b
theorem rbS_same {f g : FileD} {cs : List FileD} {P : List PairD} {k : Nat} (hk : cs[k]? = some g) (h : newIn P g = true ∨ f.d ≠ g.d) : rbS f cs P (k + 1) = rbS f cs P k := by
 rw [rbS, hk]
 simp only
 rw [if_neg]
 rintro ⟨q1, q2, _⟩
 rcases h with h | h
 · rw [h] at q1; cases q1
 · exact h q2
theorem rbS_first {f g : FileD} {cs : List FileD} {P : List PairD} {k : Nat} (hk : cs[k]? = some g) (h1 : newIn P g = false) (h2 : f.d = g.d) (hr : rbS f cs P k = none) : rbS f cs P (k + 1) = some k := by
 rw [rbS, hk]
 simp only
 rw [hr]
 exact if_pos ⟨h1, h2, rfl⟩
theorem near_less (f g h : Pth) : decide (nearP f g < nearP f h) = (lastN h != lastN f && lastN g == lastN f) := by
 have n1 : ∀ p : Pth, nearP f p = if (lastN p == lastN f) = true then 0 else 1 := fun p => by
  unfold nearP
  simp only [beq_iff_eq]
  by_cases e : lastN f = lastN p
  · rw [if_pos e, if_pos e.symm]
  · rw [if_neg e, if_neg (fun q => e q.symm)]
 rw [n1, n1]
 show _ = (!(lastN h == lastN f) && (lastN g == lastN f))
 cases lastN h == lastN f <;> cases lastN g == lastN f <;> rfl
theorem rbS_next {f g h : FileD} {cs : List FileD} {P : List PairD} {k b : Nat} (hk : cs[k]? = some g) (h1 : newIn P g = false) (h2 : f.d = g.d) (hr : rbS f cs P k = some b) (hb : cs[b]? = some h) : rbS f cs P (k + 1) = if (lastN h.p != lastN f.p && lastN g.p == lastN f.p) = true then some k else some b := by
 have e : cs.getD b zeroF = h := by rw [List.getD_eq_getElem?_getD, hb]; rfl
 rw [rbS, hk]
 simp only
 rw [hr]
 simp only
 have hd : decide (nearP f.p g.p < nearP f.p (cs.getD b zeroF).p) = (lastN h.p != lastN f.p && lastN g.p == lastN f.p) := by rw [e, near_less]
 by_cases q : (lastN h.p != lastN f.p && lastN g.p == lastN f.p) = true
 · rw [if_pos q, if_pos ⟨h1, h2, hd.trans q⟩]
 · rw [if_neg q, if_neg (fun r => q (hd.symm.trans r.2.2))]
theorem exT_next' {gs cs : List FileD} {i : Nat} {f : FileD} (hi : gs[i]? = some f) : exT gs cs (i + 1) = match rbS f cs (exT gs cs i) cs.length with
    | none => exT gs cs i
    | some b => exT gs cs i ++ [⟨f.p, (cs.getD b zeroF).p, 100⟩] := by
 rw [exT_next hi, ex_step]
 all_goals (cases rbS f cs (exT gs cs i) cs.length <;> rfl)
end Go.Proofs.YteeeehfnldkjlaaGreatDoor
