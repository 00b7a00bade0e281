/- Plain: a path cut at its first slash; the files below a directory; how many objects they make at most. No statement of the seat is proved here. -/
import Derived.Test.YtbaapjlmpmpocaaGreatDoorDT06
import Derived.Test.YtbaapjlmpmpocaaGreatDoorDT05
import Derived.Test.YtbaapjlmpmpocaaGreatDoorDT08
import Derived.DeepKeys4
import Derived.Lib.CutLaws
namespace Go.Proofs.YtbaapjlmpmpocaaGreatDoor
abbrev Pth : Type := List UInt8
def nmFrom : Pth → Pth → List Pth
 | cur, [] => [cur]
 | cur, x :: b => if x = 47 then cur :: nmFrom [] b else nmFrom (cur ++ [x]) b
def nmP (p : Pth) : List Pth := nmFrom [] p
def dirsFrom : Pth → Pth → List Pth
 | _, [] => []
 | cur, x :: b => if x = 47 then cur :: dirsFrom (cur ++ [x]) b else dirsFrom (cur ++ [x]) b
def dirsP (p : Pth) : List Pth := dirsFrom [] p
def lastN (p : Pth) : Pth := (p.reverse.takeWhile (fun x => x != 47)).reverse
def parN (p : Pth) : Pth := ((p.reverse.dropWhile (fun x => x != 47)).drop 1).reverse
def insBy {α : Type} (lt : α → α → Bool) (x : α) : List α → List α
 | [] => [x]
 | y :: l => if lt y x = true then y :: insBy lt x l else x :: y :: l
def sortBy {α : Type} (lt : α → α → Bool) (l : List α) : List α := l.foldr (insBy lt) []
def insK (p : Pth) : List Pth → List Pth
 | [] => [p]
 | q :: l => if p = q then q :: l else if p < q then p :: q :: l else q :: insK p l
def keysP (l : List Pth) : List Pth := l.foldr insK []
def fileE (f : FileD) : Nat := if f.k ≠ 1 ∧ f.k ≠ 2 ∧ f.k ≠ 3 then 3 else if 8 < (nmP f.p).length ∨ (nmP f.p).any (fun s => !nameOk s) = true then 7 else if 65536 < f.d.length then 5 else 0
def lastLe (done : List FileD) (p : Pth) : Bool := match done.getLast? with
 | some g => decide (p ≤ g.p)
 | none => false
def checkL : List FileD → List FileD → Nat
 | _, [] => 0
 | done, f :: l => if fileE f ≠ 0 then fileE f else if lastLe done f.p = true then 18 else if (dirsP f.p).any (fun d => done.any (fun g => g.p == d)) = true then 13 else checkL (done ++ [f]) l
def entsP (l : List FileD) : List (Pth × Pth) := l.flatMap fun f => (dirsP f.p ++ [f.p]).map fun d => (parN d, lastN d)
def namesOf (l : List (Pth × Pth)) (d : Pth) : List Pth := keysP ((l.filter (fun e => e.1 == d)).map (·.2))
def crowdP (l : List FileD) : Bool := (entsP l).any fun e => decide (512 < (namesOf (entsP l) e.1).length)
def checkT (l : List FileD) : Nat := if 1000 < l.length then 4 else if checkL [] l ≠ 0 then checkL [] l else if crowdP l = true then 4 else 0
structure ChangeD where
 old : FileD
 new : FileD
deriving DecidableEq
def zeroF : FileD := ⟨[], 0, []⟩
def getF (l : List FileD) (p : Pth) : FileD := (l.find? (fun f => f.p == p)).getD zeroF
def hasF (l : List FileD) (p : Pth) : Bool := l.any (fun f => f.p == p)
def changeP (o n : FileD) : Option ChangeD := if o.k ≠ n.k ∨ o.d ≠ n.d then some ⟨o, n⟩ else none
def diffT (a b : List FileD) : List ChangeD := (keysP (a.map (·.p) ++ b.map (·.p))).filterMap fun p => changeP (getF a p) (getF b p)
structure PairD where
 old : Pth
 new : Pth
 sc : Nat
deriving DecidableEq
def commonP : List (List UInt8) → List (List UInt8) → Nat
 | _, [] => 0
 | x, s :: y => if s ∈ x then commonP (x.erase s) y + 1 else commonP x y
def scoreP (a b : List UInt8) : Nat := if a = b then 100 else 200 * commonP (splitL a) (splitL b) / ((splitL a).length + (splitL b).length)
def nearP (a b : Pth) : Nat := if lastN a = lastN b then 0 else 1
def countsP (f : FileD) : Bool := (f.k == 1 || f.k == 2) && decide (0 < f.d.length)
def goneP (l : List ChangeD) : List FileD := l.filterMap fun c => if c.new.k = 0 ∧ countsP c.old = true then some c.old else none
def comeP (l : List ChangeD) : List FileD := l.filterMap fun c => if c.new.k = 0 ∧ countsP c.old = true then none else if c.old.k = 0 ∧ countsP c.new = true then some c.new else none
def betterP (f g : FileD) : Option (Nat × FileD) → Bool
 | none => true
 | some x => decide (nearP f.p g.p < nearP f.p x.2.p)
def bestP (f : FileD) : List FileD → Nat → Option (Nat × FileD) → Option (Nat × FileD)
 | [], _, b => b
 | g :: l, k, b => bestP f l (k + 1) (if f.d = g.d ∧ betterP f g b = true then some (k, g) else b)
def exactP : List FileD → List FileD → List PairD × List FileD × List FileD
 | [], rest => ([], [], rest)
 | f :: gone, rest => match bestP f rest 0 none with
  | none => ((exactP gone rest).1, f :: (exactP gone rest).2.1, (exactP gone rest).2.2)
  | some x => (⟨f.p, x.2.p, 100⟩ :: (exactP gone (rest.eraseIdx x.1)).1, (exactP gone (rest.eraseIdx x.1)).2.1, (exactP gone (rest.eraseIdx x.1)).2.2)
structure LikD where
 old : Pth
 new : Pth
 sc : Nat
 near : Nat
deriving DecidableEq
def aheadP (a b : LikD) : Bool := decide (b.sc < a.sc) || (a.sc == b.sc && (decide (a.near < b.near) || (a.near == b.near && (decide (a.old < b.old) || (a.old == b.old && decide (a.new < b.new))))))
def likelyP (gone come : List FileD) : List LikD :=
 if gone.length ≤ 100 ∧ come.length ≤ 100 then gone.flatMap fun f => come.filterMap fun g => if 50 ≤ scoreP f.d g.d then some ⟨f.p, g.p, scoreP f.d g.d, nearP f.p g.p⟩ else none else []
def greedyP : List LikD → List Pth → List Pth → List PairD
 | [], _, _ => []
 | x :: l, a, b => if x.old ∈ a ∨ x.new ∈ b then greedyP l a b else ⟨x.old, x.new, x.sc⟩ :: greedyP l (x.old :: a) (x.new :: b)
def detectP (l : List ChangeD) : List PairD :=
 let x := exactP (goneP l) (comeP l)
 sortBy (fun a b => decide (a.old < b.old)) (x.1 ++ greedyP (sortBy aheadP (likelyP x.2.1 x.2.2)) [] [])
structure ClashD where
 p : Pth
 why : Nat
deriving DecidableEq
structure MSt where
 t : List FileD
 c : List ClashD
 e : Nat
def MSt.stay (s : MSt) (p : Pth) (f : FileD) : MSt := { s with t := s.t ++ [{ f with p := p }] }
def MSt.clash (s : MSt) (p : Pth) (why : Nat) : MSt := { s with c := s.c ++ [⟨p, why⟩] }
structure SideD where
 f : List FileD
 l : List PairD
def SideD.goes (s : SideD) (p : Pth) : Pth × Bool := match s.l.find? (fun x => x.old == p) with
 | some x => (x.new, true)
 | none => (p, hasF s.f p)
def isText (k : Int) : Bool := k == 1 || k == 2
def kindP (b x y : Int) : Int × Bool := if b = y ∨ b = x then (if x = b then y else x, true) else (x, decide (x = y))
def dataP (base : FileD) (lines : Int) (x y : FileD) : List UInt8 × Bool × Nat :=
 if x.d = y.d ∨ y.d = base.d then (x.d, true, 0) else if x.d = base.d then (y.d, true, 0) else
 if (isText lines && isText x.k && isText y.k) = true then
  match merge3P base.d x.d y.d with
  | some r => (r.1, r.2, 0)
  | none => ([], false, 4)
 else (x.d, false, 0)
def MSt.both (s : MSt) (p : Pth) (base : FileD) (lines : Int) (x y : FileD) : MSt :=
 let k := kindP base.k x.k y.k
 let d := dataP base lines x y
 let s1 := if k.2 = true then s else s.clash p 3
 let s2 : MSt := { s1 with e := if s1.e = 0 then d.2.2 else s1.e }
 let s3 := if d.2.1 = true then s2 else s2.clash p 1
 s3.stay p ⟨p, k.1, d.1⟩
def MSt.alone (s : MSt) (f : FileD) (q : Pth) (x : FileD) : MSt :=
 if q = f.p ∧ x.k = f.k ∧ x.d = f.d then s else (s.stay q x).clash q 2
def MSt.file (o t : SideD) (s : MSt) (f : FileD) : MSt :=
 let po := o.goes f.p
 let pt := t.goes f.p
 let x := getF o.f po.1
 let y := getF t.f pt.1
 if po.2 = true ∧ pt.2 = false then s.alone f po.1 x else
 if pt.2 = true ∧ po.2 = false then s.alone f pt.1 y else
 if po.2 = false then s else
 if po.1 ≠ pt.1 ∧ po.1 ≠ f.p ∧ pt.1 ≠ f.p then ((s.stay po.1 x).stay pt.1 y).clash f.p 4 else
 if pt.1 = f.p then s.both po.1 f f.k x y else s.both pt.1 f f.k x y
def sortF (l : List FileD) : List FileD := sortBy (fun a b => decide (a.p < b.p)) l
end Go.Proofs.YtbaapjlmpmpocaaGreatDoor
namespace Go.Proofs.YtbaapjlmpmpocaaGreatDoor
open Go.RowKit Go.WideMaps Go.Maps
abbrev CK : Type := { c : Pth × Int // c.1.length ≤ maxLen ∧ (Lit.int .i64 c.2).wf = true }
abbrev Mc := CK → Option Value
section
variable {w w' : World} {b n : Nat} {f : Mc}
end
end Go.Proofs.YtbaapjlmpmpocaaGreatDoor
namespace Go.Proofs.YtbaapjlmpmpocaaGreatDoor
abbrev cutP (p : Pth) : Pth × Pth × Bool := Lib.cut p [47]
theorem cut_len {p : Pth} (h : (cutP p).2.2 = true) : (cutP p).1.length + 1 + (cutP p).2.1.length = p.length := by
 have h0 := Lib.indexB_cases ⟨p.toArray⟩ ⟨#[47]⟩
 unfold cutP Lib.cut at *
 have e : Lib.indexB ⟨p.toArray⟩ ⟨#[47]⟩ = Lib.index p [47] := rfl
 rw [e] at h0
 rcases h0 with h0 | ⟨i, h0, h1⟩
 · rw [h0] at h
   cases h
 · rw [h0, if_pos (by omega)]
   have h1 : i + 1 ≤ p.length := by simpa [ByteArray.size] using h1
   simp only [Int.toNat_natCast, List.length_take, List.length_drop, List.length_singleton]
   omega
theorem cut_flat {p : Pth} (h : (cutP p).2.2 = false) : cutP p = (p, [], false) := by
 unfold cutP Lib.cut at *
 split at h
 · cases h
 · rw [if_neg (by assumption)]
def inDir (d : Pth) (f : FileD) : Option FileD := if (cutP f.p).2.2 = true ∧ (cutP f.p).1 = d then some ⟨(cutP f.p).2.1, f.k, f.d⟩ else none
def underP (l : List FileD) (d : Pth) : List FileD := l.filterMap (inDir d)
def flatP (l : List FileD) : List FileD := l.filter fun f => !(cutP f.p).2.2
def szP (l : List FileD) : Nat := (l.map fun f => f.p.length + 2).sum
def ucP (l : List FileD) (d : Pth) : Nat := ((underP l d).map fun f => f.p.length + 3).sum
theorem sum_map_add {α : Type} (a b : α → Nat) : ∀ l : List α, (l.map fun x => a x + b x).sum = (l.map a).sum + (l.map b).sum
 | [] => rfl
 | x :: l => by
  simp only [List.map_cons, List.sum_cons, sum_map_add a b l]
  omega
theorem sum_once (p : Pth) (n : Nat) : ∀ ds : List Pth, ds.Nodup → (ds.map fun d => if p = d then n else 0).sum ≤ n ∧ (p ∉ ds → (ds.map fun d => if p = d then n else 0).sum = 0)
 | [], _ => ⟨Nat.zero_le _, fun _ => rfl⟩
 | d :: ds, h => by
  rw [List.nodup_cons] at h
  have ih := sum_once p n ds h.2
  simp only [List.map_cons, List.sum_cons]
  by_cases e : p = d
  · subst e
    rw [if_pos rfl, ih.2 h.1]
    exact ⟨Nat.le_refl _, fun q => absurd (List.mem_cons_self ..) q⟩
  · rw [if_neg e, Nat.zero_add]
    exact ⟨ih.1, fun q => ih.2 fun r => q (List.mem_cons_of_mem _ r)⟩
theorem sum_uc (ds : List Pth) (hd : ds.Nodup) : ∀ l : List FileD, (ds.map (ucP l)).sum + (flatP l).length ≤ szP l
 | [] => by
  have : ds.map (ucP []) = ds.map fun _ => 0 := rfl
  rw [this]
  have : ∀ xs : List Pth, (xs.map fun _ => 0).sum = 0 := fun xs => by induction xs <;> simp_all
  rw [this]
  exact Nat.le_refl _
 | f :: l => by
  have ih := sum_uc ds hd l
  have hs : szP (f :: l) = (f.p.length + 2) + szP l := rfl
  rw [hs]
  cases hf : (cutP f.p).2.2 with
  | false =>
   have e1 : ∀ d, ucP (f :: l) d = ucP l d := fun d => by
    unfold ucP underP
    rw [List.filterMap_cons]
    have : inDir d f = none := if_neg fun q => by rw [hf] at q; cases q.1
    rw [this]
   have e2 : flatP (f :: l) = f :: flatP l := List.filter_cons_of_pos (by rw [hf]; rfl)
   rw [List.map_congr_left (g := ucP l) fun d _ => e1 d, e2, List.length_cons]
   omega
  | true =>
   have e1 : ∀ d, ucP (f :: l) d = (if (cutP f.p).1 = d then (cutP f.p).2.1.length + 3 else 0) + ucP l d := fun d => by
    unfold ucP underP
    rw [List.filterMap_cons]
    by_cases e : (cutP f.p).1 = d
    · have : inDir d f = some ⟨(cutP f.p).2.1, f.k, f.d⟩ := if_pos ⟨hf, e⟩
      rw [this, if_pos e]
      rfl
    · have : inDir d f = none := if_neg fun q => e q.2
      rw [this, if_neg e, Nat.zero_add]
   have e2 : flatP (f :: l) = flatP l := List.filter_cons_of_neg (by rw [hf]; simp)
   rw [List.map_congr_left (g := fun d => (if (cutP f.p).1 = d then (cutP f.p).2.1.length + 3 else 0) + ucP l d) fun d _ => e1 d, e2, sum_map_add]
   have := (sum_once (cutP f.p).1 ((cutP f.p).2.1.length + 3) ds hd).1
   have := cut_len hf
   have e9 : (ds.map fun d => ucP l d) = ds.map (ucP l) := rfl
   omega
theorem sz_uc {l : List FileD} {d : Pth} (h : underP l d ≠ []) : szP (underP l d) + 1 ≤ ucP l d := by
 unfold ucP szP
 have : ∀ m : List FileD, (m.map fun f => f.p.length + 3).sum = (m.map fun f => f.p.length + 2).sum + m.length := fun m => by
  induction m with
  | nil => rfl
  | cons f m ih => simp only [List.map_cons, List.sum_cons, List.length_cons, ih]; omega
 rw [this]
 have := List.length_pos_iff.2 h
 omega
theorem under_snoc (l : List FileD) (f : FileD) (d : Pth) : underP (l ++ [f]) d = underP l d ++ (inDir d f).toList := by
 unfold underP
 rw [List.filterMap_append]
 cases h : inDir d f <;> simp [h]
theorem under_sz {l : List FileD} {d : Pth} (h : underP l d ≠ []) : szP (underP l d) < szP l := by
 have h1 := sum_uc [d] (by simp) l
 have h2 := sz_uc h
 simp only [List.map_cons, List.map_nil, List.sum_cons, List.sum_nil] at h1
 omega
theorem under_mem {l : List FileD} {d : Pth} {g : FileD} (h : g ∈ underP l d) : ∃ f ∈ l, g.p.length < f.p.length ∧ d.length < f.p.length ∧ g.d = f.d ∧ g.k = f.k := by
 unfold underP at h
 obtain ⟨f, hf, h⟩ := List.mem_filterMap.1 h
 unfold inDir at h
 split at h
 · rename_i q
   injection h with h
   subst h
   have := cut_len q.1
   refine ⟨f, hf, ?_, ?_, rfl, rfl⟩
   · show (cutP f.p).2.1.length < _
     omega
   · rw [← q.2]
     omega
 · cases h
theorem under_len (l : List FileD) (d : Pth) : (underP l d).length ≤ l.length := List.length_filterMap_le _ _
end Go.Proofs.YtbaapjlmpmpocaaGreatDoor
