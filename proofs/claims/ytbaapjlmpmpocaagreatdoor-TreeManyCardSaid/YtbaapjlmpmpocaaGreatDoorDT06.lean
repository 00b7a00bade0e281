/- Plain: three texts are merged: partners, chunks, what they are written as. No statement of the seat is proved here. -/
import Derived.Test.YtbaapjlmpmpocaaGreatDoorDTLib
namespace Go.Proofs.YtbaapjlmpmpocaaGreatDoor
section
variable {α : Type} [DecidableEq α]
def lcs : List α → List α → Nat
 | [], _ => 0
 | _ :: _, [] => 0
 | x :: l, y :: m => if x = y then lcs l m + 1 else max (lcs l (y :: m)) (lcs (x :: l) m)
termination_by l m => l.length + m.length
def steps : List α → List α → List Nat
 | [], [] => []
 | [], _ :: m => 2 :: steps [] m
 | _ :: l, [] => 1 :: steps l []
 | x :: l, y :: m => if x = y then 0 :: steps l m else if lcs l (y :: m) = lcs (x :: l) (y :: m) then 1 :: steps l (y :: m) else 2 :: steps (x :: l) m
termination_by l m => l.length + m.length
end
end Go.Proofs.YtbaapjlmpmpocaaGreatDoor
namespace Go.Proofs.YtbaapjlmpmpocaaGreatDoor
section
variable {α β : Type} [DecidableEq α] [DecidableEq β]
end
structure EdD where
 op : Nat
 n : Nat
def addP : List EdD → Nat → List EdD
 | [], op => [⟨op, 1⟩]
 | [e], op => if e.op = op then [⟨e.op, e.n + 1⟩] else [e, ⟨op, 1⟩]
 | e :: f :: l, op => e :: addP (f :: l) op
def script (s : List Nat) : List EdD := s.foldl addP []
section
variable {α : Type} [DecidableEq α]
def diffP (a b : List α) : List EdD := script (steps a b)
end
section
variable (a b : List (List UInt8)) (around : Nat)
end
end Go.Proofs.YtbaapjlmpmpocaaGreatDoor
namespace Go.Proofs.YtbaapjlmpmpocaaGreatDoor
def splitFrom : List UInt8 → List UInt8 → List (List UInt8)
 | cur, [] => if cur = [] then [] else [cur]
 | cur, x :: b => if x = 10 then (cur ++ [10]) :: splitFrom [] b else splitFrom (cur ++ [x]) b
def splitL (b : List UInt8) : List (List UInt8) := splitFrom [] b
end Go.Proofs.YtbaapjlmpmpocaaGreatDoor
namespace Go.Proofs.YtbaapjlmpmpocaaGreatDoor
def partP : List EdD → Nat → List Int
 | [], _ => []
 | e :: l, j => if e.op = 0 then (List.range e.n).map (fun i => ((j + i : Nat) : Int)) ++ partP l (j + e.n) else if e.op = 2 then partP l (j + e.n) else List.replicate e.n (-1) ++ partP l j
structure ChunkD where
 kind : Nat
 b : List (List UInt8)
 o : List (List UInt8)
 t : List (List UInt8)
deriving DecidableEq
def kindC (b o t : List (List UInt8)) : Nat := if b = o ∧ b = t then 0 else if o = t then 3 else if b = t then 1 else if b = o then 2 else 4
def addC (l : List ChunkD) (b o t : List (List UInt8)) : List ChunkD :=
 if b.length + o.length + t.length = 0 then l else
 match l.getLast? with
 | none => l ++ [⟨kindC b o t, b, o, t⟩]
 | some p => if kindC b o t = 0 ∧ p.kind = 0 then l.dropLast ++ [⟨0, p.b ++ b, p.o ++ o, p.t ++ t⟩] else l ++ [⟨kindC b o t, b, o, t⟩]
structure CurC where
 out : List ChunkD
 f : Nat
 i : Nat
 j : Nat
section
variable (base ours theirs : List (List UInt8))
def seg (l : List (List UInt8)) (i j : Nat) : List (List UInt8) := (l.drop i).take (j - i)
def chunkS (s : CurC) (k : Nat) (x y : Int) : CurC :=
 if x < 0 ∨ y < 0 then s else
 ⟨addC (addC s.out (seg base s.f k) (seg ours s.i x.toNat) (seg theirs s.j y.toNat)) (seg base k (k + 1)) (seg ours x.toNat (x.toNat + 1)) (seg theirs y.toNat (y.toNat + 1)), k + 1, x.toNat + 1, y.toNat + 1⟩
def chunkL : List (Int × Int) → Nat → CurC → CurC
 | [], _, s => s
 | (x, y) :: l, k, s => chunkL l (k + 1) (chunkS base ours theirs s k x y)
def chunksP : List ChunkD :=
 let s := chunkL base ours theirs ((partP (diffP base ours) 0).zip (partP (diffP base theirs) 0)) 0 ⟨[], 0, 0, 0⟩
 addC s.out (base.drop s.f) (ours.drop s.i) (theirs.drop s.j)
end
def joinP (l : List (List UInt8)) : List UInt8 := l.flatten
def endedP (l : List (List UInt8)) : List UInt8 := match (joinP l).getLast? with
 | none => []
 | some x => if x = 10 then joinP l else joinP l ++ [10]
def markO : List UInt8 := [60, 60, 60, 60, 60, 60, 60]
def markB : List UInt8 := [124, 124, 124, 124, 124, 124, 124]
def markT : List UInt8 := [61, 61, 61, 61, 61, 61, 61]
def markE : List UInt8 := [62, 62, 62, 62, 62, 62, 62]
def chunkT (c : ChunkD) : List UInt8 := match c.kind with
 | 0 => joinP c.b
 | 1 => joinP c.o
 | 3 => joinP c.o
 | 2 => joinP c.t
 | _ => markO ++ [10] ++ endedP c.o ++ (markB ++ [10] ++ endedP c.b) ++ (markT ++ [10] ++ endedP c.t) ++ (markE ++ [10])
def renderP (l : List ChunkD) : List UInt8 := l.flatMap chunkT
def merge3P (b o t : List UInt8) : Option (List UInt8 × Bool) :=
 if (splitL b).length ≤ 4000 ∧ (splitL o).length ≤ 4000 ∧ (splitL t).length ≤ 4000 then
  some (renderP (chunksP (splitL b) (splitL o) (splitL t)), (chunksP (splitL b) (splitL o) (splitL t)).all (fun c => c.kind != 4))
 else none
end Go.Proofs.YtbaapjlmpmpocaaGreatDoor
