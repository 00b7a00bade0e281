/-
  Plain: which hunks may be, how many lines they keep, delete and insert, and their text. No statement of the seat is proved here.
-/
import Derived.Test.YtlcidbbpjlpmjaaDoorQw
import Derived.Lib.ItoaNum
import Derived.Lib.Bytealg
namespace Go.Proofs.YtlcidbbpjlpmjaaDoor
open Go.RowKit

structure Cnt where
  k : Nat
  d : Nat
  n : Nat
def Cnt.all (c : Cnt) : Nat := c.k + (c.d + c.n)
def Cnt.turns (c : Cnt) : Bool := decide (0 < c.d + c.n)
def cnt0 : Cnt := ⟨0, 0, 0⟩
def badE (len : Nat) (p : Option Int) (c : Cnt) (e : EdI) : Bool := decide (e.op < 0) || (decide (2 < e.op) || (decide (e.n < 1) || (decide ((len : Int) - c.all < e.n) || decide (p = some e.op))))
def addE (c : Cnt) (e : EdI) : Cnt := if e.op = 0 then ⟨c.k + e.n.toNat, c.d, c.n⟩ else if e.op = 1 then ⟨c.k, c.d + e.n.toNat, c.n⟩ else ⟨c.k, c.d, c.n + e.n.toNat⟩
def edsP (len : Nat) : Option Int → Cnt → List EdI → Option Cnt
  | _, c, [] => some c
  | p, c, e :: l => if badE len p c e = true then none else edsP len (some e.op) (addE c e) l
def prevOp (l : List EdI) (i : Nat) : Option Int := if i = 0 then none else (l[i - 1]?).map EdI.op
def lineP (s : List UInt8) : Bool := !s.isEmpty && !decide (0 ≤ Lib.indexByte s.dropLast 10)
def placesP (h : HkI) : Bool := !(decide (h.a < 0) || (decide (999999999 < h.a) || (decide (h.b < 0) || decide (999999999 < h.b))))
def mayP (h : HkI) : Option Cnt :=
  if placesP h = true then
    match edsP h.ls.length none cnt0 h.eds with
    | none => none
    | some c => if (c.turns && (decide (c.all = h.ls.length) && h.ls.all lineP)) = true then some c else none
  else none
theorem edsP_step {len : Nat} {l : List EdI} {i : Nat} {c : Cnt} {e : EdI} (h : l[i]? = some e) : edsP len (prevOp l i) c (l.drop i) = if badE len (prevOp l i) c e = true then none else edsP len (prevOp l (i + 1)) (addE c e) (l.drop (i + 1)) := by
  have h1 : l.drop i = e :: l.drop (i + 1) := by
    obtain ⟨hlt, he⟩ := List.getElem?_eq_some_iff.1 h
    rw [List.drop_eq_getElem_cons hlt, he]
  have h2 : prevOp l (i + 1) = some e.op := by simp [prevOp, h]
  rw [h1, h2]
  rfl
theorem edsP_end {len : Nat} {l : List EdI} {c : Cnt} : edsP len (prevOp l l.length) c (l.drop l.length) = some c := by
  rw [List.drop_length]
  unfold edsP
  rfl
theorem addE_all {c : Cnt} {e : EdI} : (addE c e).all = c.all + e.n.toNat := by
  unfold addE Cnt.all
  split
  · simp only; omega
  · split
    · simp only; omega
    · simp only; omega
theorem addE_turns {c : Cnt} {e : EdI} (h : 1 ≤ e.n) : (addE c e).turns = (c.turns || decide (e.op ≠ 0)) := by
  unfold addE Cnt.turns
  split
  next h0 => simp [h0]
  next h0 =>
    split
    · simp [h0]; omega
    · simp [h0]; omega
theorem badE_false {len : Nat} {p : Option Int} {c : Cnt} {e : EdI} (h : badE len p c e = false) : 0 ≤ e.op ∧ e.op ≤ 2 ∧ 1 ≤ e.n ∧ e.n ≤ (len : Int) - c.all ∧ p ≠ some e.op := by
  simp only [badE, Bool.or_eq_false_iff, decide_eq_false_iff_not] at h
  obtain ⟨h1, h2, h3, h4, h5⟩ := h
  exact ⟨by omega, by omega, by omega, by omega, h5⟩
theorem edsP_all {len : Nat} : ∀ {l : List EdI} {p : Option Int} {c c' : Cnt}, edsP len p c l = some c' → c.all ≤ len → c'.all ≤ len ∧ c.k ≤ c'.k ∧ c.d ≤ c'.d ∧ c.n ≤ c'.n
  | [], _, _, _, h, hc => by
    unfold edsP at h
    injection h with h
    subst h
    exact ⟨hc, Nat.le_refl _, Nat.le_refl _, Nat.le_refl _⟩
  | e :: l, p, c, c', h, hc => by
    unfold edsP at h
    split at h
    · cases h
    next hb =>
      simp only [Bool.not_eq_true] at hb
      obtain ⟨h1, h2, h3, h4, h5⟩ := badE_false hb
      obtain ⟨q1, q2, q3, q4⟩ := edsP_all h (by rw [addE_all]; omega)
      refine ⟨q1, ?_, ?_, ?_⟩
      all_goals (unfold addE at q2 q3 q4; split at q2 <;> first | omega | (split at q2 <;> simp_all <;> omega) | (simp_all <;> omega))
/-- How an edit turns the numbers of both sides' lines. -/
def sideA (e : EdI) : Int := if e.op = 2 then 0 else e.n
def sideB (e : EdI) : Int := if e.op = 1 then 0 else e.n

/- the text -/
def sgn (op : Int) : UInt8 := if op = 0 then 32 else if op = 1 then 45 else 43
def lacks : List UInt8 := [10, 92, 10]
def tailT (s : List UInt8) : List UInt8 := if Lib.hasSuffix s [10] = true then [] else lacks
def lineT (op : Int) (s : List UInt8) : List UInt8 := sgn op :: (s ++ tailT s)
def linesT (op : Int) (l : List (List UInt8)) : List UInt8 := l.flatMap (lineT op)
def bodyT : List EdI → List (List UInt8) → List UInt8
  | [], _ => []
  | e :: es, ls => linesT e.op (ls.take e.n.toNat) ++ bodyT es (ls.drop e.n.toNat)
def headT (h : HkI) (c : Cnt) : List UInt8 :=
  [64, 64, 32, 45] ++ (Lib.itoa h.a ++ ([44] ++ (Lib.itoa (c.k + c.d : Nat) ++ ([32, 43] ++ (Lib.itoa h.b ++ ([44] ++ (Lib.itoa (c.k + c.n : Nat) ++ [32, 64, 64, 10])))))))
def hkT (h : HkI) : List UInt8 := match mayP h with | some c => headT h c ++ bodyT h.eds h.ls | none => []
def hksT (l : List HkI) : List UInt8 := l.flatMap hkT
def allP (l : List HkI) : Bool := l.all fun h => (mayP h).isSome
end Go.Proofs.YtlcidbbpjlpmjaaDoor
