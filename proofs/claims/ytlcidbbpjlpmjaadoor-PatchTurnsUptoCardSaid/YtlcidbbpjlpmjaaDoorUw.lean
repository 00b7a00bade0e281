/-
  Words for the reference's Hunks. No statement of the seat is proved here.
-/
import Derived.Test.YtlcidbbpjlpmjaaDoorQs
namespace Go.Proofs.YtlcidbbpjlpmjaaDoor
open Go.RowKit

/-- The bodies of a text's loops, in the text's order. -/
def loopsOf : Code → List Code
  | .loop c => c :: loopsOf c
  | .seq a b => loopsOf a ++ loopsOf b
  | .block _ c => loopsOf c
  | .scope c => loopsOf c
  | .cond _ a b => loopsOf a ++ loopsOf b
  | _ => []
/-- What the loop of the reference's Hunks keeps. -/
abbrev RHRel (a b : List (List UInt8)) (ar : Nat) (w1 : World) (HS : List HkD) (E : List EdD) (s10 s11 s12 s13 s14 : Value) (wr : World) : Prop :=
  ∃ k c A cp p, k ≤ E.length ∧ s14 = .int .i64 (k : Nat) ∧ s10 = .slice A (RefD.out c).length cp ∧ s11 = .int .i64 (c.i : Nat) ∧ s12 = .int .i64 (c.j : Nat) ∧ s13 = .bool c.opn ∧ HR wr w1.heap.size A cp c.out p ∧ RInv a b c k (E.drop k) ∧ (refsP a b ar c (E.drop k)).out = HS ∧ Kept w1.heap.size E3 [] w1 wr
end Go.Proofs.YtlcidbbpjlpmjaaDoor
