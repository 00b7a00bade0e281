/- Contracts of merge3.side, merge3.Render. No statement of the seat is proved here. -/
import Derived.Deep.DeepCutAuto
import Derived.Deep.CutBlock
import Derived.WalkMore
import Derived.Deep.QuietTactic
import Derived.BigQuiet
import Derived.Test.YtbaapjlmpmpocaaGreatDoorDT05
import Derived.Test.YtbaapjlmpmpocaaGreatDoorDT06
import Derived.Test.YtbaapjlmpmpocaaGreatDoorProg
import Derived.Test.YtbaapjlmpmpocaaGreatDoorDT07
namespace Go.Proofs.YtbaapjlmpmpocaaGreatDoor
open Go.RowKit
section
variable {α : Type} [DecidableEq α]
end
theorem Reads.tail {w : World} {B n c g o : Nat} {v : Value} {xs : List Value} (h : Reads w B 1 (some ⟨g, o, none⟩) (n + 1) (v :: xs)) (hc : n + 1 ≤ c) : Reads w B 1 (if c = 1 then some ⟨g, o, none⟩ else some ⟨g, o + 1, none⟩) n xs := by
 have h1 := h.cut (k := 1) (by omega) hc
 simpa [add_at] using h1
end Go.Proofs.YtbaapjlmpmpocaaGreatDoor
namespace Go.Proofs.YtbaapjlmpmpocaaGreatDoor
open Go.RowKit
def OwnB (w : World) (z : Nat) (A : Option Addr) (c : Nat) (l : List UInt8) : Prop := Own w z 5 1 A l.length c (l.map byteV)
theorem mapByte_len (l : List UInt8) : (l.map byteV).length = l.length := List.length_map _
theorem strCells_eq (s : List UInt8) : Lib.strCells (⟨s.toArray⟩ : ByteArray) = s.map byteV := by
 simp [Lib.strCells, byteV]
theorem endedP_cases (l : List (List UInt8)) : (joinP l = [] ∧ endedP l = []) ∨ ∃ p x, joinP l = p ++ [x] ∧ endedP l = if x = 10 then joinP l else joinP l ++ [10] := by
 unfold endedP
 rcases List.eq_nil_or_concat (joinP l) with h | ⟨p, x, h⟩
 · rw [h]; exact .inl ⟨rfl, rfl⟩
 · rw [List.concat_eq_append] at h
   refine .inr ⟨p, x, h, ?_⟩
   rw [h]
   simp
end Go.Proofs.YtbaapjlmpmpocaaGreatDoor
