/- Contracts of the function literals that compare files by their paths, and of slices.SortFunc with them. No statement of the seat is proved here. -/
import Derived.Test.YtbaapjlmpmpocaaGreatDoorDT29
import Derived.Test.YtbaapjlmpmpocaaGreatDoorDT27
import Derived.Test.YtbaapjlmpmpocaaGreatDoorDTVl
import Derived.Test.YtbaapjlmpmpocaaGreatDoorDT30
namespace Go.Proofs.YtbaapjlmpmpocaaGreatDoor
open Go.RowKit Go.Sort Go.Shelf
instance : Inhabited LikD := ⟨⟨[], [], 0, 0⟩⟩
instance : Inhabited PairD := ⟨⟨[], [], 0⟩⟩
instance : Inhabited FileD := ⟨⟨[], 0, []⟩⟩
end Go.Proofs.YtbaapjlmpmpocaaGreatDoor
namespace Go.Proofs.YtbaapjlmpmpocaaGreatDoor
open Go.RowKit
theorem CI.below {w w' : World} {B : Nat} {A : Option Addr} {l : List ChangeD} (h : CI w B A l) (hb : Below B w w') : CI w' B A l := by
 obtain ⟨tv, h1, h2, h3⟩ := h
 exact ⟨tv, h1, h2.below hb, fun k x y e1 e2 => ⟨(h3 k x y e1 e2).1.below hb, (h3 k x y e1 e2).2.below hb⟩⟩
section
variable {wr w9 : World} {z B : Nat} {gA : Option Addr} {gc : Nat} {cA : Option Addr} {cc : Nat} {gs cs : List FileD}
theorem Apart.symm {A C : Option Addr} (h : Apart A C) : Apart C A := fun a c ha hc e => h c a hc ha e.symm
end
end Go.Proofs.YtbaapjlmpmpocaaGreatDoor
namespace Go.Proofs.YtbaapjlmpmpocaaGreatDoor
open Go.RowKit Go.Sort Go.Shelf
theorem compare_cmpS : ∀ a b : Pth, Lib.compareBytes a b = cmpS a b
 | [], [] => by simp [Lib.compareBytes, cmpS]
 | [], _ :: _ => by simp [Lib.compareBytes, cmpS]
 | _ :: _, [] => by simp [Lib.compareBytes, cmpS]
 | a :: la, b :: lb => by
  rw [Lib.compareBytes, compare_cmpS la lb]
  unfold cmpS
  simp only [List.cons_lt_cons_iff]
  by_cases h1 : a < b
  · simp [h1]
  · by_cases h2 : b < a
    · have h3 : ¬ a = b := fun e => by subst e; exact h1 h2
      simp [h1, h2, h3]
    · have h3 : a = b := by
       apply UInt8.toNat_inj.1
       have q1 : ¬ a.toNat < b.toNat := h1
       have q2 : ¬ b.toNat < a.toNat := h2
       omega
      subst h3
      simp [h1]
theorem strCmp_any (a b : Pth) (w : World) : Calls Tryz.prog 36 #[strC a, strC b] w fun e w' => e = .returned (.int .i64 (cmpS a b)) ∧ w = w' := by
 unfold strC
 refine (Tryz.strings_Compare ⟨a.toArray⟩ ⟨b.toArray⟩ w).mono ?_
 rintro e w' ⟨h1, h2⟩
 refine ⟨?_, h2.symm⟩
 rw [h1]
 show Ending.returned (.int .i64 (Lib.compareBytes a b)) = _
 rw [compare_cmpS]
theorem ltOf_ft : ltOf (fun x y : FT => cmpS x.1.p y.1.p) = fun a b => decide (a.1.p < b.1.p) := by
 funext a b
 exact cmpS_lt _ _
end Go.Proofs.YtbaapjlmpmpocaaGreatDoor
