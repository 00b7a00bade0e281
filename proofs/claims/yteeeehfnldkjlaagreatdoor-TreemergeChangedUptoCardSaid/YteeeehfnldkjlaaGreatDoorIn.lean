/-
  The reference's Diff and Detect of two trees. No statement of the seat is proved here.
-/
import Derived.Test.YteeeehfnldkjlaaGreatDoorIl
import Derived.Test.YteeeehfnldkjlaaGreatDoorTC31
namespace Go.Proofs.YteeeehfnldkjlaaGreatDoor
open Go.RowKit

theorem rdiffs_any {a b : List FileD} (ha : checkT a = 0) (hb : checkT b = 0) (A1 A2 : Option Addr) (c1 c2 B : Nat) (w : World) (hB : B ≤ w.heap.size) (h1 : FI w B A1 a) (h2 : FI w B A2 b) :
    Calls Tryz.prog 23 #[.slice A1 a.length c1, .slice A2 b.length c2] w fun e w' => ∃ A c, e = .returned (.slice A (diffT a b).length c) ∧ CI w' w'.heap.size A (diffT a b) ∧ Below w.heap.size w w' := by
  have ta := checkT_tree ha
  have tb := checkT_tree hb
  have e := rdiff_diff a b ta.1.rise tb.1.rise ta.1.kinds tb.1.kinds
  refine (rdiff_any a b A1 A2 c1 c2 B w hB h1 h2 (Nat.le_trans ta.2.1 (by decide)) (Nat.le_trans tb.2.1 (by decide))).mono ?_
  rintro _ w' ⟨A, c, rfl, hc, hb'⟩
  rw [e] at hc ⊢
  exact ⟨A, c, rfl, hc.ci (Nat.le_trans hB hb'.size), hb'⟩
theorem rpairs_any {a b : List FileD} (ha : checkT a = 0) (hb : checkT b = 0) (A : Option Addr) (c B : Nat) (w : World) (hB : B ≤ w.heap.size) (h : CI w B A (diffT a b)) :
    Calls Tryz.prog 22 #[.slice A (diffT a b).length c] w fun e w' => ∃ A' c', e = .returned (.slice A' (detectP (diffT a b)).length c') ∧ PO w' w.heap.size A' c' (detectP (diffT a b)) ∧ Below w.heap.size w w' := by
  have hi := (sidesIn_of ha hb).det
  have hr : RiseP ((goneP (diffT a b)).map (·.p)) := List.Pairwise.sublist (gone_sub _) (diffT_rise (checkT_tree ha).1.kinds)
  have e := detect_ref (l := diffT a b) rfl rfl hr hi.n2
  have := rdetect_any (diffT a b) A c B w hB h hi
  rw [e] at this
  exact this
end Go.Proofs.YteeeehfnldkjlaaGreatDoor
