/-
  Plain law of TreemergeText: one file that both sides changed. No statement of the seat is proved here.
-/
import Derived.Test.YteeeehfnldkjlaaGreatDoorTZ17
namespace Go.Proofs.YteeeehfnldkjlaaGreatDoor
open Go.RowKit

/-- The file of the law, with any bytes. -/
def txF (d : List UInt8) : FileD := ⟨[100, 47, 102], 1, d⟩
theorem tx_ok {d : List UInt8} (h : d.length ≤ 65536) : fileE (txF d) = 0 := by
  show (if (1 : Int) ≠ 1 ∧ (1 : Int) ≠ 2 ∧ (1 : Int) ≠ 3 then 3 else if 8 < (nmP [100, 47, 102]).length ∨ (nmP [100, 47, 102]).any (fun s => !nameOk s) = true then 7 else if 65536 < d.length then 5 else 0) = 0
  rw [if_neg (show ¬ ((1 : Int) ≠ 1 ∧ (1 : Int) ≠ 2 ∧ (1 : Int) ≠ 3) by decide), if_neg (show ¬ (8 < (nmP [100, 47, 102]).length ∨ (nmP [100, 47, 102]).any (fun s => !nameOk s) = true) by decide), if_neg (by show ¬ 65536 < d.length; omega)]
theorem tx_good {d : List UInt8} (h : d.length ≤ 2000) : goodP [txF d] = [txF d] := by
  have hg : goodF (txF d) = txF d := by
    unfold goodF txF
    simp only [FileD.mk.injEq, true_and]
    exact ⟨show 1 + (IntKind.i64.wrap (1 - 1)) % 3 = 1 by decide, List.take_of_length_le h⟩
  show goodStep [] (txF d) = _
  unfold goodStep
  rw [hg, tx_ok (Nat.le_trans h (by decide))]
  rfl
/-- What comes of it. -/
theorem tx_table {b x y : List UInt8} (hb : b.length ≤ 500) (hx : x.length ≤ 500) (hy : y.length ≤ 500) : ∃ r v, treemergeP [txF b] [txF x] [txF y] = .ok ([txF r], v) ∧ r.length ≤ 65536 ∧ ((x = y ∨ x = b ∨ y = b) → v = [] ∧ r = if x = b then y else x) ∧ (v = [] ∨ v = [⟨[100, 47, 102], 1⟩]) := by
  have ob := tx_ok (d := b) (by omega)
  have ox := tx_ok (d := x) (by omega)
  have oy := tx_ok (d := y) (by omega)
  obtain ⟨e, l⟩ := data_fits (b := txF b) (x := txF x) (y := txF y) (k := 1) (by show b.length ≤ _; omega) (by show x.length ≤ _; omega) (by show y.length ≤ _; omega)
  have h := merge_one ob ox oy rfl rfl e l
  have hk : kindP (txF b).k (txF x).k (txF y).k = (1, true) := show kindP 1 1 1 = (1, true) by decide
  rw [hk, if_pos rfl, List.nil_append] at h
  refine ⟨(dataP (txF b) 1 (txF x) (txF y)).1, _, h, l, fun q => ?_, ?_⟩
  · show clashesP (if (dataP (txF b) 1 (txF x) (txF y)).2.1 = true then [] else _) = [] ∧ _
    unfold dataP
    show clashesP (if (if x = y ∨ y = b then (x, true, 0) else if x = b then (y, true, 0) else _).2.1 = true then [] else _) = [] ∧ (if x = y ∨ y = b then (x, true, 0) else if x = b then (y, true, 0) else _).1 = _
    by_cases h1 : x = y ∨ y = b
    · rw [if_pos h1, if_pos rfl]
      refine ⟨rfl, ?_⟩
      split
      · rename_i h2
        rcases h1 with h1 | h1
        · exact h1
        · rw [h1]; exact h2
      · rfl
    · rw [if_neg h1]
      have h2 : x = b := by
        rcases q with q | q | q
        · exact absurd (.inl q) h1
        · exact q
        · exact absurd (.inr q) h1
      rw [if_pos h2, if_pos rfl, if_pos h2]
      exact ⟨rfl, rfl⟩
  · split
    · exact .inl rfl
    · exact .inr rfl
end Go.Proofs.YteeeehfnldkjlaaGreatDoor
