/-
  Plain law: the longest common row of two lists, and the script that leads from one to the other. No statement of the seat is proved here.
-/
import Derived.Test.YtlcidbbpjlpmjaaDoorLib
namespace Go.Proofs.YtlcidbbpjlpmjaaDoor

section
variable {α : Type} [DecidableEq α]
/-- How many can be kept. -/
def lcs : List α → List α → Nat
  | [], _ => 0
  | _ :: _, [] => 0
  | x :: l, y :: m => if x = y then lcs l m + 1 else max (lcs l (y :: m)) (lcs (x :: l) m)
termination_by l m => l.length + m.length
theorem lcs_nil_left (m : List α) : lcs [] m = 0 := by rw [lcs]
theorem lcs_nil_right (l : List α) : lcs l [] = 0 := by cases l <;> rw [lcs]
theorem lcs_cons (x y : α) (l m : List α) : lcs (x :: l) (y :: m) = if x = y then lcs l m + 1 else max (lcs l (y :: m)) (lcs (x :: l) m) := by rw [lcs]
theorem lcs_bounds : ∀ (n : Nat) (l m : List α), l.length + m.length ≤ n →
    (∀ y, lcs l m ≤ lcs l (y :: m) ∧ lcs l (y :: m) ≤ lcs l m + 1) ∧ (∀ x, lcs l m ≤ lcs (x :: l) m ∧ lcs (x :: l) m ≤ lcs l m + 1)
  | 0, l, m, h => by
    have h1 : l = [] := List.eq_nil_of_length_eq_zero (by omega)
    have h2 : m = [] := List.eq_nil_of_length_eq_zero (by omega)
    subst h1 h2
    exact ⟨fun y => by rw [lcs_nil_left, lcs_nil_left]; omega, fun x => by rw [lcs_nil_right, lcs_nil_right]; omega⟩
  | n + 1, l, m, h => by
    constructor
    · intro y
      cases l with
      | nil => rw [lcs_nil_left, lcs_nil_left]; omega
      | cons x l =>
        have i1 := (lcs_bounds n l m (by simp at h; omega)).1 y
        have i2 := (lcs_bounds n l m (by simp at h; omega)).2 x
        rw [lcs_cons]
        split
        · omega
        · have i3 := i1
          omega
    · intro x
      cases m with
      | nil => rw [lcs_nil_right, lcs_nil_right]; omega
      | cons y m =>
        have i1 := (lcs_bounds n l m (by simp at h; omega)).1 y
        have i2 := (lcs_bounds n l m (by simp at h; omega)).2 x
        rw [lcs_cons]
        split
        · omega
        · omega
theorem lcs_right (l m : List α) (y : α) : lcs l m ≤ lcs l (y :: m) ∧ lcs l (y :: m) ≤ lcs l m + 1 := (lcs_bounds _ l m (Nat.le_refl _)).1 y
theorem lcs_left (l m : List α) (x : α) : lcs l m ≤ lcs (x :: l) m ∧ lcs (x :: l) m ≤ lcs l m + 1 := (lcs_bounds _ l m (Nat.le_refl _)).2 x
/-- As the reference reckons it. -/
theorem lcs_ref (x y : α) (l m : List α) : lcs (x :: l) (y :: m) = if x = y then max (max (lcs l (y :: m)) (lcs (x :: l) m)) (lcs l m + 1) else max (lcs l (y :: m)) (lcs (x :: l) m) := by
  rw [lcs_cons]
  split
  · have h1 := lcs_right l m y
    have h2 := lcs_left l m x
    omega
  · rfl
theorem lcs_le : ∀ (l m : List α), lcs l m ≤ l.length
  | [], m => by rw [lcs_nil_left]; exact Nat.zero_le _
  | x :: l, m => by
    have h1 := lcs_le l m
    have h2 := lcs_left l m x
    rw [List.length_cons]
    omega
/-- The script's steps: 0 keep, 1 delete, 2 insert. -/
def steps : List α → List α → List Nat
  | [], [] => []
  | [], _ :: m => 2 :: steps [] m
  | _ :: l, [] => 1 :: steps l []
  | x :: l, y :: m => if x = y then 0 :: steps l m else if lcs l (y :: m) = lcs (x :: l) (y :: m) then 1 :: steps l (y :: m) else 2 :: steps (x :: l) m
termination_by l m => l.length + m.length
end
end Go.Proofs.YtlcidbbpjlpmjaaDoor
