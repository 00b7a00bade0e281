/-
  Plain law of TreemergeCases: the document's table, case by case. No statement of the seat is proved here.
-/
import Derived.Test.YteeeehfnldkjlaaGreatDoorTZ17
namespace Go.Proofs.YteeeehfnldkjlaaGreatDoor
open Go.RowKit

def csF : FileD := ⟨[102], 1, [49, 10, 50, 10, 51, 10, 52, 10, 53, 10, 54, 10]⟩
/-- A file as one side has it. -/
def csSide (how : Nat) (who : List UInt8) : List FileD :=
  match how with
  | 1 => [{ csF with d := who ++ [10, 50, 10, 51, 10, 52, 10, 53, 10, 54, 10] }]
  | 2 => [{ csF with d := [49, 10, 50, 10, 51, 10, 52, 10, 53, 10] ++ who ++ [10] }]
  | 3 => []
  | 4 => [{ csF with p := [116, 111, 45] ++ who }]
  | 5 => [{ csF with k := 3, d := who }]
  | _ => [csF]
def csOurs : List UInt8 := [111, 117, 114, 115]
def csTheirs : List UInt8 := [116, 104, 101, 105, 114, 115]
/-- The table: how many files come of it, the reason of the clash (0: none), the clash's path. -/
def csWant (o t : Nat) : Nat × Nat × List UInt8 :=
  if o = 3 ∧ t = 3 ∨ o = 3 ∧ t = 0 ∨ t = 3 ∧ o = 0 then (0, 0, [102])
  else if o = 3 ∧ t = 4 ∨ t = 3 ∧ o = 4 then (1, 2, if t = 4 then [116, 111, 45] ++ csTheirs else [116, 111, 45] ++ csOurs)
  else if o = 3 ∨ t = 3 then (1, 2, [102])
  else if o = 4 ∧ t = 4 then (2, 4, [102])
  else if o = 5 ∧ t = 5 then (1, 1, [102])
  else if (o = 1 ∨ o = 2) ∧ t = 5 ∨ o = 5 ∧ (t = 1 ∨ t = 2) then (1, 1, [102])
  else if o = t ∧ 0 < o ∧ o < 3 then (1, 1, [102])
  else (1, 0, [102])
def csOk (o t : Nat) : Bool :=
  match treemergeP [csF] (csSide o csOurs) (csSide t csTheirs) with
  | .error _ => false
  | .ok (l, v) => decide (l.length = (csWant o t).1) && decide (v = if (csWant o t).2.1 = 0 then [] else [⟨(csWant o t).2.2, (csWant o t).2.1⟩])
set_option maxRecDepth 100000 in
theorem cs_all : ((List.range 6).all fun o => (List.range 6).all fun t => csOk o t) = true := by kernel_rfl
theorem cs_ok {o t : Nat} (ho : o < 6) (ht : t < 6) : csOk o t = true :=
  List.all_eq_true.1 (List.all_eq_true.1 cs_all o (List.mem_range.2 ho)) t (List.mem_range.2 ht)
/-- What comes of one file. -/
theorem cs_table {o t : Nat} (ho : o < 6) (ht : t < 6) : ∃ l v, treemergeP [csF] (csSide o csOurs) (csSide t csTheirs) = .ok (l, v) ∧ l.length = (csWant o t).1 ∧ v = if (csWant o t).2.1 = 0 then [] else [⟨(csWant o t).2.2, (csWant o t).2.1⟩] := by
  have h := cs_ok ho ht
  unfold csOk at h
  split at h
  · cases h
  · rename_i l v e
    simp only [Bool.and_eq_true, decide_eq_true_eq] at h
    exact ⟨l, v, e, h.1, h.2⟩
end Go.Proofs.YteeeehfnldkjlaaGreatDoor
