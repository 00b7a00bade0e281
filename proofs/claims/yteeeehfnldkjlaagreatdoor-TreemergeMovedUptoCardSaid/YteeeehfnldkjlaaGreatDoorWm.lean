/-
  Plain law of TreemergeMoved: the law's files. No statement of the seat is proved here.
-/
import Derived.Test.YteeeehfnldkjlaaGreatDoorTZ17
import Derived.Test.YteeeehfnldkjlaaGreatDoorTZ14
namespace Go.Proofs.YteeeehfnldkjlaaGreatDoor
open Go.RowKit

/-- The bytes of the law's file, n lines; the same with one line more behind line k. -/
def mvB (n : Nat) : List UInt8 := (List.range n).flatMap fun i => [UInt8.ofNat (97 + i), 10]
def mvC (k n : Nat) : List UInt8 := (List.range n).flatMap fun i => [UInt8.ofNat (97 + i), 10] ++ if i = k then [109, 111, 114, 101, 10] else []
theorem mvB_succ (n : Nat) : mvB (n + 1) = mvB n ++ [UInt8.ofNat (97 + n), 10] := by
  unfold mvB
  rw [List.range_succ, List.flatMap_append]
  simp
theorem mvC_succ (k n : Nat) : mvC k (n + 1) = mvC k n ++ ([UInt8.ofNat (97 + n), 10] ++ if n = k then [109, 111, 114, 101, 10] else []) := by
  unfold mvC
  rw [List.range_succ, List.flatMap_append]
  simp
theorem mvB_len : ∀ n, (mvB n).length = 2 * n
  | 0 => rfl
  | n + 1 => by rw [mvB_succ, List.length_append, mvB_len n]; simp only [List.length_cons, List.length_nil]; omega
theorem mvC_len (k : Nat) : ∀ n, (mvC k n).length ≤ 7 * n
  | 0 => Nat.le_refl _
  | n + 1 => by
    have := mvC_len k n
    rw [mvC_succ, List.length_append, List.length_append]
    split <;> simp only [List.length_cons, List.length_nil] <;> omega
def mvF (n : Nat) : FileD := ⟨[102], 1, mvB n⟩
def mvX (dst : Pth) (n : Nat) : FileD := ⟨dst, 1, mvB n⟩
def mvY (kind : Bool) (k n : Nat) : FileD := if kind = true then ⟨[102], 2, mvB n⟩ else ⟨[102], 1, mvC k n⟩
def mvW (dst : Pth) (kind : Bool) (k n : Nat) : FileD := if kind = true then ⟨dst, 2, mvB n⟩ else ⟨dst, 1, mvC k n⟩
/-- What comes of it. -/
theorem mv_table {dst : Pth} {kind : Bool} {k n : Nat} (hn : 0 < n) (hn2 : n ≤ 100) (h0 : 0 < (rnP dst).length) (hne : dst ≠ [102]) :
    treemergeP [mvF n] [mvX dst n] [mvY kind k n] = .ok ([mvW dst kind k n], []) ∧ treemergeP [mvF n] [mvY kind k n] [mvX dst n] = .ok ([mvW dst kind k n], []) := by
  have hB := mvB_len n
  have hC := mvC_len k n
  have hf : fileE (mvF n) = 0 := by
    unfold fileE mvF
    rw [if_neg (show ¬ ((1 : Int) ≠ 1 ∧ (1 : Int) ≠ 2 ∧ (1 : Int) ≠ 3) by decide), if_neg (show ¬ (8 < (nmP [102]).length ∨ (nmP [102]).any (fun s => !nameOk s) = true) by decide), if_neg (by show ¬ 65536 < (mvB n).length; omega)]
  have hx : fileE (mvX dst n) = 0 := by
    unfold fileE mvX
    rw [if_neg (show ¬ ((1 : Int) ≠ 1 ∧ (1 : Int) ≠ 2 ∧ (1 : Int) ≠ 3) by decide), if_neg (fun q => by have := (rnP_zero dst).2 q; omega), if_neg (by show ¬ 65536 < (mvB n).length; omega)]
  have hy : fileE (mvY kind k n) = 0 := by
    unfold mvY
    cases kind with
    | true => exact fileE_same hf rfl (.inr (.inl rfl)) (by show (mvB n).length ≤ _; omega)
    | false => exact fileE_same hf rfl (.inl rfl) (by show (mvC k n).length ≤ _; omega)
  have cb : countsP (mvF n) = true := by
    unfold countsP mvF
    simp only [beq_self_eq_true, Bool.true_or, Bool.true_and, decide_eq_true_eq]
    omega
  have h := merge_moved hf hx hy rfl rfl (fun e => hne e) (by unfold mvY; cases kind <;> rfl) cb
  have e : (⟨(mvX dst n).p, (mvY kind k n).k, (mvY kind k n).d⟩ : FileD) = mvW dst kind k n := by
    unfold mvX mvY mvW
    cases kind <;> rfl
  rw [e] at h
  exact h
end Go.Proofs.YteeeehfnldkjlaaGreatDoor
