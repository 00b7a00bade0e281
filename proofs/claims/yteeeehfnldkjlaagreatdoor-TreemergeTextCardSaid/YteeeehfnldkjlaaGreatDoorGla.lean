/-
  A merge told with what it says. No statement of the seat is proved here.
-/
import Derived.Test.YteeeehfnldkjlaaGreatDoorGk
namespace Go.Proofs.YteeeehfnldkjlaaGreatDoor
open Go.RowKit Go.Maps
/-- What a merge tells: a tree, its clashes, a number. -/
def MergeSays (x : List FileD) (v : List ClashD) (n : Nat) (w : World) (e : Ending) (w' : World) : Prop := ∃ A c A' c', e = .returned (.tuple #[.slice A x.length c, .slice A' v.length c', .int .i64 (n : Nat)]) ∧ FI w' w'.heap.size A x ∧ Reads w' w'.heap.size 2 A' v.length (v.flatMap clashL) ∧ v.length ≤ 9223372036854775807 ∧ Below w.heap.size w w'
/-- The plain merge's answer, as it is told. -/
def SaysP (r : Except Nat (List FileD × List ClashD)) (x : List FileD) (v : List ClashD) (n : Nat) : Prop := r = .error n ∧ x = [] ∧ v = [] ∨ r = .ok (x, v) ∧ n = 0
theorem merge_says {b o t x : List FileD} {v : List ClashD} {n : Nat} (A1 A2 A3 : Option Addr) (c1 c2 c3 B : Nat) (w : World) (hB : B ≤ w.heap.size) (h1 : FI w B A1 b) (h2 : FI w B A2 o) (h3 : FI w B A3 t) (hv : VarM w) (l1 : ∀ f ∈ b, f.p.length ≤ 1000000) (l2 : ∀ f ∈ o, f.p.length ≤ 1000000) (l3 : ∀ f ∈ t, f.p.length ≤ 1000000)
    (hm : SaysP (treemergeP b o t) x v n) : Calls Tryz.prog 16 #[.slice A1 b.length c1, .slice A2 o.length c2, .slice A3 t.length c3] w (MergeSays x v n w) := by
  refine (merge_any b o t A1 A2 A3 c1 c2 c3 B w hB h1 h2 h3 hv l1 l2 l3).mono ?_
  rintro e w' ⟨hb, ⟨m, h, he⟩ | ⟨x', v', A, c, A', c', h, he, hf, ho⟩⟩
  · rcases hm with ⟨hm, rfl, rfl⟩ | ⟨hm, _⟩
    · rw [hm] at h
      injection h with h
      subst h
      exact ⟨none, 0, none, 0, he, FI.nil_ _ _ _, Reads.none_, Nat.zero_le _, hb⟩
    · rw [hm] at h; cases h
  · rcases hm with ⟨hm, _⟩ | ⟨hm, rfl⟩
    · rw [hm] at h; cases h
    · rw [hm] at h
      injection h with h
      injection h with e1 e2
      subst e1 e2
      have := ho.cap_le
      exact ⟨A, c, A', c', he, hf, ho.reads, Nat.le_trans this.1 this.2, hb⟩
end Go.Proofs.YteeeehfnldkjlaaGreatDoor
