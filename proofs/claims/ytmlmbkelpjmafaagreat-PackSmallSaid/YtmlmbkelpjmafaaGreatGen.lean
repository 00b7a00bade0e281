/-
  Rows of structs, whatever they hold. No statement of the seat is proved here.
-/
import Derived.Test.YtmlmbkelpjmafaaGreatPTOwn
namespace Go.Proofs.YtmlmbkelpjmafaaGreat
open Go.RowKit

theorem flatn_len {α : Type} {f : α → List Value} {C : Nat} (hf : ∀ a, (f a).length = C) (l : List α) : (l.flatMap f).length = l.length * C := by
  induction l with
  | nil => simp
  | cons x l ih => rw [List.flatMap_cons, List.length_append, hf, ih, List.length_cons, Nat.succ_mul, Nat.add_comm]
theorem flatn_at {α : Type} {f : α → List Value} {C : Nat} (hf : ∀ a, (f a).length = C) (l : List α) (k j : Nat) (x : α) (hk : l[k]? = some x) (u : Value) (hj : (f x)[j]? = some u) : (l.flatMap f)[k * C + j]? = some u := by
  induction l generalizing k with
  | nil => simp at hk
  | cons y l ih =>
    have hj' : j < C := by
      rcases Nat.lt_or_ge j C with q | q
      · exact q
      · rw [List.getElem?_eq_none (by rw [hf]; exact q)] at hj; cases hj
    cases k with
    | zero =>
      simp only [List.getElem?_cons_zero, Option.some.injEq] at hk
      subst hk
      rw [List.flatMap_cons, Nat.zero_mul, Nat.zero_add, List.getElem?_append_left (by rw [hf]; exact hj')]
      exact hj
    | succ k =>
      simp only [List.getElem?_cons_succ] at hk
      have e : (k + 1) * C = k * C + C := Nat.succ_mul k C
      rw [List.flatMap_cons, List.getElem?_append_right (by rw [hf]; omega), hf, show (k + 1) * C + j - C = k * C + j by omega]
      exact ih k hk
theorem Reads.of_blk {w : World} {g : Nat} {cs : Array Value} {t : TypeId} {fz : Nat × Nat} {size n : Nat} {xs : List Value} (h : w.heap[g]? = some (.cells cs t fz)) (hx : cs.toList = xs) (hl : xs.length = n * size) : Reads w (g + 1) size (some ⟨g, 0, none⟩) n xs := by
  refine ⟨hl, fun _ => ⟨_, rfl, Nat.lt_succ_self _, fun j u hj => ?_⟩⟩
  rw [add_at, cell_of_row w g (0 + j) cs t fz h, Nat.zero_add, ← hj, ← hx]
  simp
/-- One cell of an own row turned. -/
theorem Own.turn {w : World} {base g : Nat} {e : TypeId} {size n c : Nat} {xs ys : List Value} (h : Own w base e size (some ⟨g, 0, none⟩) n c xs) (j : Nat) (u : Value) (hy : xs.set j u = ys) :
    Own (w.setCell ⟨g, j, none⟩ u) base e size (some ⟨g, 0, none⟩) n c ys ∧ Kept base [e] [] w (w.setCell ⟨g, j, none⟩ u) := by
  have h1 := World.ownsRow.stored h j u
  exact ⟨hy ▸ h1.1, Kept.of_grown h h1.2 (by simp)⟩
theorem Own.adrn {w : World} {base : Nat} {e : TypeId} {A : Option Addr} {size n c : Nat} {xs : List Value} (h : Own w base e size A n c xs) (hn : 0 < n) : ∃ g, A = some ⟨g, 0, none⟩ ∧ base ≤ g := by
  rcases h.2 with ⟨_, h4⟩ | ⟨g, cap, cur, h3, h4, _⟩
  · omega
  · injection h3 with e1
    exact ⟨g, e1, h4⟩
end Go.Proofs.YtmlmbkelpjmafaaGreat
