/-
  Contract of slices.symMergeCmpFunc at pack's rows. UNDER WAY. No statement of the seat is proved here.
-/
import Derived.Test.YtmlmbkelpjmafaaGreatKc
namespace Go.Proofs.YtmlmbkelpjmafaaGreat
open Go.RowKit Go.Lib Go.Sort Go.Shelf
variable {α : Type}
theorem tri_rot {cf : α → α → Int} {f : Nat → α} {a s m e b : Nat} (h1 : a ≤ s) (h2 : s ≤ m) (h3 : m ≤ e) (h4 : e ≤ b) (h : Tri9 cf f a b) : Tri9 cf (rotF f s m e) a b := by
  have key : ∀ t, a ≤ t → t < b → ∃ u, a ≤ u ∧ u < b ∧ rotF f s m e t = f u ∧ (u = if s ≤ t ∧ t < s + (e - m) then t - s + m else if s + (e - m) ≤ t ∧ t < e then t - (e - m) else t) := fun t h5 h6 => by
    unfold rotF
    by_cases q : s ≤ t ∧ t < s + (e - m)
    · rw [if_pos q]
      exact ⟨t - s + m, by omega, by omega, rfl, by rw [if_pos q]⟩
    · rw [if_neg q]
      by_cases r : s + (e - m) ≤ t ∧ t < e
      · rw [if_pos r]
        exact ⟨t - (e - m), by omega, by omega, rfl, by rw [if_neg q, if_pos r]⟩
      · rw [if_neg r]
        exact ⟨t, h5, h6, rfl, by rw [if_neg q, if_neg r]⟩
  intro i j hi hib hj hjb hij
  obtain ⟨u, u1, u2, u3, u4⟩ := key i hi hib
  obtain ⟨v, v1, v2, v3, v4⟩ := key j hj hjb
  rw [u3, v3]
  refine h u v u1 u2 v1 v2 fun e9 => hij ?_
  rw [u4, v4] at e9
  repeat' split at e9
  all_goals omega
theorem Tri9.part {cf : α → α → Int} {f : Nat → α} {a b a' b' : Nat} (h : Tri9 cf f a b) (h1 : a ≤ a') (h2 : b' ≤ b) : Tri9 cf f a' b' := fun i j hi hib hj hjb hij => h i j (by omega) (by omega) (by omega) (by omega) hij
theorem Tri9.congr {cf : α → α → Int} {f g : Nat → α} {a b : Nat} (h : Tri9 cf f a b) (he : ∀ t, a ≤ t → t < b → g t = f t) : Tri9 cf g a b := fun i j hi hib hj hjb hij => by
  rw [he i hi hib, he j hj hjb]
  exact h i j hi hib hj hjb hij
end Go.Proofs.YtmlmbkelpjmafaaGreat
