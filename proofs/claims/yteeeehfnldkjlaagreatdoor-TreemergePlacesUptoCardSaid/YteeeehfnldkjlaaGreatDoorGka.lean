/-
  A clash loaded out of a row. No statement of the seat is proved here.
-/
import Derived.Test.YteeeehfnldkjlaaGreatDoorTZGg
namespace Go.Proofs.YteeeehfnldkjlaaGreatDoor
open Go.RowKit Go.Maps

/-- A clash as a struct. -/
def clashV (x : ClashD) : Value := .agg (clashL x).toArray
theorem flat2 : ∀ (v : List ClashD) (k : Nat) (x : ClashD), v[k]? = some x → ∀ j, j < 2 → (v.flatMap clashL)[k * 2 + j]? = (clashL x)[j]?
  | [], _, _, h, _, _ => by cases h
  | y :: v, 0, x, h, j, hj => by
    obtain rfl : y = x := Option.some.inj h
    rw [List.flatMap_cons, Nat.zero_mul, Nat.zero_add, List.getElem?_append_left (by simpa [clashL] using hj)]
  | y :: v, k + 1, x, h, j, hj => by
    rw [List.flatMap_cons, List.getElem?_append_right (by simp [clashL]; omega), show (k + 1) * 2 + j - (clashL y).length = k * 2 + j from by simp [clashL]; omega]
    exact flat2 v k x h j hj
theorem clash_load {w : World} {B : Nat} {A : Option Addr} {v : List ClashD} (h : Reads w B 2 A v.length (v.flatMap clashL)) {k : Nat} {x : ClashD} (hk : v[k]? = some x) : ∃ g o, A = some ⟨g, o, none⟩ ∧ (LdCl (.pointer (some ⟨g, o + k * 2, none⟩))).run Tryz.prog w = .ok (clashV x) w := by
  have hlt := (List.getElem?_eq_some_iff.1 hk).1
  obtain ⟨g, o, rfl, _, hc⟩ := h.at0 (by omega) (by omega)
  refine ⟨g, o, rfl, run_loadAt_cells w _ (clashL x).toArray Tryz.underlying44 rfl info_clash2 (fun j u hj => ?_)⟩
  rw [add_at, Nat.add_assoc]
  have hj2 : j < 2 := by simpa [clashL] using (List.getElem?_eq_some_iff.1 hj).1
  exact hc _ _ ((flat2 v k x hk j hj2).trans hj)
end Go.Proofs.YteeeehfnldkjlaaGreatDoor
