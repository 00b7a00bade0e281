/-
  Contract of slices.Equal on rows of strings. No statement of the seat is proved here.
-/
import Derived.Test.YtlcidbbpjlpmjaaDoorRn
import Derived.Test.YtlcidbbpjlpmjaaDoorShelf
namespace Go.Proofs.YtlcidbbpjlpmjaaDoor
open Go.RowKit

def baL (l : List (List UInt8)) : List ByteArray := l.map fun s => ⟨s.toArray⟩
theorem baL_len (l : List (List UInt8)) : (baL l).length = l.length := by simp [baL]
theorem baL_inj {l m : List (List UInt8)} : baL l = baL m ↔ l = m := by
  constructor
  · intro h
    have := congrArg (List.map fun b : ByteArray => b.data.toList) h
    simpa [baL, List.map_map, Function.comp_def] using this
  · rintro rfl; rfl
theorem strL_cell {l : List (List UInt8)} {j : Nat} (hj : j < (baL l).length) : (strL l)[j]? = some (.string ((baL l).getD j ByteArray.empty)) := by
  rw [baL_len] at hj
  rw [strL_at' (List.getElem?_eq_getElem hj)]
  simp [baL, strC, hj]
set_option maxRecDepth 100000 in
theorem eqStr_any (xs ys : List (List UInt8)) (A1 A2 : Option Addr) (c d B B' : Nat) (w : World) (h1 : Reads w B 1 A1 xs.length (strL xs)) (h2 : Reads w B' 1 A2 ys.length (strL ys)) (hx : xs.length ≤ 9223372036854775807) (hy : ys.length ≤ 9223372036854775807) :
    Calls Tryd.prog 38 #[.slice A1 xs.length c, .slice A2 ys.length d] w fun r w' => r = .returned (.bool (decide (xs = ys))) ∧ ∃ n, w' = w.drewN n := by
  by_cases hl : xs.length = ys.length
  case neg =>
    have hne : decide (xs = ys) = false := decide_eq_false fun e => hl (by rw [e])
    refine (Tryd.slices_Equal_string_lens A1 A2 xs.length c ys.length d w hl).mono ?_
    rintro r w' ⟨rfl, rfl⟩
    exact ⟨by rw [hne], 0, rfl⟩
  case pos =>
    by_cases h0 : xs.length = 0
    · have hx0 := List.eq_nil_of_length_eq_zero h0
      have hy0 := List.eq_nil_of_length_eq_zero (hl ▸ h0)
      subst hx0 hy0
      refine (Tryd.slices_Equal_string_empty A1 A2 c 0 d w (by decide)).mono ?_
      rintro r w' ⟨rfl, rfl⟩
      exact ⟨by simp, 0, rfl⟩
    · obtain ⟨b1, o1, rfl, _, hc1⟩ := h1.at0 (by omega) (by omega)
      obtain ⟨b2, o2, rfl, _, hc2⟩ := h2.at0 (by omega) (by omega)
      refine (Tryd.slices_Equal_string b1 o1 xs.length c b2 o2 ys.length d (baL xs) (baL ys) w (by rw [baL_len]; exact Nat.le_refl _) (by rw [baL_len]; exact Nat.le_refl _) hx hy (fun j hj => hc1 j _ (strL_cell hj)) (fun j hj => hc2 j _ (strL_cell hj))).mono ?_
      rintro r w' ⟨rfl, hw⟩
      refine ⟨?_, hw⟩
      rw [List.take_of_length_le (by rw [baL_len]; exact Nat.le_refl _), List.take_of_length_le (by rw [baL_len]; exact Nat.le_refl _)]
      rw [decide_eq_decide.2 baL_inj]
end Go.Proofs.YtlcidbbpjlpmjaaDoor
