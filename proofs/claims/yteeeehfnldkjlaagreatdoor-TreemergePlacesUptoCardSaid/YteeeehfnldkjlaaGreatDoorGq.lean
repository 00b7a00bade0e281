/-
  Arguments opened: bytes, ints, texts. No statement of the seat is proved here.
-/
import Derived.Test.YteeeehfnldkjlaaGreatDoorGh
namespace Go.Proofs.YteeeehfnldkjlaaGreatDoor
open Go.ChangeShapes Go.WideShapes Go.ChangeAt Go.RowKit
section
variable {H : Type} {enc : TypeId × Value → H} {w : World} {base : Nat} {spare : Nat → Bool} {held : Bool}
theorem opened_bytes {A : Option Addr} {len cap : Nat} {d : DataW H} {p : List MemPlace} (h : DataW.Trod enc Tryz.prog w base spare held 39 (.slice A len cap) d p) :
    ∃ l : List UInt8, l.length = len ∧ Reads w w.heap.size 1 A l.length (l.map byteV) ∧ l.length ≤ cap ∧ cap ≤ maxLen := by
  obtain ⟨fuel, hf⟩ := h
  have hf : DataW.trod enc Tryz.prog w base spare held fuel 39 [.slice A len cap] = some (d, p) := by simpa [Value.cells] using hf
  obtain ⟨l, h1, h2, h3, h4, _⟩ := open_listB (N := Rows.uptoBulk d) (f := fun a : UInt8 => [byteV a]) (V := fun _ => True) Tryz.underlying39 cells_byte (by decide) (fun _ => rfl) (fun _ _ _ h _ => by obtain ⟨x, hx⟩ := open_byte h; exact ⟨x, hx, trivial⟩) hf (Nat.le_refl _)
  subst h1
  rw [flat_byte] at h2
  exact ⟨l, rfl, h2, h3, h4⟩
theorem flat_int (l : List Int) : l.flatMap (fun a => [Value.int .i64 a]) = l.map (Value.int .i64) := by
  induction l with
  | nil => rfl
  | cons a l ih => rw [List.flatMap_cons, ih]; rfl
theorem opened_ints {A : Option Addr} {len cap : Nat} {d : DataW H} {p : List MemPlace} (h : DataW.Trod enc Tryz.prog w base spare held 54 (.slice A len cap) d p) :
    ∃ l : List Int, l.length = len ∧ Reads w w.heap.size 1 A l.length (l.map (Value.int .i64)) ∧ l.length ≤ cap ∧ cap ≤ maxLen ∧ ∀ x ∈ l, -9223372036854775808 ≤ x ∧ x ≤ 9223372036854775807 := by
  obtain ⟨fuel, hf⟩ := h
  have hf : DataW.trod enc Tryz.prog w base spare held fuel 54 [.slice A len cap] = some (d, p) := by simpa [Value.cells] using hf
  obtain ⟨l, h1, h2, h3, h4, _, h5⟩ := open_listB (N := Rows.uptoBulk d) (f := fun a : Int => [Value.int .i64 a]) (V := fun a => -9223372036854775808 ≤ a ∧ a ≤ 9223372036854775807) Tryz.underlying54 cells_int (by decide) (fun _ => rfl) (fun _ _ _ h _ => by
    obtain ⟨a, e, _, a2⟩ := DataW.trod_int Tryz.underlying3 h
    exact ⟨a, e, by simpa [Lit.wf, IntKind.min, IntKind.max, IntKind.signed, IntKind.bits] using a2⟩) hf (Nat.le_refl _)
  subst h1
  rw [flat_int] at h2
  exact ⟨l, rfl, h2, h3, h4, h5⟩
set_option maxRecDepth 100000 in
theorem opened_string {r : Reach} {b0 : Nat} {v : Value} {d : DataW H} {p : List MemPlace} {N : Nat} (hval : Value.okWide Tryz.prog w r b0 9 v) (h : DataW.Trod enc Tryz.prog w base spare held 9 v d p) (hb : Rows.uptoBulk d ≤ N) : ∃ s : List UInt8, v = .string ⟨s.toArray⟩ ∧ s.length ≤ N := by
  obtain ⟨a, rfl, rfl, _⟩ := ChangeMaps.open_string Tryz.underlying9 hval h
  refine ⟨a.data.toList, rfl, ?_⟩
  simp only [Rows.uptoBulk] at hb
  omega
end
end Go.Proofs.YteeeehfnldkjlaaGreatDoor
