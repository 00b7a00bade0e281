/-
  Bytes out of texts; a file in its box put into a row of one. No statement of the seat is proved here.
-/
import Derived.Test.YteeeehfnldkjlaaGreatDoorTZGg
import Derived.Test.YteeeehfnldkjlaaGreatDoorWj
import Derived.Lib.AtoiErrMem
namespace Go.Proofs.YteeeehfnldkjlaaGreatDoor
open Go.RowKit Go.Maps

theorem conv_data (l : List UInt8) (w : World) (hl : l.length ≤ maxLen) : ∃ c w', (convert 9 39 (.string ⟨l.toArray⟩)).run Tryz.prog w = .ok (.slice (some ⟨w.heap.size, 0, none⟩) l.length c) w' ∧ Below w.heap.size w w' ∧ l.length ≤ c ∧ c ≤ maxLen ∧ Reads w' w'.heap.size 1 (some ⟨w.heap.size, 0, none⟩) l.length (l.map byteV) := by
  have hz : (⟨l.toArray⟩ : ByteArray).size = l.length := by simp [ByteArray.size]
  have hcs : l.length ≤ (Lib.bytesCells w 5 ⟨l.toArray⟩).size := by simp [Lib.bytesCells]
  have hn := Lib.bytesWorld_at_new w 5 ⟨l.toArray⟩
  refine ⟨grownCap w l.length 0 5, Lib.bytesWorld w 5 ⟨l.toArray⟩, by have := Lib.run_convert_string_bytes (P := Tryz.prog) w 9 39 5 ⟨l.toArray⟩ Tryz.underlying9 Tryz.underlying39 Tryz.underlying5; rw [hz] at this; exact this, Lib.bytesWorld_below _ _ _, grownCap_ge _ _ _ _, grownCap_le_maxLen _ _ _ _ hl, by simp, fun _ => ⟨_, rfl, ?_, fun j u hj => ?_⟩⟩
  · exact (Array.getElem?_eq_some_iff.1 hn).1
  · rw [add_at, Nat.zero_add]
    rw [List.getElem?_map] at hj
    obtain ⟨x, hx, rfl⟩ := Option.map_eq_some_iff.1 hj
    have hlt : j < l.length := (List.getElem?_eq_some_iff.1 hx).1
    have e : l[j] = x := by rw [List.getElem?_eq_getElem hlt] at hx; exact Option.some.inj hx
    simp only [World.cell?, hn]
    simp [Lib.bytesCells, Array.getElem?_append, hlt, byteV, e]
theorem ba_app (a b : List UInt8) : (⟨a.toArray⟩ : ByteArray) ++ ⟨b.toArray⟩ = ⟨(a ++ b).toArray⟩ := by
  apply ByteArray.ext
  simp
/-- The file in its box, put into a row of one. -/
theorem side_fin {W : World} {q B : Nat} {f : FileD} {D : Option Addr} {d : Nat} (hq : W.heap.size = q) (hr : Reads W B 1 D f.d.length (f.d.map byteV)) (hB : B ≤ q) (h1 : f.d.length ≤ d) (h2 : d ≤ maxLen) : FI (W.alloc (.cells (fileC f D d) 41)) (W.alloc (.cells (fileC f D d) 41)).heap.size (some ⟨q, 0, none⟩) [f] :=
  fi_one (B := q) (blk_new_at W 41 (fileC f D d) q hq) ((hr.more hB).below (below_at _ hq)) (by rw [size_at _ _ _ hq]; omega) h1 h2
end Go.Proofs.YteeeehfnldkjlaaGreatDoor
