/-
  Words for patch.Text: a builder that holds a text. No statement of the seat is proved here.
-/
import Derived.Test.YtlcidbbpjlpmjaaDoorTb
import Derived.Lib.AppendIntMem
namespace Go.Proofs.YtlcidbbpjlpmjaaDoor
open Go.RowKit

theorem IsB.keep_ {B b : Nat} {bs : List Value} {w w' : World} (h : IsB B b bs w) (k : Keep Nothing w w') : IsB B b bs w' := by
  have hk : ∀ p, BAt B b p bs w → BAt B b p bs w' := by
    rintro p ⟨h1, v, h2, h3, h4⟩
    have hlt : b < w.heap.size := (Array.getElem?_eq_some_iff.1 h2).1
    refine ⟨h1, v, (k.block b hlt (fun h => h)).trans h2, ⟨h3.1, ?_⟩, h4⟩
    rcases h3.2 with hn | ⟨g, cap, cur, fz, hv, hb, hgg, rest⟩
    · exact .inl hn
    · exact .inr ⟨g, cap, cur, fz, hv, hb, (k.block g (Array.getElem?_eq_some_iff.1 hgg).1 (fun h => h)).trans hgg, rest⟩
  exact h.imp (hk _) (hk _)
theorem IsB.lt_ {B b : Nat} {bs : List Value} {w : World} (h : IsB B b bs w) : b < w.heap.size := by
  rcases h with h | h
  · exact h.lt
  · exact h.lt
theorem Blk.others {w w' : World} {g b : Nat} {T : TypeId} {cs : Array Value} (h : Blk w g T cs) (ho : Lib.OthersKept 5 (some b) w w') (hg : g ≠ b) (hT : T ≠ 5) : Blk w' g T cs :=
  ho g _ h (fun e => hg (by injection e)) (fun c fz e => hT (by injection e))
/-- The builder at z holds the text T; what lay below z in w1 lies there. -/
structure TB (w1 wr : World) (z : Nat) (T : List UInt8) : Prop where
  is : IsB z z (Lib.byteCells T) wr
  below : Below z w1 wr
theorem TB.lt {w1 wr : World} {z : Nat} {T : List UInt8} (h : TB w1 wr z T) : z < wr.heap.size := h.is.lt_
theorem TB.keep {w1 wr w' : World} {z : Nat} {T : List UInt8} (h : TB w1 wr z T) (k : Keep Nothing wr w') : TB w1 w' z T :=
  ⟨h.is.keep_ k, h.below.trans (k.below (Nat.le_of_lt h.lt) (fun _ _ h => h))⟩
theorem TB.start (w1 : World) : TB w1 (w1.alloc (.cells #[.pointer none, .slice none 0 0] 82)) w1.heap.size [] :=
  ⟨Lib.IsBuilderF.of (Lib.fresh_isBuilder _ _ w1), (Keep.alloc (Keep.refl Nothing w1) _).all⟩
theorem TB.writeByte {w1 wr : World} {z : Nat} {T : List UInt8} (h : TB w1 wr z T) (c : UInt8) (hl : T.length + 1 ≤ 140737488355328) :
    Calls Tryd.prog 41 #[.pointer (some ⟨z, 0, none⟩), .int .u8 (c.toNat : Int)] wr fun e w' => e = .returned .nilIface ∧ TB w1 w' z (T ++ [c]) ∧ Lib.OthersKept 5 (some z) wr w' := by
  refine (writeByte_any z z _ _ wr h.is (by rw [Lib.byteCells_length]; exact hl) (Nat.le_of_lt h.lt)).mono ?_
  rintro e w' ⟨rfl, h1, h2, h3⟩
  refine ⟨rfl, ⟨.inr ?_, h.below.trans h2⟩, h3⟩
  rw [Lib.byteCells_append]
  exact h1
theorem TB.writeString {w1 wr : World} {z : Nat} {T : List UInt8} (h : TB w1 wr z T) (s : List UInt8) (hl : T.length + s.length ≤ 140737488355328) :
    Calls Tryd.prog 39 #[.pointer (some ⟨z, 0, none⟩), .string ⟨s.toArray⟩] wr fun e w' => e = .returned (.tuple #[.int .i64 (s.length : Nat), .nilIface]) ∧ TB w1 w' z (T ++ s) ∧ Lib.OthersKept 5 (some z) wr w' := by
  have hsz : (⟨s.toArray⟩ : ByteArray).size = s.length := by simp [ByteArray.size]
  refine (writeString_any z z _ ⟨s.toArray⟩ wr h.is (by rw [Lib.byteCells_length, hsz]; exact hl) (Nat.le_of_lt h.lt)).mono ?_
  rintro e w' ⟨rfl, h1, h2, h3⟩
  refine ⟨by rw [hsz], ⟨.inr ?_, h.below.trans h2⟩, h3⟩
  rw [Lib.byteCells_append]
  exact h1
theorem TB.string {w1 wr : World} {z : Nat} {T : List UInt8} (h : TB w1 wr z T) :
    Calls Tryd.prog 43 #[.pointer (some ⟨z, 0, none⟩)] wr fun e w' => e = .returned (.string ⟨T.toArray⟩) ∧ Below z w1 w' := by
  refine (Tryd.Builder_String_any_k z z T wr h.is (Nat.le_of_lt h.lt)).mono ?_
  rintro e w' ⟨rfl, _, h2, _⟩
  exact ⟨rfl, h.below.trans h2⟩
theorem grow_keep (w : World) (k : Nat) (os : Array Obj) : Keep Nothing w (Go.Sort.grow (w.drewN k) os) := by
  refine ⟨rfl, rfl, rfl, ?_, fun i hi _ => ?_⟩
  · show w.heap.size ≤ (w.heap ++ os).size
    rw [Array.size_append]; omega
  · show (w.heap ++ os)[i]? = w.heap[i]?
    rw [Array.getElem?_append_left hi]
theorem itoa_any (n : Int) (h0 : 0 ≤ n) (h1 : n ≤ 9223372036854775807) (w : World) (htab : Lib.TabIs Tryd.prog w "internal/strconv.uint64pow10" .u64 Lib.pow10Tab) :
    Calls Tryd.prog 40 #[.int .i64 n] w fun e w' => e = .returned (.string ⟨(Lib.itoa n).toArray⟩) ∧ Keep Nothing w w' := by
  refine (Tryd.strconv_Itoa n (by omega) h1 w htab).mono ?_
  rintro e w' ⟨rfl, k, os, rfl⟩
  exact ⟨rfl, grow_keep w k os⟩
end Go.Proofs.YtlcidbbpjlpmjaaDoor
