/-
 A row of two, three files out of files. No statement of the seat is proved here.
-/
import Derived.Test.YteeeehfnldkjlaaGreatDoorTZGg
namespace Go.Proofs.YteeeehfnldkjlaaGreatDoor
open Go.RowKit Go.Maps
section
variable (a b c d e f g h i : Value)
set_option maxRecDepth 100000 in
theorem run_slice2F (w : World) : (SlB 2 #[(0, .agg #[a, b, c]), (1, .agg #[d, e, f])]).run Tryz.prog w = .ok (.slice (some ⟨w.heap.size, 0, none⟩) 2 2) (w.alloc (.cells #[a, b, c, d, e, f] 41)) := by
 kernel_rfl
set_option maxRecDepth 100000 in
theorem run_slice3F (w : World) : (SlB 3 #[(0, .agg #[a, b, c]), (1, .agg #[d, e, f]), (2, .agg #[g, h, i])]).run Tryz.prog w = .ok (.slice (some ⟨w.heap.size, 0, none⟩) 3 3) (w.alloc (.cells #[a, b, c, d, e, f, g, h, i] 41)) := by
 kernel_rfl
end
theorem fi_blk {W : World} {g : Nat} {fs : List FileD} {tv : List Value} {cs : Array Value} (hb : Blk W g 41 cs) (hc : cs.toList = filesL fs tv) (hl : tv.length = fs.length) (hd : ∀ (k : Nat) x y, fs[k]? = some x → tv[k]? = some y → DataR W W.heap.size x y) : FI W W.heap.size (some ⟨g, 0, none⟩) fs :=
 ⟨tv, hl, (Reads.of_blk (n := fs.length) (size := 3) (xs := filesL fs tv) hb hc (filesL_len hl)).more hb.lt, hd⟩
/-- Bytes of a file that reads below B. -/
structure DatR (W : World) (B : Nat) (f : FileD) (D : Option Addr) (d : Nat) : Prop where
 r : Reads W B 1 D f.d.length (f.d.map byteV)
 c : f.d.length ≤ d ∧ d ≤ maxLen
theorem DatR.below {W W' : World} {B : Nat} {f : FileD} {D : Option Addr} {d : Nat} (h : DatR W B f D d) (k : Below B W W') : DatR W' B f D d := ⟨h.r.below k, h.c⟩
theorem DatR.more {W : World} {B B' : Nat} {f : FileD} {D : Option Addr} {d : Nat} (h : DatR W B f D d) (k : B ≤ B') : DatR W B' f D d := ⟨h.r.more k, h.c⟩
theorem DatR.as {W : World} {B : Nat} {f f' : FileD} {D : Option Addr} {d : Nat} (h : DatR W B f D d) (e : f'.d = f.d) : DatR W B f' D d := ⟨by rw [e]; exact h.r, by rw [e]; exact h.c⟩
theorem fi_two {W : World} {B : Nat} {f1 f2 : FileD} {D1 D2 : Option Addr} {d1 d2 q : Nat} (hq : W.heap.size = q) (h1 : DatR W B f1 D1 d1) (h2 : DatR W B f2 D2 d2) (hB : B ≤ q) {s1 s2 : Value} (e1 : s1 = strC f1.p) (e2 : s2 = strC f2.p) :
    FI (W.alloc (.cells #[s1, .int .i64 f1.k, .slice D1 f1.d.length d1, s2, .int .i64 f2.k, .slice D2 f2.d.length d2] 41)) (W.alloc (.cells #[s1, .int .i64 f1.k, .slice D1 f1.d.length d1, s2, .int .i64 f2.k, .slice D2 f2.d.length d2] 41)).heap.size (some ⟨q, 0, none⟩) [f1, f2] := by
 subst e1 e2
 refine fi_blk (tv := [.slice D1 f1.d.length d1, .slice D2 f2.d.length d2]) (blk_new_at W _ _ q hq) rfl rfl fun k x y h h' => ?_
 have hm := fun {f D d} (h : DatR W B f D d) (o : Obj) => (h.below ((below_at (W := W) o hq).mono hB)).more (show B ≤ (W.alloc o).heap.size from by simp; omega)
 rcases k with _ | _ | k
 · cases h; cases h'; exact ⟨D1, d1, rfl, h1.c.1, h1.c.2, (hm h1 _).r⟩
 · cases h; cases h'; exact ⟨D2, d2, rfl, h2.c.1, h2.c.2, (hm h2 _).r⟩
 · cases h
theorem fi3_blk {W : World} {B : Nat} {f1 f2 f3 : FileD} {D1 D2 D3 : Option Addr} {d1 d2 d3 g : Nat} {s1 s2 s3 : Value} (hb : Blk W g 41 #[s1, .int .i64 f1.k, .slice D1 f1.d.length d1, s2, .int .i64 f2.k, .slice D2 f2.d.length d2, s3, .int .i64 f3.k, .slice D3 f3.d.length d3]) (h1 : DatR W B f1 D1 d1) (h2 : DatR W B f2 D2 d2) (h3 : DatR W B f3 D3 d3) (hB : B ≤ W.heap.size) (e1 : s1 = strC f1.p) (e2 : s2 = strC f2.p) (e3 : s3 = strC f3.p) :
    FI W W.heap.size (some ⟨g, 0, none⟩) [f1, f2, f3] := by
 subst e1 e2 e3
 refine fi_blk (tv := [.slice D1 f1.d.length d1, .slice D2 f2.d.length d2, .slice D3 f3.d.length d3]) hb rfl rfl fun k x y h h' => ?_
 rcases k with _ | _ | _ | k
 · cases h; cases h'; exact ⟨D1, d1, rfl, h1.c.1, h1.c.2, (h1.more hB).r⟩
 · cases h; cases h'; exact ⟨D2, d2, rfl, h2.c.1, h2.c.2, (h2.more hB).r⟩
 · cases h; cases h'; exact ⟨D3, d3, rfl, h3.c.1, h3.c.2, (h3.more hB).r⟩
 · cases h
theorem fi_three {W : World} {B : Nat} {f1 f2 f3 : FileD} {D1 D2 D3 : Option Addr} {d1 d2 d3 q : Nat} (hq : W.heap.size = q) (h1 : DatR W B f1 D1 d1) (h2 : DatR W B f2 D2 d2) (h3 : DatR W B f3 D3 d3) (hB : B ≤ q) {s1 s2 s3 : Value} (e1 : s1 = strC f1.p) (e2 : s2 = strC f2.p) (e3 : s3 = strC f3.p) :
    FI (W.alloc (.cells #[s1, .int .i64 f1.k, .slice D1 f1.d.length d1, s2, .int .i64 f2.k, .slice D2 f2.d.length d2, s3, .int .i64 f3.k, .slice D3 f3.d.length d3] 41)) (W.alloc (.cells #[s1, .int .i64 f1.k, .slice D1 f1.d.length d1, s2, .int .i64 f2.k, .slice D2 f2.d.length d2, s3, .int .i64 f3.k, .slice D3 f3.d.length d3] 41)).heap.size (some ⟨q, 0, none⟩) [f1, f2, f3] :=
 have k : ∀ o, Below B W (W.alloc o) := fun o => (below_at o hq).mono hB
 fi3_blk (blk_new_at W _ _ q hq) (h1.below (k _)) (h2.below (k _)) (h3.below (k _)) (by simp; omega) e1 e2 e3
theorem reads_set {w : World} {B g o n size : Nat} {xs : List Value} (h : Reads w B size (some ⟨g, o, none⟩) n xs) {p : Addr} (hp : p.block ≠ g) (u : Value) : Reads (w.setCell p u) B size (some ⟨g, o, none⟩) n xs :=
 ⟨h.1, fun hn => by
  obtain ⟨ad, e, hb, hc⟩ := h.2 hn
  refine ⟨ad, e, hb, fun j v hj => (World.cell?_setCell_other w p _ u (fun e' => hp ?_)).trans (hc j v hj)⟩
  injection e with e
  subst e
  have := congrArg Addr.block e'
  rw [block_of_add] at this
  exact this⟩
theorem DatR.set_ {W : World} {B g o : Nat} {f : FileD} {d : Nat} (h : DatR W B f (some ⟨g, o, none⟩) d) {p : Addr} (hp : p.block ≠ g) (v : Value) : DatR (W.setCell p v) B f (some ⟨g, o, none⟩) d := ⟨reads_set h.r hp v, h.c⟩
theorem ba_app2 (a b : List UInt8) : (⟨a.toArray⟩ : ByteArray) ++ ⟨b.toArray⟩ = ⟨(a ++ b).toArray⟩ := by
 apply ByteArray.ext
 simp
theorem FI.later {W W' : World} {A : Option Addr} {l : List FileD} (h : FI W W.heap.size A l) (k : Below W.heap.size W W') : FI W' W'.heap.size A l := (h.below k).more k.size
end Go.Proofs.YteeeehfnldkjlaaGreatDoor
