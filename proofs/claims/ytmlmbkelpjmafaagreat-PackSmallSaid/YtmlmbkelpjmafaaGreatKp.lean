/-
  Contracts of slices.Clone, bytes.Equal, pack.kind at a blob's letter. No statement of the seat is proved here.
-/
import Derived.Test.YtmlmbkelpjmafaaGreatKo
namespace Go.Proofs.YtmlmbkelpjmafaaGreat
open Go.RowKit Go.Shelf
theorem nil_none (w : World) (n c : Nat) : (binOp .eql 22 (.slice none n c) (.slice none 0 0)).run Tryz.prog w = .ok (.bool true) w := by kernel_rfl
theorem nil_some (w : World) (a : Addr) (n c : Nat) : (binOp .eql 22 (.slice (some a) n c) (.slice none 0 0)).run Tryz.prog w = .ok (.bool false) w := by kernel_rfl
theorem guard_nil (w : World) (x y : Operand) (A : Option Addr) (n c : Nat) : (eqGuard .eql 22 x y (.slice A n c) (.slice none 0 0)).run Tryz.prog w = .ok () w := by kernel_rfl
def ClonePost (b : List UInt8) (w : World) (r : Ending) (w' : World) : Prop := ∃ A c, r = .returned (.slice A b.length c) ∧ Own w' w.heap.size 5 1 A b.length c (b.map bv) ∧ Keep Nothing w w'
set_option maxHeartbeats 1000000 in
set_option maxRecDepth 100000 in
theorem clone_any (b : List UInt8) (A : Option Addr) (c : Nat) (B : Nat) (w : World) (hr : Reads w B 1 A b.length (b.map bv)) (hB : B ≤ w.heap.size) (hl : b.length ≤ 140737488355328) :
    Calls Tryz.prog 65 #[.slice A b.length c] w (ClonePost b w) := by
  cases A with
  | none =>
    have h0 : b = [] := by
      rcases Nat.eq_zero_or_pos b.length with h | h
      · exact List.eq_nil_of_length_eq_zero h
      · obtain ⟨ad, e, _⟩ := hr.2 h
        cases e
    subst h0
    go_enter Tryz.func65, Tryz.ntmps65
    go_wp2_with (first | (refine wpList_bin rfl rfl rfl rfl (guard_nil _ _ _ _ _ _) (nil_none _ _ _) ?_))
    go_ret
    exact ⟨none, 0, rfl, Own.nil _ _ _ _, Keep.refl _ _⟩
  | some ad =>
    go_enter Tryz.func65, Tryz.ntmps65
    go_wp2_with (first | (refine wpList_bin (o := ⟨some 4, _, _, _, _, _⟩) rfl rfl rfl rfl (guard_nil _ _ _ _ _ _) (nil_some _ _ _ _) ?_) | (at_builtin; refine wpList_append_sl rfl elemU8 rfl rfl (Own.fresh0 (heap_alloc_new _ _) (Nat.le_refl _)) rfl (hr.alloc hB _) (bvs_one b) (by unfold maxLen; omega) (by omega) (by simp) ?_; intro A2 c2 w2 ho2 hk2))
    go_ret
    simp only [Nat.zero_add, List.nil_append] at ho2
    refine ⟨A2, c2, by simp, ho2, ?_⟩
    exact ((Keep.refl Nothing w).alloc _).then_ hk2 (fun i hi h => by
      rcases h with h | ⟨h, _⟩
      · simp at h
      · omega)

theorem bconv (w : World) {B : Nat} {A : Option Addr} {n c : Nat} {l : List UInt8} (h : Reads w B 1 A n (l.map bv)) : (convert 22 9 (.slice A n c)).run Tryz.prog w = .ok (.string ⟨l.toArray⟩) w := by
  rw [run_convert_bytes_string w _ _ _ A n c Tryz.underlying22 Tryz.underlying5 Tryz.underlying9]
  exact run_str_of h
set_option maxHeartbeats 1000000 in
set_option maxRecDepth 100000 in
theorem bequal_any (x : List UInt8) {B B' : Nat} (A A' : Option Addr) (n c c' : Nat) (w : World) (h : Reads w B 1 A n (x.map bv)) (h' : Reads w B' 1 A' n (x.map bv)) :
    Calls Tryz.prog 23 #[.slice A n c, .slice A' n c'] w fun e w' => e = .returned (.bool true) ∧ w = w' := by
  have r1 := bconv w (c := c) h
  have r2 := bconv w (c := c') h'
  clear h h'
  go_enter Tryz.func23, Tryz.ntmps23
  go_wp2_with fail
  go_ret
  exact ⟨by simp, rfl⟩
theorem idx98 {P : Program} {w : World} {g n c : Nat} (h0 : w.cell? ⟨g, 0, none⟩ = some (.int .u8 98)) (h1 : w.cell? ⟨g, 1, none⟩ = some (.int .u8 116)) (h2 : w.cell? ⟨g, 2, none⟩ = some (.int .u8 99)) (hn : n = 3) :
    (Extern.BytealgIndexByte.indexByte #[.slice (some ⟨g, 0, none⟩) n c, .int .u8 98]).run P w = .ok (.int .i64 0) w := by
  subst hn
  have := Lib.run_indexByteSlice (P := P) (w := w) g 0 3 c [98, 116, 99] rfl (fun i hi => by
    match i, hi with
    | 0, _ => simpa using h0
    | 1, _ => simpa using h1
    | 2, _ => simpa using h2) 98
  rw [show Lib.indexByte (Lib.bytesOf [98, 116, 99]) (98 : Int).toNat.toUInt8 = 0 by decide] at this
  exact this
set_option maxHeartbeats 1000000 in
set_option maxRecDepth 100000 in
theorem bindex98_any {w : World} {g : Nat} (h0 : w.cell? ⟨g, 0, none⟩ = some (.int .u8 98)) (h1 : w.cell? ⟨g, 1, none⟩ = some (.int .u8 116)) (h2 : w.cell? ⟨g, 2, none⟩ = some (.int .u8 99)) :
    Calls Tryz.prog 78 #[.slice (some ⟨g, 0, none⟩) 3 3, .int .u8 98] w fun e w' => e = .returned (.int .i64 0) ∧ w = w' := by
  have HC := Lib.hid (idx98 (P := Tryz.prog) (c := 3) h0 h1 h2 rfl)
  clear h0 h1 h2
  go_enter Tryz.func78, Tryz.ntmps78
  go_wp2
  rw [run_callFunc_extern Tryz.func100 (by kernel_rfl) (by kernel_rfl) (by kernel_rfl) (e := Extern.BytealgIndexByte.indexByte) (by kernel_rfl), HC.out]
  simp only [Result.andThen]
  rw [Oper.upon_value]
  go_wp2
  go_ret
  exact ⟨rfl, rfl⟩
set_option maxHeartbeats 1000000 in
set_option maxRecDepth 100000 in
theorem kind98_any (ad : Addr) (c : Nat) (w : World) (h : w.cell? ad = some (.int .u8 98)) (hlt : ad.block < w.heap.size) :
    Calls Tryz.prog 64 #[.slice (some ad) 1 c] w fun e w' => e = .returned (.int .i64 1) ∧ Keep Nothing w w' := by
  have hcv := conv_bb w #[.int .u8 98, .int .u8 116, .int .u8 99] 3 3 _ rfl
  rw [show (#[Value.int .u8 98, .int .u8 116, .int .u8 99] : Array Value).size = 3 from rfl] at hcv
  have hm : (w.alloc (.cells #[.int .u8 98, .int .u8 116, .int .u8 99] 5 (3, 4))).heap[w.heap.size]? = some (.cells #[.int .u8 98, .int .u8 116, .int .u8 99] 5 (3, 4)) := heap_alloc_new _ _
  have hk : Keep Nothing w (w.alloc (.cells #[.int .u8 98, .int .u8 116, .int .u8 99] 5 (3, 4))) := (Keep.refl _ _).alloc _
  have q0 := cell_of_row _ _ 0 _ _ _ hm
  have q1 := cell_of_row _ _ 1 _ _ _ hm
  have q2 := cell_of_row _ _ 2 _ _ _ hm
  have had : (w.alloc (.cells #[.int .u8 98, .int .u8 116, .int .u8 99] 5 (3, 4))).cell? ad = some (.int .u8 98) := (World.cell?_alloc_lt w _ ad hlt).trans h
  have HK := Lib.hid hk
  simp at q0 q1 q2
  generalize hw : w.alloc (.cells #[.int .u8 98, .int .u8 116, .int .u8 99] 5 (3, 4)) = w1 at *
  have HI := Lib.hid (bindex98_any q0 q1 q2)
  clear hm hk q0 q1 q2 h hlt hw
  go_enter Tryz.func64, Tryz.ntmps64
  go_wp2_with (go_at_call 78; (with_reducible refine HI.out.mono ?_); rintro _ w2 ⟨rfl, rfl⟩)
  go_ret
  exact ⟨rfl, HK.out⟩
end Go.Proofs.YtmlmbkelpjmafaaGreat
