/-
  What pack.Build makes (plain); pack.number behind a constant's bytes. No statement of the seat is proved here.
-/
import Derived.Test.YtmlmbkelpjmafaaGreatKk
import Derived.Lib.SlBytesConst
import Derived.ArgAppend
namespace Go.Proofs.YtmlmbkelpjmafaaGreat
open Go.RowKit Go.Shelf
def wordB : List UInt8 := [83, 76, 86, 71, 80, 65, 75, 49]
def fanStep (f : List Nat) (b : Nat) : List Nat := f.set b (f.getD b 0 + 1)
def fst9 (i : Id) : Nat := (i.1.headD 0).toNat
def fanL (ids : List Id) : List Nat := ids.foldl (fun f i => fanStep f (fst9 i)) (List.replicate 256 0)
def cumL (f : List Nat) (k : Nat) : List Nat := (List.range k).map fun i => (f.take (i + 1)).sum
theorem fanL_len (ids : List Id) : (fanL ids).length = 256 := by
  have key : ∀ (l : List Id) (f : List Nat), (l.foldl (fun f i => fanStep f (fst9 i)) f).length = f.length := by
    intro l
    induction l with
    | nil => intro f; rfl
    | cons i l ih => intro f; rw [List.foldl_cons, ih]; simp [fanStep]
  unfold fanL
  rw [key, List.length_replicate]
theorem fanL_succ (ids : List Id) (i : Id) : fanL (ids ++ [i]) = fanStep (fanL ids) (fst9 i) := by
  unfold fanL
  rw [List.foldl_append]
  rfl
theorem fanL_le (ids : List Id) : ∀ v ∈ fanL ids, v ≤ ids.length := by
  have key : ∀ (l : List Id) (f : List Nat) (n : Nat), (∀ v ∈ f, v ≤ n) → ∀ v ∈ l.foldl (fun f i => fanStep f (fst9 i)) f, v ≤ n + l.length := by
    intro l
    induction l with
    | nil => intro f n h v hv; exact h v hv
    | cons i l ih =>
      intro f n h v hv
      rw [List.foldl_cons] at hv
      have := ih _ (n + 1) (fun v hv => by
        unfold fanStep at hv
        rcases List.mem_or_eq_of_mem_set hv with q | q
        · have := h v q; omega
        · subst q
          rw [List.getD_eq_getElem?_getD]
          cases e : f[fst9 i]? with
          | none => simp
          | some y => have := h y (List.mem_of_getElem? e); simp; omega) v hv
      simp only [List.length_cons]
      omega
  intro v hv
  have := key ids _ 0 (fun v hv => by rw [List.mem_replicate] at hv; omega) v hv
  omega
theorem cumL_succ (f : List Nat) (k : Nat) : cumL f (k + 1) = cumL f k ++ [(f.take (k + 1)).sum] := by simp [cumL, List.range_succ]
theorem cumL_len (f : List Nat) (k : Nat) : (cumL f k).length = k := by simp [cumL]
theorem sum_le (f : List Nat) (m : Nat) (h : ∀ v ∈ f, v ≤ m) (k : Nat) : (f.take k).sum ≤ k * m := by
  induction k with
  | zero => simp
  | succ k ih =>
    rw [List.take_add_one, Nat.succ_mul, List.sum_append]
    cases e : f[k]? with
    | none => simp; omega
    | some v => have := h v (List.mem_of_getElem? e); simp; omega
def headB (ids : List Id) : List UInt8 := wordB ++ [ids.length].flatMap (be 4) ++ (cumL (fanL ids) 256).flatMap (be 4) ++ ids.flatMap (·.1)
theorem idsB_len (ids : List Id) : (ids.flatMap (·.1)).length = ids.length * 32 := by
  induction ids with
  | nil => rfl
  | cons i l ih => rw [List.flatMap_cons, List.length_append, ih, i.2, List.length_cons]; omega
theorem headB_len (ids : List Id) : (headB ids).length = 1036 + ids.length * 32 := by
  unfold headB
  rw [List.length_append, List.length_append, List.length_append, nums_len, nums_len, idsB_len, cumL_len]
  simp [wordB]
def placesB (u xs : List UInt8) : List Nat := (atsTo u xs xs.length).map fun a => 1036 + xs.length * 36 + a
def bodyB (u xs : List UInt8) : List UInt8 := headB (xs.map (idU u)) ++ (placesB u xs).flatMap (be 4) ++ entsTo u xs xs.length
def packB (u xs : List UInt8) : List UInt8 := bodyB u xs ++ (sha (bodyB u xs)).1
def zFan : Array Value := ((List.replicate 256 0).map nv).toArray
set_option maxRecDepth 100000 in
theorem zero_fan (w : World) : (zeroValue 45).run Tryz.prog w = .ok (.agg zFan) w := by kernel_rfl
theorem info_fan : (Tryz.prog.info? 45).map (·.size) = some 256 := by kernel_rfl
theorem index_fan (w : World) (cs : Array Value) (i : Nat) (hi : i < 256) (v : Value) (hv : cs[i]? = some v) : (Instr.index 45 (.agg cs) (.int .i64 (i : Int))).run Tryz.prog w = .ok v w := by
  have h0 : (0 : Int) ≤ (i : Int) ∧ (i : Int) < (256 : Int) := by omega
  have hp := run_part_one (P := Tryz.prog) w Tryz.underlying3 rfl cs i v hv
  simp [Instr.index, run_underlying Tryz.underlying45, asIntOf, hp]
  exact fun q => absurd q (by omega)
theorem Own.ofNew {w : World} {g base : Nat} {e : TypeId} {cs : Array Value} (hb : Blk w g e cs) (hz : base ≤ g) (hl : cs.size ≤ maxLen) : Own w base e 1 (some ⟨g, 0, none⟩) cs.size cs.size cs.toList :=
  ⟨by simp, .inr ⟨g, cs.size, cs, rfl, hz, hb, Nat.le_refl _, hl, by simp, by rw [Nat.mul_one, List.take_of_length_le (by simp)]⟩⟩
section
variable {P : Program}
/-- Append to a full row that is read alone: a new one. -/
theorem wpList_append_full {ops : Array Oper} {rest : List Oper} {o : Oper} {a : Act} {w : World} {Q : Exit → Act → World → Prop} (hgd : o.guard = none) {s x : Operand} {t e : TypeId} {size bytes : Nat} (H : Elem P t e size bytes)
    (ho : o.op = .call { callee := .builtin .append, args := #[s, x], argTypes := #[t, t] }) {B0 : Nat} {b : Addr} {n : Nat} {xs : List Value} (hs : a.eval s = .slice (some b) n n) (hr0 : Reads w B0 size (some b) n xs) (hn0 : 0 < n)
    {B : Nat} {S : Addr} {m d : Nat} {news : List Value} (hm : 0 < m) (hx : a.eval x = .slice (some S) m d) (hr : Reads w B size (some S) m news) (h1 : ∀ u ∈ news, u.oneCell' = true)
    (h63 : n + m ≤ maxLen) (hbytes : (n + m) * bytes ≤ 140737488355328)
    (h : ∀ A' c' w', Own w' w.heap.size e size A' (n + m) c' (xs ++ news) → Kept w.heap.size [e] [] w w' → wpList P ops Q rest (a.put o.dst (.slice A' (n + m) c')) w') : wpList P ops Q (o :: rest) a w := by
  obtain ⟨ht, ⟨i, z, hi, hz, hsize, hby, hzs⟩, hpos⟩ := H
  obtain ⟨b', e1, _, c1⟩ := hr0.2 hn0
  injection e1 with e1
  subst e1
  obtain ⟨S', e2, _, c2⟩ := hr.2 hm
  injection e2 with e2
  subst e2
  obtain ⟨v', w', hrun, r1, r2⟩ := run_append_arg_grows (P := P) w t o.type e i z size bytes ht hi hz hsize hby hzs hpos b n n xs hr0.1 c1 S m d news hr.1 c2 (by omega) h63 hbytes
  obtain ⟨A', c', rfl⟩ := slice_of_own r1
  exact wpList_plain hgd fun _ hK => wp_append_run ho hs hx hrun (hK _ _ (h A' c' w' r1 (Keep.grown (Keep.refl _ _) r2 (fun _ q => by cases q))))
end
set_option maxHeartbeats 4000000 in
set_option maxRecDepth 100000 in
/-- pack.number behind a full row that is read alone. -/
theorem pnumberF_any {B : Nat} (b : Addr) (bs : List UInt8) (n : Nat) (az : Int) (ha : az = n) (w : World) (hr : Reads w B 1 (some b) bs.length (bs.map bv)) (hB : B ≤ w.heap.size) (h0 : 0 < bs.length) (hs : bs.length ≤ 100000) :
    Calls Tryz.prog 12 #[.slice (some b) bs.length bs.length, .slice (some ⟨w.heap.size, 0, none⟩) 1 1] (w.alloc (.cells #[.int .i64 az] 3)) fun e w' => ∃ A c, e = .returned (.slice A (bs ++ be 4 n).length c) ∧ Own w' w.heap.size 5 1 A (bs ++ be 4 n).length c ((bs ++ be 4 n).map bv) ∧ Kept w.heap.size [5] [] w w' := by
  subst ha
  have hr1 := hr.alloc hB (.cells #[.int .i64 (n : Int)] 3)
  have hb1 : Blk (w.alloc (.cells #[.int .i64 (n : Int)] 3)) w.heap.size 3 #[.int .i64 (n : Int)] := Blk.new _ _ _
  have hk1 : Kept w.heap.size [5] [] w (w.alloc (.cells #[.int .i64 (n : Int)] 3)) := (Kept.refl _ _ _ w).alloc _
  have hz1 : w.heap.size ≤ (w.alloc (.cells #[.int .i64 (n : Int)] 3)).heap.size := by simp
  generalize w.alloc (.cells #[.int .i64 (n : Int)] 3) = w1 at *
  have hc := hb1.cell 0
  simp at hc
  have HR := Lib.hid hr1
  have HK := Lib.hid hk1
  have HZ := Lib.hid hz1
  have HBB := Lib.hid (show B ≤ w1.heap.size by omega)
  have hm1 : bs.length + 4 ≤ maxLen := by unfold maxLen; omega
  have hm2 : (bs.length + 4) * 1 ≤ 140737488355328 := by omega
  have e1 : IntKind.u8.wrap ((n : Int) / 16777216) = ((UInt8.ofNat (n / 16777216)).toNat : Int) := byte_at (m := 3) n 16777216 rfl
  have e2 : IntKind.u8.wrap ((n : Int) / 65536) = ((UInt8.ofNat (n / 65536)).toNat : Int) := byte_at (m := 2) n 65536 rfl
  have e3 : IntKind.u8.wrap ((n : Int) / 256) = ((UInt8.ofNat (n / 256)).toNat : Int) := byte_at (m := 1) n 256 rfl
  have e4 : IntKind.u8.wrap (n : Int) = ((UInt8.ofNat n).toNat : Int) := wrap_byte n
  have HC4 := Lib.hid (num4_cells n)
  generalize UInt8.ofNat (n / 16777216) = y1 at *
  generalize UInt8.ofNat (n / 65536) = y2 at *
  generalize UInt8.ofNat (n / 256) = y3 at *
  generalize UInt8.ofNat n = y4 at *
  clear hr hr1 hb1 hk1 hz1 hB
  go_enter Tryz.func12, Tryz.ntmps12
  go_wp2_with fail
  go_loopg [0, 9] 1 (fun kx s0 s9 wr => (s9 = .int .i64 0 ∧ s0 = .slice (some b) bs.length bs.length ∧ kx = 1 ∧ w1 = wr) ∨ (s9 = .int .i64 1 ∧ ∃ A c, s0 = .slice A (bs ++ be 4 n).length c ∧ Hid (Own wr w.heap.size 5 1 A (bs ++ be 4 n).length c ((bs ++ be 4 n).map bv)) ∧ Hid (Kept w.heap.size [5] [] w wr)))
  case atStart => exact .inl ⟨rfl, rfl, rfl, rfl⟩
  case round =>
    rcases hrel with ⟨rfl, rfl, hk1, rfl⟩ | ⟨rfl, A, c, rfl, HO, HK2⟩
    · go_wp2_with (refine wpList_append_full rfl elemU8 rfl rfl (HR.out.alloc HBB.out _) h0 (by omega) rfl (Reads.of_cells (xs := [bv y1, bv y2, bv y3, bv y4]) (heap_alloc_new _ _) rfl rfl) (bvs_one [y1, y2, y3, y4]) hm1 hm2 ?_; intro A' c' w2 ho2 hk2)
      go_roundg 0
      case measure => omega
      case rel =>
        refine .inr ⟨rfl, A', c', by rw [List.length_append, be_len], Lib.hid ?_, Lib.hid (HK.out.trans (((Kept.refl _ _ _ w1).alloc _).trans (hk2.mono (by simp; exact Nat.le_succ_of_le HZ.out) (by simp) (by simp))))⟩
        rw [List.length_append, be_len, List.map_append, HC4.out]
        exact ho2.mono (by simp; exact Nat.le_succ_of_le HZ.out)
    · go_wp2_with fail
      go_ret
      exact ⟨A, c, rfl, HO.out, HK2.out⟩
theorem conv_bb (W : World) (C : Array Value) (n c g : Nat) (hg : W.heap.size = g) : (convert 22 22 (.slice (some ⟨g, 0, none⟩) n c)).run Tryz.prog (W.alloc (.cells C 5)) = .ok (.slice (some ⟨g, 0, none⟩) n c) (W.alloc (.cells C 5 (C.size, C.size + 1))) := by
  subst hg
  exact Lib.run_convert_bytes_const W 22 5 C n c Tryz.underlying22 Tryz.underlying5
def BuildPost (u : List UInt8) (os : List Ob) (w : World) (r : Ending) (w' : World) : Prop := ∃ A c xs, r = .returned (.tuple #[.slice A (packB u xs).length c, .int .i64 0]) ∧ xs.Perm (os.map Ob.x) ∧ xs.Pairwise (fun a b => (idU u a).1 < (idU u b).1) ∧ Own w' w.heap.size 5 1 A (packB u xs).length c ((packB u xs).map bv) ∧ Below w.heap.size w w'
end Go.Proofs.YtmlmbkelpjmafaaGreat
