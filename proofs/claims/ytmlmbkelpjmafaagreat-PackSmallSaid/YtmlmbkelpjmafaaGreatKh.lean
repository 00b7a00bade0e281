/-
  Contracts of pack.number and delta.number. No statement of the seat is proved here.
-/
import Derived.Test.YtmlmbkelpjmafaaGreatKg
import Derived.Test.YtmlmbkelpjmafaaGreatPT03
namespace Go.Proofs.YtmlmbkelpjmafaaGreat
open Go.RowKit
def nv (n : Nat) : Value := .int .i64 (n : Int)
theorem byte_at {m : Nat} (n k : Nat) (h : k = 256 ^ m) : IntKind.u8.wrap ((n : Int) / (k : Int)) = ((UInt8.ofNat (n / 256 ^ m)).toNat : Int) := by
  subst h
  rw [← Int.natCast_ediv]
  exact wrap_byte _
theorem num4_cells (n : Nat) : (be 4 n).map bv = [bv (UInt8.ofNat (n / 16777216)), bv (UInt8.ofNat (n / 65536)), bv (UInt8.ofNat (n / 256)), bv (UInt8.ofNat n)] := by
  simp [be]
theorem nums_len (ns : List Nat) : (ns.flatMap (be 4)).length = ns.length * 4 := by
  induction ns with
  | nil => rfl
  | cons n ns ih => simp [be_len, ih]; omega
section
variable {P : Program}
/-- p is not the block of this row. -/
def NotB (A : Option Addr) (n c p : Nat) : Prop := (Value.slice A n c).ownBlock ≠ some p
theorem run_append_slf {w : World} {t e ty : TypeId} {size bytes : Nat} (H : Elem P t e size bytes) {base : Nat} {A : Option Addr} {n c : Nat} {xs : List Value} (hown : Own w base e size A n c xs)
    {B : Nat} {ad : Addr} {m d : Nat} {news : List Value} (hm : 0 < m) (hr : Reads w B size (some ad) m news) (h1 : ∀ u ∈ news, u.oneCell' = true)
    (h63 : n + m ≤ maxLen) (hbytes : (n + m) * bytes ≤ 140737488355328) (hbase : base ≤ w.heap.size) :
    ∃ A' c' w', (Builtin.append_ #[t, t] ty #[.slice A n c, .slice (some ad) m d]).run P w = .ok (.slice A' (n + m) c') w' ∧ Own w' base e size A' (n + m) c' (xs ++ news) ∧ Kept base [e] [] w w' ∧ ∀ p, p < w.heap.size → NotB A n c p → w'.heap[p]? = w.heap[p]? ∧ NotB A' (n + m) c' p := by
  obtain ⟨ht, ⟨i, z, hi, hz, hsize, hby, hzs⟩, hpos⟩ := H
  have hcells : ∀ j u, news[j]? = some u → w.cell? (ad.add j) = some u := by
    obtain ⟨ad', h, _, hc⟩ := hr.2 hm
    injection h with h
    subst h
    exact hc
  obtain ⟨v', w', hrun, h2, h3, _, h5⟩ := run_append_own_at (P := P) w base t ty e i z size bytes ht hi hz hsize hby hzs hpos _ n xs hown ad m d news hr.1 hcells h1 h63 hbytes hbase
  obtain ⟨A', c', rfl⟩ := slice_of_own h2
  refine ⟨A', c', w', hrun, h2, Kept.of_grown hown h3 (by simp), fun p hp hn => ⟨h3.block p hp (fun e => hn e.symm), ?_⟩⟩
  unfold NotB at hn ⊢
  rcases h5 with q | q
  · rw [q]; exact hn
  · rw [q]
    intro e
    injection e with e
    omega
theorem wpList_append_slf {ops : Array Oper} {rest : List Oper} {o : Oper} {a : Act} {w : World} {Q : Exit → Act → World → Prop} (hgd : o.guard = none) {s x : Operand} {t e : TypeId} {size bytes : Nat} (H : Elem P t e size bytes)
    (ho : o.op = .call { callee := .builtin .append, args := #[s, x], argTypes := #[t, t] }) {base : Nat} {A : Option Addr} {n c : Nat} {xs : List Value} (hs : a.eval s = .slice A n c) (hown : Own w base e size A n c xs)
    {B : Nat} {S : Addr} {m d : Nat} {news : List Value} (hm : 0 < m) (hx : a.eval x = .slice (some S) m d) (hr : Reads w B size (some S) m news) (h1 : ∀ u ∈ news, u.oneCell' = true)
    (h63 : n + m ≤ maxLen) (hbytes : (n + m) * bytes ≤ 140737488355328) (hbase : base ≤ w.heap.size)
    (h : ∀ A' c' w', Own w' base e size A' (n + m) c' (xs ++ news) → Kept base [e] [] w w' → (∀ p, p < w.heap.size → NotB A n c p → w'.heap[p]? = w.heap[p]? ∧ NotB A' (n + m) c' p) → wpList P ops Q rest (a.put o.dst (.slice A' (n + m) c')) w') : wpList P ops Q (o :: rest) a w := by
  obtain ⟨A', c', w', hrun, h2, h3, h4⟩ := run_append_slf (ty := o.type) (d := d) H hown hm hr h1 h63 hbytes hbase
  exact wpList_plain hgd fun _ hK => wp_append_run ho hs hx hrun (hK _ _ (h A' c' w' h2 h3 h4))
end
def Num4Post (base : Nat) (A0 : Option Addr) (n0 c0 : Nat) (bs : List UInt8) (w : World) (r : Ending) (w' : World) : Prop := ∃ A c, r = .returned (.slice A bs.length c) ∧ Own w' base 5 1 A bs.length c (bs.map bv) ∧ Kept base [5] [] w w' ∧ ∀ p, p < w.heap.size → NotB A0 n0 c0 p → w'.heap[p]? = w.heap[p]? ∧ NotB A bs.length c p
set_option maxHeartbeats 4000000 in
set_option maxRecDepth 100000 in
theorem pnumber_any {base : Nat} {A : Option Addr} {c : Nat} (bs : List UInt8) (ns : List Nat) (g : Nat) (w : World) (ho : Own w base 5 1 A bs.length c (bs.map bv)) (hb : Blk w g 3 (ns.map nv).toArray) (hbz : base ≤ w.heap.size) (hs : bs.length ≤ 100000000) (hn : ns.length ≤ 1000) :
    Calls Tryz.prog 12 #[.slice A bs.length c, .slice (some ⟨g, 0, none⟩) ns.length ns.length] w (Num4Post base A bs.length c (bs ++ ns.flatMap (be 4)) w) := by
  go_enter Tryz.func12, Tryz.ntmps12
  go_wp2_with fail
  go_loopg [0, 9] ns.length (fun kx s0 s9 wr => ∃ (k : Nat) (A1 : Option Addr) (c1 : Nat) (b1 : List UInt8), s9 = .int .i64 k ∧ s0 = .slice A1 b1.length c1 ∧ k ≤ ns.length ∧ ns.length - k ≤ kx ∧ Hid (b1 = bs ++ (ns.take k).flatMap (be 4)) ∧ Hid (Own wr base 5 1 A1 b1.length c1 (b1.map bv)) ∧ Hid (Kept base [5] [] w wr) ∧ Hid (∀ p, p < w.heap.size → NotB A bs.length c p → wr.heap[p]? = w.heap[p]? ∧ NotB A1 b1.length c1 p))
  case atStart => exact ⟨0, A, c, bs, rfl, rfl, Nat.zero_le _, Nat.le_refl _, Lib.hid (by simp), Lib.hid ho, Lib.hid (Kept.refl _ _ _ _), Lib.hid (fun p _ h => ⟨rfl, h⟩)⟩
  case round =>
    obtain ⟨k, A1, c1, b1, rfl, rfl, hk, hkx, HB1, HO, HK, HNB⟩ := hrel
    by_cases hlt : k < ns.length
    · have hltz : (k : Int) < (ns.length : Int) := by omega
      obtain ⟨n, hn1⟩ : ∃ n, ns[k]? = some n := ⟨_, List.getElem?_eq_getElem hlt⟩
      have hcell : wr.cell? ⟨g, k, none⟩ = some (nv n) := by
        rw [(HK.out.blk hb (by simp) (by decide)).cell]
        simp [hn1]
      unfold nv at hcell
      have hl1 : b1.length ≤ bs.length + k * 4 := by
        rw [HB1.out, List.length_append, nums_len, List.length_take]
        omega
      have hm1 : b1.length + 4 ≤ maxLen := by unfold maxLen; omega
      have hm2 : (b1.length + 4) * 1 ≤ 140737488355328 := by omega
      have HZ := Lib.hid hbz
      have hb2 : base ≤ wr.heap.size := Nat.le_trans hbz HK.out.size
      have HT := Lib.hid (show b1 ++ be 4 n = bs ++ (ns.take (k + 1)).flatMap (be 4) by
        rw [HB1.out, List.take_add_one, hn1]
        simp)
      have e1 : IntKind.u8.wrap ((n : Int) / 16777216) = ((UInt8.ofNat (n / 16777216)).toNat : Int) := byte_at (m := 3) n 16777216 rfl
      have e2 : IntKind.u8.wrap ((n : Int) / 65536) = ((UInt8.ofNat (n / 65536)).toNat : Int) := byte_at (m := 2) n 65536 rfl
      have e3 : IntKind.u8.wrap ((n : Int) / 256) = ((UInt8.ofNat (n / 256)).toNat : Int) := byte_at (m := 1) n 256 rfl
      have e4 : IntKind.u8.wrap (n : Int) = ((UInt8.ofNat n).toNat : Int) := wrap_byte n
      have hc4 := num4_cells n
      generalize UInt8.ofNat (n / 16777216) = y1 at *
      generalize UInt8.ofNat (n / 65536) = y2 at *
      generalize UInt8.ofNat (n / 256) = y3 at *
      generalize UInt8.ofNat n = y4 at *
      have HC4 := Lib.hid hc4
      clear hc4 hbz hn1
      go_wp2_with (refine wpList_append_slf rfl elemU8 rfl rfl (HO.out.alloc _) (by omega) rfl (Reads.of_cells (xs := [bv y1, bv y2, bv y3, bv y4]) (heap_alloc_new _ _) rfl rfl) (bvs_one [y1, y2, y3, y4]) hm1 hm2 (by simp; omega) ?_; intro A' c' w2 ho2 hk2 hn2)
      go_roundg (ns.length - (k + 1))
      case measure => omega
      case rel =>
        refine ⟨k + 1, A', c', b1 ++ be 4 n, by go_num, by simp [be_len], by omega, Nat.le_refl _, HT, Lib.hid ?_, Lib.hid ((HK.out.alloc _).trans hk2), Lib.hid (fun p hp hn => ?_)⟩
        · rw [List.length_append, be_len, List.map_append, HC4.out]
          exact ho2
        · obtain ⟨q1, q2⟩ := HNB.out p hp hn
          have hz := HK.out.size
          obtain ⟨q3, q4⟩ := hn2 p (by simp; omega) q2
          exact ⟨(q3.trans (Below.heap_alloc _ _ p (by omega))).trans q1, by simpa [be_len] using q4⟩
    · obtain rfl : k = ns.length := by omega
      clear hlt
      go_wp2_with fail
      go_ret
      have e := HB1.out
      rw [List.take_length] at e
      subst e
      exact ⟨A1, c1, rfl, HO.out, HK.out, HNB.out⟩
theorem pnum2 {base : Nat} {A : Option Addr} {c : Nat} (bs : List UInt8) (n m : Nat) (a b : Int) (ha : a = n) (hb : b = m) (w : World) (ho : Own w base 5 1 A bs.length c (bs.map bv)) (hbz : base ≤ w.heap.size) (hs : bs.length ≤ 100000000) :
    Calls Tryz.prog 12 #[.slice A bs.length c, .slice (some ⟨w.heap.size, 0, none⟩) 2 2] (w.alloc (.cells #[.int .i64 a, .int .i64 b] 3)) (Num4Post base A bs.length c (bs ++ [n, m].flatMap (be 4)) w) := by
  subst ha hb
  refine (pnumber_any bs [n, m] w.heap.size _ (ho.alloc _) (Blk.new w 3 _) (by simp; omega) hs (by simp)).mono ?_
  rintro r w' ⟨A', c', h1, h2, h3, h4⟩
  exact ⟨A', c', h1, h2, ((Kept.refl _ _ _ w).alloc _).trans h3, fun p hp hn => ⟨(h4 p (by simp; omega) hn).1.trans (Below.heap_alloc _ _ p hp), (h4 p (by simp; omega) hn).2⟩⟩
theorem pnum1 {base : Nat} {A : Option Addr} {c : Nat} (bs : List UInt8) (n : Nat) (a : Int) (ha : a = n) (w : World) (ho : Own w base 5 1 A bs.length c (bs.map bv)) (hbz : base ≤ w.heap.size) (hs : bs.length ≤ 100000000) :
    Calls Tryz.prog 12 #[.slice A bs.length c, .slice (some ⟨w.heap.size, 0, none⟩) 1 1] (w.alloc (.cells #[.int .i64 a] 3)) (Num4Post base A bs.length c (bs ++ [n].flatMap (be 4)) w) := by
  subst ha
  refine (pnumber_any bs [n] w.heap.size _ (ho.alloc _) (Blk.new w 3 _) (by simp; omega) hs (by simp)).mono ?_
  rintro r w' ⟨A', c', h1, h2, h3, h4⟩
  exact ⟨A', c', h1, h2, ((Kept.refl _ _ _ w).alloc _).trans h3, fun p hp hn => ⟨(h4 p (by simp; omega) hn).1.trans (Below.heap_alloc _ _ p hp), (h4 p (by simp; omega) hn).2⟩⟩
set_option maxHeartbeats 4000000 in
set_option maxRecDepth 100000 in
theorem dnumber_any {base : Nat} {A : Option Addr} {c : Nat} (bs : List UInt8) (ns : List Nat) (g : Nat) (w : World) (ho : Own w base 5 1 A bs.length c (bs.map bv)) (hb : Blk w g 3 (ns.map nv).toArray) (hbz : base ≤ w.heap.size) (hs : bs.length ≤ 100000000) (hn : ns.length ≤ 1000) :
    Calls Tryz.prog 39 #[.slice A bs.length c, .slice (some ⟨g, 0, none⟩) ns.length ns.length] w (Num4Post base A bs.length c (bs ++ ns.flatMap (be 4)) w) := by
  go_enter Tryz.func39, Tryz.ntmps39
  go_wp2_with fail
  go_loopg [0, 9] ns.length (fun kx s0 s9 wr => ∃ (k : Nat) (A1 : Option Addr) (c1 : Nat) (b1 : List UInt8), s9 = .int .i64 k ∧ s0 = .slice A1 b1.length c1 ∧ k ≤ ns.length ∧ ns.length - k ≤ kx ∧ Hid (b1 = bs ++ (ns.take k).flatMap (be 4)) ∧ Hid (Own wr base 5 1 A1 b1.length c1 (b1.map bv)) ∧ Hid (Kept base [5] [] w wr) ∧ Hid (∀ p, p < w.heap.size → NotB A bs.length c p → wr.heap[p]? = w.heap[p]? ∧ NotB A1 b1.length c1 p))
  case atStart => exact ⟨0, A, c, bs, rfl, rfl, Nat.zero_le _, Nat.le_refl _, Lib.hid (by simp), Lib.hid ho, Lib.hid (Kept.refl _ _ _ _), Lib.hid (fun p _ h => ⟨rfl, h⟩)⟩
  case round =>
    obtain ⟨k, A1, c1, b1, rfl, rfl, hk, hkx, HB1, HO, HK, HNB⟩ := hrel
    by_cases hlt : k < ns.length
    · have hltz : (k : Int) < (ns.length : Int) := by omega
      obtain ⟨n, hn1⟩ : ∃ n, ns[k]? = some n := ⟨_, List.getElem?_eq_getElem hlt⟩
      have hcell : wr.cell? ⟨g, k, none⟩ = some (nv n) := by
        rw [(HK.out.blk hb (by simp) (by decide)).cell]
        simp [hn1]
      unfold nv at hcell
      have hl1 : b1.length ≤ bs.length + k * 4 := by
        rw [HB1.out, List.length_append, nums_len, List.length_take]
        omega
      have hm1 : b1.length + 4 ≤ maxLen := by unfold maxLen; omega
      have hm2 : (b1.length + 4) * 1 ≤ 140737488355328 := by omega
      have HZ := Lib.hid hbz
      have hb2 : base ≤ wr.heap.size := Nat.le_trans hbz HK.out.size
      have HT := Lib.hid (show b1 ++ be 4 n = bs ++ (ns.take (k + 1)).flatMap (be 4) by
        rw [HB1.out, List.take_add_one, hn1]
        simp)
      have e1 : IntKind.u8.wrap ((n : Int) / 16777216) = ((UInt8.ofNat (n / 16777216)).toNat : Int) := byte_at (m := 3) n 16777216 rfl
      have e2 : IntKind.u8.wrap ((n : Int) / 65536) = ((UInt8.ofNat (n / 65536)).toNat : Int) := byte_at (m := 2) n 65536 rfl
      have e3 : IntKind.u8.wrap ((n : Int) / 256) = ((UInt8.ofNat (n / 256)).toNat : Int) := byte_at (m := 1) n 256 rfl
      have e4 : IntKind.u8.wrap (n : Int) = ((UInt8.ofNat n).toNat : Int) := wrap_byte n
      have hc4 := num4_cells n
      generalize UInt8.ofNat (n / 16777216) = y1 at *
      generalize UInt8.ofNat (n / 65536) = y2 at *
      generalize UInt8.ofNat (n / 256) = y3 at *
      generalize UInt8.ofNat n = y4 at *
      have HC4 := Lib.hid hc4
      clear hc4 hbz hn1
      go_wp2_with (refine wpList_append_slf rfl elemU8 rfl rfl (HO.out.alloc _) (by omega) rfl (Reads.of_cells (xs := [bv y1, bv y2, bv y3, bv y4]) (heap_alloc_new _ _) rfl rfl) (bvs_one [y1, y2, y3, y4]) hm1 hm2 (by simp; omega) ?_; intro A' c' w2 ho2 hk2 hn2)
      go_roundg (ns.length - (k + 1))
      case measure => omega
      case rel =>
        refine ⟨k + 1, A', c', b1 ++ be 4 n, by go_num, by simp [be_len], by omega, Nat.le_refl _, HT, Lib.hid ?_, Lib.hid ((HK.out.alloc _).trans hk2), Lib.hid (fun p hp hn => ?_)⟩
        · rw [List.length_append, be_len, List.map_append, HC4.out]
          exact ho2
        · obtain ⟨q1, q2⟩ := HNB.out p hp hn
          have hz := HK.out.size
          obtain ⟨q3, q4⟩ := hn2 p (by simp; omega) q2
          exact ⟨(q3.trans (Below.heap_alloc _ _ p (by omega))).trans q1, by simpa [be_len] using q4⟩
    · obtain rfl : k = ns.length := by omega
      clear hlt
      go_wp2_with fail
      go_ret
      have e := HB1.out
      rw [List.take_length] at e
      subst e
      exact ⟨A1, c1, rfl, HO.out, HK.out, HNB.out⟩
theorem dnum2 {base : Nat} {A : Option Addr} {c : Nat} (bs : List UInt8) (n m : Nat) (a b : Int) (ha : a = n) (hb : b = m) (w : World) (ho : Own w base 5 1 A bs.length c (bs.map bv)) (hbz : base ≤ w.heap.size) (hs : bs.length ≤ 100000000) :
    Calls Tryz.prog 39 #[.slice A bs.length c, .slice (some ⟨w.heap.size, 0, none⟩) 2 2] (w.alloc (.cells #[.int .i64 a, .int .i64 b] 3)) (Num4Post base A bs.length c (bs ++ [n, m].flatMap (be 4)) w) := by
  subst ha hb
  refine (dnumber_any bs [n, m] w.heap.size _ (ho.alloc _) (Blk.new w 3 _) (by simp; omega) hs (by simp)).mono ?_
  rintro r w' ⟨A', c', h1, h2, h3, h4⟩
  exact ⟨A', c', h1, h2, ((Kept.refl _ _ _ w).alloc _).trans h3, fun p hp hn => ⟨(h4 p (by simp; omega) hn).1.trans (Below.heap_alloc _ _ p hp), (h4 p (by simp; omega) hn).2⟩⟩
theorem dnum1 {base : Nat} {A : Option Addr} {c : Nat} (bs : List UInt8) (n : Nat) (a : Int) (ha : a = n) (w : World) (ho : Own w base 5 1 A bs.length c (bs.map bv)) (hbz : base ≤ w.heap.size) (hs : bs.length ≤ 100000000) :
    Calls Tryz.prog 39 #[.slice A bs.length c, .slice (some ⟨w.heap.size, 0, none⟩) 1 1] (w.alloc (.cells #[.int .i64 a] 3)) (Num4Post base A bs.length c (bs ++ [n].flatMap (be 4)) w) := by
  subst ha
  refine (dnumber_any bs [n] w.heap.size _ (ho.alloc _) (Blk.new w 3 _) (by simp; omega) hs (by simp)).mono ?_
  rintro r w' ⟨A', c', h1, h2, h3, h4⟩
  exact ⟨A', c', h1, h2, ((Kept.refl _ _ _ w).alloc _).trans h3, fun p hp hn => ⟨(h4 p (by simp; omega) hn).1.trans (Below.heap_alloc _ _ p hp), (h4 p (by simp; omega) hn).2⟩⟩
end Go.Proofs.YtmlmbkelpjmafaaGreat
