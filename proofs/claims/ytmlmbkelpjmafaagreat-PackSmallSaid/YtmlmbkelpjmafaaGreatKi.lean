/-
  Contract of delta.Make at two texts that are alike but for the last byte. No statement of the seat is proved here.
-/
import Derived.Test.YtmlmbkelpjmafaaGreatKh
namespace Go.Proofs.YtmlmbkelpjmafaaGreat
open Go.RowKit Go.Shelf
set_option maxHeartbeats 4000000 in
set_option maxRecDepth 100000 in
theorem same_any (n k : Nat) (hk : k ≤ n) (hn : n < 1000000) (g : Nat) (cb : Array Value) (eg : ∀ args w, (callFunc g args).run Tryz.prog w = .ok (.enter g args) w) (w : World)
    (hc : ∀ (i m : Nat), i ≤ k → i < n → Calls Tryz.prog g (#[.int .i64 i] ++ cb) (w.drewN m) fun e w' => e = .returned (.bool (decide (i < k))) ∧ ∃ q, w' = (w.drewN m).drewN q) :
    Calls Tryz.prog 36 #[.int .i64 n, .func (.func g) #[] cb] w fun e w' => e = .returned (.int .i64 k) ∧ ∃ q, w' = w.drewN q := by
  have HC := Lib.hid hc
  clear hc
  go_enter Tryz.func36, Tryz.ntmps36
  go_wp2_with fail
  go_loopg [7] (n + 1) (fun kx s7 wr => ∃ (i m : Nat), s7 = .int .i64 i ∧ i ≤ k ∧ n - i + 1 ≤ kx ∧ Hid (wr = w.drewN m))
  case atStart => exact ⟨0, 0, rfl, Nat.zero_le _, by omega, Lib.hid rfl⟩
  case round =>
    obtain ⟨i, m, rfl, hik, hkx, HW⟩ := hrel
    by_cases hlt : i < n
    · have hltz : (i : Int) < (n : Int) := by omega
      have HCi := Lib.hid (HC.out i m hik hlt)
      rw [← HW.out] at HCi
      by_cases hik2 : i < k
      · rw [decide_eq_true hik2] at HCi
        go_wp2_with (go_at_fn g; (with_reducible refine HCi.out.mono ?_); rintro _ w2 ⟨rfl, q, hq⟩; have HQ := Lib.hid hq; clear hq)
        go_roundg (n - (i + 1) + 1)
        case measure => omega
        case rel => exact ⟨i + 1, m + q, by go_num, hik2, Nat.le_refl _, Lib.hid (by rw [HQ.out, HW.out]; exact World.drewN_drewN _ _ _)⟩
      · rw [decide_eq_false hik2] at HCi
        obtain rfl : i = k := by omega
        go_wp2_with (go_at_fn g; (with_reducible refine HCi.out.mono ?_); rintro _ w2 ⟨rfl, q, hq⟩; have HQ := Lib.hid hq; clear hq)
        go_ret
        exact ⟨rfl, m + q, by rw [HQ.out, HW.out]; exact World.drewN_drewN _ _ _⟩
    · obtain rfl : i = n := by omega
      obtain rfl : i = k := by omega
      clear hlt
      go_wp2_with fail
      go_ret
      exact ⟨rfl, m, HW.out⟩
set_option maxHeartbeats 4000000 in
set_option maxRecDepth 100000 in
theorem make1_any (i : Nat) (x y : List UInt8) (a b : Addr) (c d p q : Nat) (w : World) (hp : Blk w p 22 #[.slice (some a) x.length c]) (hq : Blk w q 22 #[.slice (some b) y.length d])
    (u v : UInt8) (hx : w.cell? (a.add i) = some (bv u)) (hy : w.cell? (b.add i) = some (bv v)) (hix : i < x.length) (hiy : i < y.length) (hl : x.length < 1000000) (hl2 : y.length < 1000000) :
    Calls Tryz.prog 37 #[.int .i64 i, .pointer (some ⟨p, 0, none⟩), .pointer (some ⟨q, 0, none⟩)] w fun e w' => e = .returned (.bool (u == v)) ∧ w' = w.drewN 1 := by
  have c1 := hp.cell 0
  have c2 := hq.cell 0
  simp at c1 c2
  have z1 : (i : Int) < (x.length : Int) := by omega
  have z2 : (i : Int) < (y.length : Int) := by omega
  unfold bv at hx hy
  have ev : ((u.toNat : Int) == (v.toNat : Int)) = (u == v) := by
    rw [Bool.eq_iff_iff, beq_iff_eq, beq_iff_eq]
    constructor
    · intro h
      exact UInt8.toNat_inj.1 (by omega)
    · intro h
      rw [h]
  go_enter Tryz.func37, Tryz.ntmps37
  go_wp2_with fail
  go_region
  all_goals
    go_wp2_with fail
    go_ret
  exact ⟨rfl, rfl⟩
set_option maxHeartbeats 4000000 in
set_option maxRecDepth 100000 in
theorem make2_any (n : Nat) (a b : Addr) (c d p q : Nat) (w : World) (hp : Blk w p 22 #[.slice (some a) (n + 1) c]) (hq : Blk w q 22 #[.slice (some b) (n + 1) d])
    (u v : UInt8) (hx : w.cell? (a.add n) = some (bv u)) (hy : w.cell? (b.add n) = some (bv v)) (hl : n < 1000000) :
    Calls Tryz.prog 38 #[.int .i64 0, .pointer (some ⟨p, 0, none⟩), .pointer (some ⟨q, 0, none⟩)] w fun e w' => e = .returned (.bool (u == v)) ∧ w' = w.drewN 1 := by
  have c1 := hp.cell 0
  have c2 := hq.cell 0
  simp at c1 c2
  have z1 : (n : Int) < (n : Int) + 1 := by omega
  have z0 : (0 : Int) ≤ (n : Int) := by omega
  have z2 : IntKind.i64.wrap (n : Int) = (n : Int) := by rw [IntKind.wrap_i64]; omega
  have z3 : IntKind.i64.wrap ((n : Int) + 1 - 1) = (n : Int) := by rw [IntKind.wrap_i64]; omega
  unfold bv at hx hy
  have ev : ((u.toNat : Int) == (v.toNat : Int)) = (u == v) := by
    rw [Bool.eq_iff_iff, beq_iff_eq, beq_iff_eq]
    constructor
    · intro h
      exact UInt8.toNat_inj.1 (by omega)
    · intro h
      rw [h]
  go_enter Tryz.func38, Tryz.ntmps38
  go_wp2_with fail
  go_region
  all_goals
    go_wp2_with fail
    go_ret
  exact ⟨rfl, rfl⟩
/-- What delta.Make says of two texts that are alike but for the last byte. -/
def dltB (u : List UInt8) (y : UInt8) : List UInt8 := [u.length + 1, u.length + 1].flatMap (be 4) ++ [1] ++ [0, u.length].flatMap (be 4) ++ [2] ++ [1].flatMap (be 4) ++ [y]
theorem dltB_len (u : List UInt8) (y : UInt8) : (dltB u y).length = 23 := by simp [dltB, be_len]
set_option maxHeartbeats 4000000 in
set_option maxRecDepth 100000 in
theorem make_any (u : List UInt8) (x y : UInt8) (hxy : x ≠ y) (n : Nat) (hu : u.length = n) (hn : 0 < n) (hn2 : n < 100000) (A B : Option Addr) (c d : Nat) (w : World) (hA : Reads w w.heap.size 1 A (n + 1) ((u ++ [x]).map bv)) (hB : Reads w w.heap.size 1 B (n + 1) ((u ++ [y]).map bv)) (hd : n + 1 ≤ d) (hd2 : d ≤ maxLen) :
    Calls Tryz.prog 24 #[.slice A (n + 1) c, .slice B (n + 1) d] w fun e w' => ∃ A' c', e = .returned (.slice A' (dltB u y).length c') ∧ Own w' w.heap.size 5 1 A' (dltB u y).length c' ((dltB u y).map bv) ∧ Below w.heap.size w w' := by
  obtain ⟨a, rfl, ha1, ha2⟩ := hA.2 (by omega)
  obtain ⟨b, rfl, hb1, hb2⟩ := hB.2 (by omega)
  have ea : ∀ i, i < n → ∃ z, w.cell? (a.add i) = some (bv z) ∧ w.cell? (b.add i) = some (bv z) := fun i hi => by
    have hi' : i < u.length := by omega
    refine ⟨u[i], ha2 i _ ?_, hb2 i _ ?_⟩
    · simp [List.getElem?_append_left, hi']
    · simp [List.getElem?_append_left, hi']
  have el1 : w.cell? (a.add n) = some (bv x) := ha2 n _ (by subst hu; simp)
  have el2 : w.cell? (b.add n) = some (bv y) := hb2 n _ (by subst hu; simp)
  clear ha2 hb2 hA hB
  go_enter Tryz.func24, Tryz.ntmps24
  go_upto_region 1 with fail
  have hp := (Blk.new w 22 #[.slice (some a) (n + 1) c]).alloc (.cells #[.slice (some b) (n + 1) d] 22)
  have hq := Blk.new (w.alloc (.cells #[.slice (some a) (n + 1) c] 22)) 22 #[.slice (some b) (n + 1) d]
  rw [show (w.alloc (.cells #[.slice (some a) (n + 1) c] 22)).heap.size = w.heap.size + 1 from by simp] at hq
  have k0 : Kept w.heap.size [5] [] w ((w.alloc (.cells #[.slice (some a) (n + 1) c] 22)).alloc (.cells #[.slice (some b) (n + 1) d] 22)) := ((Kept.refl _ _ _ w).alloc _).alloc _
  have hz1 : ((w.alloc (.cells #[.slice (some a) (n + 1) c] 22)).alloc (.cells #[.slice (some b) (n + 1) d] 22)).heap.size = w.heap.size + 2 := by simp
  generalize hz : w.heap.size = z at *
  generalize hw1 : (w.alloc (.cells #[.slice (some a) (n + 1) c] 22)).alloc (.cells #[.slice (some b) (n + 1) d] 22) = w1 at *
  clear hw1
  have ab : ∀ i (A : Addr), A.block < z → w1.cell? (A.add i) = w.cell? (A.add i) := fun i A hA => k0.cell (by rw [block_of_add]; omega) (fun q => by
    rcases q with q | ⟨q, _⟩
    · cases q
    · rw [block_of_add] at q; omega)
  have HK0 := Lib.hid k0
  have HS1 := Lib.hid (same_any (n + 1) n (by omega) (by omega) 37 #[.pointer (some ⟨z, 0, none⟩), .pointer (some ⟨z + 1, 0, none⟩)] (enters_of Tryz.func37 (by kernel_rfl) rfl) w1 (fun i m hin hi => by
    by_cases hlt : i < n
    · obtain ⟨v, q1, q2⟩ := ea i hlt
      refine (make1_any i (u ++ [x]) (u ++ [y]) a b c d z (z + 1) (w1.drewN m) (by have := hp.drewN m; simpa [hu] using this) (by have := hq.drewN m; simpa [hu] using this) v v ((ab i a ha1).trans q1) ((ab i b hb1).trans q2) (by simp; omega) (by simp; omega) (by simp; omega) (by simp; omega)).mono ?_
      rintro e w' ⟨rfl, rfl⟩
      exact ⟨by rw [decide_eq_true hlt]; simp, 1, rfl⟩
    · obtain rfl : i = n := by omega
      refine (make1_any i (u ++ [x]) (u ++ [y]) a b c d z (z + 1) (w1.drewN m) (by have := hp.drewN m; simpa [hu] using this) (by have := hq.drewN m; simpa [hu] using this) x y ((ab i a ha1).trans el1) ((ab i b hb1).trans el2) (by simp; omega) (by simp; omega) (by simp; omega) (by simp; omega)).mono ?_
      rintro e w' ⟨rfl, rfl⟩
      exact ⟨by rw [decide_eq_false hlt, beq_eq_false_iff_ne.2 hxy], 1, rfl⟩))
  rw [show ((n + 1 : Nat) : Int) = (n : Int) + 1 from rfl] at HS1
  have HL1 := Lib.hid (fun m : Nat => (ab m a ha1).trans (show w.cell? (a.add m) = _ from rfl))
  have el3 := (ab n a ha1).trans el1
  have el4 := (ab n b hb1).trans el2
  clear ea el1 el2 ab HL1
  have cp := hp.cell 0
  have cq := hq.cell 0
  simp at cp cq
  go_upto_region 2 with fail
  go_upto_region 3 with (go_at_call 36; (with_reducible refine HS1.out.mono ?_); rintro _ w2 ⟨rfl, q2, hq2'⟩; have hq2 := Lib.hid hq2'; clear hq2')
  have hp2 : Blk w2 z 22 #[.slice (some a) (n + 1) c] := by rw [hq2.out]; exact hp.drewN q2
  have hqq : Blk w2 (z + 1) 22 #[.slice (some b) (n + 1) d] := by rw [hq2.out]; exact hq.drewN q2
  have el5 : w2.cell? (a.add n) = some (bv x) := by rw [hq2.out]; exact el3
  have el6 : w2.cell? (b.add n) = some (bv y) := by rw [hq2.out]; exact el4
  have HK2 := Lib.hid (show Kept z [5] [] w w2 by rw [hq2.out]; exact HK0.out.drewN q2)
  clear hq2 hp hq el3 el4 cp cq HS1 HK0 k0 hz1
  have HS2 := Lib.hid (same_any 1 0 (by omega) (by omega) 38 #[.pointer (some ⟨z, 0, none⟩), .pointer (some ⟨z + 1, 0, none⟩)] (enters_of Tryz.func38 (by kernel_rfl) rfl) w2 (fun i m hin hi => by
    obtain rfl : i = 0 := by omega
    refine (make2_any n a b c d z (z + 1) (w2.drewN m) (hp2.drewN m) (hqq.drewN m) x y el5 el6 (by omega)).mono ?_
    rintro e w' ⟨rfl, rfl⟩
    exact ⟨by rw [beq_eq_false_iff_ne.2 hxy]; simp, 1, rfl⟩))
  rw [show ((1 : Nat) : Int) = 1 from rfl, show ((0 : Nat) : Int) = 0 from rfl] at HS2
  have e1 : (n : Int) + 1 - (n : Int) = 1 := by omega
  go_upto_region 4 with (go_at_call 36; (with_reducible refine HS2.out.mono ?_); rintro _ w3 ⟨rfl, q3, hq3''⟩; have hq3 := Lib.hid hq3''; clear hq3'')
  have hp3 : Blk w3 z 22 #[.slice (some a) (n + 1) c] := by rw [hq3.out]; exact hp2.drewN q3
  have hq3' : Blk w3 (z + 1) 22 #[.slice (some b) (n + 1) d] := by rw [hq3.out]; exact hqq.drewN q3
  have el7 : w3.cell? (b.add n) = some (bv y) := by rw [hq3.out]; exact el6
  have HK3 := Lib.hid (show Kept z [5] [] w w3 by rw [hq3.out]; exact HK2.out.drewN q3)
  clear hq3 hp2 hqq el5 el6 HS2 HK2 hxy
  have cp := hp3.cell 0
  have cq := hq3'.cell 0
  simp at cp cq
  have hz3 : z ≤ w3.heap.size := by rw [← hz]; exact HK3.out.size
  have HN := Lib.hid (dnum2 (base := z) (A := none) (c := 0) [] (n + 1) (n + 1) ((n : Int) + 1) ((n : Int) + 1) rfl rfl w3 (Own.nil _ _ _ _) hz3 (by simp))
  rw [show ([] : List UInt8).length = 0 from rfl] at HN
  obtain ⟨b4, hb4⟩ : ∃ b : List UInt8, [] ++ [n + 1, n + 1].flatMap (be 4) = b := ⟨_, rfl⟩
  have hl4 : b4.length ≤ 100 := by rw [← hb4]; simp [be_len]
  rw [hb4] at HN
  have HB4 := Lib.hid hb4
  clear hb4
  go_upto_region 5 with (go_at_call 39; (with_reducible refine HN.out.mono ?_); rintro _ w4 ⟨A4, c4, rfl, ho4, hk4, _⟩)
  have hp4 := hk4.blk hp3 (by simp) (by decide)
  have hq4 := hk4.blk hq3' (by simp) (by decide)
  have el8 : w4.cell? (b.add n) = some (bv y) := (hk4.cell (by rw [block_of_add]; omega) (fun q => by
    rcases q with q | ⟨q, _⟩
    · cases q
    · rw [block_of_add] at q; omega)).trans el7
  have HK4 := Lib.hid (HK3.out.trans hk4)
  have HO4 := Lib.hid ho4
  have hz4 : z ≤ w4.heap.size := by rw [← hz]; exact HK4.out.size
  clear hk4 ho4 hp3 hq3' el7 HK3 cp cq HN hz3
  have e2 : (0 : Int) < (n : Int) := by omega
  have hm1 : b4.length + 1 ≤ maxLen := by unfold maxLen; omega
  have hm2 : (b4.length + 1) * 1 ≤ 140737488355328 := by omega
  go_upto_region 7 with (refine wpList_append_sl rfl elemU8 rfl rfl (HO4.out.alloc _) rfl (Reads.of_cells (xs := [bv 1]) (heap_alloc_new _ _) rfl rfl) (bvs_one [1]) hm1 hm2 (by simp; omega) ?_; intro A5 c5 w5 ho5 hk5)
  have hk5' := hk5
  obtain ⟨b5, hb5⟩ : ∃ b : List UInt8, b4 ++ [1] = b := ⟨_, rfl⟩
  have hl5 : b4.length + 1 = b5.length := by rw [← hb5]; simp
  have ho5' : Own w5 z 5 1 A5 b5.length c5 (b5.map bv) := by rw [← hl5, ← hb5, List.map_append]; exact ho5
  have hk45 := HK4.out.trans (((Kept.refl z [5] [] w4).alloc _).trans hk5)
  have hp5 := hk5.blk (hp4.alloc _) (by simp) (by decide)
  have hq5 := hk5.blk (hq4.alloc _) (by simp) (by decide)
  have old : ∀ W, Kept z [5] [] w4 W → W.cell? (b.add n) = some (bv y) := fun W h => (h.cell (by rw [block_of_add]; omega) (fun q => by
    rcases q with q | ⟨q, _⟩
    · cases q
    · rw [block_of_add] at q; omega)).trans el8
  have hz5 : z ≤ w5.heap.size := by rw [← hz]; exact hk45.size
  obtain ⟨b6, hb6⟩ : ∃ b : List UInt8, b5 ++ [0, n].flatMap (be 4) = b := ⟨_, rfl⟩
  have hl6 : b6.length ≤ 200 := by rw [← hb6, ← hb5]; simp [be_len]; omega
  have HN := Lib.hid (dnum2 (base := z) b5 0 n 0 n rfl rfl w5 ho5' hz5 (by omega))
  rw [hb6] at HN
  have HOLD := Lib.hid old
  have HK5 := Lib.hid hk45
  have HK45 := Lib.hid (((Kept.refl z [5] [] w4).alloc _).trans hk5)
  have HB5 := Lib.hid hb5
  have HB6 := Lib.hid hb6
  rw [hl5]
  clear hp4 hq4 hk5 hk5' ho5 ho5' hk45 old hb5 hb6 el8 hm1 hm2 HO4 hl5 hl4 hz4
  refine HN.out.mono ?_
  rintro _ w6 ⟨A6, c6, rfl, ho6, hk6, _⟩
  have hp6 := hk6.blk hp5 (by simp) (by decide)
  have hq6 := hk6.blk hq5 (by simp) (by decide)
  have HK6 := Lib.hid (HK5.out.trans hk6)
  have HO6 := Lib.hid ho6
  have HK46 := Lib.hid (HK45.out.trans hk6)
  have hz6 : z ≤ w6.heap.size := by rw [← hz]; exact HK6.out.size
  clear hp5 hq5 hk6 ho6 HK5 HK45 HN hz5
  have cq := hq6.cell 0
  simp at cq
  have d1 : (n : Int) ≤ (n : Int) + 1 := by omega
  have d2 : (n : Int) + 1 ≤ (d : Int) := by omega
  have d3 : (0 : Int) ≤ (n : Int) := by omega
  have d4 : (n : Int) + 1 - 0 = (n : Int) + 1 := by omega
  go_upto_region 8 with fail
  have hm1 : b6.length + 1 ≤ maxLen := by unfold maxLen; omega
  have hm2 : (b6.length + 1) * 1 ≤ 140737488355328 := by omega
  clear cq hp6 hq6 d1 d2 d3 d4
  go_upto_region 10 with (refine wpList_append_sl rfl elemU8 rfl rfl (HO6.out.alloc _) rfl (Reads.of_cells (xs := [bv 2]) (heap_alloc_new _ _) rfl rfl) (bvs_one [2]) hm1 hm2 (by simp; omega) ?_; intro A7 c7 w7 ho7 hk7)
  obtain ⟨b7, hb7⟩ : ∃ b : List UInt8, b6 ++ [2] = b := ⟨_, rfl⟩
  have hl7 : b6.length + 1 = b7.length := by rw [← hb7]; simp
  have ho7' : Own w7 z 5 1 A7 b7.length c7 (b7.map bv) := by rw [← hl7, ← hb7, List.map_append]; exact ho7
  have hk7' := ((Kept.refl z [5] [] w6).alloc _).trans hk7
  have HK7 := Lib.hid (HK6.out.trans hk7')
  have HK47 := Lib.hid (HK46.out.trans hk7')
  have hz7 : z ≤ w7.heap.size := by rw [← hz]; exact HK7.out.size
  obtain ⟨b8, hb8⟩ : ∃ b : List UInt8, b7 ++ [1].flatMap (be 4) = b := ⟨_, rfl⟩
  have hl8 : b8.length ≤ 300 := by rw [← hb8, ← hb7]; simp [be_len]; omega
  have HN := Lib.hid (dnum1 (base := z) b7 1 1 rfl w7 ho7' hz7 (by omega))
  rw [hb8] at HN
  have HB7 := Lib.hid hb7
  have HB8 := Lib.hid hb8
  rw [hl7]
  clear hk7 hk7' ho7 ho7' hb7 hb8 hm1 hm2 HO6 hl7 hl6 hz6 HK6 HK46
  refine HN.out.mono ?_
  rintro _ w8 ⟨A8, c8, rfl, ho8, hk8, _⟩
  have HK8 := Lib.hid (HK7.out.trans hk8)
  have HO8 := Lib.hid ho8
  have el9 := HOLD.out w8 (HK47.out.trans hk8)
  have hz8 : z ≤ w8.heap.size := by rw [← hz]; exact HK8.out.size
  clear hk8 ho8 HK7 HK47 HN hz7 HOLD
  have hrm : Reads w8 z 1 (some (b.add n)) 1 [bv y] := ⟨rfl, fun _ => ⟨_, rfl, by rw [block_of_add]; omega, fun j u hj => by
    cases j with
    | zero =>
      simp only [List.getElem?_cons_zero, Option.some.injEq] at hj
      subst hj
      rw [add_of_add]
      exact el9
    | succ j => simp at hj⟩⟩
  have HRM := Lib.hid hrm
  have hm1 : b8.length + 1 ≤ maxLen := by unfold maxLen; omega
  have hm2 : (b8.length + 1) * 1 ≤ 140737488355328 := by omega
  clear hrm el9
  go_upto_region 10 with (refine wpList_append_sl rfl elemU8 rfl rfl HO8.out rfl HRM.out (bvs_one [y]) hm1 hm2 (by omega) ?_; intro A9 c9 w9 ho9 hk9)
  have HK9 := Lib.hid (HK8.out.trans hk9)
  have HB9 := Lib.hid (show b8 ++ [y] = dltB u y by
    rw [← HB8.out, ← HB7.out, ← HB6.out, ← HB5.out, ← HB4.out]
    simp [dltB, hu])
  have HO9 := Lib.hid (show Own w9 z 5 1 A9 (b8.length + 1) c9 ((b8 ++ [y]).map bv) by rw [List.map_append]; exact ho9)
  clear ho9 hk9 HK8 HO8 HRM
  go_wp2_with fail
  go_ret
  have e9 : (dltB u y).length = b8.length + 1 := by rw [← HB9.out]; simp
  refine ⟨A9, c9, by rw [e9]; rfl, ?_, ?_⟩
  · rw [e9, ← HB9.out, hz]
    exact HO9.out
  · rw [hz]
    exact HK9.out.below (Nat.le_refl _) (by omega) (by simp)
end Go.Proofs.YtmlmbkelpjmafaaGreat
