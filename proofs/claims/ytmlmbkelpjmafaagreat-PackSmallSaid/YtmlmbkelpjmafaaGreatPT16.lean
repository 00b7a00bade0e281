/- Contract of codec.Id. No statement of the seat is proved here. -/
import Derived.Test.YtmlmbkelpjmafaaGreatPTcSha4
import Derived.Test.YtmlmbkelpjmafaaGreatPT12
namespace Go.Proofs.YtmlmbkelpjmafaaGreat
open Go.RowKit
def zeros64 : List UInt8 := List.replicate 64 0
theorem build_h0 (w : World) : (Instr.build 72 hParts).run Tryz.prog w = .ok (.agg (stC sha0)) w := by kernel_rfl
theorem build_hash0 (w : World) : (Instr.build 103 #[(0, .agg (stC sha0))]).run Tryz.prog w = .ok (.agg (hashC sha0 zeros64 0 0)) w := by kernel_rfl
set_option maxHeartbeats 1000000 in
set_option maxRecDepth 100000 in
theorem new_any (w : World) : Calls Tryz.prog 25 #[] w fun r w' => r = .returned (.pointer (some ⟨w.heap.size, 0, none⟩)) ∧ HashI w' w.heap.size [] ∧ Keep Nothing w w' := by
 go_enter Tryz.func25, Tryz.ntmps25
 go_wp2_with (first | (refine wpList_built rfl rfl (vs := hParts) rfl (build_h0 _) ?_) | (refine wpList_built rfl rfl (vs := #[(0, .agg (stC sha0))]) rfl (build_hash0 _) ?_) | (refine wpList_boxed rfl rfl (cs := hashC sha0 zeros64 0 0) rfl ?_))
 go_ret
 refine ⟨rfl, ⟨zeros64, Blk.new _ _ _, by simp [zeros64], by simp⟩, (Keep.refl _ _).alloc _⟩
def RowsIn (w : World) (B : Nat) (A : Option Addr) (rs : List Row3) : Prop := Reads w B 1 A rs.length (rs.map rowV) ∧ ∀ r ∈ rs, Reads w B 1 r.ad r.bytes.length (r.bytes.map bv) ∧ r.bytes.length ≤ r.cap ∧ r.cap ≤ maxLen
theorem RowsIn.at_ {w : World} {B g : Nat} {A : Option Addr} {rs : List Row3} (h : RowsIn w B A rs) (hg : B ≤ g) : RowsAt w B g A rs :=
 ⟨⟨h.1, h.1.apart hg⟩, fun r hr => ⟨(h.2 r hr).1, (h.2 r hr).1.apart hg, (h.2 r hr).2⟩⟩
theorem RowsIn.kept {w w' : World} {B : Nat} {A : Option Addr} {rs : List Row3} (h : RowsIn w B A rs) (hk : Keep Nothing w w') (hB : B ≤ w.heap.size) : RowsIn w' B A rs :=
 ⟨h.1.kept hk hB (fun _ _ q => q), fun r hr => ⟨(h.2 r hr).1.kept hk hB (fun _ _ q => q), (h.2 r hr).2⟩⟩
set_option maxHeartbeats 1000000 in
set_option maxRecDepth 100000 in
theorem of_any (rs : List Row3) (A : Option Addr) (c : Nat) (w : World) (hrs : RowsIn w w.heap.size A rs) (hsz : (rowsB rs).length ≤ 100000000000) (hrl : rs.length ≤ 1000000000000) :
    Calls Tryz.prog 14 #[.slice A rs.length c] w fun r w' => r = .returned (idV (sha (rowsB rs))) ∧ Keep Nothing w w' := by
 have q1 : Blk (w.alloc (.cells (idC noId) 29)) w.heap.size 29 (idC noId) := Blk.new _ _ _
 have k1 : Keep Nothing w (w.alloc (.cells (idC noId) 29)) := (Keep.refl _ _).alloc _
 go_enter Tryz.func14, Tryz.ntmps14
 go_wp2_with (first | (refine wpList_allocAgg rfl rfl (zero_noId _) ?_))
 generalize w.alloc (.cells (idC noId) 29) = w1 at *
 have z1 := k1.size
 have l1 := q1.lt
 refine (new_any _).mono ?_
 rintro r w2 ⟨rfl, hh2, hk2⟩
 have hr2 := (hrs.kept (k1.trans hk2) (Nat.le_refl _))
 have q2 := q1.keep hk2 (fun h => h)
 have z2 := hk2.size
 have k2 := k1.trans hk2
 generalize w1.heap.size = g at *
 clear hk2 k1 q1 hrs
 go_wp2_with fail
 refine (write_any rs A c [] g _ _ hh2 (hr2.at_ (by omega)) (by omega) (by simpa using (by omega : (rowsB rs).length ≤ 1000000000000)) hrl).mono ?_
 rintro r w3 ⟨rfl, hh3, hk3⟩
 rw [List.nil_append] at hh3
 have q3 := q2.keep hk3 (by unfold Only; omega)
 have k3 : Keep Nothing w w3 := k2.then_ hk3 (by unfold Only; intro i hi h; omega)
 clear hk3 q2 k2 hh2 hr2
 go_wp2_with fail
 refine (sum_any _ g _ hh3 hsz).mono ?_
 rintro r w4 ⟨rfl, hk4⟩
 have q4 := q3.keep hk4 (fun h => h)
 have k4 := k3.trans hk4
 obtain ⟨ID, hID⟩ : ∃ ID, sha (rowsB rs) = ID := ⟨_, rfl⟩
 rw [hID]
 have HID := Lib.hid hID
 clear hID
 go_wp2_with (first | (refine wpList_storeBlk rfl rfl (vs := idC ID) rfl rfl q4 (by rw [idC_size, idC_size]) (by rw [idC_size]; exact info42) (idL_one _) ?_; intro w9 hq9 hk9 hz9))
 refine bodyPost_ret (v := idV ID) (results_cell rfl _ _ rfl (run_loadVar_cells w9 _ (idC ID) Tryz.underlying29 rfl (by rw [idC_size]; exact info42) (fun j v hj => by rw [add_at, hq9.cell, ← hj]; simp))) rfl ⟨by rw [HID.out], ?_⟩
 exact k4.then_ hk9 (by unfold Only; intro i hi h; omega)
end Go.Proofs.YtmlmbkelpjmafaaGreat
namespace Go.Proofs.YtmlmbkelpjmafaaGreat
open Go.RowKit
def idObj (k : Int) (b : List UInt8) : Id × Int := if bodyE k b = 0 then (sha (encObj (bodyE k b) k b).1, 0) else (noId, bodyE k b)
def IdEPost (r2 : Id × Int) (w : World) (r : Ending) (w' : World) : Prop := r = .returned (.tuple #[idV r2.1, .int .i64 r2.2]) ∧ Below w.heap.size w w'
set_option maxHeartbeats 2000000 in
set_option maxRecDepth 100000 in
theorem id_any (k : Int) (b : List UInt8) (A : Option Addr) (c : Nat) (w : World) (hr : Reads w w.heap.size 1 A b.length (b.map bv)) (hl : b.length ≤ 1000000) (hc1 : b.length ≤ c) (hc2 : c ≤ maxLen) :
    Calls Tryz.prog 19 #[.agg #[.int .i64 k, .slice A b.length c]] w (IdEPost (idObj k b) w) := by
 have q1 : Blk ((w.alloc (.cells #[.int .i64 k, .slice A b.length c] 27)).alloc (.cells (idC noId) 29)) w.heap.size 27 #[.int .i64 k, .slice A b.length c] := (Blk.new _ _ _).alloc _
 have q2 : Blk ((w.alloc (.cells #[.int .i64 k, .slice A b.length c] 27)).alloc (.cells (idC noId) 29)) (w.heap.size + 1) 29 (idC noId) := by
  have := Blk.new (w.alloc (.cells #[.int .i64 k, .slice A b.length c] 27)) 29 (idC noId)
  simpa using this
 have k0 : Below w.heap.size w ((w.alloc (.cells #[.int .i64 k, .slice A b.length c] 27)).alloc (.cells (idC noId) 29)) := ((Below.refl _ _).alloc (Nat.le_refl _) _).alloc (by simp) _
 have hen := encObj_e k b
 have HID := Lib.hid (show idObj k b = if bodyE k b = 0 then (sha (encObj (bodyE k b) k b).1, 0) else (noId, bodyE k b) from rfl)
 go_enter Tryz.func19, Tryz.ntmps19
 go_wp2_with (first | (refine wpList_boxed rfl rfl (cs := #[.int .i64 k, .slice A b.length c]) rfl ?_) | (refine wpList_allocAgg rfl rfl (zero_noId _) ?_; generalize (w.alloc (.cells #[.int .i64 k, .slice A b.length c] 27)).alloc (.cells (idC noId) 29) = w0 at *) | (refine wpList_load rfl rfl rfl (load_obj q1) ?_))
 have z0 := k0.size
 refine (encodeObj_any k b A c _ ((hr.below k0).more z0) hl hc1 hc2).mono ?_
 rintro r w1 ⟨A1, c1, rfl, o1, be1⟩
 have p2 := q2.below be1 q2.lt
 have l2 := q2.lt
 have k1 := k0.trans (be1.mono z0)
 have z1 := be1.size
 generalize hq : w.heap.size = q at *
 have HQ := Lib.hid hq
 have hqle : q ≤ w.heap.size := by omega
 clear q1 q2 k0 be1 hq
 rw [hen]
 generalize hee : bodyE k b = e at *
 clear hee
 by_cases h0 : e = 0
 · subst h0
   have HI := Lib.hid (HID.out.trans (if_pos rfl))
   have hx9 : (encObj 0 k b).1.length ≤ 100000000 := by simp [encObj, be_len]; omega
   generalize (encObj 0 k b).1 = x at *
   have hcm := o1.cap_le
   go_wp2_with fail
   have rv : Reads (w1.alloc (.cells #[.slice A1 x.length c1] 22)) (w1.heap.size + 1) 1 (some ⟨w1.heap.size, 0, none⟩) 1 [.slice A1 x.length c1] := Reads.of_cells (n := 1) (heap_alloc_new _ _) rfl rfl
   have hrs : RowsIn (w1.alloc (.cells #[.slice A1 x.length c1] 22)) (w1.alloc (.cells #[.slice A1 x.length c1] 22)).heap.size (some ⟨w1.heap.size, 0, none⟩) [⟨A1, c1, x⟩] := by
    refine ⟨rv.more (by simp), fun r hr => ?_⟩
    simp only [List.mem_singleton] at hr
    subst hr
    exact ⟨((o1.reads.alloc (Nat.le_refl _) _).more (by simp)), hcm.1, hcm.2⟩
   have hrow : rowsB [⟨A1, c1, x⟩] = x := by simp [rowsB]
   have p3 := p2.alloc (.cells #[.slice A1 x.length c1] 22)
   have k3 := k1.alloc (by omega) (.cells #[.slice A1 x.length c1] 22)
   have z3 := k3.size
   generalize w1.alloc (.cells #[.slice A1 x.length c1] 22) = w3 at *
   refine (of_any [⟨A1, c1, x⟩] _ 1 _ hrs (by rw [hrow]; omega) (by simp)).mono ?_
   rintro r w4 ⟨rfl, hk4⟩
   rw [hrow]
   have p4 := p3.keep hk4 (fun h => h)
   have k4 := k3.trans (hk4.all.mono (by omega))
   have l4 := p4.lt
   generalize sha x = ID at *
   go_wp2_with (first | (refine wpList_storeBlk rfl rfl (vs := idC ID) rfl rfl p4 (by rw [idC_size, idC_size]) (by rw [idC_size]; exact info42) (idL_one _) ?_; intro w9 hq9 hk9 hz9))
   refine bodyPost_ret (results_cell_tmp rfl _ _ rfl (run_loadVar_cells w9 _ (idC ID) Tryz.underlying29 rfl (by rw [idC_size]; exact info42) (fun j v hj => by rw [add_at, hq9.cell, ← hj]; simp))) rfl ?_
   refine ⟨by rw [HI.out]; rfl, ?_⟩
   rw [HQ.out]
   exact k4.trans (hk9.below (by omega) (by unfold Only; intro i hi h; omega))
 · have h01 : (e != 0) = true := by simpa using h0
   have HI := Lib.hid (HID.out.trans (if_neg h0))
   go_wp2_with (first | (refine wpList_built rfl rfl (vs := #[]) rfl (build_noId _) ?_) | (refine wpList_storeBlk rfl rfl (vs := idC noId) rfl rfl p2 (by rw [idC_size]) (by rw [idC_size]; exact info42) (idL_one _) ?_; intro w9 hq9 hk9 hz9))
   refine bodyPost_ret (results_cell_tmp rfl _ _ rfl (run_loadVar_cells w9 _ (idC noId) Tryz.underlying29 rfl (by rw [idC_size]; exact info42) (fun j v hj => by rw [add_at, hq9.cell, ← hj]; simp))) rfl ?_
   refine ⟨by rw [HI.out]; rfl, ?_⟩
   rw [HQ.out]
   exact k1.trans (hk9.below (by omega) (by unfold Only; intro i hi h; omega))
end Go.Proofs.YtmlmbkelpjmafaaGreat
