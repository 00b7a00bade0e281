/-
  Contract of the reference's Id. No statement of the seat is proved here.
-/
import Derived.Test.YtppmolneklidfaaObj3
import Derived.Test.YtppmolneklidfaaRofM
namespace Go.Proofs.Ytppmolneklidfaa
open Go.RowKit

attribute [local go_sem ↓] ld_id eq_id bd_com st_com
set_option maxHeartbeats 2000000 in
set_option maxRecDepth 100000 in
theorem refId_any (k : Int) (b : List UInt8) (A : Option Addr) (c : Nat) (w : World) (hr : Reads w w.heap.size 1 A b.length (b.map bv)) (hl : b.length ≤ 1000000) (hc1 : b.length ≤ c) (hc2 : c ≤ maxLen) :
    Calls Try.prog 27 #[.agg #[.int .i64 k, .slice A b.length c]] w (IdEPost (idObj k b) w) := by
  have q1 : Blk ((w.alloc (.cells #[.int .i64 k, .slice A b.length c] 38)).alloc (.cells (idC noId) 42)) w.heap.size 38 #[.int .i64 k, .slice A b.length c] := (Blk.new _ _ _).alloc _
  have q2 : Blk ((w.alloc (.cells #[.int .i64 k, .slice A b.length c] 38)).alloc (.cells (idC noId) 42)) (w.heap.size + 1) 42 (idC noId) := by
    have := Blk.new (w.alloc (.cells #[.int .i64 k, .slice A b.length c] 38)) 42 (idC noId)
    simpa using this
  have k0 : Below w.heap.size w ((w.alloc (.cells #[.int .i64 k, .slice A b.length c] 38)).alloc (.cells (idC noId) 42)) := ((Below.refl _ _).alloc (Nat.le_refl _) _).alloc (by simp) _
  have hen := encObj_e k b
  have HID := Lib.hid (show idObj k b = if bodyE k b = 0 then (sha (encObj (bodyE k b) k b).1, 0) else (noId, bodyE k b) from rfl)
  go_enter Try.func27, Try.ntmps27
  go_wp2_with (first | (refine wpList_boxed rfl rfl (cs := #[.int .i64 k, .slice A b.length c]) rfl ?_) | (refine wpList_allocAgg rfl rfl (zero_noId _) ?_; generalize (w.alloc (.cells #[.int .i64 k, .slice A b.length c] 38)).alloc (.cells (idC noId) 42) = w0 at *) | (refine wpList_load rfl rfl rfl (load_obj q1) ?_))
  have z0 := k0.size
  refine (rencodeObj_any k b A c _ ((hr.below k0).more z0) hl hc1 hc2).mono ?_
  rintro r w1 ⟨A1, c1, rfl, o1, be1⟩
  have p2 := q2.below be1 q2.lt
  have l2 := q2.lt
  have k1 := k0.trans (be1.mono z0)
  have z1 := be1.size
  generalize hq : w.heap.size = q at *
  have HQ := Lib.hid hq
  have hqle : q ≤ w.heap.size := by omega
  clear q1 q2 k0 be1 hq
  rw [hen]
  generalize hee : bodyE k b = e at *
  clear hee
  by_cases h0 : e = 0
  · subst h0
    have HI := Lib.hid (HID.out.trans (if_pos rfl))
    have hx9 : (encObj 0 k b).1.length ≤ 100000000 := by simp [encObj, be_len]; omega
    generalize (encObj 0 k b).1 = x at *
    go_wp2_with fail
    refine (rof_any x A1 c1 _ o1.reads (by omega)).mono ?_
    rintro r w4 ⟨rfl, hk4⟩
    have p4 := p2.keep hk4 (fun h => h)
    have k4 := k1.trans (hk4.all.mono (by omega))
    have l4 := p4.lt
    generalize sha x = ID at *
    go_wp2_with (first | (refine wpList_storeBlk rfl rfl (vs := idC ID) rfl rfl p4 (by rw [idC_size, idC_size]) (by rw [idC_size]; exact info42) (idL_one _) ?_; intro w9 hq9 hk9 hz9))
    refine bodyPost_ret (results_cell_tmp rfl _ _ rfl (run_loadVar_cells w9 _ (idC ID) Try.underlying42 rfl (by rw [idC_size]; exact info42) (fun j v hj => by rw [add_at, hq9.cell, ← hj]; simp))) rfl ?_
    refine ⟨by rw [HI.out]; rfl, ?_⟩
    rw [HQ.out]
    exact k4.trans (hk9.below (by omega) (by unfold Only; intro i hi h; omega))
  · have h01 : (e != 0) = true := by simpa using h0
    have HI := Lib.hid (HID.out.trans (if_neg h0))
    go_wp2_with (first | (refine wpList_built rfl rfl (vs := #[]) rfl (build_noId _) ?_) | (refine wpList_storeBlk rfl rfl (vs := idC noId) rfl rfl p2 (by rw [idC_size]) (by rw [idC_size]; exact info42) (idL_one _) ?_; intro w9 hq9 hk9 hz9))
    refine bodyPost_ret (results_cell_tmp rfl _ _ rfl (run_loadVar_cells w9 _ (idC noId) Try.underlying42 rfl (by rw [idC_size]; exact info42) (fun j v hj => by rw [add_at, hq9.cell, ← hj]; simp))) rfl ?_
    refine ⟨by rw [HI.out]; rfl, ?_⟩
    rw [HQ.out]
    exact k1.trans (hk9.below (by omega) (by unfold Only; intro i hi h; omega))
end Go.Proofs.Ytppmolneklidfaa
