/- Contract of the reference's Id. No statement of the seat is proved here. -/
import Derived.Test.YtmlmbkelpjmafaaGreatPTcRcom3
import Derived.Test.YtmlmbkelpjmafaaGreatPT12
import Derived.Test.YtmlmbkelpjmafaaGreatPTcEcom
import Derived.Deep.DeepCutAuto
import Derived.Test.YtmlmbkelpjmafaaGreatPT16
import Derived.Test.YtmlmbkelpjmafaaGreatPTcRofM
namespace Go.Proofs.YtmlmbkelpjmafaaGreat
open Go.RowKit
attribute [local go_sem ↓] ld_id eq_id bd_com st_com
set_option maxHeartbeats 2000000 in
set_option maxRecDepth 100000 in
theorem rbody_any (k : Int) (b : List UInt8) (A : Option Addr) (c : Nat) (w : World) (hr : Reads w w.heap.size 1 A b.length (b.map bv)) (hl : b.length ≤ 1000000) (hc1 : b.length ≤ c) (hc2 : c ≤ maxLen) :
    Calls Tryz.prog 16 #[.agg #[.int .i64 k, .slice A b.length c]] w fun r w' => r = .returned (.int .i64 (bodyE k b)) ∧ Below w.heap.size w w' := by
 have q1 : Blk (w.alloc (.cells #[.int .i64 k, .slice A b.length c] 27)) w.heap.size 27 #[.int .i64 k, .slice A b.length c] := Blk.new _ _ _
 have k1 : Below w.heap.size w (w.alloc (.cells #[.int .i64 k, .slice A b.length c] 27)) := (Below.refl _ _).alloc (Nat.le_refl _) _
 have r1 := hr.below k1
 have z1 := k1.size
 by_cases h1 : k = 1
 · subst h1
   by_cases hb : 65536 < b.length
   · have HE := Lib.hid (show bodyE 1 b = 5 from by unfold bodyE; rw [if_pos rfl, if_pos hb])
     have d : decide ((65536 : Int) < (b.length : Int)) = true := decide_eq_true (by omega)
     go_enter Tryz.func16, Tryz.ntmps16
     go_wp2_with fail
     go_ret
     exact ⟨by rw [HE.out]; rfl, k1⟩
   · have HE := Lib.hid (show bodyE 1 b = 0 from by unfold bodyE; rw [if_pos rfl, if_neg hb])
     have d : decide ((65536 : Int) < (b.length : Int)) = false := decide_eq_false (by omega)
     go_enter Tryz.func16, Tryz.ntmps16
     go_wp2_with fail
     go_ret
     exact ⟨by rw [HE.out]; rfl, k1⟩
 · have e1 : (k == 1) = false := beq_eq_false_iff_ne.2 h1
   by_cases h2 : k = 2
   · subst h2
     have HE := Lib.hid (show bodyE 2 b = (parseTree b).2 from rfl)
     go_enter Tryz.func16, Tryz.ntmps16
     go_wp2_with fail
     refine (rparseTree_any b A c _ (r1.more z1) hl hc1 hc2).mono ?_
     rintro r w2 ⟨A2, c2, rfl, ho2, hb2⟩
     generalize (parseTree b).2 = e at *
     generalize (parseTree b).1 = d at *
     go_wp2_with fail
     go_ret
     exact ⟨by rw [HE.out]; rfl, k1.trans (hb2.mono z1)⟩
   · have e2 : (k == 2) = false := beq_eq_false_iff_ne.2 h2
     by_cases h3 : k = 3
     · subst h3
       have HE := Lib.hid (show bodyE 3 b = (parseCommit b).2 from rfl)
       go_enter Tryz.func16, Tryz.ntmps16
       go_wp2_with fail
       refine (rparseCommit_any b A c _ (r1.more z1) hl hc1 hc2).mono ?_
       rintro r w2 ⟨A2, c2, rfl, ho2, hb2⟩
       generalize (parseCommit b).2 = e at *
       generalize (parseCommit b).1 = d at *
       go_wp2_with fail
       go_ret
       exact ⟨by rw [HE.out]; rfl, k1.trans (hb2.mono z1)⟩
     · have e3 : (k == 3) = false := beq_eq_false_iff_ne.2 h3
       have HE := Lib.hid (show bodyE k b = 3 from by unfold bodyE; rw [if_neg h1, if_neg h2, if_neg h3])
       go_enter Tryz.func16, Tryz.ntmps16
       go_wp2_with fail
       go_ret
       exact ⟨by rw [HE.out]; rfl, k1⟩
set_option maxHeartbeats 2000000 in
set_option maxRecDepth 100000 in
theorem rencodeObj_any (k : Int) (b : List UInt8) (A : Option Addr) (c : Nat) (w : World) (hr : Reads w w.heap.size 1 A b.length (b.map bv)) (hl : b.length ≤ 1000000) (hc1 : b.length ≤ c) (hc2 : c ≤ maxLen) :
    Calls Tryz.prog 9 #[.agg #[.int .i64 k, .slice A b.length c]] w (BytesPost (encObj (bodyE k b) k b) w) := by
 have q0 : Blk (w.alloc (.cells #[.int .i64 k, .slice A b.length c] 27)) w.heap.size 27 #[.int .i64 k, .slice A b.length c] := Blk.new _ _ _
 have k0 : Kept w.heap.size [5] [] w (w.alloc (.cells #[.int .i64 k, .slice A b.length c] 27)) := (Kept.refl _ _ _ _).alloc _
 have hke : bodyE k b = 0 → 1 ≤ k ∧ k ≤ 3 := bodyE_kind
 go_enter Tryz.func9, Tryz.ntmps9
 go_wp2_with (first | (refine wpList_boxed rfl rfl (cs := #[.int .i64 k, .slice A b.length c]) rfl ?_; generalize w.alloc (.cells #[.int .i64 k, .slice A b.length c] 27) = w0 at *) | (refine wpList_load rfl rfl rfl (load_obj q0) ?_))
 have z0 := k0.size
 refine (rbody_any k b A c _ ((hr.below k0.all).more z0) hl hc1 hc2).mono ?_
 rintro r w1 ⟨rfl, be1⟩
 have q1 := q0.below be1 q0.lt
 have kk1 : Kept w.heap.size [5] [] w w1 := k0.lift (Kept.ofBelow (base := w.heap.size) (E := []) (G := []) be1) (Nat.le_refl _) (by simp) (by simp)
 have z1 := kk1.size
 have l1 := q1.lt
 have rd1 := hr.below kk1.all
 generalize hq : w.heap.size = q at *
 have HQ := Lib.hid hq
 have hqle : q ≤ w.heap.size := by omega
 clear q0 k0 be1 hq
 obtain ⟨e, he⟩ : ∃ e, bodyE k b = e := ⟨_, rfl⟩
 rw [he] at hke
 rw [he]
 have HBE := Lib.hid he
 clear he
 by_cases h0 : e = 0
 · subst h0
   obtain ⟨hk1, hk3⟩ := hke rfl
   have HEN := Lib.hid (show encObj (bodyE k b) k b = ([letter k] ++ be 4 b.length ++ b, 0) from by rw [HBE.out]; rfl)
   have hlet : ∀ W : World, (Instr.index 9 (.string ⟨#[98, 116, 99]⟩) (.int .i64 (k - 1))).run Tryz.prog W = .ok (.int .u8 ((letter k).toNat : Int)) W := by
    intro W
    have : k = 1 ∨ k = 2 ∨ k = 3 := by omega
    rcases this with rfl | rfl | rfl
    · exact let1 W
    · exact let2 W
    · exact let3 W
   generalize letter k = y at *
   have hwk : IntKind.i64.wrap (k - 1) = k - 1 := IntWalk.i64_in _ (by omega)
   have hwl : IntKind.u64.wrap (b.length : Int) = (b.length : Int) := by simp [IntKind.wrap, IntKind.signed, IntKind.bits]; omega
   have hnum := fun W A ho' h2 => num_any 4 b.length (by omega) q [y] A 1 W ho' (by simp) h2
   obtain ⟨b5, hb5⟩ : ∃ b5, [y] ++ be 4 b.length = b5 := ⟨_, rfl⟩
   simp only [hb5] at hnum
   have e5 : b5.length = 5 := by rw [← hb5, List.length_append, be_len]; rfl
   have HN := Lib.hid hnum
   have HB5 := Lib.hid hb5
   have H5 := Lib.hid e5
   clear hnum hb5 e5 hke
   have a0 := q1.cell 0
   have a1 := q1.cell 1
   simp at a0 a1
   have qA := (q1.alloc (.cells #[.int .u8 (y.toNat : Int)] 5)).drew
   have kA : Kept q [5] [] w (w1.alloc (.cells #[.int .u8 (y.toNat : Int)] 5)).drew := (kk1.alloc _).drew
   have zA : q ≤ (w1.alloc (.cells #[.int .u8 (y.toNat : Int)] 5)).drew.heap.size := by show q ≤ (w1.alloc _).heap.size; simp; omega
   have b0 := qA.cell 1
   simp at b0
   go_wp2_with fail
   go_region_law (first | (go_simp; go_at_call 17; refine (HN.out _ _ (own_one w1 q (by omega) y).drew zA).mono ?_; rintro r w2 ⟨A2, c2, rfl, ho2, hk2⟩))
   all_goals
    have q2 := hk2.blk qA (by simp) (by decide)
    have kk2 := kA.trans hk2
    have z2 := kk2.size
    have rd2 := hr.below (kk2.below (B := q) (Nat.le_refl _) hqle (by simp))
    have d1 := q2.cell 1
    simp at d1
    have hm1 : b5.length + b.length ≤ maxLen := by rw [H5.out]; unfold maxLen; omega
    have hm2 : (b5.length + b.length) * 1 ≤ 140737488355328 := by rw [H5.out]; omega
    clear hk2 qA kA zA b0 a0 a1 hlet hwk hwl
    go_wp2_with (first | (at_builtin; refine wpList_append_sl rfl elemU8 rfl rfl ho2 rfl rd2 (bvs_one b) hm1 hm2 (by omega) ?_; intro A3 c3 w3 ho3 hk3))
    go_ret2
    have kk3 := kk2.trans hk3
    have hw2 : Kept w.heap.size [5] [] w w3 := by rw [HQ.out]; exact kk3
    have hE : encObj (bodyE k b) k b = (b5 ++ b, 0) := by rw [HEN.out, HB5.out]
    refine ⟨A3, c3, ?_, ?_, hw2.all⟩
    · rw [hE, List.length_append]; rfl
    · rw [hE, HQ.out, List.length_append]
      simpa using ho3
 · have h01 : (e != 0) = true := by simpa using h0
   go_wp2_with fail
   go_ret2
   have hw2 : Kept w.heap.size [5] [] w w1 := by rw [HQ.out]; exact kk1
   have hE : encObj (bodyE k b) k b = ([], e) := by rw [HBE.out]; exact if_neg h0
   refine ⟨none, 0, ?_, ?_, hw2.all⟩
   · rw [hE]; rfl
   · rw [hE]; exact Own.nil _ _ _ _
end Go.Proofs.YtmlmbkelpjmafaaGreat
namespace Go.Proofs.YtmlmbkelpjmafaaGreat
open Go.RowKit
attribute [local go_sem ↓] ld_id eq_id bd_com st_com
set_option maxHeartbeats 2000000 in
set_option maxRecDepth 100000 in
theorem refId_any (k : Int) (b : List UInt8) (A : Option Addr) (c : Nat) (w : World) (hr : Reads w w.heap.size 1 A b.length (b.map bv)) (hl : b.length ≤ 1000000) (hc1 : b.length ≤ c) (hc2 : c ≤ maxLen) :
    Calls Tryz.prog 6 #[.agg #[.int .i64 k, .slice A b.length c]] w (IdEPost (idObj k b) w) := by
 have q1 : Blk ((w.alloc (.cells #[.int .i64 k, .slice A b.length c] 27)).alloc (.cells (idC noId) 29)) w.heap.size 27 #[.int .i64 k, .slice A b.length c] := (Blk.new _ _ _).alloc _
 have q2 : Blk ((w.alloc (.cells #[.int .i64 k, .slice A b.length c] 27)).alloc (.cells (idC noId) 29)) (w.heap.size + 1) 29 (idC noId) := by
  have := Blk.new (w.alloc (.cells #[.int .i64 k, .slice A b.length c] 27)) 29 (idC noId)
  simpa using this
 have k0 : Below w.heap.size w ((w.alloc (.cells #[.int .i64 k, .slice A b.length c] 27)).alloc (.cells (idC noId) 29)) := ((Below.refl _ _).alloc (Nat.le_refl _) _).alloc (by simp) _
 have hen := encObj_e k b
 have HID := Lib.hid (show idObj k b = if bodyE k b = 0 then (sha (encObj (bodyE k b) k b).1, 0) else (noId, bodyE k b) from rfl)
 go_enter Tryz.func6, Tryz.ntmps6
 go_wp2_with (first | (refine wpList_boxed rfl rfl (cs := #[.int .i64 k, .slice A b.length c]) rfl ?_) | (refine wpList_allocAgg rfl rfl (zero_noId _) ?_; generalize (w.alloc (.cells #[.int .i64 k, .slice A b.length c] 27)).alloc (.cells (idC noId) 29) = w0 at *) | (refine wpList_load rfl rfl rfl (load_obj q1) ?_))
 have z0 := k0.size
 refine (rencodeObj_any k b A c _ ((hr.below k0).more z0) hl hc1 hc2).mono ?_
 rintro r w1 ⟨A1, c1, rfl, o1, be1⟩
 have p2 := q2.below be1 q2.lt
 have l2 := q2.lt
 have k1 := k0.trans (be1.mono z0)
 have z1 := be1.size
 generalize hq : w.heap.size = q at *
 have HQ := Lib.hid hq
 have hqle : q ≤ w.heap.size := by omega
 clear q1 q2 k0 be1 hq
 rw [hen]
 generalize hee : bodyE k b = e at *
 clear hee
 by_cases h0 : e = 0
 · subst h0
   have HI := Lib.hid (HID.out.trans (if_pos rfl))
   have hx9 : (encObj 0 k b).1.length ≤ 100000000 := by simp [encObj, be_len]; omega
   generalize (encObj 0 k b).1 = x at *
   go_wp2_with fail
   refine (rof_any x A1 c1 _ o1.reads (by omega)).mono ?_
   rintro r w4 ⟨rfl, hk4⟩
   have p4 := p2.keep hk4 (fun h => h)
   have k4 := k1.trans (hk4.all.mono (by omega))
   have l4 := p4.lt
   generalize sha x = ID at *
   go_wp2_with (first | (refine wpList_storeBlk rfl rfl (vs := idC ID) rfl rfl p4 (by rw [idC_size, idC_size]) (by rw [idC_size]; exact info42) (idL_one _) ?_; intro w9 hq9 hk9 hz9))
   refine bodyPost_ret (results_cell_tmp rfl _ _ rfl (run_loadVar_cells w9 _ (idC ID) Tryz.underlying29 rfl (by rw [idC_size]; exact info42) (fun j v hj => by rw [add_at, hq9.cell, ← hj]; simp))) rfl ?_
   refine ⟨by rw [HI.out]; rfl, ?_⟩
   rw [HQ.out]
   exact k4.trans (hk9.below (by omega) (by unfold Only; intro i hi h; omega))
 · have h01 : (e != 0) = true := by simpa using h0
   have HI := Lib.hid (HID.out.trans (if_neg h0))
   go_wp2_with (first | (refine wpList_built rfl rfl (vs := #[]) rfl (build_noId _) ?_) | (refine wpList_storeBlk rfl rfl (vs := idC noId) rfl rfl p2 (by rw [idC_size]) (by rw [idC_size]; exact info42) (idL_one _) ?_; intro w9 hq9 hk9 hz9))
   refine bodyPost_ret (results_cell_tmp rfl _ _ rfl (run_loadVar_cells w9 _ (idC noId) Tryz.underlying29 rfl (by rw [idC_size]; exact info42) (fun j v hj => by rw [add_at, hq9.cell, ← hj]; simp))) rfl ?_
   refine ⟨by rw [HI.out]; rfl, ?_⟩
   rw [HQ.out]
   exact k1.trans (hk9.below (by omega) (by unfold Only; intro i hi h; omega))
end Go.Proofs.YtmlmbkelpjmafaaGreat
