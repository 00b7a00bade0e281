/-
  Contracts of codec's kind, of slices.Clone at bytes, of codec.Id. No statement of the seat is proved here.
-/
import Derived.Test.YtppmolneklidfaaBody
import Derived.Test.YtppmolneklidfaaSha5
namespace Go.Proofs.Ytppmolneklidfaa
open Go.RowKit

def kindOf (x : UInt8) : Int := if x = 99 then 3 else if x = 116 then 2 else if x = 98 then 1 else 0
set_option maxHeartbeats 1000000 in
theorem kind_any (x : UInt8) (w : World) : Calls Try.prog 67 #[.int .u8 (x.toNat : Int)] w fun r w' => r = .returned (.int .i64 (kindOf x)) ∧ w = w' := by
  have hne : ∀ y : UInt8, x ≠ y → ((x.toNat : Int) == (y.toNat : Int)) = false := fun y h => beq_eq_false_iff_ne.2 (fun q => h (UInt8.toNat_inj.1 (by omega)))
  by_cases h1 : x = 99
  · subst h1
    have HK := Lib.hid (show kindOf 99 = 3 from rfl)
    clear hne
    go_enter Try.func67, Try.ntmps67
    go_wp2
    go_ret
    exact ⟨by rw [HK.out]; rfl, rfl⟩
  · have d1 : ((x.toNat : Int) == 99) = false := hne 99 h1
    by_cases h2 : x = 116
    · subst h2
      have HK := Lib.hid (show kindOf 116 = 2 from rfl)
      clear hne d1
      go_enter Try.func67, Try.ntmps67
      go_wp2
      go_ret
      exact ⟨by rw [HK.out]; rfl, rfl⟩
    · have d2 : ((x.toNat : Int) == 116) = false := hne 116 h2
      by_cases h3 : x = 98
      · subst h3
        have HK := Lib.hid (show kindOf 98 = 1 from rfl)
        clear hne d1 d2
        go_enter Try.func67, Try.ntmps67
        go_wp2
        go_ret
        exact ⟨by rw [HK.out]; rfl, rfl⟩
      · have d3 : ((x.toNat : Int) == 98) = false := hne 98 h3
        have HK := Lib.hid (show kindOf x = 0 from by unfold kindOf; rw [if_neg h1, if_neg h2, if_neg h3])
        clear hne h1 h2 h3
        generalize x.toNat = y at *
        go_enter Try.func67, Try.ntmps67
        go_wp2
        go_ret
        exact ⟨by rw [HK.out]; rfl, rfl⟩

theorem nil_none (w : World) (n c : Nat) : (binOp .eql 23 (.slice none n c) (.slice none 0 0)).run Try.prog w = .ok (.bool true) w := by kernel_rfl
theorem nil_some (w : World) (a : Addr) (n c : Nat) : (binOp .eql 23 (.slice (some a) n c) (.slice none 0 0)).run Try.prog w = .ok (.bool false) w := by kernel_rfl
theorem guard_nil (w : World) (x y : Operand) (A : Option Addr) (n c : Nat) : (eqGuard .eql 23 x y (.slice A n c) (.slice none 0 0)).run Try.prog w = .ok () w := by kernel_rfl
def ClonePost (b : List UInt8) (w : World) (r : Ending) (w' : World) : Prop := ∃ A c, r = .returned (.slice A b.length c) ∧ Own w' w.heap.size 5 1 A b.length c (b.map bv) ∧ Keep Nothing w w'
set_option maxHeartbeats 1000000 in
set_option maxRecDepth 100000 in
theorem clone_any (b : List UInt8) (A : Option Addr) (c : Nat) (B : Nat) (w : World) (hr : Reads w B 1 A b.length (b.map bv)) (hB : B ≤ w.heap.size) (hl : b.length ≤ 140737488355328) :
    Calls Try.prog 68 #[.slice A b.length c] w (ClonePost b w) := by
  cases A with
  | none =>
    have h0 : b = [] := by
      rcases Nat.eq_zero_or_pos b.length with h | h
      · exact List.eq_nil_of_length_eq_zero h
      · obtain ⟨ad, e, _⟩ := hr.2 h
        cases e
    subst h0
    go_enter Try.func68, Try.ntmps68
    go_wp2_with (first | (refine wpList_bin rfl rfl rfl rfl (guard_nil _ _ _ _ _ _) (nil_none _ _ _) ?_))
    go_ret
    exact ⟨none, 0, rfl, Own.nil _ _ _ _, Keep.refl _ _⟩
  | some ad =>
    go_enter Try.func68, Try.ntmps68
    go_wp2_with (first | (refine wpList_bin (o := ⟨some 4, _, _, _, _, _⟩) rfl rfl rfl rfl (guard_nil _ _ _ _ _ _) (nil_some _ _ _ _) ?_) | (at_builtin; refine wpList_append_sl rfl elemU8 rfl rfl (Own.fresh0 (heap_alloc_new _ _) (Nat.le_refl _)) rfl (hr.alloc hB _) (bvs_one b) (by unfold maxLen; omega) (by omega) (by simp) ?_; intro A2 c2 w2 ho2 hk2))
    go_ret
    simp only [Nat.zero_add, List.nil_append] at ho2
    refine ⟨A2, c2, by simp, ho2, ?_⟩
    exact ((Keep.refl Nothing w).alloc _).then_ hk2 (fun i hi h => by
      rcases h with h | ⟨h, _⟩
      · simp at h
      · omega)

/-- An object's Id, where e is what is wrong with its body. -/
def idObj (k : Int) (b : List UInt8) : Id × Int := if bodyE k b = 0 then (sha (encObj (bodyE k b) k b).1, 0) else (noId, bodyE k b)
def IdEPost (r2 : Id × Int) (w : World) (r : Ending) (w' : World) : Prop := r = .returned (.tuple #[idV r2.1, .int .i64 r2.2]) ∧ Below w.heap.size w w'
theorem encObj_e (k : Int) (b : List UInt8) : (encObj (bodyE k b) k b).2 = bodyE k b := by unfold encObj; split <;> simp_all
theorem load_obj {w : World} {g : Nat} {t : TypeId} {k : Int} {v : Value} (h : Blk w g t #[.int .i64 k, v]) : (Instr.loadAt 38 (.pointer (some ⟨g, 0, none⟩))).run Try.prog w = .ok (.agg #[.int .i64 k, v]) w :=
  run_loadAt_blk (P := Try.prog) h 0 #[.int .i64 k, v] Try.underlying38 rfl (by kernel_rfl) (by simp)
set_option maxHeartbeats 2000000 in
set_option maxRecDepth 100000 in
theorem id_any (k : Int) (b : List UInt8) (A : Option Addr) (c : Nat) (w : World) (hr : Reads w w.heap.size 1 A b.length (b.map bv)) (hl : b.length ≤ 1000000) (hc1 : b.length ≤ c) (hc2 : c ≤ maxLen) :
    Calls Try.prog 26 #[.agg #[.int .i64 k, .slice A b.length c]] w (IdEPost (idObj k b) w) := by
  have q1 : Blk ((w.alloc (.cells #[.int .i64 k, .slice A b.length c] 38)).alloc (.cells (idC noId) 42)) w.heap.size 38 #[.int .i64 k, .slice A b.length c] := (Blk.new _ _ _).alloc _
  have q2 : Blk ((w.alloc (.cells #[.int .i64 k, .slice A b.length c] 38)).alloc (.cells (idC noId) 42)) (w.heap.size + 1) 42 (idC noId) := by
    have := Blk.new (w.alloc (.cells #[.int .i64 k, .slice A b.length c] 38)) 42 (idC noId)
    simpa using this
  have k0 : Below w.heap.size w ((w.alloc (.cells #[.int .i64 k, .slice A b.length c] 38)).alloc (.cells (idC noId) 42)) := ((Below.refl _ _).alloc (Nat.le_refl _) _).alloc (by simp) _
  have hen := encObj_e k b
  have HID := Lib.hid (show idObj k b = if bodyE k b = 0 then (sha (encObj (bodyE k b) k b).1, 0) else (noId, bodyE k b) from rfl)
  go_enter Try.func26, Try.ntmps26
  go_wp2_with (first | (refine wpList_boxed rfl rfl (cs := #[.int .i64 k, .slice A b.length c]) rfl ?_) | (refine wpList_allocAgg rfl rfl (zero_noId _) ?_; generalize (w.alloc (.cells #[.int .i64 k, .slice A b.length c] 38)).alloc (.cells (idC noId) 42) = w0 at *) | (refine wpList_load rfl rfl rfl (load_obj q1) ?_))
  have z0 := k0.size
  refine (encodeObj_any k b A c _ ((hr.below k0).more z0) hl hc1 hc2).mono ?_
  rintro r w1 ⟨A1, c1, rfl, o1, be1⟩
  have p2 := q2.below be1 q2.lt
  have l2 := q2.lt
  have k1 := k0.trans (be1.mono z0)
  have z1 := be1.size
  generalize hq : w.heap.size = q at *
  have HQ := Lib.hid hq
  have hqle : q ≤ w.heap.size := by omega
  clear q1 q2 k0 be1 hq
  rw [hen]
  generalize hee : bodyE k b = e at *
  clear hee
  by_cases h0 : e = 0
  · subst h0
    have HI := Lib.hid (HID.out.trans (if_pos rfl))
    have hx9 : (encObj 0 k b).1.length ≤ 100000000 := by simp [encObj, be_len]; omega
    generalize (encObj 0 k b).1 = x at *
    have hcm := o1.cap_le
    go_wp2_with fail
    have rv : Reads (w1.alloc (.cells #[.slice A1 x.length c1] 23)) (w1.heap.size + 1) 1 (some ⟨w1.heap.size, 0, none⟩) 1 [.slice A1 x.length c1] := Reads.of_cells (n := 1) (heap_alloc_new _ _) rfl rfl
    have hrs : RowsIn (w1.alloc (.cells #[.slice A1 x.length c1] 23)) (w1.alloc (.cells #[.slice A1 x.length c1] 23)).heap.size (some ⟨w1.heap.size, 0, none⟩) [⟨A1, c1, x⟩] := by
      refine ⟨rv.more (by simp), fun r hr => ?_⟩
      simp only [List.mem_singleton] at hr
      subst hr
      exact ⟨((o1.reads.alloc (Nat.le_refl _) _).more (by simp)), hcm.1, hcm.2⟩
    have hrow : rowsB [⟨A1, c1, x⟩] = x := by simp [rowsB]
    have p3 := p2.alloc (.cells #[.slice A1 x.length c1] 23)
    have k3 := k1.alloc (by omega) (.cells #[.slice A1 x.length c1] 23)
    have z3 := k3.size
    generalize w1.alloc (.cells #[.slice A1 x.length c1] 23) = w3 at *
    refine (of_any [⟨A1, c1, x⟩] _ 1 _ hrs (by rw [hrow]; omega) (by simp)).mono ?_
    rintro r w4 ⟨rfl, hk4⟩
    rw [hrow]
    have p4 := p3.keep hk4 (fun h => h)
    have k4 := k3.trans (hk4.all.mono (by omega))
    have l4 := p4.lt
    generalize sha x = ID at *
    go_wp2_with (first | (refine wpList_storeBlk rfl rfl (vs := idC ID) rfl rfl p4 (by rw [idC_size, idC_size]) (by rw [idC_size]; exact info42) (idL_one _) ?_; intro w9 hq9 hk9 hz9))
    refine bodyPost_ret (results_cell_tmp rfl _ _ rfl (run_loadVar_cells w9 _ (idC ID) Try.underlying42 rfl (by rw [idC_size]; exact info42) (fun j v hj => by rw [add_at, hq9.cell, ← hj]; simp))) rfl ?_
    refine ⟨by rw [HI.out]; rfl, ?_⟩
    rw [HQ.out]
    exact k4.trans (hk9.below (by omega) (by unfold Only; intro i hi h; omega))
  · have h01 : (e != 0) = true := by simpa using h0
    have HI := Lib.hid (HID.out.trans (if_neg h0))
    go_wp2_with (first | (refine wpList_built rfl rfl (vs := #[]) rfl (build_noId _) ?_) | (refine wpList_storeBlk rfl rfl (vs := idC noId) rfl rfl p2 (by rw [idC_size]) (by rw [idC_size]; exact info42) (idL_one _) ?_; intro w9 hq9 hk9 hz9))
    refine bodyPost_ret (results_cell_tmp rfl _ _ rfl (run_loadVar_cells w9 _ (idC noId) Try.underlying42 rfl (by rw [idC_size]; exact info42) (fun j v hj => by rw [add_at, hq9.cell, ← hj]; simp))) rfl ?_
    refine ⟨by rw [HI.out]; rfl, ?_⟩
    rw [HQ.out]
    exact k1.trans (hk9.below (by omega) (by unfold Only; intro i hi h; omega))
end Go.Proofs.Ytppmolneklidfaa
