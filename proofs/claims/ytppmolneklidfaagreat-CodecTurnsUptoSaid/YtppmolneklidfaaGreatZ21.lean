/-
  Texts of the codec joined (LawObjs). No statement of the seat is proved here.
-/
import Derived.Test.YtppmolneklidfaaGreatZ14
import Derived.Test.YtppmolneklidfaaGreatZ13
import Derived.Test.YtppmolneklidfaaGreatZ15
import Derived.Test.YtppmolneklidfaaGreatZ20
import Derived.Deep.RegionHeld3
import Derived.Deep.DeepCutAuto
namespace Go.Proofs.YtppmolneklidfaaGreat
open Go.ChangeShapes Go.WideShapes Go.ChangeAt Go.RowKit Go.Deep Go.Joins

def StObj (p v : Value) : Sem Unit := Instr.storeAt 45 p v
theorem st_obj (p v : Value) : Instr.storeAt 45 p v = StObj p v := rfl
theorem StObj.go {w : World} {g : Nat} {t : TypeId} {cs : Array Value} (h : Blk w g t cs) (hs : cs.size = 2) (k : Int) (A : Option Addr) (n c : Nat) : ∃ w', (StObj (.pointer (some ⟨g, 0, none⟩)) (.agg #[.int .i64 k, .slice A n c])).run Tryz.prog w = .ok () w' ∧ Blk w' g t #[.int .i64 k, .slice A n c] ∧ Keep (Only g) w w' := by
  have := run_storeAt_blk (P := Tryz.prog) (ty := 45) (vs := #[.int .i64 k, .slice A n c]) h 0 info_obj (by simp; omega) obj_one2
  refine ⟨_, this, ?_, Keep.setRow (Keep.refl (Only g) w) (.inl rfl) _⟩
  rw [spl_all (by rw [hs]; rfl)]
  exact h.row _
theorem eq_self (w : World) (i : Id) : (binOp .eql 24 (idV i) (idV i)).run Tryz.prog w = .ok (.bool true) w := by rw [run_eql_id]; simp
attribute [local go_sem ↓] st_obj

set_option maxHeartbeats 4000000 in
set_option maxRecDepth 100000 in
theorem objs_walk (k : Int) (a b : List UInt8) (A A' : Option Addr) (c c' : Nat) (w : World) (hra : Reads w w.heap.size 1 A a.length (a.map bv)) (hrb : Reads w w.heap.size 1 A' b.length (b.map bv)) (ha1 : a.length ≤ c) (ha2 : c ≤ maxLen) (hb1 : b.length ≤ c') (hb2 : c' ≤ maxLen) :
    Calls Tryz.prog 13 #[.agg #[.int .i64 k, .slice A a.length c], .slice A' b.length c'] w (TruePost w) := by
  have ha3 := ha2
  have hb3 := hb2
  unfold maxLen at ha3 hb3
  have q1 : Blk (w.alloc (.cells #[.int .i64 k, .slice A a.length c] 45)) w.heap.size 45 #[.int .i64 k, .slice A a.length c] := Blk.new _ _ _
  have k0 : Below w.heap.size w (w.alloc (.cells #[.int .i64 k, .slice A a.length c] 45)) := (Below.refl _ _).alloc (Nat.le_refl _) _
  go_enter Tryz.func13, Tryz.ntmps13
  go_wp2_with (first | (refine wpList_boxed rfl rfl (cs := #[.int .i64 k, .slice A a.length c]) rfl ?_))
  generalize w.alloc (.cells #[.int .i64 k, .slice A a.length c] 45) = w0 at *
  refine (known_any _).mono ?_
  rintro r w1 ⟨rfl, hbe1⟩
  have q1' := q1.below hbe1 q1.lt
  have k1 := k0.trans (hbe1.mono k0.size)
  generalize hq : w.heap.size = q at *
  have HQ := Lib.hid hq
  have hqle : q ≤ w.heap.size := by omega
  have hqge : w.heap.size ≤ q := by omega
  have z1 := k1.size
  have l1 := q1'.lt
  clear hq q1 k0 hbe1
  have a0 := q1'.cell 0
  have a1 := q1'.cell 1
  simp at a0 a1
  have fin : ∀ W : World, Below q w W → TruePost w (.returned (.bool true)) W := fun W h => ⟨rfl, by rw [HQ.out]; exact h⟩
  have HF := Lib.hid fin
  clear fin
  by_cases h1 : 70000 < a.length
  · have d1 : decide ((70000 : Int) < (a.length : Int)) = true := decide_eq_true (by omega)
    go_wp2_with fail
    go_ret
    exact HF.out _ k1
  · have d1 : decide ((70000 : Int) < (a.length : Int)) = false := decide_eq_false (by omega)
    by_cases h2 : 32768 < b.length
    · have d2 : decide ((32768 : Int) < (b.length : Int)) = true := decide_eq_true (by omega)
      go_wp2_with fail
      go_ret
      exact HF.out _ k1
    · have d2 : decide ((32768 : Int) < (b.length : Int)) = false := decide_eq_false (by omega)
      go_upto_region 5 with fail
      go_cut [5] (fun s5 wx => ∃ p A2 c2, s5 = .pointer (some ⟨p, 0, none⟩) ∧ Blk wx p 45 #[.int .i64 k, .slice A2 a.length c2] ∧ Own wx q 5 1 A2 a.length c2 (a.map bv) ∧ Below q w wx ∧ Blk wx q 45 #[.int .i64 k, .slice A a.length c])
      case first =>
        have hs := hra.below k1
        have hm1 : 0 + a.length ≤ maxLen := by unfold maxLen; omega
        have hm2 : (0 + a.length) * 1 ≤ 140737488355328 := by omega
        have zq : q ≤ w1.drew.heap.size := by show q ≤ w1.heap.size; omega
        have zq2 : q ≤ (w1.drew.alloc (.cells #[.int .i64 0, .slice none 0 0] 45)).heap.size := by show q ≤ (w1.alloc _).heap.size; simp; omega
        have zq3 : q ≤ (w1.drew.alloc (.cells #[] 5)).heap.size := by show q ≤ (w1.alloc _).heap.size; simp; omega
        have zq4 : w1.drew.heap.size ≤ ((w1.drew.alloc (.cells #[] 5)).alloc (.cells #[.int .i64 0, .slice none 0 0] 45)).heap.size := by show w1.heap.size ≤ ((w1.alloc _).alloc _).heap.size; simp; omega
        have hn0 : 0 + a.length = a.length := Nat.zero_add _
        have ln1 : w1.drew.heap.size = w1.heap.size := rfl
        have ln2 : (w1.drew.alloc (.cells #[] 5)).heap.size = w1.heap.size + 1 := by rw [← ln1]; simp
        have ro : Blk ((w1.drew.alloc (.cells #[] 5)).alloc (.cells #[.int .i64 0, .slice none 0 0] 45)) (w1.heap.size + 1) 45 #[.int .i64 0, .slice none 0 0] := by
          rw [← ln2]
          exact Blk.new _ _ _
        have or_ : Blk ((w1.drew.alloc (.cells #[.int .i64 0, .slice none 0 0] 45)).alloc (.cells #[] 5)) w1.heap.size 45 #[.int .i64 0, .slice none 0 0] := (Blk.new w1.drew 45 #[.int .i64 0, .slice none 0 0]).alloc (.cells #[] 5)
        have ln3 : (w1.drew.alloc (.cells #[.int .i64 0, .slice none 0 0] 45)).heap.size = w1.heap.size + 1 := by rw [← ln1]; simp
        have ow2 : Own ((w1.drew.alloc (.cells #[.int .i64 0, .slice none 0 0] 45)).alloc (.cells #[] 5)) w1.heap.size 5 1 (some ⟨w1.heap.size + 1, 0, none⟩) 0 0 [] := by
          rw [← ln3]
          exact Own.fresh0 (heap_alloc_new _ _) (by rw [ln3]; omega)
        have zq5 : w1.heap.size ≤ ((w1.drew.alloc (.cells #[.int .i64 0, .slice none 0 0] 45)).alloc (.cells #[] 5)).heap.size := by show w1.heap.size ≤ ((w1.alloc _).alloc _).heap.size; simp; omega
        have zq6 : q ≤ ((w1.drew.alloc (.cells #[] 5)).alloc (.cells #[.int .i64 0, .slice none 0 0] 45)).heap.size := by omega
        have zq7 : q ≤ ((w1.drew.alloc (.cells #[.int .i64 0, .slice none 0 0] 45)).alloc (.cells #[] 5)).heap.size := by omega
        have kA : Below q w (w1.drew.alloc (.cells #[] 5)) := k1.drew.alloc zq _
        have kB : Below q w ((w1.drew.alloc (.cells #[.int .i64 0, .slice none 0 0] 45)).alloc (.cells #[] 5)) := (k1.drew.alloc zq _).alloc zq2 _
        have kC : Below q w ((w1.drew.alloc (.cells #[] 5)).alloc (.cells #[.int .i64 0, .slice none 0 0] 45)) := kA.alloc zq3 _
        go_region_held3 (fun w' => w'.cell? ⟨q, 0, none⟩ = some (.int .i64 k) ∧ w'.cell? ⟨q, 1, none⟩ = some (.slice A a.length c)) (first | go_keep) (first
          | ((refine step_append_sl (by rfl) elemU8 (by rfl) (by rfl) (Own.fresh0 (heap_alloc_new _ _) (Nat.le_refl _)) (by rfl) (hs.drew.alloc zq _) (bvs_one _) hm1 hm2 (by simp) ?_); rw [hn0]; intro A2 c2 w2 ho2 hk2; have hb2 := hk2.blk (q1'.drew.alloc _) (by simp) (by decide); have y2 := hb2.lt; have e0 := hb2.cell 0; have e1 := hb2.cell 1; obtain ⟨w3, S3, p3, k3⟩ := StObj.go (Blk.new w2 45 #[.int .i64 0, .slice none 0 0]) rfl k A2 a.length c2; have q3 := (hb2.alloc _).keep k3 (by unfold Only; omega); have g0 := q3.cell 0; have g1 := q3.cell 1; have o3 := (ho2.alloc _).keepOnly k3 (Blk.new w2 45 #[.int .i64 0, .slice none 0 0]) (by decide); have kk := ((kA.trans (hk2.below (B := q) zq zq3 (by simp))).alloc (by omega) (.cells #[.int .i64 0, .slice none 0 0] 45)).trans (k3.below (B := q) (by simp; omega) (by unfold Only; intro i hi h; omega)); simp at e0 e1 g0 g1)
          | ((refine step_append_sl (by rfl) elemU8 (by rfl) (by rfl) ow2 (by rfl) ((hs.drew.alloc zq _).alloc zq2 _) (bvs_one _) hm1 hm2 zq5 ?_); rw [hn0]; intro A2 c2 w2 ho2 hk2; have hb2 := hk2.blk ((q1'.drew.alloc _).alloc _) (by simp) (by decide); have hp2 := hk2.blk or_ (by simp) (by decide); have e0 := hb2.cell 0; have e1 := hb2.cell 1; obtain ⟨w3, S3, p3, k3⟩ := StObj.go hp2 rfl k A2 a.length c2; have q3 := hb2.keep k3 (by unfold Only; omega); have g0 := q3.cell 0; have g1 := q3.cell 1; have o3 := ho2.keepOnly k3 hp2 (by decide); have kk := (kB.trans (hk2.below (B := q) (by omega) zq7 (by simp))).trans (k3.below (B := q) (Nat.le_trans zq7 hk2.size) (by unfold Only; intro i hi h; omega)); simp at e0 e1 g0 g1)
          | ((refine step_append_sl (by rfl) elemU8 (by rfl) (by rfl) ((Own.fresh0 (heap_alloc_new _ _) (Nat.le_refl _)).alloc _) (by rfl) ((hs.drew.alloc zq _).alloc zq3 _) (bvs_one _) hm1 hm2 zq4 ?_); rw [hn0]; intro A2 c2 w2 ho2 hk2; have hb2 := hk2.blk ((q1'.drew.alloc _).alloc _) (by simp) (by decide); have hp2 := hk2.blk ro (by simp) (by decide); have e0 := hb2.cell 0; have e1 := hb2.cell 1; obtain ⟨w3, S3, p3, k3⟩ := StObj.go hp2 rfl k A2 a.length c2; have q3 := hb2.keep k3 (by unfold Only; omega); have g0 := q3.cell 0; have g1 := q3.cell 1; have o3 := ho2.keepOnly k3 hp2 (by decide); have kk := (kC.trans (hk2.below (B := q) zq zq6 (by simp))).trans (k3.below (B := q) (Nat.le_trans zq6 hk2.size) (by unfold Only; intro i hi h; omega)); simp at e0 e1 g0 g1))
        all_goals
          have o4 : Own w3 q 5 1 A2 a.length c2 (a.map bv) := by simpa using o3.mono (base' := q) (by omega)
          go_wp2_with fail
          go_meet
          exact ⟨_, A2, c2, rfl, p3, o4, kk, q3⟩
      case rest =>
        obtain ⟨p, A2, c2, rfl, p5, o5, k5, q5⟩ := hcut
        clear a0 a1 q1' k1 z1 l1 d1 d2
        have z5 := k5.size
        have o5c := o5.cap_le
        go_wp2_with (first | (refine wpList_load rfl rfl rfl (load_obj p5) ?_))
        refine (encodeObj_any k a A2 c2 _ o5.reads (by omega) o5c.1 o5c.2).mono ?_
        rintro r w6 ⟨A6, c6, rfl, o6, be6⟩
        have p6 := p5.below be6 p5.lt
        have q6 := q5.below be6 q5.lt
        have k6 := k5.trans (be6.mono (by omega))
        have o56 := o5.kept (b' := 0) (E := []) (G := []) (Kept.ofBelow be6) (by simp) (by simp)
        have z6 := be6.size
        clear p5 q5 k5 o5 be6
        go_wp2_with (first | (refine wpList_load rfl rfl rfl (load_obj q6) ?_))
        refine (rencodeObj_any k a A c _ ((hra.below k6).more (by omega)) (by omega) ha1 ha2).mono ?_
        rintro r w7 ⟨A7, c7, rfl, o7, be7⟩
        have p7 := p6.below be7 p6.lt
        have q7 := q6.below be7 q6.lt
        have k7 := k6.trans (be7.mono (by omega))
        have o57 := o56.kept (b' := 0) (E := []) (G := []) (Kept.ofBelow be7) (by simp) (by simp)
        have o67 := o6.kept (b' := 0) (E := []) (G := []) (Kept.ofBelow be7) (by simp) (by simp)
        have z7 := be7.size
        clear p6 q6 k6 o56 o6 be7
        generalize encObj (bodyE k a) k a = xe at *
        obtain ⟨x, e⟩ := xe
        simp only at o67 o7 ⊢
        have rid := fun W h => refId_any k a A c W h (by omega) ha1 ha2
        have RID := Lib.hid rid
        clear rid
        go_wp2_with (first | (refine wpList_load rfl rfl rfl (load_obj p7) ?_))
        refine (id_any k a A2 c2 _ o57.reads (by omega) o5c.1 o5c.2).mono ?_
        rintro r w8 ⟨rfl, be8⟩
        generalize idObj k a = ie at *
        obtain ⟨I, g⟩ := ie
        simp only at RID ⊢
        have p8 := p7.below be8 p7.lt
        have q8 := q7.below be8 q7.lt
        have k8 := k7.trans (be8.mono (by omega))
        have o58 := o57.kept (b' := 0) (E := []) (G := []) (Kept.ofBelow be8) (by simp) (by simp)
        have o68 := o67.kept (b' := 0) (E := []) (G := []) (Kept.ofBelow be8) (by simp) (by simp)
        have o78 := o7.kept (b' := 0) (E := []) (G := []) (Kept.ofBelow be8) (by simp) (by simp)
        have z8 := be8.size
        clear p7 q7 k7 o57 o67 o7 be8
        go_wp2_with (first | (refine wpList_allocAgg rfl rfl (zero_noId _) ?_) | (refine wpList_storeBlk rfl rfl (vs := idC I) rfl rfl (Blk.new w8 24 (idC noId)) (by rw [idC_size, idC_size]) (by rw [idC_size]; exact info42) (idL_one _) ?_; intro w9 i9 hkc hzc; clear hzc; have kn9 : Keep Nothing w8 w9 := Keep.ofNew hkc; have q9 := q8.keep kn9 (fun h => h)) | (refine wpList_load rfl rfl rfl (load_obj q9) ?_))
        have p9 := p8.keep kn9 (fun h => h)
        have k9 := k8.trans (kn9.all.mono (by omega))
        have o59 := o58.kept (b' := 0) (E := []) (G := []) (Kept.ofBelow kn9.all) (by simp) (by simp)
        have o69 := o68.kept (b' := 0) (E := []) (G := []) (Kept.ofBelow kn9.all) (by simp) (by simp)
        have o79 := o78.kept (b' := 0) (E := []) (G := []) (Kept.ofBelow kn9.all) (by simp) (by simp)
        have z9 := kn9.size
        have i9l := i9.lt
        generalize w8.heap.size = ib at *
        clear p8 q8 k8 o58 o68 o78 kn9 hkc
        refine (RID.out _ ((hra.below k9).more (by omega))).mono ?_
        rintro r w10 ⟨rfl, be10⟩
        have p10 := p9.below be10 p9.lt
        have q10 := q9.below be10 q9.lt
        have i10 := i9.below be10 i9.lt
        have o510 := o59.kept (b' := 0) (E := []) (G := []) (Kept.ofBelow be10) (by simp) (by simp)
        have o610 := o69.kept (b' := 0) (E := []) (G := []) (Kept.ofBelow be10) (by simp) (by simp)
        have o710 := o79.kept (b' := 0) (E := []) (G := []) (Kept.ofBelow be10) (by simp) (by simp)
        have k10 := k9.trans (be10.mono (by omega))
        have z10 := be10.size
        clear p9 q9 i9 o59 o69 o79 k9
        have i10l := i10.lt
        have hra0 := hra
        clear be10 RID hra
        go_wp2_with (first | (refine wpList_allocAgg rfl rfl (zero_noId _) ?_) | (refine wpList_storeBlk rfl rfl (vs := idC I) rfl rfl (Blk.new w10 24 (idC noId)) (by rw [idC_size, idC_size]) (by rw [idC_size]; exact info42) (idL_one _) ?_; intro w11 j11 hkc hzc; clear hzc; have kn11 : Keep Nothing w10 w11 := Keep.ofNew hkc; have z11 := kn11.size; have k11 := k10.trans (kn11.all.mono (by omega)); have hs11 := hrb.below k11; have hz11 : q ≤ w11.heap.size := by omega) | (at_builtin; refine wpList_append_sl rfl elemU8 rfl rfl (Own.fresh0 (heap_alloc_new _ _) (Nat.le_refl _)) rfl (hs11.alloc hz11 _) (bvs_one b) (by unfold maxLen; omega) (by omega) (by simp) ?_; intro A12 c12 w12 o12 hk12))
        simp only [Nat.zero_add, List.nil_append] at o12 ⊢
        have be12 : Below w11.heap.size w11 w12 := ((Below.refl _ _).alloc (Nat.le_refl _) _).trans (hk12.below (Nat.le_refl _) (by simp) (by simp))
        have j11l := j11.lt
        generalize w10.heap.size = jb at *
        have k10' := k10
        have p11 := p10.keep kn11 (fun h => h)
        have q11 := q10.keep kn11 (fun h => h)
        have i11 := i10.keep kn11 (fun h => h)
        have o511 := o510.kept (b' := 0) (E := []) (G := []) (Kept.ofBelow kn11.all) (by simp) (by simp)
        have o611 := o610.kept (b' := 0) (E := []) (G := []) (Kept.ofBelow kn11.all) (by simp) (by simp)
        have o711 := o710.kept (b' := 0) (E := []) (G := []) (Kept.ofBelow kn11.all) (by simp) (by simp)
        clear p10 q10 i10 o510 o610 o710 k10 k10' hkc kn11
        have p12 := p11.below be12 p11.lt
        have q12 := q11.below be12 q11.lt
        have i12 := i11.below be12 i11.lt
        have j12 := j11.below be12 j11.lt
        have o512 := o511.kept (b' := 0) (E := []) (G := []) (Kept.ofBelow be12) (by simp) (by simp)
        have o612 := o611.kept (b' := 0) (E := []) (G := []) (Kept.ofBelow be12) (by simp) (by simp)
        have o712 := o711.kept (b' := 0) (E := []) (G := []) (Kept.ofBelow be12) (by simp) (by simp)
        have k12 := k11.trans (be12.mono (by omega))
        have z12 := be12.size
        clear p11 q11 i11 j11 o511 o611 o711 k11
        clear be12 hk12 hs11
        have o12c := o12.cap_le
        refine (parseObj_any b A12 c12 _ o12.reads (by omega) o12c.1 o12c.2).mono ?_
        rintro r w13 ⟨A13, c13, rfl, s13, be13⟩
        have rpo := fun W h => rparseObj_any b A' c' W h (by omega) hb1 hb2
        unfold ObjPost at rpo
        have RPO := Lib.hid rpo
        clear rpo o12c o12
        generalize parseObj b = pr at *
        obtain ⟨⟨pk, pb⟩, pe⟩ := pr
        simp only at RPO s13 ⊢
        have p13 := p12.below be13 p12.lt
        have q13 := q12.below be13 q12.lt
        have i13 := i12.below be13 i12.lt
        have j13 := j12.below be13 j12.lt
        have o513 := o512.kept (b' := 0) (E := []) (G := []) (Kept.ofBelow be13) (by simp) (by simp)
        have o613 := o612.kept (b' := 0) (E := []) (G := []) (Kept.ofBelow be13) (by simp) (by simp)
        have o713 := o712.kept (b' := 0) (E := []) (G := []) (Kept.ofBelow be13) (by simp) (by simp)
        have k13 := k12.trans (be13.mono (by omega))
        have z13 := be13.size
        clear p12 q12 i12 j12 o512 o612 o712 k12
        clear be13
        have q13l := q13.lt
        go_wp2_with (first | (refine wpList_storeBlk rfl rfl (vs := #[.int .i64 pk, .slice A13 pb.length c13]) rfl rfl (Blk.new w13 45 #[.int .i64 0, .slice none 0 0]) rfl info_obj obj_one2 ?_; intro w14 m14 hkc hzc; clear hzc; have kn14 : Keep Nothing w13 w14 := Keep.ofNew hkc))
        have be14 := kn14.all
        have p14 := p13.below be14 p13.lt
        have q14 := q13.below be14 q13.lt
        have i14 := i13.below be14 i13.lt
        have j14 := j13.below be14 j13.lt
        have o514 := o513.kept (b' := 0) (E := []) (G := []) (Kept.ofBelow be14) (by simp) (by simp)
        have o614 := o613.kept (b' := 0) (E := []) (G := []) (Kept.ofBelow be14) (by simp) (by simp)
        have o714 := o713.kept (b' := 0) (E := []) (G := []) (Kept.ofBelow be14) (by simp) (by simp)
        have s14 := s13.kept (b' := 0) (E := []) (G := []) (Kept.ofBelow be14) (by simp) (by simp)
        have k14 := k13.trans (be14.mono (by omega))
        have z14 := be14.size
        clear p13 q13 i13 j13 o513 o613 o713 s13 k13
        have m14l := m14.lt
        generalize w13.heap.size = mb at *
        clear be14 kn14 hkc
        refine (RPO.out _ ((hrb.below k14).more (by omega))).mono ?_
        rintro r w15 ⟨A15, c15, rfl, t15, be15⟩
        have p15 := p14.below be15 p14.lt
        have q15 := q14.below be15 q14.lt
        have i15 := i14.below be15 i14.lt
        have j15 := j14.below be15 j14.lt
        have m15 := m14.below be15 m14.lt
        have o515 := o514.kept (b' := 0) (E := []) (G := []) (Kept.ofBelow be15) (by simp) (by simp)
        have o615 := o614.kept (b' := 0) (E := []) (G := []) (Kept.ofBelow be15) (by simp) (by simp)
        have o715 := o714.kept (b' := 0) (E := []) (G := []) (Kept.ofBelow be15) (by simp) (by simp)
        have s15 := s14.kept (b' := 0) (E := []) (G := []) (Kept.ofBelow be15) (by simp) (by simp)
        have k15 := k14.trans (be15.mono (by omega))
        have z15 := be15.size
        clear p14 q14 i14 j14 m14 o514 o614 o714 s14 k14
        clear be15 RPO
        have q15l := q15.lt
        have p15l := p15.lt
        have m15l := m15.lt
        have i15l := i15.lt
        have j15l := j15.lt
        have t0 : True := trivial
        have t1 : True := trivial
        have t2 : True := trivial
        have t3 : True := trivial
        have t4 : True := trivial
        have t5 : True := trivial
        have t6 : True := trivial
        have t7 : True := trivial
        have t8 : True := trivial
        have t9 : True := trivial
        go_wp2_with (first
          | (have _t := t0; refine wpList_storeBlk rfl rfl (vs := #[.int .i64 pk, .slice A15 pb.length c15]) rfl rfl (Blk.new w15 45 #[.int .i64 0, .slice none 0 0]) rfl info_obj obj_one2 ?_; intro w16 n16 hkc hzc; clear hzc t0; have kn16 : Keep Nothing w15 w16 := Keep.ofNew hkc; have be16 := kn16.all; have n16l := n16.lt
             have o516 := (o515.kept (b' := 0) (E := []) (G := []) (Kept.ofBelow be16) (by simp) (by simp)).reads
             have o616 := (o615.kept (b' := 0) (E := []) (G := []) (Kept.ofBelow be16) (by simp) (by simp)).reads
             have o716 := (o715.kept (b' := 0) (E := []) (G := []) (Kept.ofBelow be16) (by simp) (by simp)).reads
             have s16 := (s15.kept (b' := 0) (E := []) (G := []) (Kept.ofBelow be16) (by simp) (by simp)).reads
             have t16 := (t15.kept (b' := 0) (E := []) (G := []) (Kept.ofBelow be16) (by simp) (by simp)).reads
             have k16 := k15.trans (be16.mono (by omega))
             have hra16 := hra0.below k16
             have i16 := i15.below be16 i15l
             have j16 := j15.below be16 j15l
             have y0 := (p15.below be16 p15l).cell 1
             have y1 := (q15.below be16 q15l).cell 1
             have y2 := (m15.below be16 m15l).cell 0
             have y3 := (m15.below be16 m15l).cell 1
             have y4 := n16.cell 0
             have y5 := n16.cell 1
             simp at y0 y1 y2 y3 y4 y5)
          | (have _t := t1; refine wpList_convStr (o := ⟨some 69, _, _, _, _, _⟩) rfl rfl Tryz.underlying36 Tryz.underlying5 Tryz.underlying9 (l := x) rfl o616 ?_; clear t1)
          | (have _t := t2; refine wpList_convStr (o := ⟨some 71, _, _, _, _, _⟩) rfl rfl Tryz.underlying36 Tryz.underlying5 Tryz.underlying9 (l := x) rfl o716 ?_; clear t2)
          | (have _t := t3; refine wpList_load_g (o := ⟨some 79, _, _, _, _, _⟩) (by rfl) rfl rfl (load_id i16) ?_; clear t3)
          | (have _t := t4; refine wpList_load_g (o := ⟨some 80, _, _, _, _, _⟩) (by rfl) rfl rfl (load_id j16) ?_; clear t4)
          | (have _t := t5; refine wpList_bin_g (o := ⟨some 81, _, _, _, _, _⟩) (by rfl) rfl rfl rfl (guard_id _ _ _ I I _) (eq_self _ I) ?_; clear t5)
          | (have _t := t6; refine wpList_convStr_g (o := ⟨some 98, _, _, _, _, _⟩) (by rfl) rfl Tryz.underlying36 Tryz.underlying5 Tryz.underlying9 (l := pb) rfl s16 ?_; clear t6)
          | (have _t := t7; refine wpList_convStr_g (o := ⟨some 101, _, _, _, _, _⟩) (by rfl) rfl Tryz.underlying36 Tryz.underlying5 Tryz.underlying9 (l := pb) rfl t16 ?_; clear t7)
          | (have _t := t8; refine wpList_convStr_g (o := ⟨some 112, _, _, _, _, _⟩) (by rfl) rfl Tryz.underlying36 Tryz.underlying5 Tryz.underlying9 (l := a) rfl o516 ?_; clear t8)
          | (have _t := t9; refine wpList_convStr_g (o := ⟨some 115, _, _, _, _, _⟩) (by rfl) rfl Tryz.underlying36 Tryz.underlying5 Tryz.underlying9 (l := a) rfl hra16 ?_; clear t9))
        go_ret
        exact HF.out _ k16
end Go.Proofs.YtppmolneklidfaaGreat
