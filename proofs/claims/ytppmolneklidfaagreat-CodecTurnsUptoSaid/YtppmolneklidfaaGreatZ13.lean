/-
  Texts of the codec joined (LawCommits). No statement of the seat is proved here.
-/
import Derived.Test.YtppmolneklidfaaGreatZ07
import Derived.Test.YtppmolneklidfaaGreatZ11
import Derived.Test.YtppmolneklidfaaGreatZ12
namespace Go.Proofs.YtppmolneklidfaaGreat
open Go.ChangeShapes Go.WideShapes Go.ChangeAt Go.RowKit

attribute [local go_sem ↓] ld_id eq_id ne_id bd_com st_com

set_option maxHeartbeats 4000000 in
set_option maxRecDepth 100000 in
theorem commits_walk (d : ComD) (b : List UInt8) (A A' : Option Addr) (c c' : Nat) (w : World) (hr : Reads w w.heap.size 32 A d.parents.length (idLs d.parents)) (hb : Reads w w.heap.size 1 A' b.length (b.map bv)) (hpc : d.parents.length ≤ c) (_hcm : c ≤ maxLen) (hbl : b.length ≤ c') (hc' : c' ≤ maxLen) (hau : d.author.size ≤ maxLen) (hms : d.msg.size ≤ maxLen) :
    Calls Tryz.prog 12 #[.agg (comC d.tree (.slice A d.parents.length c) d.author d.time d.msg), .slice A' b.length c'] w (TruePost w) := by
  have hc'' := hc'
  unfold maxLen at hc'' hau hms
  have ec1 := fun W h1 h2 => encodeCommit_any d A c W h1 h2 hpc hau hms
  have ec2 := fun W h1 h2 => rencodeCommit_any d A c W h1 h2 hpc hau hms
  have EC1 := Lib.hid ec1
  have EC2 := Lib.hid ec2
  clear ec1 ec2
  obtain ⟨t, ps, au, tm, ms⟩ := d
  simp only at hr hpc hau hms EC1 EC2
  generalize encCommit ⟨t, ps, au, tm, ms⟩ = ecr at *
  have q0 : Blk (w.alloc (.cells (comC t (.slice A ps.length c) au tm ms) 27)) w.heap.size 27 (comC t (.slice A ps.length c) au tm ms) := Blk.new _ _ _
  have k0 : Below w.heap.size w (w.alloc (.cells (comC t (.slice A ps.length c) au tm ms) 27)) := (Below.refl _ _).alloc (Nat.le_refl _) _
  go_enter Tryz.func12, Tryz.ntmps12
  go_wp2_with (first | (refine wpList_boxed rfl rfl (cs := comC t (.slice A ps.length c) au tm ms) rfl ?_))
  generalize w.alloc (.cells (comC t (.slice A ps.length c) au tm ms) 27) = w0 at *
  refine (known_any _).mono ?_
  rintro r w1 ⟨rfl, hbe1⟩
  have q1 := q0.below hbe1 q0.lt
  have k1 := k0.trans (hbe1.mono k0.size)
  generalize hq : w.heap.size = q at *
  have HQ := Lib.hid hq
  have hqle : q ≤ w.heap.size := by omega
  have hqge : w.heap.size ≤ q := by omega
  have z1 := k1.size
  clear hq q0 k0 hbe1
  have fin : ∀ W : World, Below q w W → TruePost w (.returned (.bool true)) W := fun W h => ⟨rfl, by rw [HQ.out]; exact h⟩
  have HF := Lib.hid fin
  clear fin
  have p1 := (q1.cell 32).trans comC_at.1
  have p2 := (q1.cell 33).trans comC_at.2.1
  have p4 := (q1.cell 35).trans comC_at.2.2.2
  by_cases h1 : 50 < ps.length
  · have d1 : decide ((50 : Int) < (ps.length : Int)) = true := decide_eq_true (by omega)
    go_wp2_with fail
    go_ret
    exact HF.out _ k1
  · have d1 : decide ((50 : Int) < (ps.length : Int)) = false := decide_eq_false (by omega)
    obtain ⟨z, hz⟩ : ∃ z : Int, IntKind.i64.wrap ((au.size : Int) + (ms.size : Int)) = z := ⟨_, rfl⟩
    have hadd := fun W => add_int W (au.size : Int) (ms.size : Int)
    rw [hz] at hadd
    have HADD := Lib.hid hadd
    clear hz hadd
    have htest : ∀ W : World, decide ((5000 : Int) < z) = true ∨ (decide ((5000 : Int) < z) = false ∧ decide ((16384 : Int) < (b.length : Int)) = true) ∨ (decide ((5000 : Int) < z) = false ∧ b.length ≤ 16384) := fun _ => by
      by_cases h2 : (5000 : Int) < z
      · exact .inl (decide_eq_true h2)
      · by_cases h3 : 16384 < b.length
        · exact .inr (.inl ⟨decide_eq_false h2, decide_eq_true (by omega)⟩)
        · exact .inr (.inr ⟨decide_eq_false h2, by omega⟩)
    rcases htest w with d2 | ⟨d2, d3⟩ | ⟨d2, h3⟩
    · go_wp2_with (first | (refine wpList_bin_g (o := ⟨some 26, _, _, _, _, _⟩) (by rfl) rfl rfl rfl (guard_add _ _ _ _ _) (HADD.out _) ?_))
      go_ret
      exact HF.out _ k1
    · go_wp2_with (first | (refine wpList_bin_g (o := ⟨some 26, _, _, _, _, _⟩) (by rfl) rfl rfl rfl (guard_add _ _ _ _ _) (HADD.out _) ?_))
      go_ret
      exact HF.out _ k1
    · have d3 : decide ((16384 : Int) < (b.length : Int)) = false := decide_eq_false (by omega)
      go_wp2_with (first | (refine wpList_bin_g (o := ⟨some 26, _, _, _, _, _⟩) (by rfl) rfl rfl rfl (guard_add _ _ _ _ _) (HADD.out _) ?_) | (refine wpList_load rfl rfl rfl (load_com q1) ?_))
      refine (EC1.out _ ((hr.below k1).more (by omega)) (by omega)).mono ?_
      rintro r w2 ⟨A2, c2, rfl, ho2, hbe2⟩
      have q2 := q1.below hbe2 q1.lt
      have k2 := k1.trans (hbe2.mono (by omega))
      have z2 := hbe2.size
      clear p1 p2 p4 q1
      go_wp2_with (first | (refine wpList_load rfl rfl rfl (load_com q2) ?_))
      refine (EC2.out _ ((hr.below k2).more (by omega)) (by omega)).mono ?_
      rintro r w3 ⟨A3, c3, rfl, ho3, hbe3⟩
      have k3 := k2.trans (hbe3.mono (by omega))
      have z3 := hbe3.size
      have ho23 : Own w3 w1.heap.size 5 1 A2 ecr.1.length c2 (ecr.1.map bv) := ho2.kept (b' := 0) (E := []) (G := []) (Kept.ofBelow hbe3) (by simp) (by simp)
      clear ho2 hbe2 hbe3 q2 EC1 EC2 k1 k2
      obtain ⟨x, e⟩ := ecr
      simp only at ho23 ho3 ⊢
      have hb3 := hb.below k3
      have hzz : q ≤ w3.heap.size := by omega
      go_wp2_with (first | (at_builtin; refine wpList_append_sl rfl elemU8 rfl rfl (Own.fresh0 (heap_alloc_new _ _) (Nat.le_refl _)) rfl (hb3.alloc hzz _) (bvs_one b) (by unfold maxLen; omega) (by omega) (by simp) ?_; intro A5 c5 w5 ho5 hk5))
      simp only [Nat.zero_add, List.nil_append] at ho5 ⊢
      have hbe5 : Below w3.heap.size w3 w5 := ((Below.refl _ _).alloc (Nat.le_refl _) _).trans (hk5.below (Nat.le_refl _) (by simp) (by simp))
      have hz5 := hbe5.size
      have hcap5 := ho5.cap_le
      refine (parseCommit_any b A5 c5 _ ho5.reads (by omega) hcap5.1 hcap5.2).mono ?_
      rintro r w6 ⟨A6, c6, rfl, ho6, hbe6⟩
      have hz6 := hbe6.size
      have hbe36 : Below w3.heap.size w3 w6 := hbe5.trans (hbe6.mono hz5)
      clear hcap5 ho5 hbe5 hbe6 hk5 hb3
      have pl : (parseCommit b).1.parents.length ≤ 9223372036854775807 := by have := ho6.cap_le; unfold maxLen at this; omega
      have rp := fun W h1 => rparseCommit_any b A' c' W h1 (by omega) hbl hc'
      unfold ComPost at rp
      have RP := Lib.hid rp
      clear rp
      generalize (parseCommit b).2 = pe at *
      generalize (parseCommit b).1 = pd at *
      go_wp2_with (first | (refine wpList_allocAgg rfl rfl (zero_com _) ?_) | (refine wpList_storeBlk rfl rfl (vs := comC pd.tree (.slice A6 pd.parents.length c6) pd.author pd.time pd.msg) rfl rfl (Blk.new _ _ _) (by rw [comC_size, comC_size]) (by rw [comC_size]; exact info_com) (comL_one _ _ _ _ _ rfl) ?_; intro w7 x7 hkc hzc))
      have hkN : Keep Nothing w6 w7 := Keep.ofNew hkc
      have hz7 := hkN.size
      have hbe37 : Below w3.heap.size w3 w7 := hbe36.trans (hkN.all.mono (by omega))
      have k7 := k3.trans (hbe37.mono (by omega))
      have ho67 := ho6.kept (b' := 0) (E := []) (G := []) (Kept.ofKeep hkN (by unfold Nothing; simp)) (by simp) (by simp)
      generalize w6.heap.size = x6 at *
      clear hkc hzc hkN hbe36 ho6
      refine (RP.out _ ((hb.below k7).more (by omega))).mono ?_
      rintro r w8 ⟨A8, c8, rfl, ho8, hbe8⟩
      have hz8 := hbe8.size
      have hbe38 : Below w3.heap.size w3 w8 := hbe37.trans (hbe8.mono (by omega))
      have ho68 := ho67.kept (b' := 0) (E := []) (G := []) (Kept.ofBelow hbe8) (by simp) (by simp)
      have x8 := x7.below hbe8 x7.lt
      clear ho67 hbe37 hbe8 x7 RP
      have t1 : True := trivial
      go_wp2_with (first | (refine wpList_allocAgg rfl rfl (zero_com _) ?_) | (refine wpList_storeBlk rfl rfl (vs := comC pd.tree (.slice A8 pd.parents.length c8) pd.author pd.time pd.msg) rfl rfl (Blk.new _ _ _) (by rw [comC_size, comC_size]) (by rw [comC_size]; exact info_com) (comL_one _ _ _ _ _ rfl) ?_; intro w9 x9 hkc hzc; have hkN : Keep Nothing w8 w9 := Keep.ofNew hkc; have y9 := x8.keep hkN (fun h => h); have o39 := ((ho3.kept (b' := 0) (E := []) (G := []) (Kept.ofBelow (hbe38.trans (hkN.all.mono (by omega)))) (by simp) (by simp))).reads; have o29 := ((ho23.kept (b' := 0) (E := []) (G := []) (Kept.ofBelow (hbe38.trans (hkN.all.mono (by omega)))) (by simp) (by simp))).reads) | (refine wpList_convStr (o := ⟨some 57, _, _, _, _, _⟩) rfl rfl Tryz.underlying36 Tryz.underlying5 Tryz.underlying9 (l := x) rfl o29 ?_) | (refine wpList_convStr (o := ⟨some 59, _, _, _, _, _⟩) rfl rfl Tryz.underlying36 Tryz.underlying5 Tryz.underlying9 (l := x) rfl o39 ?_) | (refine wpList_load_g (o := ⟨some 67, _, _, _, _, _⟩) (by rfl) rfl rfl (load_com y9) ?_) | (refine wpList_load_g (o := ⟨some 68, _, _, _, _, _⟩) (by rfl) rfl rfl (load_com x9) ?_))
      have ho69 := (ho68.kept (b' := 0) (E := []) (G := []) (Kept.ofKeep hkN (by unfold Nothing; simp)) (by simp) (by simp)).reads
      have ho89 := (ho8.kept (b' := 0) (E := []) (G := []) (Kept.ofKeep hkN (by unfold Nothing; simp)) (by simp) (by simp)).reads
      have hz9 := hkN.size
      refine (rsameCommit_refl pd A6 A8 c6 c8 _ ho69 ho89 pl).mono ?_
      rintro r w10 ⟨rfl, hk10⟩
      have k10 : Below q w w10 := k3.trans (((hbe38.trans (hkN.all.mono (by omega))).trans (hk10.all.mono (by omega))).mono (by omega))
      go_wp2_with fail
      go_ret
      exact HF.out _ k10
end Go.Proofs.YtppmolneklidfaaGreat
