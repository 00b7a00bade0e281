/-
  The law's known (chapter 15). No statement of the seat is proved here.
-/
import Derived.Test.YtbaapjlmpmpocaaGreatDoorDj
import Derived.Lib.SlBytesConst
import Derived.BigRegion
namespace Go.Proofs.YtbaapjlmpmpocaaGreatDoor
open Go.RowKit Go.Maps

def u8s (l : List UInt8) : Array Value := (l.map byteV).toArray
theorem conv_const (W : World) (C : Array Value) (n c g : Nat) (hg : W.heap.size = g) : (convert 25 25 (.slice (some ⟨g, 0, none⟩) n c)).run Tryz.prog (W.alloc (.cells C 5)) = .ok (.slice (some ⟨g, 0, none⟩) n c) (W.alloc (.cells C 5 (C.size, C.size + 1))) :=
  by subst hg; exact Lib.run_convert_bytes_const W 25 5 C n c Tryz.underlying25 Tryz.underlying5
theorem reads_const (W : World) (l : List UInt8) (fz : Nat × Nat) (g : Nat) (hg : W.heap.size = g) : Reads (W.alloc (.cells (u8s l) 5 fz)) (g + 1) 1 (some ⟨g, 0, none⟩) l.length (l.map byteV) := by
  subst hg
  exact Reads.of_blk (size := 1) (n := l.length) (heap_alloc_new W _) (by simp [u8s]) (by simp)
theorem blk_new_at (W : World) (t : TypeId) (cs : Array Value) (g : Nat) (hg : W.heap.size = g) : Blk (W.alloc (.cells cs t)) g t cs := hg ▸ Blk.new W t cs
theorem size_at (W : World) (o : Obj) (g : Nat) (hg : W.heap.size = g) : (W.alloc o).heap.size = g + 1 := by simp [hg]
theorem below_at {W : World} {g : Nat} (o : Obj) (hg : W.heap.size = g) : Below g W (W.alloc o) := (Below.refl _ W).alloc (Nat.le_of_eq hg.symm) o
theorem fi_one {W : World} {g B : Nat} {f : FileD} {D : Option Addr} {d : Nat} (hb : Blk W g 27 (fileC f D d)) (hr : Reads W B 1 D f.d.length (f.d.map byteV)) (hB : B ≤ W.heap.size) (h1 : f.d.length ≤ d) (h2 : d ≤ maxLen) : FI W W.heap.size (some ⟨g, 0, none⟩) [f] := by
  refine ⟨[.slice D f.d.length d], rfl, ?_, fun k a b e1 e2 => ?_⟩
  · exact (Reads.of_blk (n := 1) (size := 3) (xs := fileV f (.slice D f.d.length d)) hb rfl rfl).more hb.lt
  · rcases k with _ | k
    · obtain rfl := Option.some.inj e1
      obtain rfl := Option.some.inj e2
      exact ⟨D, d, rfl, h1, h2, hr.more hB⟩
    · cases e1
def knF : FileD := ⟨[97, 47, 98], 1, [120]⟩
def knI : Id := blobI [120]
def knT : Id := treeI [⟨⟨#[98]⟩, 1, knI⟩]
def knU : Id := treeI [⟨⟨#[97]⟩, 4, knT⟩]
theorem kn_check0 : checkT [] = 0 := by kernel_rfl
set_option maxRecDepth 100000 in
theorem kn_check1 : checkT [knF] = 0 := by kernel_rfl
theorem kn_cut1 : cutP [97, 47, 98] = ([97], [98], true) := by kernel_rfl
theorem kn_cut2 : cutP [98] = ([98], [], false) := by kernel_rfl
set_option maxRecDepth 100000 in
theorem kn_ids : knI ≠ knT ∧ knI ≠ knU ∧ knT ≠ knU := by decide +kernel
theorem kn_lay {g' : Gm} {i : Id} (h : LayR (fun _ => none) knF g' i) : g' = gput (gput (gput (fun _ => none) knI 1) knT 2) knU 2 := by
  cases h with
  | flat _ h1 =>
    rw [show knF.p = [97, 47, 98] from rfl, kn_cut1] at h1
    cases h1
  | deep _ g1 j h1 r =>
    have e : (⟨(cutP knF.p).2.1, knF.k, knF.d⟩ : FileD) = ⟨[98], 1, [120]⟩ := by rw [show knF.p = [97, 47, 98] from rfl, kn_cut1]; rfl
    have e2 : (cutP knF.p).1 = [97] := by rw [show knF.p = [97, 47, 98] from rfl, kn_cut1]
    rw [e] at r
    cases r with
    | flat _ h2 => rw [e2]; rfl
    | deep _ g2 j2 h2 r2 =>
      rw [show (⟨[98], 1, [120]⟩ : FileD).p = [98] from rfl, kn_cut2] at h2
      cases h2
theorem kn_one {ks : List Id} {t : Id} (h1 : ks.Nodup) (h2 : ∀ s, s ∈ ks ↔ (gput (fun _ => none) t 2 s).isSome = true) : ks = [t] := by
  have hm : ∀ s, s ∈ ks ↔ s ∈ [t] := fun s => by
    rw [h2, List.mem_singleton]
    unfold gput
    split <;> simp_all
  have := ((List.perm_ext_iff_of_nodup h1 (by simp)).2 hm)
  exact List.perm_singleton.1 this
theorem kn_three {ks : List Id} (h1 : ks.Nodup) (h2 : ∀ s, s ∈ ks ↔ (gput (gput (gput (fun _ => none) knI 1) knT 2) knU 2 s).isSome = true) : ks.length = 3 := by
  have hm : ∀ s, s ∈ ks ↔ s ∈ [knI, knT, knU] := fun s => by
    rw [h2]
    unfold gput
    by_cases q1 : s = knU
    · simp [q1]
    · by_cases q2 : s = knT
      · simp [q2]
      · by_cases q3 : s = knI
        · rw [if_neg q1, if_neg q2, if_pos q3]
          exact ⟨fun _ => by rw [q3]; exact List.mem_cons_self .., fun _ => rfl⟩
        · simp [q1, q2, q3]
  obtain ⟨e1, e2, e3⟩ := kn_ids
  exact ((List.perm_ext_iff_of_nodup h1 (by simp [e1, e2, e3])).2 hm).length_eq
set_option maxHeartbeats 4000000 in
set_option maxRecDepth 100000 in
theorem known15_any (w : World) (hv : VarM w) : Calls Tryz.prog 5 #[] w fun e w' => e = .returned (.bool true) ∧ Below w.heap.size w w' := by
  obtain ⟨z, hz⟩ : ∃ z, w.heap.size = z := ⟨_, rfl⟩
  have h1 : Calls Tryz.prog 7 #[.slice none 0 0] w (ObjPost [] w) := objects_any [] none 0 w.heap.size w (Nat.le_refl _) (FI.nil_ _ _ _) hv (fun f hf => by cases hf)
  unfold ObjPost at h1
  rw [kn_check0, hz] at h1
  have HO1 := Lib.hid h1
  have HV := Lib.hid hv
  have HZ := Lib.hid hz
  clear h1 hv
  rw [hz]
  clear hz
  go_enter Tryz.func5, Tryz.ntmps5
  go_upto_region 2 with (first
    | (go_at_call 7; (with_reducible refine HO1.out.mono ?_); rintro _ w1 ⟨O, n, oc, i, rfl, hb1, hp1⟩; have HB1 := Lib.hid hb1; have HP1 := Lib.hid hp1; clear hb1 hp1)
    | (refine wpList_allocAgg rfl rfl (zero_noId _) ?_)
    | (refine wpList_storeBlk rfl rfl (vs := idC i) rfl rfl (Blk.new _ _ _) (by rw [idC_size, idC_size]) (by rw [idC_size]; exact info42) (idL_one _) ?_; intro w2 hx2 hk2 hz2; have HK2 := Lib.hid (show Keep Nothing w1 w2 from Keep.ofNew hk2); clear hx2 hk2 hz2))
  obtain ⟨g1, ks1, hn1, hnd1, hm1, hl1, _, hc1⟩ := HP1.out (by first | rfl | trivial)
  have hg1 := hl1 (by first | rfl | trivial)
  subst hg1
  have hks1 := kn_one hnd1 hm1
  subst hks1
  obtain ⟨gb, off, rfl, hcc⟩ := hc1 0 _ 2 rfl (by unfold gput; rw [if_pos rfl])
  subst hn1
  have HC1 := Lib.hid hcc
  have hgb : gb < w1.heap.size := by
    have := hcc
    unfold World.cell? at this
    rcases Nat.lt_or_ge gb w1.heap.size with q | q
    · exact q
    · simp only at this
      rw [Array.getElem?_eq_none q] at this
      cases this
  have HGB := Lib.hid hgb
  clear hnd1 hm1 hl1 hc1 hcc HP1 HO1 hgb
  obtain ⟨y, hy⟩ : ∃ y, w2.heap.size = y := ⟨_, rfl⟩
  have hcv := conv_const w2 #[.int .u8 120] 1 1 y hy
  obtain ⟨W4, hW4⟩ : ∃ W4, (w2.alloc (.cells #[.int .u8 120] 5 (1, 2))).alloc (.cells (fileC knF (some ⟨y, 0, none⟩) 1) 27) = W4 := ⟨_, rfl⟩
  have hs1 := size_at w2 (.cells #[.int .u8 120] 5 (1, 2)) y hy
  have hz4 : W4.heap.size = y + 2 := by rw [← hW4]; exact size_at _ _ _ hs1
  have hb4 : Below y w2 W4 := by rw [← hW4]; exact (below_at _ hy).trans ((below_at _ hs1).mono (by omega))
  have hr4 : Reads W4 (y + 1) 1 (some ⟨y, 0, none⟩) 1 (knF.d.map byteV) := by rw [← hW4]; exact (reads_const w2 [120] (1, 2) y hy).below (below_at _ hs1)
  have hf4 : FI W4 W4.heap.size (some ⟨y + 1, 0, none⟩) [knF] := fi_one (B := y + 1) (f := knF) (D := some ⟨y, 0, none⟩) (d := 1) (by rw [← hW4]; exact blk_new_at _ _ _ _ hs1) hr4 (by omega) (by decide) (by decide)
  have hzb : z ≤ w1.heap.size := HZ.out ▸ HB1.out.size
  have hbw2 : Below z w w2 := HB1.out.trans (HK2.out.below hzb (fun _ _ q => q.elim))
  have hzy : w1.heap.size ≤ y := hy ▸ HK2.out.size
  have hbw4 : Below z w W4 := hbw2.trans (hb4.mono (by omega))
  have h2 : Calls Tryz.prog 7 #[.slice (some ⟨y + 1, 0, none⟩) 1 1] W4 (ObjPost [knF] W4) := objects_any [knF] (some ⟨y + 1, 0, none⟩) 1 W4.heap.size W4 (Nat.le_refl _) hf4 (HV.out.below hbw4 (by have := HV.out.pos; have := HZ.out; omega)) (fun f hf => by rw [List.mem_singleton] at hf; subst hf; decide)
  unfold ObjPost at h2
  rw [kn_check1] at h2
  have HO2 := Lib.hid h2
  have HW4 := Lib.hid hW4
  have HB4 := Lib.hid hbw4
  have HZ4 := Lib.hid hz4
  have HC4 := Lib.hid (show W4.cell? ⟨gb, off + 0 * 2, none⟩ = some (.int .i64 2) from (hb4.cell (p := ⟨gb, off + 0 * 2, none⟩) (by show gb < y; have := HGB.out; omega)).trans ((HK2.out.cell (p := ⟨gb, off + 0 * 2, none⟩) HGB.out (fun q => q)).trans HC1.out))
  have HGY := Lib.hid (show gb < W4.heap.size from by have := HGB.out; omega)
  unfold fileC knF strC at hW4
  simp only [List.length_cons, List.length_nil] at hW4
  clear h2 hs1 hz4 hb4 hr4 hf4 hzb hbw2 hzy hbw4 HC1 HGB HB1 HK2
  go_upto_region 3 with (first
    | (go_at_call 7; (with_reducible refine HO2.out.mono ?_); rintro _ w5 ⟨O2, n2, oc2, i2, rfl, hb5, hp5⟩; have HB5 := Lib.hid hb5; have HP5 := Lib.hid hp5; clear hb5 hp5)
    | (refine wpList_allocAgg rfl rfl (zero_noId _) ?_)
    | (refine wpList_storeBlk rfl rfl (vs := idC i2) rfl rfl (Blk.new _ _ _) (by rw [idC_size, idC_size]) (by rw [idC_size]; exact info42) (idL_one _) ?_; intro w6 hx6 hk6 hz6; have HK6 := Lib.hid (show Keep Nothing w5 w6 from Keep.ofNew hk6); clear hx6 hk6 hz6))
  obtain ⟨g2, ks2, hn2, hnd2, hm2, _, hl2, _⟩ := HP5.out (by first | rfl | trivial)
  have hg2 := kn_lay (hl2 knF rfl)
  subst hg2
  have hk3 := kn_three hnd2 hm2
  rw [hk3] at hn2
  subst hn2
  clear hnd2 hm2 hl2 hk3 HP5 HO2 HW4 hW4 hcv
  have c9 : w6.cell? ⟨gb, off + 0 * 2, none⟩ = some (.int .i64 2) := (HK6.out.cell (p := ⟨gb, off + 0 * 2, none⟩) (by show gb < w5.heap.size; have := HB5.out.size; have := HGY.out; omega) (fun q => q)).trans ((HB5.out.cell (p := ⟨gb, off + 0 * 2, none⟩) HGY.out).trans HC4.out)
  rw [Nat.zero_mul, Nat.add_zero] at c9
  have HB6 := Lib.hid (show Below z w w6 from (HB4.out.trans (HB5.out.mono (by have := HB4.out.size; have := HZ.out; omega))).trans (HK6.out.below (by have := HB5.out.size; have := HB4.out.size; have := HZ.out; omega) (fun _ _ q => q.elim)))
  go_wp2_with fail
  go_ret
  exact ⟨rfl, HB6.out⟩
end Go.Proofs.YtbaapjlmpmpocaaGreatDoor
