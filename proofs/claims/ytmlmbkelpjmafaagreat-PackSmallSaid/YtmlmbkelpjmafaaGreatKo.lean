/-
  Contract of delta.Apply at what delta.Make says of two texts alike but for the last byte. No statement of the seat is proved here.
-/
import Derived.Test.YtmlmbkelpjmafaaGreatKn
import Derived.WalkMore
namespace Go.Proofs.YtmlmbkelpjmafaaGreat
open Go.RowKit Go.Shelf
theorem build_dc (A : Option Addr) (n c : Nat) (w : World) : (Instr.build 153 #[(0, .slice A n c)]).run Tryz.prog w = .ok (.agg #[.slice A n c, .bool false]) w := by kernel_rfl
theorem clip_any (A : Option Addr) (n c : Nat) (w : World) (hn : n ≤ c) (hc : c ≤ maxLen) : Calls Tryz.prog 81 #[.slice A n c] w fun e w' => e = .returned (.slice A n n) ∧ w = w' := by
  have z1 : (n : Int) ≤ (c : Int) := by omega
  unfold maxLen at hc
  go_enter Tryz.func81, Tryz.ntmps81
  go_wp2_with fail
  go_ret
  exact ⟨rfl, rfl⟩
def d3B (y : UInt8) : List UInt8 := [2] ++ [1].flatMap (be 4) ++ [y]
def d2B (n : Nat) (y : UInt8) : List UInt8 := [1] ++ [0, n].flatMap (be 4) ++ d3B y
theorem dltB_split (u : List UInt8) (y : UInt8) : dltB u y = be 4 (u.length + 1) ++ (be 4 (u.length + 1) ++ d2B u.length y) := by simp [dltB, d2B, d3B]
theorem CurI.kept9 {w w' : World} {B g : Nat} {t : TypeId} {A : Option Addr} {l : List UInt8} {c : Nat} (h : CurI w B g t A l c) (hk : Kept B [5] [] w w') (ht : t ≠ 5) (hB : B ≤ w.heap.size) : CurI w' B g t A l c :=
  ⟨hk.blk h.1 (by simp) (by simpa using ht), h.2.1.below (hk.below (Nat.le_refl _) hB (by simp)), h.2.2⟩
theorem below_only {w w' : World} {g : Nat} (h : Keep (Only g) w w') (hg : g ≤ w.heap.size) : Below g w w' := h.below hg (fun i hi q => by unfold Only at q; omega)
def DAppPost (l : List UInt8) (w : World) (e : Ending) (w' : World) : Prop := ∃ A, e = .returned (.tuple #[.slice A l.length l.length, .int .i64 0]) ∧ Reads w' w'.heap.size 1 A l.length (l.map bv) ∧ (∀ a, A = some a → w.heap.size ≤ a.block) ∧ Below w.heap.size w w'
set_option maxHeartbeats 8000000 in
set_option maxRecDepth 1000000 in
theorem dapply_any (u : List UInt8) (x y : UInt8) (n : Nat) (hu : u.length = n) (hn : 0 < n) (hn2 : n ≤ 2000) (A B : Option Addr) (c d : Nat) (w : World) (hA : Reads w w.heap.size 1 A (n + 1) ((u ++ [x]).map bv)) (hc : n + 1 ≤ c) (hc2 : c ≤ maxLen) (hB : Reads w w.heap.size 1 B 23 ((dltB u y).map bv)) (hd : 23 ≤ d) (hd2 : d ≤ maxLen) :
    Calls Tryz.prog 66 #[.slice A (n + 1) c, .slice B 23 d] w (DAppPost (u ++ [y]) w) := by
  obtain ⟨z, hz⟩ : ∃ z, w.heap.size = z := ⟨_, rfl⟩
  have HP := Lib.hid (show DAppPost (u ++ [y]) w = fun e w' => ∃ A, e = .returned (.tuple #[.slice A (n + 1) (n + 1), .int .i64 0]) ∧ Reads w' w'.heap.size 1 A (n + 1) ((u ++ [y]).map bv) ∧ (∀ a, A = some a → z ≤ a.block) ∧ Below z w w' from by rw [← hz, ← hu]; unfold DAppPost; simp)
  rw [HP.out]
  have hcu0 : CurI (w.alloc (.cells #[.slice B 23 d, .bool false] 153)) z z 153 B (dltB u y) d := by
    refine ⟨?_, ?_, by rw [dltB_len]; exact hd, hd2, Nat.le_refl _⟩
    · rw [dltB_len, ← hz]
      exact Blk.new _ _ _
    · rw [dltB_len, ← hz]
      exact hB.alloc (Nat.le_refl _) _
  have HB0 := Lib.hid ((Below.refl z w).alloc (by omega) (.cells #[.slice B 23 d, .bool false] 153))
  have HRA := Lib.hid (show Reads w z 1 A (n + 1) ((u ++ [x]).map bv) by rw [← hz]; exact hA)
  have HZ := Lib.hid hz
  have hz1 : z ≤ (w.alloc (.cells #[.slice B 23 d, .bool false] 153)).heap.size := by simp; omega
  rw [dltB_split, hu] at hcu0
  have HCU := Lib.hid hcu0
  clear hcu0 hA hB HP
  go_enter Tryz.func66, Tryz.ntmps66
  clear hz
  go_wp2_with fail
  go_step3
  go_upto_region 2 with (first | (refine wpList_built rfl rfl (vs := #[(0, .slice B 23 d)]) rfl (build_dc _ _ _ _) ?_) | (refine wpList_boxed rfl rfl (cs := #[.slice B 23 d, .bool false]) rfl ?_))
  rw [HZ.out]
  generalize w.alloc (.cells #[.slice B 23 d, .bool false] 153) = w1 at *
  have H1 := Lib.hid (dbe_any z z (n + 1) B _ d w1 HCU.out (by omega) (by simp [be_len, d2B, d3B]) hz1)
  go_upto_region 3 with (first | (go_at_call 79; (with_reducible refine H1.out.mono ?_); rintro _ w2 ⟨A2, c2, rfl, hq2, hk2⟩; have HC2 := Lib.hid hq2; have HK2 := Lib.hid hk2; clear hq2 hk2; have hz2 := Nat.le_trans hz1 HK2.out.size; have H2 := Lib.hid (dbe_any z z (n + 1) A2 _ c2 w2 HC2.out (by omega) (by simp [be_len, d2B, d3B]) hz2); clear H1) | (go_at_call 79; (with_reducible refine H2.out.mono ?_); rintro _ w3 ⟨A3, c3, rfl, hq3, hk3⟩; have HC3 := Lib.hid hq3; have HK3 := Lib.hid hk3; clear hq3 hk3; clear H2))
  have HBW := Lib.hid ((HB0.out.trans (below_only HK2.out hz1)).trans (below_only HK3.out hz2))
  have hz3 : z ≤ w3.heap.size := Nat.le_trans hz2 HK3.out.size
  clear HB0 HK2 HK3 HC2 HCU hz1 hz2
  have cc := HC3.out.1.cell 1
  simp at cc
  go_wp2_with fail
  go_step3
  go_wp2_with fail
  have HC9 := Lib.hid (show ∃ A' c', CurI w3 z z 153 A' (d2B n y) c' from ⟨_, _, HC3.out⟩)
  clear HC3 cc hz3
  go_loopg [9] 2 (fun kx s9 wr => (kx = 2 ∧ s9 = .slice none 0 0 ∧ Hid (∃ A' c', CurI wr z z 153 A' (d2B n y) c') ∧ Hid (Below z w wr)) ∨ (kx = 1 ∧ ∃ A9 c9, s9 = .slice A9 n c9 ∧ Hid (Own wr z 5 1 A9 n c9 (u.map bv)) ∧ Hid (∃ A' c', CurI wr z z 153 A' (d3B y) c') ∧ Hid (Below z w wr)) ∨ (∃ A9 c9, s9 = .slice A9 (n + 1) c9 ∧ Hid (Own wr z 5 1 A9 (n + 1) c9 ((u ++ [y]).map bv)) ∧ Hid (∃ A' c', CurI wr z z 153 A' [] c') ∧ Hid (Below z w wr)))
  case atStart => exact .inl ⟨rfl, rfl, HC9, HBW⟩
  case round =>
    clear HC9 HBW
    rcases hrel with ⟨hk, rfl, HC, HBW⟩ | ⟨hk, A9, c9, rfl, HO, HC, HBW⟩ | ⟨A9, c9, rfl, HO, HC, HBW⟩
    · obtain ⟨A1, c1, hcu⟩ := HC.out
      have hzr : z ≤ wr.heap.size := by rw [← HZ.out]; exact HBW.out.size
      have cc0 := hcu.1.cell 0
      simp at cc0
      rw [show (d2B n y).length = 15 by simp [d2B, d3B, be_len]] at cc0
      have H1 := Lib.hid (done_any z z 1 A1 (be 4 0 ++ (be 4 n ++ d3B y)) c1 wr (by simpa [d2B] using hcu) (by simp [be_len, d3B]) hzr)
      clear hcu HC
      go_upto_region 11 with fail
      go_upto_region 13 with (go_at_call 80; (with_reducible refine H1.out.mono ?_); rintro _ w2 ⟨ad, ct, A2, c2, rfl, hcell, ⟨_, _, _⟩, hq2, hk2⟩; have HQ2 := Lib.hid hq2; have HK2 := Lib.hid hk2; clear hq2 hk2; rw [show (((1 : UInt8).toNat : Nat) : Int) = 1 from rfl] at hcell)
      have hz2 : z ≤ w2.heap.size := Nat.le_trans hzr HK2.out.size
      have HBW2 := Lib.hid (HBW.out.trans (below_only HK2.out hzr))
      have H2 := Lib.hid (dbe_any z z 0 A2 _ c2 w2 HQ2.out (by omega) (by simp [be_len, d3B]) hz2)
      clear HK2 HQ2 HBW hzr H1 cc0
      go_upto_region 15 with (go_at_call 79; (with_reducible refine H2.out.mono ?_); rintro _ w3 ⟨A3, c3, rfl, hq3, hk3⟩; have HQ3 := Lib.hid hq3; have HK3 := Lib.hid hk3; clear hq3 hk3)
      have hz3 : z ≤ w3.heap.size := Nat.le_trans hz2 HK3.out.size
      have HBW3 := Lib.hid (HBW2.out.trans (below_only HK3.out hz2))
      have H3 := Lib.hid (dbe_any z z n A3 _ c3 w3 HQ3.out (by omega) (by simp [be_len, d3B]) hz3)
      clear HK3 HQ3 HBW2 hz2 H2 hcell
      go_upto_region 16 with (go_at_call 79; (with_reducible refine H3.out.mono ?_); rintro _ w4 ⟨A4, c4, rfl, hq4, hk4⟩; have HQ4 := Lib.hid hq4; have HK4 := Lib.hid hk4; clear hq4 hk4)
      have hz4 : z ≤ w4.heap.size := Nat.le_trans hz3 HK4.out.size
      have HBW4 := Lib.hid (HBW3.out.trans (below_only HK4.out hz3))
      have cc1 := HQ4.out.1.cell 1
      simp at cc1
      have e1 : ¬ (n : Int) + 1 < (n : Int) := by omega
      have e2 : ¬ (n : Int) + 1 < 0 := by omega
      have e3 : ¬ (n : Int) = 0 := by omega
      have e4 : ((n : Int) == 0) = false := beq_eq_false_iff_ne.2 e3
      have e5 : (n : Int) ≤ (c : Int) := by omega
      have e6 : (0 : Int) ≤ (n : Int) := by omega
      have hrow : Reads w4 z 1 A n (u.map bv) := by
        have := (HRA.out.below HBW4.out).front (k := n) (by omega)
        rw [Nat.mul_one, ← List.map_take, List.take_left' hu] at this
        exact this
      have HROW := Lib.hid hrow
      clear HK4 HBW3 hz3 H3 hrow
      have hm1 : 0 + n ≤ maxLen := by unfold maxLen; omega
      have hm2 : (0 + n) * 1 ≤ 140737488355328 := by omega
      go_wp2_with (refine wpList_append_sl rfl elemU8 rfl rfl (Own.nil _ z _ _) rfl HROW.out (bvs_one u) hm1 hm2 hz4 ?_; intro A9 c9 w9 ho9 hk9)
      have HO9 := Lib.hid (show Own w9 z 5 1 A9 n c9 (u.map bv) by simpa using ho9)
      have HC9 := Lib.hid (show ∃ A' c', CurI w9 z z 153 A' (d3B y) c' from ⟨_, _, HQ4.out.kept9 hk9 (by decide) hz4⟩)
      have HBW9 := Lib.hid (HBW4.out.trans (hk9.below (Nat.le_refl _) hz4 (by simp)))
      clear ho9 hk9
      go_roundg 1
      case measure => omega
      case rel => exact .inr (.inl ⟨rfl, A9, c9, rfl, HO9, HC9, HBW9⟩)
    · obtain ⟨A1, c1, hcu⟩ := HC.out
      have hzr : z ≤ wr.heap.size := by rw [← HZ.out]; exact HBW.out.size
      have cc0 := hcu.1.cell 0
      simp at cc0
      rw [show (d3B y).length = 6 by simp [d3B, be_len]] at cc0
      have H1 := Lib.hid (done_any z z 2 A1 (be 4 1 ++ [y]) c1 wr (by simpa [d3B] using hcu) (by simp [be_len]) hzr)
      have HBK := Lib.hid hcu.1
      clear hcu HC
      go_upto_region 11 with fail
      go_upto_region 13 with (go_at_call 80; (with_reducible refine H1.out.mono ?_); rintro _ w2 ⟨ad, ct, A2, c2, rfl, hcell, ⟨_, _, _⟩, hq2, hk2⟩; have HQ2 := Lib.hid hq2; have HK2 := Lib.hid hk2; clear hq2 hk2; rw [show (((2 : UInt8).toNat : Nat) : Int) = 2 from rfl] at hcell)
      have hz2 : z ≤ w2.heap.size := Nat.le_trans hzr HK2.out.size
      have HBW2 := Lib.hid (HBW.out.trans (below_only HK2.out hzr))
      have HO2 := Lib.hid (HO.out.keepOnly HK2.out HBK.out (by decide))
      have H2 := Lib.hid (dbe_any z z 1 A2 _ c2 w2 HQ2.out (by omega) (by simp) hz2)
      have HBK2 := Lib.hid HQ2.out.1
      clear HK2 HQ2 HBW hzr H1 cc0 HO HBK
      go_upto_region 22 with (go_at_call 79; (with_reducible refine H2.out.mono ?_); rintro _ w3 ⟨A3, c3, rfl, hq3, hk3⟩; have HQ3 := Lib.hid hq3; have HK3 := Lib.hid hk3; clear hq3 hk3)
      have hz3 : z ≤ w3.heap.size := Nat.le_trans hz2 HK3.out.size
      have HBW3 := Lib.hid (HBW2.out.trans (below_only HK3.out hz2))
      have HO3 := Lib.hid (HO2.out.keepOnly HK3.out HBK2.out (by decide))
      have H3 := Lib.hid (done_any z z y A3 [] c3 w3 HQ3.out (by simp) hz3)
      have HBK3 := Lib.hid HQ3.out.1
      clear HK3 HQ3 HBW2 hz2 H2 hcell HO2 HBK2
      go_upto_region 23 with (go_at_call 80; (with_reducible refine H3.out.mono ?_); rintro _ w4 ⟨ad4, ct4, A4, c4, rfl, _, ⟨hs1, hs2, hrt⟩, hq4, hk4⟩; have HROW := Lib.hid hrt; have HQ4 := Lib.hid hq4; have HK4 := Lib.hid hk4; clear hq4 hk4 hrt)
      have hz4 : z ≤ w4.heap.size := Nat.le_trans hz3 HK4.out.size
      have HBW4 := Lib.hid (HBW3.out.trans (below_only HK4.out hz3))
      have HO4 := Lib.hid (HO3.out.keepOnly HK4.out HBK3.out (by decide))
      have cc1 := HQ4.out.1.cell 1
      simp at cc1
      have e1 : (n : Int) + 1 - (n : Int) = 1 := by omega
      clear HK4 HBW3 hz3 H3 HO3 HBK3 hs1 hs2
      have hm1 : n + 1 ≤ maxLen := by unfold maxLen; omega
      have hm2 : (n + 1) * 1 ≤ 140737488355328 := by omega
      go_wp2_with (refine wpList_append_sl rfl elemU8 rfl rfl HO4.out rfl HROW.out (bvs_one [y]) hm1 hm2 hz4 ?_; intro A5 c5 w9 ho9 hk9)
      have HO9 := Lib.hid (show Own w9 z 5 1 A5 (n + 1) c5 ((u ++ [y]).map bv) by rw [List.map_append]; exact ho9)
      have HC9 := Lib.hid (show ∃ A' c', CurI w9 z z 153 A' [] c' from ⟨_, _, HQ4.out.kept9 hk9 (by decide) hz4⟩)
      have HBW9 := Lib.hid (HBW4.out.trans (hk9.below (Nat.le_refl _) hz4 (by simp)))
      clear ho9 hk9
      go_roundg 0
      case measure => omega
      case rel => exact .inr (.inr ⟨A5, c5, rfl, HO9, HC9, HBW9⟩)
    · obtain ⟨A1, c1, hcu⟩ := HC.out
      have cc0 := hcu.1.cell 0
      simp at cc0
      have hcm := HO.out.cap_le
      have HCL := Lib.hid (clip_any A9 (n + 1) c9 wr hcm.1 hcm.2)
      clear hcu HC hcm
      go_wp2_with (go_at_call 81; (with_reducible refine HCL.out.mono ?_); rintro _ w2 ⟨rfl, rfl⟩)
      rw [Exit.noGoto_ret]
      go_ret2
      refine ⟨A9, rfl, HO.out.reads, fun a ha => ?_, HBW.out⟩
      obtain ⟨g', e', hb'⟩ := HO.out.adrn (by omega)
      rw [ha] at e'
      injection e' with e'
      subst e'
      exact hb'
end Go.Proofs.YtmlmbkelpjmafaaGreat
