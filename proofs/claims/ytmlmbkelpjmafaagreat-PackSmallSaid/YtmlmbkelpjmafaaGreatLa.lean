/-
  PackSmall: the lengths of packs (plain); the law's known and within. No statement of the seat is proved here.
-/
import Derived.Test.YtmlmbkelpjmafaaGreatKm
import Derived.Test.YtmlmbkelpjmafaaGreatKv
namespace Go.Proofs.YtmlmbkelpjmafaaGreat
open Go.RowKit Go.Shelf
theorem entsTo_len9 (u xs : List UInt8) (k : Nat) : (entsTo u xs k).length = 9 * k + ((k + 8) / 9 * (u.length + 1) + (k - (k + 8) / 9) * 23) := by
  induction k with
  | zero => simp [entsTo]
  | succ k ih =>
    rw [entsTo_succ, List.length_append, ih]
    unfold entB datB
    obtain ⟨L, hL⟩ : ∃ L, u.length + 1 = L := ⟨_, rfl⟩
    have hx : ∀ x : UInt8, (u ++ [x]).length = L := fun x => by rw [← hL]; simp
    rw [hL]
    by_cases h : k % 9 = 0
    · rw [if_pos h]
      have e : (k + 1 + 8) / 9 = (k + 8) / 9 + 1 := by omega
      have e2 : k + 1 - ((k + 8) / 9 + 1) = k - (k + 8) / 9 := by omega
      rw [e, e2, Nat.succ_mul ((k + 8) / 9) L, List.length_append, List.length_append, hx, nums_len]
      simp only [List.length_cons, List.length_nil]
      omega
    · rw [if_neg h]
      have e : (k + 1 + 8) / 9 = (k + 8) / 9 := by omega
      have e2 : k + 1 - (k + 8) / 9 = k - (k + 8) / 9 + 1 := by omega
      rw [e, e2, Nat.succ_mul (k - (k + 8) / 9) 23, List.length_append, List.length_append, dltB_len, nums_len]
      simp only [List.length_cons, List.length_nil]
      omega
theorem packB_len (u xs : List UInt8) (n : Nat) (hn : xs.length = n) : (packB u xs).length = 1068 + 45 * n + ((n + 8) / 9 * (u.length + 1) + (n - (n + 8) / 9) * 23) := by
  subst hn
  have hp : (placesB u xs).length = xs.length := by unfold placesB; rw [List.length_map, atsTo_len]
  unfold packB bodyB
  rw [List.length_append, List.length_append, List.length_append, (sha _).2, headB_len, nums_len, hp, entsTo_len9, List.length_map]
  omega
set_option maxHeartbeats 8000000 in
set_option maxRecDepth 1000000 in
theorem known9_any (W : World) : Calls Tryz.prog 4 #[] W fun e w' => e = .returned (.bool true) ∧ Below W.heap.size W w' := by
  obtain ⟨z, hz⟩ : ∃ z, W.heap.size = z := ⟨_, rfl⟩
  have HB0 : Hid (Calls Tryz.prog 7 #[.slice none 0 0] W fun e w' => ∃ A c, e = .returned (.tuple #[.slice A 1068 c, .int .i64 0]) ∧ Below z W w') := Lib.hid ((build_any [] [] none 0 W ⟨Reads.none_, by simp, by simp⟩ (by simp) (by simp) (by simp) (by simp)).mono (by
    rintro e w' ⟨A, c, xs, rfl, hp, _, _, hb⟩
    obtain rfl : xs = [] := by simpa using hp
    rw [packB_len _ _ 0 rfl]
    rw [hz] at hb
    exact ⟨A, c, rfl, hb⟩))
  have HZ := Lib.hid hz
  rw [hz]
  have hzz : z ≤ W.heap.size := by omega
  clear hz
  go_enter Tryz.func4, Tryz.ntmps4
  go_upto_region 2 with (go_at_call 7; (with_reducible refine HB0.out.mono ?_); rintro _ w1 ⟨A1, c1, rfl, hb1⟩; have HB1 := Lib.hid hb1; clear hb1)
  clear HB0
  obtain ⟨g, hg⟩ : ∃ g, w1.heap.size = g := ⟨_, rfl⟩
  have hcv : (convert 22 22 (.slice (some ⟨g, 0, none⟩) 1 1)).run Tryz.prog (w1.alloc (.cells #[.int .u8 120] 5)) = .ok (.slice (some ⟨g, 0, none⟩) 1 1) (w1.alloc (.cells #[.int .u8 120] 5 (1, 2))) := conv_bb w1 #[.int .u8 120] 1 1 g hg
  obtain ⟨wm, hwm⟩ : ∃ wm, w1.alloc (.cells #[.int .u8 120] 5 (1, 2)) = wm := ⟨_, rfl⟩
  have hsm : wm.heap.size = g + 1 := by rw [← hwm, ← hg]; simp
  obtain ⟨wn, hwn⟩ : ∃ wn, wm.alloc (.cells #[.int .i64 1, .slice (some ⟨g, 0, none⟩) 1 1] 27) = wn := ⟨_, rfl⟩
  have hsn : wn.heap.size = g + 2 := by rw [← hwn]; simp; omega
  have f0 : wn.heap[g]? = some (.cells #[.int .u8 120] 5 (1, 2)) := by
    rw [← hwn, Below.heap_alloc _ _ _ (by omega), ← hwm, ← hg]
    exact heap_alloc_new _ _
  have f1 : wn.heap[g + 1]? = some (.cells #[.int .i64 1, .slice (some ⟨g, 0, none⟩) 1 1] 27) := by
    rw [← hwn, ← hsm]
    exact heap_alloc_new _ _
  have hO : ObI wn wn.heap.size [] (some ⟨g + 1, 0, none⟩) [⟨120, some ⟨g, 0, none⟩, 1⟩] := by
    refine ⟨(Reads.of_cells (n := 1) (size := 2) f1 rfl rfl).more (by omega), ?_, ?_⟩
    · intro o ho
      rw [List.mem_singleton] at ho
      subst ho
      exact (Reads.of_cells (n := 1) (size := 1) f0 rfl rfl).more (by omega)
    · intro o ho
      rw [List.mem_singleton] at ho
      subst ho
      exact ⟨by simp, by show (1 : Nat) ≤ maxLen; unfold maxLen; omega⟩
  have bn : Below z W wn := by
    have b1 := HB1.out
    rw [← hwn, ← hwm]
    exact (b1.alloc (by have := b1.size; omega) _).alloc (by have := b1.size; simp; omega) _
  have zn : z ≤ wn.heap.size := by have := bn.size; omega
  obtain ⟨M, hM⟩ : ∃ M, (packB [] [120]).length = M := ⟨_, rfl⟩
  have HM := Lib.hid hM
  have HB2 : Hid (Calls Tryz.prog 7 #[.slice (some ⟨g + 1, 0, none⟩) 1 1] wn fun e w' => ∃ A c, e = .returned (.tuple #[.slice A M c, .int .i64 0]) ∧ Own w' z 5 1 A M c ((packB [] [120]).map bv) ∧ Below z W w') := Lib.hid ((build_any [] [⟨120, some ⟨g, 0, none⟩, 1⟩] _ _ wn hO (by simp) (by simp) (by simp) (by simp)).mono (by
    rintro e w' ⟨A, c, xs, rfl, hp, _, ho, hb⟩
    obtain rfl : xs = [120] := by simpa using hp
    rw [hM] at *
    exact ⟨A, c, rfl, ho.mono zn, bn.trans (hb.mono zn)⟩))
  rw [← hwn, ← hwm] at HB2
  clear hwn hwm f0 f1 hO bn HB1 hM
  go_upto_region 3 with (first | (refine wpList_buildSlice1 rfl elemU8 rfl (vs := #[.int .u8 120]) (z := #[.int .u8 0]) (by kernel_rfl) rfl rfl (by omega) rfl ?_) | (refine wpList_buildSlice1 rfl elemOb rfl (vs := #[.int .i64 1, .slice (some ⟨g, 0, none⟩) 1 1]) (z := #[.int .i64 0, .slice none 0 0]) zero_ob rfl rfl (by omega) rfl ?_) | (go_at_call 7; (with_reducible refine HB2.out.mono ?_); rintro _ w3 ⟨A3, c3, rfl, ho3, hb3⟩; have HO3 := Lib.hid ho3; have HB3 := Lib.hid hb3; clear ho3 hb3))
  clear HB2 hcv
  have HPA : Hid (Calls Tryz.prog 8 #[.slice A3 M c3] w3 fun e w' => ∃ g' off c4 oA oc, e = .returned (.tuple #[.slice (some ⟨g', off, none⟩) 1 c4, .int .i64 0]) ∧ w'.cell? ⟨g', off + 1, none⟩ = some (.slice oA 1 oc) ∧ Reads w' w'.heap.size 1 oA 1 ([(120 : UInt8)].map bv) ∧ Below z W w') := Lib.hid ((packParse_any [] [120] 1 rfl (by simp) (by simp) (by omega) (by simp) A3 c3 M HM.out w3 HO3.out.reads HO3.out.cap_le.1 HO3.out.cap_le.2).mono (by
    rintro e w' ⟨A4, c4, os, rfl, hox, hob, hb⟩
    obtain ⟨o, rfl⟩ : ∃ o, os = [o] := by
      have hl : os.length = 1 := by rw [← List.length_map (f := Ob.x), hox]; rfl
      exact List.length_eq_one_iff.1 hl
    have ho : o.x = 120 := by simpa using hox
    obtain ⟨g', off, rfl, _, hc⟩ := hob.row.at0 (by simp) (by omega)
    have hbd := hob.body o (by simp)
    rw [ho] at hbd
    exact ⟨g', off, c4, o.A, o.c, rfl, hc 1 _ rfl, hbd, HB3.out.trans (hb.mono (HZ.out ▸ HB3.out.size))⟩))
  clear HM HO3 HB3
  go_upto_region 4 with (go_at_call 8; (with_reducible refine HPA.out.mono ?_); rintro _ w4 ⟨g4, off4, c4, oA, oc, rfl, d4, hr4, hb4⟩; have HR4 := Lib.hid hr4; have HB4 := Lib.hid hb4; clear hr4 hb4)
  have hcv := bconv w4 (c := oc) HR4.out
  go_wp2_with fail
  go_ret
  exact ⟨rfl, HB4.out⟩
end Go.Proofs.YtmlmbkelpjmafaaGreat
