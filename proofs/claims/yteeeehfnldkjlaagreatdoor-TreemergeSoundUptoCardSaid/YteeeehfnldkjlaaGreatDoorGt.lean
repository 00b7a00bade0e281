/-
  Contract of the reference's tops, crowded at few files. No statement of the seat is proved here.
-/
import Derived.Test.YteeeehfnldkjlaaGreatDoorTZ17
import Derived.Test.YteeeehfnldkjlaaGreatDoorTZ19
import Derived.BigRegion
namespace Go.Proofs.YteeeehfnldkjlaaGreatDoor
open Go.RowKit
theorem strL_at'' {xs : List Pth} {k : Nat} {v : Pth} (h : xs[k]? = some v) : (strL xs)[k]? = some (.string ⟨v.toArray⟩) := strL_at h
set_option maxHeartbeats 4000000 in
set_option maxRecDepth 100000 in
theorem tops_any (l : List FileD) (A : Option Addr) (c B : Nat) (w : World) (hB : B ≤ w.heap.size) (hr : FI w B A l) (hp : ∀ f ∈ l, f.p.length ≤ 100000000) (h0 : ∀ f ∈ l, 0 < (rnP f.p).length) (hll : l.length ≤ 1000000) :
    Calls Tryz.prog 93 #[.slice A l.length c] w fun e w' => ∃ A' n c', e = .returned (.slice A' n c') ∧ n ≤ l.length ∧ Below w.heap.size w w' := by
  obtain ⟨z, hz⟩ : ∃ z, w.heap.size = z := ⟨_, rfl⟩
  rw [hz]
  have hBz : B ≤ z := hz ▸ hB
  have HFI := Lib.hid (fun W (k : Below z w W) => hr.below (k.mono hBz))
  have HN := Lib.hid (fun f W (hf : f ∈ l) => rnames_any f.p W (hp f hf))
  have H0 := Lib.hid h0
  have HZ := Lib.hid hz
  clear hr hp h0 hz hB
  go_enter Tryz.func93, Tryz.ntmps93
  go_wp2_with fail
  go_loopw [3, 4] (fun s3 s4 wr => ∃ (n i : Nat) (A' : Option Addr) (c' : Nat) (xs : List Pth), s3 = .slice A' n c' ∧ s4 = .int .i64 (i : Nat) ∧ n ≤ i ∧ i ≤ l.length ∧ Hid (xs.length = n ∧ Own wr z 9 1 A' n c' (strL xs)) ∧ Hid (Below z w wr)) (fun _ s4 _ => l.length - (intOf s4).toNat)
  case atStart => exact ⟨0, 0, none, 0, [], rfl, rfl, Nat.le_refl _, Nat.zero_le _, Lib.hid ⟨rfl, Own.nil _ _ _ _⟩, Lib.hid (Below.refl _ _)⟩
  case round =>
    obtain ⟨n, i, A', c', xs, rfl, rfl, hni, hil, HO, HB⟩ := hrel
    by_cases hi : i < l.length
    · obtain ⟨x, hx⟩ : ∃ x, l[i]? = some x := ⟨_, List.getElem?_eq_getElem hi⟩
      have hxm := List.mem_of_getElem? hx
      obtain ⟨g, off, DA, dc, eA, hg, hld, e0, _⟩ := (HFI.out wr HB.out).at_ hx
      clear hld hx
      subst eA
      have h0x := H0.out x hxm
      have HNX := Lib.hid (HN.out x wr hxm)
      obtain ⟨R, hR⟩ : ∃ R, rnP x.p = R := ⟨_, rfl⟩
      rw [hR] at HNX h0x
      obtain ⟨r0, hr0⟩ : ∃ r0, R[0]? = some r0 := ⟨_, List.getElem?_eq_getElem h0x⟩
      have hi' : (i : Int) < (l.length : Int) := by omega
      have i0 : (0 : Int) ≤ (i : Int) := by omega
      have hl1 : (0 : Int) < (R.length : Int) := by omega
      have hwz : z ≤ wr.heap.size := HZ.out ▸ HB.out.size
      unfold strC at HNX e0
      go_upto_region 6 with (go_at_call 30; refine HNX.out.mono ?_; rintro _ w2 ⟨A2, c2, rfl, ho2, hb2⟩; obtain ⟨g2, rfl, _⟩ := ho2.adrn h0x; have hc2 : w2.cell? ⟨g2, 0, none⟩ = some (.string ⟨r0.toArray⟩) := ((World.ownsRow.cellAt ho2 0 (by omega)).trans (strL_at'' hr0)); have HB2 := Lib.hid hb2; have HO2 := Lib.hid (HO.out.2.kept (Kept.ofBelow (base := 0) (E := []) (G := []) hb2) (by simp) (by simp)); clear ho2 hb2)
      have hz2 : z ≤ w2.heap.size := Nat.le_trans hwz HB2.out.size
      have HBZ := Lib.hid (show Below z w w2 from HB.out.trans (HB2.out.mono hwz))
      have hXL := HO.out.1
      clear HNX e0 hc2 h0x hr0 hl1 hR hxm hg HB2 HB hwz HO hi'
      go_upto_block 2 with fail
      go_cut [6] (fun s6 wx => ∃ K : Nat, s6 = .int .i64 (K : Nat) ∧ K ≤ n ∧ w2 = wx)
      case first =>
        go_wp2_with fail
        go_loopw [6] (fun s6 wx => ∃ k : Nat, s6 = .int .i64 (k : Nat) ∧ k ≤ n ∧ w2 = wx) (fun s6 _ => n - (intOf s6).toNat)
        case atStart => exact ⟨0, rfl, Nat.zero_le _, rfl⟩
        case round =>
          obtain ⟨k, rfl, hkn, rfl⟩ := hrel
          by_cases hk : k < n
          · obtain ⟨v, hv⟩ : ∃ v, xs[k]? = some v := ⟨_, List.getElem?_eq_getElem (by omega)⟩
            obtain ⟨gA, eA, _⟩ := HO2.out.adrn (by omega)
            have v1 : w2.cell? ⟨gA, k, none⟩ = some (.string ⟨v.toArray⟩) := by
              subst eA
              exact (World.ownsRow.cellAt HO2.out k (by omega)).trans (strL_at'' hv)
            subst eA
            have k0 : (0 : Int) ≤ (k : Int) := by omega
            have k1 : (k : Int) < (n : Int) := by omega
            cases hb : Op.bytesLess v r0 with
            | true =>
              go_wp2_with fail
              go_roundw
              case rel => exact ⟨k + 1, by go_num, hk, trivial⟩
              case measure => simp [intOf]; omega
            | false =>
              go_wp2_with fail
              go_meet
              exact ⟨k, rfl, hkn, rfl⟩
          · obtain rfl : k = n := by omega
            have k1 : ¬ (k : Int) < (k : Int) := by omega
            go_wp2_with fail
            go_meet
            exact ⟨k, rfl, hkn, rfl⟩
      case rest =>
        obtain ⟨K, rfl, hKn, rfl⟩ := hcut
        obtain ⟨z2, hz2'⟩ : ∃ z2, w2.heap.size = z2 := ⟨_, rfl⟩
        have HZ2 := Lib.hid hz2'
        rw [hz2'] at hz2
        clear hz2'
        have K0 : (0 : Int) ≤ (K : Int) := by omega
        have Kn : (K : Int) ≤ (n : Int) := by omega
        have hnc : n ≤ c' := HO2.out.cap_le.1
        have Kc : (K : Int) ≤ (c' : Int) := by omega
        have R1 := Lib.hid (show Reads w2 w2.heap.size 1 A' K (strL (xs.take K)) from by
          have := HO2.out.reads.front (k := K) hKn
          rw [Nat.mul_one] at this
          unfold strL at this ⊢
          rwa [← List.map_take] at this)
        by_cases hKlt : K < n
        · obtain ⟨gA, eA, _⟩ := HO2.out.adrn (by omega)
          obtain ⟨v, hv⟩ : ∃ v, xs[K]? = some v := ⟨_, List.getElem?_eq_getElem (by omega)⟩
          have v1 : w2.cell? ⟨gA, K, none⟩ = some (.string ⟨v.toArray⟩) := by
            subst eA
            exact (World.ownsRow.cellAt HO2.out K (by omega)).trans (strL_at'' hv)
          subst eA
          have k1 : (K : Int) < (n : Int) := by omega
          have R2 := Lib.hid (fun W (hb : Below z2 w2 W) => show Reads W W.heap.size 1 (some ⟨gA, K, none⟩) (n - K) (strL (xs.drop K)) from by
            have hgl := (HO2.out.blkA _ rfl).2.1
            refine ⟨by unfold strL; rw [List.length_map, List.length_drop, hXL, Nat.mul_one], fun _ => ⟨_, rfl, Nat.lt_of_lt_of_le hgl (by rw [HZ2.out]; have := hb.size; rw [HZ2.out] at this; exact this), fun j u hj => ?_⟩⟩
            rw [add_at]
            refine (hb.cell (p := ⟨gA, K + j, none⟩) (HZ2.out ▸ hgl)).trans ?_
            have hjl := (List.getElem?_eq_some_iff.1 hj).1
            unfold strL at hjl hj
            rw [List.length_map, List.length_drop, hXL] at hjl
            refine (World.ownsRow.cellAt HO2.out (K + j) (by omega)).trans ?_
            rw [← hj]
            unfold strL
            rw [List.map_drop, List.getElem?_drop])
          by_cases he : v = r0
          · subst he
            go_wp2_with fail
            go_roundw
            case rel => exact ⟨n, i + 1, some ⟨gA, 0, none⟩, c', xs, rfl, by go_num, by omega, by omega, Lib.hid ⟨hXL, HO2.out⟩, HBZ⟩
            case measure => simp [intOf]; omega
          · have he' : (v == r0) = false := beq_eq_false_iff_ne.2 he
            have Kc2 : (K : Int) < (c' : Int) := by omega
            have Kc3 : K < c' := by omega
            have Kc4 : ¬ c' = K := by omega
            have Kc5 : ¬ (c' : Int) = (K : Int) := by omega
            have Kc6 : ¬ c' ≤ K := by omega
            go_wp2_with (first
              | (at_builtin; refine wpList_append_sl rfl elemStr rfl rfl (n := 0) (xs := []) (Own.nil _ w2.heap.size _ _) rfl R1.out (strL_one _) (by unfold maxLen; omega) (by omega) (Nat.le_refl _) ?_; intro A1 c1 w11 o11 k11; have HB11 := Lib.hid (k11.below (Nat.le_refl _) (Nat.le_refl _) (by simp)); have HO11 := Lib.hid (show Own w11 w2.heap.size 9 1 A1 K c1 (strL (xs.take K)) from by have := o11; rw [Nat.zero_add, List.nil_append] at this; exact this); clear o11 k11)
              | (at_builtin; refine wpList_append_sl rfl elemStr rfl rfl (n := K) (xs := strL (xs.take K)) (HO11.out.alloc _) rfl (Reads.of_blk (n := 1) (size := 1) (xs := strL [r0]) (heap_alloc_new _ _) rfl rfl) (strL_one [r0]) (by unfold maxLen; omega) (by omega) (by have := HB11.out.size; simp; omega) ?_; intro A2 c2 w12 o12 k12; have HO12 := Lib.hid o12; have HB12 := Lib.hid (HB11.out.trans ((((Kept.refl _ _ _ _).alloc _).trans k12).below (Nat.le_refl _) HB11.out.size (by simp))); clear o12 k12)
              | (at_builtin; refine wpList_append_sl rfl elemStr rfl rfl (n := K + 1) (xs := strL (xs.take K) ++ strL [r0]) HO12.out rfl (news := strL (xs.drop K)) (R2.out _ (HZ2.out ▸ HB12.out)) (strL_one _) (by unfold maxLen; omega) (by omega) HB12.out.size ?_; intro A3 c3 w13 o13 k13; have HO13 := Lib.hid o13; have HB13 := Lib.hid (HB12.out.trans (k13.below (Nat.le_refl _) HB12.out.size (by simp))); clear o13 k13))
            go_roundw
            case rel =>
              refine ⟨K + 1 + (n - K), i + 1, A3, c3, xs.take K ++ [r0] ++ xs.drop K, rfl, by go_num, by omega, by omega, Lib.hid ⟨by simp; omega, ?_⟩, Lib.hid (HBZ.out.trans (HB13.out.mono (HZ2.out ▸ hz2)))⟩
              have := Own.mono HO13.out (HZ2.out ▸ hz2)
              unfold strL at this ⊢
              simpa using this
            case measure => simp [intOf]; omega
        · obtain rfl : K = n := by omega
          have k1 : ¬ (K : Int) < (K : Int) := by omega
          have R2 := Lib.hid (fun (W : World) (S : Option Addr) => show Reads W W.heap.size 1 S 0 [] from Reads.none_)
          rcases A' with _ | a
          · go_wp2_with (first
              | (at_builtin; refine wpList_append_sl rfl elemStr rfl rfl (n := 0) (xs := []) (Own.nil _ w2.heap.size _ _) rfl R1.out (strL_one _) (by unfold maxLen; omega) (by omega) (Nat.le_refl _) ?_; intro A1 c1 w11 o11 k11; have HB11 := Lib.hid (k11.below (Nat.le_refl _) (Nat.le_refl _) (by simp)); have HO11 := Lib.hid (show Own w11 w2.heap.size 9 1 A1 K c1 (strL (xs.take K)) from by have := o11; rw [Nat.zero_add, List.nil_append] at this; exact this); clear o11 k11)
              | (at_builtin; refine wpList_append_sl rfl elemStr rfl rfl (n := K) (xs := strL (xs.take K)) (HO11.out.alloc _) rfl (Reads.of_blk (n := 1) (size := 1) (xs := strL [r0]) (heap_alloc_new _ _) rfl rfl) (strL_one [r0]) (by unfold maxLen; omega) (by omega) (by have := HB11.out.size; simp; omega) ?_; intro A2 c2 w12 o12 k12; have HO12 := Lib.hid o12; have HB12 := Lib.hid (HB11.out.trans ((((Kept.refl _ _ _ _).alloc _).trans k12).below (Nat.le_refl _) HB11.out.size (by simp))); clear o12 k12)
              | (at_builtin; refine wpList_append_sl rfl elemStr rfl rfl (n := K + 1) (xs := strL (xs.take K) ++ strL [r0]) HO12.out rfl (news := []) (m := 0) (R2.out w12 _) (by intro u hu; cases hu) (by unfold maxLen; omega) (by omega) HB12.out.size ?_; intro A3 c3 w13 o13 k13; have HO13 := Lib.hid o13; have HB13 := Lib.hid (HB12.out.trans (k13.below (Nat.le_refl _) HB12.out.size (by simp))); clear o13 k13))
            go_roundw
            case rel =>
              refine ⟨K + 1, i + 1, A3, c3, xs ++ [r0], rfl, by go_num, by omega, by omega, Lib.hid ⟨by simp; omega, ?_⟩, Lib.hid (HBZ.out.trans (HB13.out.mono (HZ2.out ▸ hz2)))⟩
              have := Own.mono HO13.out (HZ2.out ▸ hz2)
              rw [List.take_of_length_le (by omega)] at this
              unfold strL at this ⊢
              simpa using this
            case measure => simp [intOf]; omega
          · go_wp2_with (first
              | (at_builtin; refine wpList_append_sl rfl elemStr rfl rfl (n := 0) (xs := []) (Own.nil _ w2.heap.size _ _) rfl R1.out (strL_one _) (by unfold maxLen; omega) (by omega) (Nat.le_refl _) ?_; intro A1 c1 w11 o11 k11; have HB11 := Lib.hid (k11.below (Nat.le_refl _) (Nat.le_refl _) (by simp)); have HO11 := Lib.hid (show Own w11 w2.heap.size 9 1 A1 K c1 (strL (xs.take K)) from by have := o11; rw [Nat.zero_add, List.nil_append] at this; exact this); clear o11 k11)
              | (at_builtin; refine wpList_append_sl rfl elemStr rfl rfl (n := K) (xs := strL (xs.take K)) (HO11.out.alloc _) rfl (Reads.of_blk (n := 1) (size := 1) (xs := strL [r0]) (heap_alloc_new _ _) rfl rfl) (strL_one [r0]) (by unfold maxLen; omega) (by omega) (by have := HB11.out.size; simp; omega) ?_; intro A2 c2 w12 o12 k12; have HO12 := Lib.hid o12; have HB12 := Lib.hid (HB11.out.trans ((((Kept.refl _ _ _ _).alloc _).trans k12).below (Nat.le_refl _) HB11.out.size (by simp))); clear o12 k12)
              | (at_builtin; refine wpList_append_sl rfl elemStr rfl rfl (n := K + 1) (xs := strL (xs.take K) ++ strL [r0]) HO12.out rfl (news := []) (m := 0) (R2.out w12 _) (by intro u hu; cases hu) (by unfold maxLen; omega) (by omega) HB12.out.size ?_; intro A3 c3 w13 o13 k13; have HO13 := Lib.hid o13; have HB13 := Lib.hid (HB12.out.trans (k13.below (Nat.le_refl _) HB12.out.size (by simp))); clear o13 k13))
            go_roundw
            case rel =>
              refine ⟨K + 1, i + 1, A3, c3, xs ++ [r0], rfl, by go_num, by omega, by omega, Lib.hid ⟨by simp; omega, ?_⟩, Lib.hid (HBZ.out.trans (HB13.out.mono (HZ2.out ▸ hz2)))⟩
              have := Own.mono HO13.out (HZ2.out ▸ hz2)
              rw [List.take_of_length_le (by omega)] at this
              unfold strL at this ⊢
              simpa using this
            case measure => simp [intOf]; omega
    · have hi' : ¬ (i : Int) < (l.length : Int) := by omega
      go_wp2_with fail
      go_ret
      exact ⟨A', n, ⟨c', rfl⟩, by omega, HB.out⟩
end Go.Proofs.YteeeehfnldkjlaaGreatDoor
