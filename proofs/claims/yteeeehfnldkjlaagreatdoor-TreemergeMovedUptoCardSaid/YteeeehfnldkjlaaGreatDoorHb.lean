/-
  The law walk of TreemergeMoved. No statement of the seat is proved here.
-/
import Derived.Test.YteeeehfnldkjlaaGreatDoorTZGg
import Derived.Test.YteeeehfnldkjlaaGreatDoorWm
import Derived.Test.YteeeehfnldkjlaaGreatDoorHa
import Derived.BigRegion
namespace Go.Proofs.YteeeehfnldkjlaaGreatDoor
open Go.RowKit Go.Maps
theorem two_bytes {i : Nat} (h : i ≤ 23) : (#[Value.int .u8 (97 + (i : Int)), .int .u8 10] : Array Value).toList = ([UInt8.ofNat (97 + i), 10] : List UInt8).map byteV := by
  unfold byteV
  simp
  omega
theorem file_load3 {w : World} {q : Nat} {s : ByteArray} {k : Int} {A : Option Addr} {n c : Nat} (h : Blk w q 41 #[.string s, .int .i64 k, .slice A n c]) : (LdF (.pointer (some ⟨q, 0, none⟩))).run Tryz.prog w = .ok (.agg #[.string s, .int .i64 k, .slice A n c]) w :=
  run_loadAt_blk (P := Tryz.prog) h 0 #[.string s, .int .i64 k, .slice A n c] Tryz.underlying41 rfl info_file (by simp)
theorem Apart.left {w w' : World} {D1 D2 D1' : Option Addr} {n n' c c' : Nat} (h : Apart D1 D2) (hs : ∀ p, p < w.heap.size → NotB D1 n c p → w'.heap[p]? = w.heap[p]? ∧ NotB D1' n' c' p) (h2 : ∀ a, D2 = some a → a.block < w.heap.size) : Apart D1' D2 ∧ ∀ a, D2 = some a → w'.heap[a.block]? = w.heap[a.block]? := by
  have nb : ∀ a, D2 = some a → NotB D1 n c a.block := fun a ha e => by
    cases D1 with
    | none => cases e
    | some d => exact h d a rfl ha (by injection e)
  refine ⟨fun d a e1 e2 e => (hs a.block (h2 a e2) (nb a e2)).2 (by subst e1; show some d.block = some a.block; rw [e]), fun a ha => (hs a.block (h2 a ha) (nb a ha)).1⟩
attribute [local go_sem] run_eql_strC run_neq_strC eqGuard_strC neGuard_strC
attribute [local go_sem ↓] ld_f sl_b
set_option maxHeartbeats 4000000 in
set_option maxRecDepth 100000 in
theorem moved_law (n ln : Int) (p : Pth) (kind swap : Bool) (w : World) (hv : VarM w) (hp : p.length ≤ 100000000) :
    Calls Tryz.prog 12 #[.int .i64 n, .string ⟨p.toArray⟩, .int .i64 ln, .bool kind, .bool swap] w fun e w' => e = .returned (.bool true) ∧ Below w.heap.size w w' := by
  obtain ⟨z, hz⟩ : ∃ z, w.heap.size = z := ⟨_, rfl⟩
  have HK := Lib.hid (known17_any w hv)
  rw [hz] at HK
  rw [hz]
  have HN := Lib.hid (fun W => rnames_any p W hp)
  have HV := Lib.hid hv
  obtain ⟨R, hR⟩ : ∃ R, rnP p = R := ⟨_, rfl⟩
  rw [hR] at HN
  have HRE := Lib.hid hR
  clear hv hR
  unfold strC at HN
  go_enter Tryz.func12, Tryz.ntmps12
  go_upto_region 3 with (go_at_call 14; (with_reducible refine HK.out.mono ?_); rintro _ w1 ⟨rfl, hb1⟩; have HB1 := Lib.hid hb1; clear hb1)
  clear HK
  have hz1 : z ≤ w1.heap.size := by rw [← hz]; exact HB1.out.size
  have HN1 := Lib.hid (HN.out w1)
  go_cut [42] (fun s42 wx => ∃ bb, s42 = .bool bb ∧ Hid (bb = false → 0 < R.length ∧ p ≠ [102]) ∧ Hid (Below z w wx))
  case first =>
    by_cases h0 : R.length = 0
    · have q8 : ((R.length : Int) == 0) = true := beq_iff_eq.2 (by omega)
      have q9 : (R.length : Int) = 0 := by omega
      go_wp2_with (go_at_call 30; (refine HN1.out.mono ?_); rintro _ w2 ⟨A2, c2, rfl, _, hb2⟩; have HB2 := Lib.hid (HB1.out.trans (hb2.mono hz1)); clear hb2)
      go_meet
      exact ⟨true, rfl, Lib.hid (by simp), HB2⟩
    · have q8 : ((R.length : Int) == 0) = false := beq_eq_false_iff_ne.2 (by omega)
      have q9 : ¬ (R.length : Int) = 0 := by omega
      by_cases h1 : p = [102]
      · have r1 : (p == [102]) = true := beq_iff_eq.2 h1
        clear h1
        go_wp2_with (go_at_call 30; (with_reducible refine HN1.out.mono ?_); rintro _ w2 ⟨A2, c2, rfl, _, hb2⟩; have HB2 := Lib.hid (HB1.out.trans (hb2.mono hz1)); clear hb2)
        go_meet
        exact ⟨true, rfl, Lib.hid (by simp), HB2⟩
      · have r1 : (p == [102]) = false := beq_eq_false_iff_ne.2 h1
        have HPN := Lib.hid h1
        clear h1
        by_cases h2 : 1 < p.length
        · have l2 : (1 : Int) < (p.length : Int) := by omega
          go_wp2_with (go_at_call 30; (with_reducible refine HN1.out.mono ?_); rintro _ w2 ⟨A2, c2, rfl, _, hb2⟩; have HB2 := Lib.hid (HB1.out.trans (hb2.mono hz1)); clear hb2)
          go_meet
          exact ⟨_, rfl, Lib.hid fun _ => ⟨by omega, HPN.out⟩, HB2⟩
        · have l2 : ¬ (1 : Int) < (p.length : Int) := by omega
          go_wp2_with (go_at_call 30; (with_reducible refine HN1.out.mono ?_); rintro _ w2 ⟨A2, c2, rfl, _, hb2⟩; have HB2 := Lib.hid (HB1.out.trans (hb2.mono hz1)); clear hb2)
          go_meet
          exact ⟨_, rfl, Lib.hid fun _ => ⟨by omega, HPN.out⟩, HB2⟩
  case rest =>
    obtain ⟨bb, rfl, HBB, HB2⟩ := hcut
    clear HN HN1 hz1 HB1
    generalize wc = w2 at *
    cases bb with
    | true =>
      go_wp2_with fail
      go_ret
      exact ⟨rfl, HB2.out⟩
    | false =>
      obtain ⟨hr0, hpn⟩ := HBB.out rfl
      have HT := Lib.hid (And.intro hr0 hpn)
      clear hr0 hpn HBB
      have HW1 := Lib.hid (fun W => within17_any n 20 W (by omega) (by omega))
      obtain ⟨N, hN, hN4, hN23⟩ : ∃ N : Nat, 4 + n % 20 = (N : Int) ∧ 4 ≤ N ∧ N ≤ 23 := ⟨(4 + n % 20).toNat, by omega, by omega, by omega⟩
      have HW2 := Lib.hid (fun W => within17_any ln N W (by omega) (by omega))
      obtain ⟨K, hK⟩ : ∃ K : Nat, ln % (N : Int) = (K : Int) := ⟨(ln % (N : Int)).toNat, by have := Int.emod_nonneg ln (b := (N : Int)) (by omega); omega⟩
      rw [hK] at HW2
      clear hK
      obtain ⟨q, hq⟩ : ∃ q, w2.heap.size = q := ⟨_, rfl⟩
      have HZQ := Lib.hid (show z ≤ q from by rw [← hq, ← hz]; exact HB2.out.size)
      go_upto_region 6 with (go_at_call 28; (with_reducible refine (HW1.out _).mono ?_); rintro _ _ ⟨rfl, rfl⟩)
      clear HW1 hN
      go_wp2_with fail
      go_loopw [11, 12, 13] (fun s11 s12 s13 wr => ∃ (i m : Nat) (D1 : Option Addr) (e1 : Nat) (D2 : Option Addr) (e2 : Nat), s11 = .slice D1 (2 * i) e1 ∧ s12 = .slice D2 m e2 ∧ s13 = .int .i64 (i : Nat) ∧ i ≤ N ∧ Hid (m = (mvC K i).length) ∧ Hid (Own wr q 5 1 D1 (2 * i) e1 ((mvB i).map byteV)) ∧ Hid (Own wr q 5 1 D2 m e2 ((mvC K i).map byteV)) ∧ Hid (Apart D1 D2) ∧ Hid (Below q w2 wr)) (fun _ _ s13 _ => N - (intOf s13).toNat)
      case atStart => exact ⟨0, 0, none, 0, none, 0, rfl, rfl, rfl, Nat.zero_le _, Lib.hid rfl, Lib.hid (Own.nil _ _ _ _), Lib.hid (Own.nil _ _ _ _), Lib.hid (Apart.none_ _), Lib.hid (Below.refl _ _)⟩
      case round =>
        obtain ⟨i, m, D1, e1, D2, e2, rfl, rfl, rfl, hiN, HM, HO1, HO2, HA, HBW⟩ := hrel
        by_cases hi : i < N
        · have hi' : (i : Int) < (N : Int) := by omega
          have hqw : q ≤ wr.heap.size := by rw [← hq]; exact HBW.out.size
          have hb1 := mvB_succ i
          have hc1 := mvC_succ K i
          go_upto_region 11 with (at_builtin; refine wpList_append_slf rfl elemU8 rfl rfl (n := 2 * i) (xs := (mvB i).map byteV) (HO1.out.alloc _) (by omega) rfl (Reads.of_blk (n := 2) (size := 1) (xs := ([UInt8.ofNat (97 + i), 10] : List UInt8).map byteV) (heap_alloc_new _ _) (two_bytes (by omega)) rfl) (bvs_one _) (by unfold maxLen; omega) (by omega) (by simp; omega) ?_; intro D1' e1' w4 o4 k4 s4; have HO4 := Lib.hid o4; have HK4 := Lib.hid k4; have HS4 := Lib.hid s4; clear o4 k4 s4)
          have hwa : ∀ o, q ≤ (wr.alloc o).heap.size := fun o => by simp; omega
          have hb4 : Below q w2 w4 := HBW.out.trans (((Below.refl _ wr).alloc hqw _).trans (HK4.out.below (Nat.le_refl _) (hwa _) (by simp)))
          have hq4 : q ≤ w4.heap.size := by rw [← hq]; exact hb4.size
          obtain ⟨ap4, sm4⟩ := Apart.left HA.out HS4.out (fun a ha => by have := (HO2.out.blkA a ha).2.1; simp; omega)
          have HO24 := Lib.hid (Own.same1 (HO2.out.alloc _) sm4)
          have HO14 := Lib.hid (show Own w4 q 5 1 D1' (2 * i + 2) e1' ((mvB (i + 1)).map byteV) from by rw [hb1, List.map_append]; exact HO4.out)
          have HA4 := Lib.hid (show Apart D2 D1' from fun a c h1 h2 => (ap4 c a h2 h1).symm)
          have HB4 := Lib.hid hb4
          clear HK4 HS4 HO4 HA HBW HO1 HO2 ap4 sm4 hwa hqw hb1 hb4
          go_upto_region 12 with (at_builtin; refine wpList_append_slf rfl elemU8 rfl rfl (n := m) (xs := (mvC K i).map byteV) (HO24.out.alloc _) (by omega) rfl (Reads.of_blk (n := 2) (size := 1) (xs := ([UInt8.ofNat (97 + i), 10] : List UInt8).map byteV) (heap_alloc_new _ _) (two_bytes (by omega)) rfl) (bvs_one _) (by have := HM.out; have := mvC_len K i; unfold maxLen; omega) (by have := HM.out; have := mvC_len K i; omega) (by simp; omega) ?_; intro D2' e2' w6 o6 k6 s6; have HO6 := Lib.hid o6; have HK6 := Lib.hid k6; have HS6 := Lib.hid s6; clear o6 k6 s6)
          have hwa : ∀ o, q ≤ (w4.alloc o).heap.size := fun o => by simp; omega
          have hb6 : Below q w2 w6 := HB4.out.trans (((Below.refl _ w4).alloc hq4 _).trans (HK6.out.below (Nat.le_refl _) (hwa _) (by simp)))
          have hq6 : q ≤ w6.heap.size := by rw [← hq]; exact hb6.size
          obtain ⟨ap6, sm6⟩ := Apart.left HA4.out HS6.out (fun a ha => by have := (HO14.out.blkA a ha).2.1; simp; omega)
          have HO16 := Lib.hid (Own.same1 (HO14.out.alloc _) sm6)
          have HA6 := Lib.hid ap6
          have HB6 := Lib.hid hb6
          clear HK6 HS6 HA4 HB4 HO14 HO24 ap6 sm6 hwa hq4 hb6
          by_cases hik : i = K
          · subst hik
            rw [if_pos rfl] at hc1
            have HC1 := Lib.hid hc1
            clear hc1
            go_wp2_with (first
              | (go_at_call 28; (with_reducible refine (HW2.out _).mono ?_); rintro _ _ ⟨rfl, rfl⟩)
              | (at_builtin; refine wpList_append_strf rfl elemU8 zeroU8 Tryz.underlying9 rfl (n := m + 2) (xs := (mvC i i).map byteV ++ ([UInt8.ofNat (97 + i), 10] : List UInt8).map byteV) rfl HO6.out (by omega) rfl (by have := HM.out; have := mvC_len i i; unfold maxLen; show m + 2 + 5 ≤ _; omega) (by have := HM.out; have := mvC_len i i; show m + 2 + 5 ≤ _; omega) hq6 ?_; intro D2'' e2'' w8 o8 k8 s8; have HO8 := Lib.hid o8; have HK8 := Lib.hid k8; have HS8 := Lib.hid s8; clear o8 k8 s8))
            obtain ⟨ap8, sm8⟩ := Apart.left HA6.out HS8.out (fun a ha => (HO16.out.blkA a ha).2.1)
            go_roundw
            case rel =>
              refine ⟨i + 1, m + 2 + 5, D1', e1', D2'', e2'', rfl, rfl, by go_num, by omega, Lib.hid ?_, Lib.hid (Own.same1 HO16.out sm8), Lib.hid ?_, Lib.hid fun a c h1 h2 => (ap8 c a h2 h1).symm, Lib.hid (HB6.out.trans (HK8.out.below (Nat.le_refl _) hq6 (by simp)))⟩
              · rw [HC1.out, HM.out]; simp
              · have := HO8.out
                rw [HC1.out, List.map_append, List.map_append, ← List.append_assoc]
                exact this
            case measure => simp [intOf]; omega
          · have hk2 : ((i : Int) == (K : Int)) = false := beq_eq_false_iff_ne.2 (by omega)
            have hk3 : ¬ (i : Int) = (K : Int) := by omega
            rw [if_neg hik, List.append_nil] at hc1
            have HC1 := Lib.hid hc1
            clear hc1 hik
            go_wp2_with (go_at_call 28; (with_reducible refine (HW2.out _).mono ?_); rintro _ _ ⟨rfl, rfl⟩)
            go_roundw
            case rel =>
              refine ⟨i + 1, m + 2, D1', e1', D2', e2', rfl, rfl, by go_num, by omega, Lib.hid ?_, HO16, Lib.hid ?_, Lib.hid fun a c h1 h2 => (HA6.out c a h2 h1).symm, HB6⟩
              · rw [HC1.out, HM.out]; simp
              · have := HO6.out
                rw [HC1.out, List.map_append]
                exact this
            case measure => simp [intOf]; omega
        · obtain rfl : i = N := by omega
          have hi' : ¬ (i : Int) < (i : Int) := by omega
          have hzr : Below z w wr := HB2.out.trans (HBW.out.mono HZQ.out)
          have HR1 := Lib.hid (show Reads wr wr.heap.size 1 D1 (mvB i).length ((mvB i).map byteV) from by rw [mvB_len]; exact HO1.out.reads)
          have HR2 := Lib.hid (show Reads wr wr.heap.size 1 D2 (mvC K i).length ((mvC K i).map byteV) from by rw [← HM.out]; exact HO2.out.reads)
          have HC := Lib.hid (show (2 * i ≤ e1 ∧ e1 ≤ maxLen) ∧ m ≤ e2 ∧ e2 ≤ maxLen from ⟨HO1.out.cap_le, HO2.out.cap_le⟩)
          have HZR := Lib.hid hzr
          clear hzr HO1 HO2 HA HBW HB2 HW2 HZQ
          obtain ⟨r, hr⟩ : ∃ r, wr.heap.size = r := ⟨_, rfl⟩
          go_upto_region 14 with fail
          go_cut [14] (fun s14 wx => s14 = .pointer (some ⟨r, 0, none⟩) ∧ Hid (Blk wx r 41 #[.string ⟨#[102]⟩, .int .i64 1, .slice D1 (2 * i) e1]) ∧ Hid (wx.heap.size = r + 1) ∧ Hid (Below r wr wx))
          case first =>
            go_wp2_with fail
            go_meet
            exact ⟨rfl, Lib.hid (blk_new_at _ _ _ _ hr), Lib.hid (size_at _ _ _ hr), Lib.hid (below_at _ hr)⟩
          case rest =>
            obtain ⟨rfl, HX, HS, HBX⟩ := hcut
            generalize wc = w5 at *
            have hl5 : (LdF (.pointer (some ⟨r, 0, none⟩))).run Tryz.prog w5.drew = .ok (.agg #[.string ⟨#[102]⟩, .int .i64 1, .slice D1 (2 * i) e1]) w5.drew := file_load3 HX.out.drew
            have hl6 : ∀ o o', (LdF (.pointer (some ⟨r, 0, none⟩))).run Tryz.prog ((w5.alloc o).alloc o').drew = .ok (.agg #[.string ⟨#[102]⟩, .int .i64 1, .slice D1 (2 * i) e1]) ((w5.alloc o).alloc o').drew := fun o o' => file_load3 ((HX.out.alloc o).alloc o').drew
            have hl7 : ∀ o, (LdF (.pointer (some ⟨r, 0, none⟩))).run Tryz.prog (w5.alloc o).drew = .ok (.agg #[.string ⟨#[102]⟩, .int .i64 1, .slice D1 (2 * i) e1]) (w5.alloc o).drew := fun o => file_load3 (HX.out.alloc o).drew
            go_upto_region 15 with fail
            go_cut [15, 16] (fun s15 s16 wx => ∃ g1 g2, s15 = .pointer (some ⟨g1, 0, none⟩) ∧ s16 = .pointer (some ⟨g2, 0, none⟩) ∧ Hid (g1 ≠ g2 ∧ r + 1 ≤ g1 ∧ r + 1 ≤ g2) ∧ Hid (Blk wx g1 41 #[.string ⟨#[102]⟩, .int .i64 1, .slice D1 (2 * i) e1]) ∧ Hid (Blk wx g2 41 #[.string ⟨#[102]⟩, .int .i64 1, .slice D1 (2 * i) e1]) ∧ Hid (wx.heap.size = r + 3) ∧ Hid (Below (r + 1) w5 wx))
            case first =>
              have h5 := HS.out
              have y1 : Blk ((w5.alloc (.cells #[.string ⟨#[102]⟩, .int .i64 1, .slice D1 (2 * i) e1] 41)).alloc (.cells #[.string ⟨#[102]⟩, .int .i64 1, .slice D1 (2 * i) e1] 41)).drew (r + 1) 41 #[.string ⟨#[102]⟩, .int .i64 1, .slice D1 (2 * i) e1] := (blk_new_at _ _ _ _ h5).alloc _
              have y2 : Blk ((w5.alloc (.cells #[.string ⟨#[102]⟩, .int .i64 1, .slice D1 (2 * i) e1] 41)).alloc (.cells #[.string ⟨#[102]⟩, .int .i64 1, .slice D1 (2 * i) e1] 41)).drew (r + 2) 41 #[.string ⟨#[102]⟩, .int .i64 1, .slice D1 (2 * i) e1] := blk_new_at _ _ _ _ (size_at _ _ _ h5)
              have y3 : ((w5.alloc (.cells #[.string ⟨#[102]⟩, .int .i64 1, .slice D1 (2 * i) e1] 41)).alloc (.cells #[.string ⟨#[102]⟩, .int .i64 1, .slice D1 (2 * i) e1] 41)).drew.heap.size = r + 3 := size_at _ _ _ (size_at _ _ _ h5)
              have y4 : Below (r + 1) w5 ((w5.alloc (.cells #[.string ⟨#[102]⟩, .int .i64 1, .slice D1 (2 * i) e1] 41)).alloc (.cells #[.string ⟨#[102]⟩, .int .i64 1, .slice D1 (2 * i) e1] 41)).drew := ((below_at _ h5).trans ((below_at _ (size_at _ _ _ h5)).mono (Nat.le_succ _))).drew
              have HY := Lib.hid (And.intro y1 (And.intro y2 (And.intro y3 y4)))
              clear y1 y2 y3 y4
              go_region
              all_goals
                go_wp2_with fail
                go_meet
                first
                  | exact ⟨r + 1, r + 2, rfl, rfl, Lib.hid ⟨by omega, by omega, by omega⟩, Lib.hid HY.out.1, Lib.hid HY.out.2.1, Lib.hid HY.out.2.2.1, Lib.hid HY.out.2.2.2⟩
                  | exact ⟨r + 2, r + 1, rfl, rfl, Lib.hid ⟨by omega, by omega, by omega⟩, Lib.hid HY.out.2.1, Lib.hid HY.out.1, Lib.hid HY.out.2.2.1, Lib.hid HY.out.2.2.2⟩
            case rest =>
              obtain ⟨g1, g2, rfl, rfl, HGG, H1, H2, HS6, HB6⟩ := hcut
              clear hl5 hl6 hl7
              generalize wc = w6 at *
              have c0 := H1.out.cell 0
              have z0 := H1.out.frozen 0
              have hx1 : Blk (w6.setCell ⟨g1, 0, none⟩ (.string ⟨p.toArray⟩)) g1 41 #[.string ⟨p.toArray⟩, .int .i64 1, .slice D1 (2 * i) e1] := H1.out.set_ 0 _
              have hx2 : Blk (w6.setCell ⟨g1, 0, none⟩ (.string ⟨p.toArray⟩)) g2 41 #[.string ⟨#[102]⟩, .int .i64 1, .slice D1 (2 * i) e1] := H2.out.far (p := ⟨g1, 0, none⟩) (Ne.symm HGG.out.1) _
              have c2 := hx2.cell 2
              have z2 := hx2.frozen 2
              simp only [List.getElem?_toArray, List.getElem?_cons_zero, List.getElem?_cons_succ] at c0 c2
              go_upto_region 19 with fail
              have hg1 : g1 < r + 3 := HS6.out ▸ H1.out.lt
              have hg2 : g2 < r + 3 := HS6.out ▸ H2.out.lt
              have hrg1 : r ≤ g1 := by have := HGG.out.2.1; omega
              have hrg2 : r ≤ g2 := by have := HGG.out.2.2; omega
              have hgr1 : r ≠ g1 := by have := HGG.out.2.1; omega
              have hgr2 : r ≠ g2 := by have := HGG.out.2.2; omega
              have hs9 : ((w6.setCell ⟨g1, 0, none⟩ (.string ⟨p.toArray⟩)).setCell ⟨g2, 2, none⟩ (.slice D2 m e2)).heap.size = r + 3 := by simpa using HS6.out
              have hx0 := (HX.out.below HB6.out (Nat.lt_succ_self r))
              have G0 := Lib.hid (((hx0.far (p := ⟨g1, 0, none⟩) hgr1 (.string ⟨p.toArray⟩)).far (p := ⟨g2, 2, none⟩) hgr2 (.slice D2 m e2)).alloc (.cells #[.string ⟨p.toArray⟩, .int .i64 1, .slice D2 m e2] 41))
              have G1 := Lib.hid ((hx1.far (p := ⟨g2, 2, none⟩) HGG.out.1 (.slice D2 m e2)).alloc (.cells #[.string ⟨p.toArray⟩, .int .i64 1, .slice D2 m e2] 41))
              have G2 := Lib.hid (show Blk _ g2 41 #[.string ⟨#[102]⟩, .int .i64 1, .slice D2 m e2] from (hx2.set_ 2 (.slice D2 m e2)).alloc (.cells #[.string ⟨p.toArray⟩, .int .i64 1, .slice D2 m e2] 41))
              have G3 := Lib.hid (blk_new_at _ 41 #[.string ⟨p.toArray⟩, .int .i64 1, .slice D2 m e2] _ hs9)
              have GS := Lib.hid (size_at _ (.cells #[.string ⟨p.toArray⟩, .int .i64 1, .slice D2 m e2] 41) _ hs9)
              have GB := Lib.hid (show Below r wr (((w6.setCell ⟨g1, 0, none⟩ (.string ⟨p.toArray⟩)).setCell ⟨g2, 2, none⟩ (.slice D2 m e2)).alloc (.cells #[.string ⟨p.toArray⟩, .int .i64 1, .slice D2 m e2] 41)) from ((((HBX.out.trans (HB6.out.mono (Nat.le_succ r))).setCell (p := ⟨g1, 0, none⟩) hrg1 _).setCell (p := ⟨g2, 2, none⟩) hrg2 _).alloc (by rw [hs9]; omega) _))
              rw [HS6.out]
              clear c0 z0 hx1 hx2 c2 z2 hs9 hx0 HX HS HBX H1 H2 HS6 HB6
              generalize ((w6.setCell ⟨g1, 0, none⟩ (.string ⟨p.toArray⟩)).setCell ⟨g2, 2, none⟩ (.slice D2 m e2)).alloc (.cells #[.string ⟨p.toArray⟩, .int .i64 1, .slice D2 m e2] 41) = w9 at *
              go_upto_if 81 with fail
              go_cut [81] (fun _ wx => ∃ DY cY, Hid (Blk wx r 41 (fileC (mvF i) D1 e1)) ∧ Hid (Blk wx g1 41 (fileC (mvX p i) D1 e1)) ∧ Hid (Blk wx g2 41 (fileC (mvY kind K i) DY cY)) ∧ Hid (Blk wx (r + 3) 41 (fileC (mvW p kind K i) DY cY)) ∧ Hid (Reads wr r 1 DY (mvY kind K i).d.length ((mvY kind K i).d.map byteV) ∧ (mvY kind K i).d.length ≤ cY ∧ cY ≤ maxLen) ∧ Hid (wx.heap.size = r + 4) ∧ Hid (Below r wr wx))
              case first =>
                have eF : fileC (mvF i) D1 e1 = #[.string ⟨#[102]⟩, .int .i64 1, .slice D1 (2 * i) e1] := by unfold fileC mvF; rw [mvB_len]; rfl
                have eX : fileC (mvX p i) D1 e1 = #[.string ⟨p.toArray⟩, .int .i64 1, .slice D1 (2 * i) e1] := by unfold fileC mvX; rw [mvB_len]; rfl
                cases kind with
                | false =>
                  have eY : fileC (mvY false K i) D2 e2 = #[.string ⟨#[102]⟩, .int .i64 1, .slice D2 m e2] := by rw [HM.out]; rfl
                  have eW : fileC (mvW p false K i) D2 e2 = #[.string ⟨p.toArray⟩, .int .i64 1, .slice D2 m e2] := by rw [HM.out]; rfl
                  have HE := Lib.hid (And.intro eF (And.intro eX (And.intro eY eW)))
                  have hmy : (mvY false K i).d = mvC K i := rfl
                  have HD := Lib.hid (show Reads wr r 1 D2 (mvY false K i).d.length ((mvY false K i).d.map byteV) ∧ (mvY false K i).d.length ≤ e2 ∧ e2 ≤ maxLen from ⟨hr ▸ HR2.out, by rw [hmy, ← HM.out]; exact HC.out.2⟩)
                  clear eF eX eY eW hmy
                  go_wp2_with fail
                  go_meet
                  exact ⟨D2, e2, Lib.hid (HE.out.1 ▸ G0.out), Lib.hid (HE.out.2.1 ▸ G1.out), Lib.hid (HE.out.2.2.1 ▸ G2.out), Lib.hid (HE.out.2.2.2 ▸ G3.out), HD, GS, GB⟩
                | true =>
                  have eY : fileC (mvY true K i) D1 e1 = #[.string ⟨#[102]⟩, .int .i64 2, .slice D1 (2 * i) e1] := by show #[strC [102], Value.int .i64 2, .slice D1 (mvB i).length e1] = _; rw [mvB_len]; rfl
                  have eW : fileC (mvW p true K i) D1 e1 = #[.string ⟨p.toArray⟩, .int .i64 2, .slice D1 (2 * i) e1] := by show #[strC p, Value.int .i64 2, .slice D1 (mvB i).length e1] = _; rw [mvB_len]; rfl
                  have HE := Lib.hid (And.intro eF (And.intro eX (And.intro eY eW)))
                  have hmy : (mvY true K i).d = mvB i := rfl
                  have HD := Lib.hid (show Reads wr r 1 D1 (mvY true K i).d.length ((mvY true K i).d.map byteV) ∧ (mvY true K i).d.length ≤ e1 ∧ e1 ≤ maxLen from ⟨hr ▸ HR1.out, by rw [hmy, mvB_len]; exact HC.out.1⟩)
                  have hne : g2 ≠ r + 3 := by omega
                  have v := Value.slice D1 (2 * i) e1
                  have a1 : Blk (w9.setCell ⟨g2, 2, none⟩ (.slice D1 (2 * i) e1)) g2 41 #[.string ⟨#[102]⟩, .int .i64 1, .slice D1 (2 * i) e1] := G2.out.set_ 2 _
                  have b1 : Blk (w9.setCell ⟨g2, 2, none⟩ (.slice D1 (2 * i) e1)) (r + 3) 41 #[.string ⟨p.toArray⟩, .int .i64 1, .slice D2 m e2] := G3.out.far (p := ⟨g2, 2, none⟩) (Ne.symm hne) _
                  have a2 := a1.far (p := ⟨r + 3, 2, none⟩) hne (.slice D1 (2 * i) e1)
                  have b2 : Blk ((w9.setCell ⟨g2, 2, none⟩ (.slice D1 (2 * i) e1)).setCell ⟨r + 3, 2, none⟩ (.slice D1 (2 * i) e1)) (r + 3) 41 #[.string ⟨p.toArray⟩, .int .i64 1, .slice D1 (2 * i) e1] := b1.set_ 2 _
                  have a3 : Blk (((w9.setCell ⟨g2, 2, none⟩ (.slice D1 (2 * i) e1)).setCell ⟨r + 3, 2, none⟩ (.slice D1 (2 * i) e1)).setCell ⟨g2, 1, none⟩ (.int .i64 2)) g2 41 #[.string ⟨#[102]⟩, .int .i64 2, .slice D1 (2 * i) e1] := a2.set_ 1 _
                  have b3 := b2.far (p := ⟨g2, 1, none⟩) (Ne.symm hne) (.int .i64 2)
                  have a4 := a3.far (p := ⟨r + 3, 1, none⟩) hne (.int .i64 2)
                  have b4 : Blk ((((w9.setCell ⟨g2, 2, none⟩ (.slice D1 (2 * i) e1)).setCell ⟨r + 3, 2, none⟩ (.slice D1 (2 * i) e1)).setCell ⟨g2, 1, none⟩ (.int .i64 2)).setCell ⟨r + 3, 1, none⟩ (.int .i64 2)) (r + 3) 41 #[.string ⟨p.toArray⟩, .int .i64 2, .slice D1 (2 * i) e1] := b3.set_ 1 _
                  have y1 := G2.out.cell 2
                  have y2 := G2.out.frozen 2
                  have y3 := b1.cell 2
                  have y4 := b1.frozen 2
                  have y5 := a2.cell 1
                  have y6 := a2.frozen 1
                  have y7 := b3.cell 1
                  have y8 := b3.frozen 1
                  simp only [List.getElem?_toArray, List.getElem?_cons_zero, List.getElem?_cons_succ] at y1 y3 y5 y7
                  have A4 := Lib.hid a4
                  have B4 := Lib.hid b4
                  clear eF eX eY eW hmy a1 b1 a2 b2 a3 b3 a4 b4 v
                  go_wp2_with fail
                  go_meet
                  exact ⟨D1, e1, Lib.hid (HE.out.1 ▸ ((((G0.out.far (p := ⟨g2, 2, none⟩) hgr2 _).far (p := ⟨r + 3, 2, none⟩) (show r ≠ r + 3 by omega) _).far (p := ⟨g2, 1, none⟩) hgr2 _).far (p := ⟨r + 3, 1, none⟩) (show r ≠ r + 3 by omega) _)), Lib.hid (HE.out.2.1 ▸ ((((G1.out.far (p := ⟨g2, 2, none⟩) HGG.out.1 _).far (p := ⟨r + 3, 2, none⟩) (show g1 ≠ r + 3 by omega) _).far (p := ⟨g2, 1, none⟩) HGG.out.1 _).far (p := ⟨r + 3, 1, none⟩) (show g1 ≠ r + 3 by omega) _)), Lib.hid (HE.out.2.2.1 ▸ A4.out), Lib.hid (HE.out.2.2.2 ▸ B4.out), HD, Lib.hid (by simpa using GS.out), Lib.hid ((((GB.out.setCell (p := ⟨g2, 2, none⟩) hrg2 _).setCell (p := ⟨r + 3, 2, none⟩) (show r ≤ r + 3 by omega) _).setCell (p := ⟨g2, 1, none⟩) hrg2 _).setCell (p := ⟨r + 3, 1, none⟩) (show r ≤ r + 3 by omega) _)⟩
              case rest =>
                obtain ⟨DY, cY, F0, F1, F2, F3, FD, FS, FB⟩ := hcut
                clear G0 G1 G2 G3 GS GB HM HR2
                generalize wc = w10 at *
                have h10 := FS.out
                obtain ⟨FX, hFX⟩ : ∃ FX, fileC (mvX p i) D1 e1 = FX := ⟨_, rfl⟩
                obtain ⟨FY, hFY⟩ : ∃ FY, fileC (mvY kind K i) DY cY = FY := ⟨_, rfl⟩
                have x3 : FX.size = 3 := by rw [← hFX]; rfl
                have y3 : FY.size = 3 := by rw [← hFY]; rfl
                have lx : (LdF (.pointer (some ⟨g1, 0, none⟩))).run Tryz.prog w10.drew = .ok (.agg FX) w10.drew := hFX ▸ file_load F1.out.drew
                have ly : (LdF (.pointer (some ⟨g2, 0, none⟩))).run Tryz.prog w10.drew = .ok (.agg FY) w10.drew := hFY ▸ file_load F2.out.drew
                have lx2 : ∀ o, (LdF (.pointer (some ⟨g1, 0, none⟩))).run Tryz.prog (w10.alloc o).drew = .ok (.agg FX) (w10.alloc o).drew := fun o => hFX ▸ file_load (F1.out.alloc o).drew
                have ly2 : ∀ o, (LdF (.pointer (some ⟨g2, 0, none⟩))).run Tryz.prog (w10.alloc o).drew = .ok (.agg FY) (w10.alloc o).drew := fun o => hFY ▸ file_load (F2.out.alloc o).drew
                have bx : ∀ W, (SlB 1 #[(0, .agg FX)]).run Tryz.prog W = .ok (.slice (some ⟨W.heap.size, 0, none⟩) 1 1) (W.alloc (.cells FX 41)) := fun W => run_buildSlice1 elemFile zero_file rfl x3 (by omega) W
                have by_ : ∀ W, (SlB 1 #[(0, .agg FY)]).run Tryz.prog W = .ok (.slice (some ⟨W.heap.size, 0, none⟩) 1 1) (W.alloc (.cells FY 41)) := fun W => run_buildSlice1 elemFile zero_file rfl y3 (by omega) W
                have HFX := Lib.hid hFX
                have HFY := Lib.hid hFY
                clear hFX hFY x3 y3
                go_upto_region 22 with fail
                go_cut [18, 19] (fun s18 s19 wx => ∃ a1 a2, s18 = .slice (some ⟨a1, 0, none⟩) 1 1 ∧ s19 = .slice (some ⟨a2, 0, none⟩) 1 1 ∧ Hid (Blk wx a1 41 FX) ∧ Hid (Blk wx a2 41 FY) ∧ Hid (wx.heap.size = r + 6) ∧ Hid (Below (r + 4) w10 wx))
                case first =>
                  go_region_law (fail)
                  all_goals
                    go_wp2_with fail
                    go_meet
                    first
                      | exact ⟨r + 4, r + 5, rfl, rfl, Lib.hid ((blk_new_at w10 _ _ _ h10).alloc _), Lib.hid (blk_new_at (w10.alloc _) _ _ _ (size_at w10 _ _ h10)), Lib.hid (size_at (w10.alloc _) _ _ (size_at w10 _ _ h10)), Lib.hid (((below_at (W := w10) _ h10).trans ((below_at _ (size_at w10 _ _ h10)).mono (Nat.le_succ _))).drew)⟩
                      | exact ⟨r + 5, r + 4, rfl, rfl, Lib.hid (blk_new_at (w10.alloc _) _ _ _ (size_at w10 _ _ h10)), Lib.hid ((blk_new_at w10 _ _ _ h10).alloc _), Lib.hid (size_at (w10.alloc _) _ _ (size_at w10 _ _ h10)), Lib.hid (((below_at (W := w10) _ h10).trans ((below_at _ (size_at w10 _ _ h10)).mono (Nat.le_succ _))).drew)⟩
                case rest =>
                  obtain ⟨a1, a2, rfl, rfl, X1, X2, XS, XB⟩ := hcut
                  clear lx ly lx2 ly2 bx by_ h10
                  generalize wc = w11 at *
                  have HXL := Lib.hid (show p.length ≤ 1000000 from by
                    rcases fileE_cases (mvX p i) with ⟨q, _⟩ | ⟨_, ⟨q, _⟩ | ⟨_, ⟨q, _⟩ | ⟨_, q⟩⟩⟩
                    · exfalso
                      have : (mvX p i).k = 1 := rfl
                      omega
                    · have q : (rnP p).length = 0 := q
                      rw [HRE.out] at q
                      have := HT.out.1
                      omega
                    · have q : 65536 < (mvB i).length := q
                      rw [mvB_len] at q
                      omega
                    · exact fileE_short q)
                  have hB11 : Below r wr w11 := FB.out.trans (XB.out.mono (by omega))
                  have hR1 : Reads w11 r 1 D1 (mvX p i).d.length ((mvX p i).d.map byteV) := (show Reads wr r 1 D1 (mvB i).length ((mvB i).map byteV) from hr ▸ HR1.out).below hB11
                  have hR2 := FD.out.1.below hB11
                  have hr6 : r ≤ w11.heap.size := by rw [XS.out]; omega
                  have hcx : (mvX p i).d.length ≤ e1 ∧ e1 ≤ maxLen := by
                    show (mvB i).length ≤ e1 ∧ _
                    rw [mvB_len]; exact HC.out.1
                  have fx : FI w11 w11.heap.size (some ⟨a1, 0, none⟩) [mvX p i] := fi_one (HFX.out ▸ X1.out) hR1 hr6 hcx.1 hcx.2
                  have fy : FI w11 w11.heap.size (some ⟨a2, 0, none⟩) [mvY kind K i] := fi_one (HFY.out ▸ X2.out) hR2 hr6 FD.out.2.1 FD.out.2.2
                  have htb := mv_table (dst := p) (kind := kind) (k := K) (n := i) (by omega) (by omega) (by rw [HRE.out]; exact HT.out.1) HT.out.2
                  have hyl : (mvY kind K i).p.length ≤ 1000000 := by cases kind <;> (show 1 ≤ 1000000; omega)
                  have HFF := Lib.hid (And.intro fx (And.intro fy (And.intro htb hyl)))
                  have F011 := Lib.hid (F0.out.below XB.out (show r < r + 4 by omega))
                  have F311 := Lib.hid (F3.out.below XB.out (show r + 3 < r + 4 by omega))
                  have HB11 := Lib.hid hB11
                  clear hB11 hR1 hR2 hcx fx fy htb hyl FS FB F0 F1 F2 F3 X1 X2 XB HFX HFY
                  go_upto_if 92 with fail
                  go_cut [18, 19] (fun s18 s19 wx => ∃ f1 f2 b1 b2, s18 = .slice (some ⟨b1, 0, none⟩) 1 1 ∧ s19 = .slice (some ⟨b2, 0, none⟩) 1 1 ∧ Hid (FI w11 w11.heap.size (some ⟨b1, 0, none⟩) [f1]) ∧ Hid (FI w11 w11.heap.size (some ⟨b2, 0, none⟩) [f2]) ∧ Hid (treemergeP [mvF i] [f1] [f2] = .ok ([mvW p kind K i], []) ∧ f1.p.length ≤ 1000000 ∧ f2.p.length ≤ 1000000) ∧ w11 = wx)
                  case first =>
                    cases swap with
                    | false =>
                      go_wp2_with fail
                      go_meet
                      exact ⟨_, _, a1, a2, rfl, rfl, Lib.hid HFF.out.1, Lib.hid HFF.out.2.1, Lib.hid ⟨HFF.out.2.2.1.1, HXL.out, HFF.out.2.2.2⟩, rfl⟩
                    | true =>
                      go_wp2_with fail
                      go_meet
                      exact ⟨_, _, a2, a1, rfl, rfl, Lib.hid HFF.out.2.1, Lib.hid HFF.out.1, Lib.hid ⟨HFF.out.2.2.1.2, HFF.out.2.2.2, HXL.out⟩, rfl⟩
                  case rest =>
                    obtain ⟨f1, f2, b1, b2, rfl, rfl, Z1, Z2, Z3, rfl⟩ := hcut
                    clear HFF
                    have h11 := XS.out
                    have hBa : Below (r + 6) w11 (w11.alloc (.cells (fileC (mvF i) D1 e1) 41)) := below_at _ h11
                    have hsz : (w11.alloc (.cells (fileC (mvF i) D1 e1) 41)).heap.size = r + 7 := size_at _ _ _ h11
                    have hzr : z ≤ r := by rw [← hr, ← hz]; exact HZR.out.size
                    have hzw : Below z w w11 := HZR.out.trans (HB11.out.mono hzr)
                    have f0 : FI (w11.alloc (.cells (fileC (mvF i) D1 e1) 41)) (w11.alloc (.cells (fileC (mvF i) D1 e1) 41)).heap.size (some ⟨r + 6, 0, none⟩) [mvF i] := fi_one (blk_new_at _ _ _ _ h11) (((show Reads wr r 1 D1 (mvB i).length ((mvB i).map byteV) from hr ▸ HR1.out).below HB11.out).below (hBa.mono (by omega))) (by rw [hsz]; omega) (by show (mvB i).length ≤ e1; rw [mvB_len]; exact HC.out.1.1) HC.out.1.2
                    have hm := merge_comes (b := [mvF i]) (o := [f1]) (t := [f2]) (x := [mvW p kind K i]) (v := []) (some ⟨r + 6, 0, none⟩) (some ⟨b1, 0, none⟩) (some ⟨b2, 0, none⟩) 1 1 1 _ _ (Nat.le_refl _) f0 ((Z1.out.below (h11 ▸ hBa)).more (by simp)) ((Z2.out.below (h11 ▸ hBa)).more (by simp)) (HV.out.below (hz.symm ▸ (hzw.trans (hBa.mono (by omega)))) HV.out.pos) (by intro f hf; rw [List.mem_singleton] at hf; subst hf; show 1 ≤ 1000000; omega) (by intro f hf; rw [List.mem_singleton] at hf; subst hf; exact Z3.out.2.1) (by intro f hf; rw [List.mem_singleton] at hf; subst hf; exact Z3.out.2.2) Z3.out.1
                    have HMM := Lib.hid (show Calls Tryz.prog 16 #[.slice (some ⟨r + 6, 0, none⟩) 1 1, .slice (some ⟨b1, 0, none⟩) 1 1, .slice (some ⟨b2, 0, none⟩) 1 1] (w11.alloc (.cells (fileC (mvF i) D1 e1) 41)) (MergeOk [mvW p kind K i] [] (w11.alloc (.cells (fileC (mvF i) D1 e1) 41))) from hm)
                    have HBA := Lib.hid (And.intro hBa hsz)
                    have HZW := Lib.hid hzw
                    have hl11 : (LdF (.pointer (some ⟨r, 0, none⟩))).run Tryz.prog w11 = .ok (.agg (fileC (mvF i) D1 e1)) w11 := file_load F011.out
                    clear hm f0 hBa hsz hzw Z1 Z2 Z3 F011 HR1 HC
                    go_upto_region 25 with fail
                    go_cut [20, 21, 22] (fun s20 s21 s22 wx => ∃ Rr rc V vc, s20 = .slice Rr 1 rc ∧ s21 = .slice V 0 vc ∧ s22 = .int .i64 0 ∧ Hid (FI wx wx.heap.size Rr [mvW p kind K i]) ∧ Hid (Below (r + 6) w11 wx))
                    case first =>
                      go_wp2_with (first
                        | (refine wpList_buildSlice1 rfl elemFile rfl zero_file rfl rfl (by omega) rfl ?_)
                        | (go_at_call 16; refine HMM.out.mono ?_; rintro _ w13 ⟨Rr, rc, V, vc, rfl, hf, _, hb⟩; have HF13 := Lib.hid hf; have HB13 := Lib.hid (HBA.out.1.trans (hb.mono (by rw [HBA.out.2]; omega))); clear hf hb))
                      go_meet
                      exact ⟨Rr, rc, V, vc, rfl, rfl, rfl, HF13, HB13⟩
                    case rest =>
                      obtain ⟨Rr, rc, V, vc, rfl, rfl, rfl, HF13, HB13⟩ := hcut
                      clear HMM HBA hl11
                      generalize wc = w13 at *
                      have hd13 : Below w13.heap.size w13 w13.drew := (Below.refl _ w13).drew
                      obtain ⟨g5, o5, DA, dc, eA, _, hld, _, _, _, _, _, r1⟩ := (HF13.out.below hd13).at_ (k := 0) rfl
                      subst eA
                      rw [Nat.zero_mul, Nat.add_zero] at hld
                      have l1 : (LdF (.pointer (some ⟨g5, o5, none⟩))).run Tryz.prog w13.drew = .ok (.agg (fileC (mvW p kind K i) DA dc)) w13.drew := hld
                      have l2 : (LdF (.pointer (some ⟨r + 3, 0, none⟩))).run Tryz.prog w13.drew = .ok (.agg (fileC (mvW p kind K i) DY cY)) w13.drew := file_load (F311.out.below HB13.out (by omega)).drew
                      have hwy : (mvW p kind K i).d = (mvY kind K i).d := by cases kind <;> rfl
                      have hs13 : r + 6 ≤ w13.heap.size := by rw [← h11]; exact HB13.out.size
                      have hrY : Reads w13.drew w13.heap.size 1 DY (mvW p kind K i).d.length ((mvW p kind K i).d.map byteV) := by
                        rw [hwy]
                        exact (((FD.out.1.below HB11.out).below (HB13.out.mono (by omega))).below (hd13.mono (by omega))).more (by omega)
                      have hsm := same_any (mvW p kind K i) (mvW p kind K i) DA DY dc cY w13.heap.size w13.drew (Nat.le_refl _) r1 hrY
                      rw [sameB_eq, decide_eq_true (rfl : mvW p kind K i = mvW p kind K i)] at hsm
                      have HSM := Lib.hid hsm
                      have HBL := Lib.hid (show Below z w w13.drew from HZW.out.trans ((HB13.out.mono (by omega)).trans (hd13.mono (by omega))))
                      have HZ13 := Lib.hid (show z ≤ w13.drew.heap.size from by show z ≤ w13.heap.size; omega)
                      clear hld hd13 r1 hwy hs13 hrY hsm HF13 HB13 FD HB11 HZW hzr h11 F311
                      go_upto_region 26 with fail
                      refine wp_region_still_tail 17 (by kernel_rfl) (by kernel_rfl) ?_; simp only [List.take_succ_cons, List.take_zero, List.drop_succ_cons, List.drop_zero]; repeat (first | ((with_reducible refine wpStill_step (fun K hK => ?_)); go_simp; with_reducible refine hK _ ?_; clear hK K) | ((with_reducible refine wpStill_skip ?_ ?_); (focus rfl)))
                      (with_reducible refine wpStill_nil ?_); change wpList _ _ _ _ _ w13.drew
                      go_wp2_with (go_at_call 26; (with_reducible refine HSM.out.mono ?_); rintro _ w14 ⟨rfl, hb14⟩; have HB14 := Lib.hid (HBL.out.trans (hb14.mono HZ13.out)); clear hb14)
                      go_ret
                      exact ⟨by simp, HB14.out⟩
end Go.Proofs.YteeeehfnldkjlaaGreatDoor
