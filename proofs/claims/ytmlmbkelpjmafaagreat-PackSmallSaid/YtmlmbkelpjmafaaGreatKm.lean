/-
  Contract of pack.Build at blobs that are alike but for the last byte, whose Ids are unlike. No statement of the seat is proved here.
-/
import Derived.Test.YtmlmbkelpjmafaaGreatKl
namespace Go.Proofs.YtmlmbkelpjmafaaGreat
open Go.RowKit Go.Shelf
attribute [local go_sem ↓] ld_k st_k
set_option maxHeartbeats 8000000 in
set_option maxRecDepth 1000000 in
theorem build_any (u : List UInt8) (os : List Ob) (L : Option Addr) (cL : Nat) (w : World) (hI : ObI w w.heap.size u L os) (hnd : (os.map fun o => idU u o.x).Nodup) (hu : u.length ≤ 2000) (hu2 : os.length ≤ 1 ∨ 100 ≤ u.length) (hk : os.length < 40) :
    Calls Tryz.prog 7 #[.slice L os.length cL] w (BuildPost u os w) := by
  have HS := Lib.hid (sorted_any u os L cL w hI hnd hu hk)
  have HI := Lib.hid hI
  have HND := Lib.hid hnd
  have HU2 := Lib.hid hu2
  clear hI hnd hu2
  obtain ⟨n, hn⟩ : ∃ n, u.length + 1 = n := ⟨_, rfl⟩
  obtain ⟨N, hN⟩ : ∃ N, os.length = N := ⟨_, rfl⟩
  obtain ⟨z, hz⟩ : ∃ z, w.heap.size = z := ⟨_, rfl⟩
  have HP := Lib.hid (show BuildPost u os w = fun r w' => ∃ A c xs, r = .returned (.tuple #[.slice A (packB u xs).length c, .int .i64 0]) ∧ xs.Perm (os.map Ob.x) ∧ xs.Pairwise (fun a b => (idU u a).1 < (idU u b).1) ∧ Own w' z 5 1 A (packB u xs).length c ((packB u xs).map bv) ∧ Below z w w' from by rw [← hz]; rfl)
  have HPS := Lib.hid (show SortedPost u os w = fun r w' => ∃ A c ks, r = .returned (.tuple #[.slice A N c, .int .i64 0]) ∧ ks.Perm (os.map (knOf u)) ∧ RiseK ks ∧ Own w' z 47 34 A N c (ks.flatMap (knL n)) ∧ Below z w w' from by rw [← hN, ← hz, ← hn]; rfl)
  rw [HP.out]
  rw [HPS.out, hN] at HS
  have HZ := Lib.hid hz
  have HN := Lib.hid hN
  have Hn := Lib.hid hn
  rw [hN]
  rw [hN] at hk
  clear hz hN hn HP HPS
  go_enter Tryz.func7, Tryz.ntmps7
  go_upto_region 4 with (go_at_call 11; (with_reducible refine HS.out.mono ?_); rintro _ w1 ⟨A4, c4, ks, rfl, hp', hr', ho', hb'⟩; have HPM := Lib.hid hp'; have HR := Lib.hid hr'; have HK1 := Lib.hid ho'; have BW1 := Lib.hid hb'; clear hp' hr' ho' hb')
  clear HS
  have hz1 : z ≤ w1.heap.size := by rw [← HZ.out]; exact BW1.out.size
  obtain ⟨xs, hxs⟩ : ∃ xs, ks.map Kn.x = xs := ⟨_, rfl⟩
  have hkl : ks.length = N := by rw [HPM.out.length_eq, List.length_map, HN.out]
  have hxl : xs.length = N := by rw [← hxs, List.length_map, hkl]
  have hids : ks.map Kn.id = xs.map (idU u) := by
    rw [← hxs, List.map_map]
    refine List.map_congr_left fun k hk => ?_
    obtain ⟨o, _, rfl⟩ := List.mem_map.1 ((HPM.out.mem_iff).1 hk)
    rfl
  have HXS := Lib.hid hxs
  have HKL := Lib.hid hkl
  have HXL := Lib.hid hxl
  have HIDS := Lib.hid hids
  clear hxs hkl hxl hids
  have hw8 : Blk (w1.alloc (.cells #[.int .u8 83, .int .u8 76, .int .u8 86, .int .u8 71, .int .u8 80, .int .u8 65, .int .u8 75, .int .u8 49] 5)) w1.heap.size 5 #[.int .u8 83, .int .u8 76, .int .u8 86, .int .u8 71, .int .u8 80, .int .u8 65, .int .u8 75, .int .u8 49] := Blk.new _ _ _
  have hm8 : (w1.alloc (.cells #[.int .u8 83, .int .u8 76, .int .u8 86, .int .u8 71, .int .u8 80, .int .u8 65, .int .u8 75, .int .u8 49] 5 (8, 9))).heap[w1.heap.size]? = some (.cells #[.int .u8 83, .int .u8 76, .int .u8 86, .int .u8 71, .int .u8 80, .int .u8 65, .int .u8 75, .int .u8 49] 5 (8, 9)) := heap_alloc_new _ _
  have HNU := Lib.hid (pnumberF_any ⟨w1.heap.size, 0, none⟩ wordB N N rfl (w1.alloc (.cells #[.int .u8 83, .int .u8 76, .int .u8 86, .int .u8 71, .int .u8 80, .int .u8 65, .int .u8 75, .int .u8 49] 5 (8, 9))) (Reads.of_cells (xs := wordB.map bv) hm8 rfl rfl) (by simp) (by simp [wordB]) (by simp [wordB]))
  rw [show wordB.length = 8 from rfl] at HNU
  obtain ⟨b2, hb2⟩ : ∃ b, wordB ++ be 4 N = b := ⟨_, rfl⟩
  have hl2 : b2.length ≤ 12 := by rw [← hb2]; simp [wordB, be_len]
  rw [hb2] at HNU
  have HB2 := Lib.hid hb2
  have kw : Kept z [5] [] w1 (w1.alloc (.cells #[.int .u8 83, .int .u8 76, .int .u8 86, .int .u8 71, .int .u8 80, .int .u8 65, .int .u8 75, .int .u8 49] 5 (8, 9))) := (Kept.refl _ _ _ _).alloc _
  have KW := Lib.hid kw
  have hzw : w1.heap.size ≤ (w1.alloc (.cells #[.int .u8 83, .int .u8 76, .int .u8 86, .int .u8 71, .int .u8 80, .int .u8 65, .int .u8 75, .int .u8 49] 5 (8, 9))).heap.size := by simp
  have hcv := conv_bb w1 #[.int .u8 83, .int .u8 76, .int .u8 86, .int .u8 71, .int .u8 80, .int .u8 65, .int .u8 75, .int .u8 49] 8 8 _ rfl
  rw [show (#[Value.int .u8 83, .int .u8 76, .int .u8 86, .int .u8 71, .int .u8 80, .int .u8 65, .int .u8 75, .int .u8 49] : Array Value).size = 8 from rfl] at hcv
  clear hb2 hw8 hm8 kw
  generalize hwm : w1.alloc (.cells #[.int .u8 83, .int .u8 76, .int .u8 86, .int .u8 71, .int .u8 80, .int .u8 65, .int .u8 75, .int .u8 49] 5 (8, 9)) = wm at *
  have HWM := Lib.hid hwm
  clear hwm
  go_upto_region 5 with (go_at_call 12; (with_reducible refine HNU.out.mono ?_); rintro _ w2 ⟨A2, c2, rfl, ho2', hk2'⟩; have HO2 := Lib.hid ho2'; have HK2 := Lib.hid hk2'; clear ho2' hk2')
  have hzm : z ≤ wm.heap.size := by omega
  have kk2 : Kept z [5] [] w1 w2 := KW.out.trans (HK2.out.mono hzm (by simp) (by simp))
  have OB2 := Lib.hid (HO2.out.mono hzm)
  have KS2 := Lib.hid (HK1.out.kept kk2 (by decide) (by simp))
  have BW2 := Lib.hid (BW1.out.trans (kk2.below (Nat.le_refl _) hz1 (by simp)))
  have hz2 : z ≤ w2.heap.size := Nat.le_trans hz1 kk2.size
  clear kk2 HO2 HK2 HK1 BW1 KW HNU hzm hzw hz1 hcv HWM
  obtain ⟨ids, hids⟩ : ∃ ids, ks.map Kn.id = ids := ⟨_, rfl⟩
  have HID := Lib.hid hids
  clear hids
  have hf0 : Blk (w2.alloc (.cells zFan 45)) w2.heap.size 45 zFan := Blk.new _ _ _
  have OB3 := Lib.hid (OB2.out.alloc (.cells zFan 45))
  have KS3 := Lib.hid (KS2.out.alloc (.cells zFan 45))
  have BW3 := Lib.hid (BW2.out.alloc hz2 (.cells zFan 45))
  have hz3 : z ≤ (w2.alloc (.cells zFan 45)).heap.size := by simp; omega
  have HF3 := Lib.hid hf0
  go_upto_region 6 with (refine wpList_allocAgg rfl rfl (zero_fan _) ?_)
  generalize hg7 : w2.heap.size = g7 at *
  generalize w2.alloc (.cells zFan 45) = w3 at *
  clear OB2 KS2 BW2 hf0 hg7
  go_wp2_with fail
  go_loopg [37] N (fun kx s37 wr => ∃ (k : Nat), s37 = .int .i64 k ∧ k ≤ N ∧ N - k ≤ kx ∧ Hid (Blk wr g7 45 ((fanL (ids.take k)).map nv).toArray) ∧ Hid (Own wr z 5 1 A2 b2.length c2 (b2.map bv)) ∧ Hid (Own wr z 47 34 A4 N c4 (ks.flatMap (knL n))) ∧ Hid (Below z w wr))
  case atStart => exact ⟨0, rfl, Nat.zero_le _, Nat.le_refl _, HF3, OB3, KS3, BW3⟩
  case round =>
    clear HF3 OB3 KS3 BW3
    obtain ⟨k, rfl, hkN, hkx, HF, OB, KS, BW⟩ := hrel
    have hzr : z ≤ wr.heap.size := by rw [← HZ.out]; exact BW.out.size
    by_cases hlt : k < N
    · have hltz : (k : Int) < (N : Int) := by omega
      obtain ⟨kn, hkn⟩ : ∃ kn, ks[k]? = some kn := ⟨_, List.getElem?_eq_getElem (by rw [HKL.out]; exact hlt)⟩
      obtain ⟨gk, rfl, hgk⟩ := KS.out.adrn (by omega)
      have hld : (LdK (.pointer (some ⟨gk, k * 34, none⟩))).run Tryz.prog wr = .ok (.agg (knL n kn).toArray) wr := by
        refine run_loadAt_cells wr _ _ Tryz.underlying47 rfl ?_ (fun j v hj => ?_)
        · rw [show (knL n kn).toArray.size = 34 by simp [knL_len]]
          exact info_kn
        · rw [add_at]
          exact KS.out.cells9 _ _ (flatn_at (knL_len n) ks k j kn hkn v (by simpa using hj))
      have hb0 : Blk (wr.alloc (.cells zKn 47)) wr.heap.size 47 zKn := Blk.new _ _ _
      go_upto_region 9 with (first | (refine wpList_allocAgg rfl rfl (zero_kn _) ?_) | (refine wpList_storeBlk rfl rfl (vs := (knL n kn).toArray) rfl rfl hb0 (by simp [knL_len, zKn, idL_len]) (by rw [show (knL n kn).toArray.size = 34 by simp [knL_len]]; exact info_kn) (by simpa using knL_one n kn) ?_; intro w5 hb5 hk5 hs5))
      have BW5 : Below z w w5 := (BW.out.alloc hzr _).trans (hk5.below (by simp; omega) (by unfold Only; intro i hi h; omega))
      have OB5 := Lib.hid ((OB.out.alloc (.cells zKn 47)).keepOnly hk5 hb0 (by decide))
      have KS5 := Lib.hid (KS.out.same (fun q _ hq _ => (hk5.block q (by simp; omega) (by unfold Only; omega)).trans (Below.heap_alloc wr _ q hq)))
      have hf5 := (HF.out.alloc (.cells zKn 47)).keep hk5 (by unfold Only; have := HF.out.lt; omega)
      have hz5 : z ≤ w5.heap.size := by rw [hs5]; simp; omega
      generalize wr.heap.size = g9 at *
      have HB5 := Lib.hid BW5
      clear BW5 hb0 hk5 hs5 BW OB KS hld
      obtain ⟨bb, rest, hbb⟩ : ∃ bb rest, kn.id.1 = bb :: rest := by
        have h32 := kn.id.2
        cases e : kn.id.1 with
        | nil => rw [e] at h32; simp at h32
        | cons x l => exact ⟨x, l, rfl⟩
      have c9 : w5.cell? ⟨g9, 0, none⟩ = some (.int .u8 (bb.toNat : Int)) := by
        rw [hb5.cell]
        simp [knL, idL, hbb, bv]
      have hfb : fst9 kn.id = bb.toNat := by unfold fst9; rw [hbb]; rfl
      have hidk : ids.take (k + 1) = ids.take k ++ [kn.id] := by
        rw [List.take_add_one]
        congr 1
        rw [← HID.out, List.getElem?_map, hkn]
        rfl
      have hlf : (fanL (ids.take k)).length = 256 := fanL_len _
      have hbl := bb.toNat_lt
      obtain ⟨v, hv⟩ : ∃ v, (fanL (ids.take k))[bb.toNat]? = some v := ⟨_, List.getElem?_eq_getElem (by rw [hlf]; omega)⟩
      have hvl : v ≤ 40 := by
        have := fanL_le (ids.take k) v (List.mem_of_getElem? hv)
        have h2 : (ids.take k).length ≤ k := List.length_take_le _ _
        omega
      have c7 : w5.cell? ⟨g7, bb.toNat, none⟩ = some (.int .i64 (v : Int)) := by
        rw [hf5.cell, List.getElem?_toArray, List.getElem?_map, hv]
        rfl
      have f7 := hf5.frozen bb.toNat
      have HST := Lib.hid (show ((fanL (ids.take k)).map nv).toArray.setIfInBounds bb.toNat (nv (v + 1)) = ((fanL (ids.take (k + 1))).map nv).toArray by
        rw [hidk, fanL_succ, hfb]
        unfold fanStep
        rw [List.getD_eq_getElem?_getD, hv]
        apply Array.ext'
        simp [List.map_set])
      have HF5 := Lib.hid hf5
      clear hf5 hv hlf hidk hfb hb5 hbb HF hkn
      have zb1 : (0 : Int) ≤ (bb.toNat : Int) := by omega
      have zb2 : (bb.toNat : Int) < 256 := by omega
      go_wp2_with fail
      go_roundg (N - (k + 1))
      case measure => omega
      case rel => exact ⟨k + 1, by go_num, by omega, Nat.le_refl _, Lib.hid (by rw [← HST.out]; exact HF5.out.set_ bb.toNat (nv (v + 1))), Lib.hid (OB5.out.setCell (p := ⟨g7, bb.toNat, none⟩) HF5.out (by decide) _), Lib.hid (KS5.out.setCell (p := ⟨g7, bb.toNat, none⟩) HF5.out (by decide) _), Lib.hid (HB5.out.setCell (by exact hz2) _)⟩
    · obtain rfl : k = N := by omega
      clear hlt
      obtain ⟨F, hF⟩ : ∃ F, fanL ids = F := ⟨_, rfl⟩
      have hidl : ids.length = k := by rw [← HID.out, List.length_map, HKL.out]
      have hfl : (fanL (ids.take k)).length = 256 := fanL_len _
      rw [List.take_of_length_le (by omega), hF] at HF hfl
      have hfle : ∀ v ∈ F, v ≤ 40 := fun v hv => by
        rw [← hF] at hv
        have := fanL_le ids v hv
        omega
      have HFV := Lib.hid (And.intro hF hidl)
      have HFL := Lib.hid hfl
      have HFE := Lib.hid hfle
      have hfz : (F.map nv).toArray.size = 256 := by simp [hfl]
      have hlf : (Instr.loadAt 45 (.pointer (some ⟨g7, 0, none⟩))).run Tryz.prog wr = .ok (.agg (F.map nv).toArray) wr :=
        run_loadAt_cells wr _ _ Tryz.underlying45 rfl (by rw [hfz]; exact info_fan) (fun j v hj => by rw [add_at, HF.out.cell, Nat.zero_add, ← hj]; simp)
      clear hF hidl hfl hfle hfz
      go_wp2_with (refine wpList_load rfl rfl rfl hlf ?_)
      clear hlf HF
      go_loopg [6, 10, 50] 256 (fun kx s6 s10 s50 wr => ∃ (i : Nat) (A6 : Option Addr) (c6 : Nat) (b : List UInt8), s50 = .int .i64 i ∧ s10 = .int .i64 ((F.take i).sum : Nat) ∧ s6 = .slice A6 b.length c6 ∧ i ≤ 256 ∧ 256 - i ≤ kx ∧ Hid (b = b2 ++ (cumL F i).flatMap (be 4)) ∧ Hid (Own wr z 5 1 A6 b.length c6 (b.map bv)) ∧ Hid (Own wr z 47 34 A4 k c4 (ks.flatMap (knL n))) ∧ Hid (Below z w wr))
      case atStart => exact ⟨0, A2, c2, b2, rfl, rfl, rfl, Nat.zero_le _, Nat.le_refl _, Lib.hid (by simp [cumL]), OB, KS, BW⟩
      case round =>
        clear OB KS BW hzr
        obtain ⟨i, A6, c6, b, rfl, rfl, rfl, hi, hix, HB, OB, KS, BW⟩ := hrel
        have hzr : z ≤ wr.heap.size := by rw [← HZ.out]; exact BW.out.size
        have hbl : b.length ≤ 1100 := by
          rw [HB.out, List.length_append, nums_len, cumL_len]
          omega
        by_cases hlt : i < 256
        · have hltz : (i : Int) < 256 := by omega
          obtain ⟨v, hv⟩ : ∃ v, F[i]? = some v := ⟨_, List.getElem?_eq_getElem (by rw [HFL.out]; exact hlt)⟩
          have hix : (Instr.index 45 (.agg (F.map nv).toArray) (.int .i64 (i : Int))).run Tryz.prog wr = .ok (.int .i64 (v : Int)) wr :=
            index_fan wr _ i hlt _ (by rw [List.getElem?_toArray, List.getElem?_map, hv]; rfl)
          have hsum : (F.take (i + 1)).sum = (F.take i).sum + v := by
            rw [List.take_add_one, hv, List.sum_append]
            simp
          have hsl : (F.take i).sum ≤ i * 40 := sum_le F 40 HFE.out i
          have hvl := HFE.out v (List.mem_of_getElem? hv)
          obtain ⟨m, hm⟩ : ∃ m, (F.take i).sum = m := ⟨_, rfl⟩
          have hm3 : (((F.take i).sum : Nat) : Int) = (m : Int) := by rw [hm]
          rw [hm3]
          have hml : m ≤ 10240 := by omega
          have HSU := Lib.hid (show (F.take (i + 1)).sum = m + v by rw [hsum, hm])
          have HNU := Lib.hid (pnum1 (base := z) b (m + v) ((m : Int) + (v : Int)) rfl wr OB.out hzr (by omega))
          obtain ⟨b9, hb9⟩ : ∃ b9, b ++ [m + v].flatMap (be 4) = b9 := ⟨_, rfl⟩
          rw [hb9] at HNU
          have HB9 := Lib.hid (show b9 = b2 ++ (cumL F (i + 1)).flatMap (be 4) by
            rw [← hb9, HB.out, cumL_succ, HSU.out]
            simp)
          clear hv hsum hsl hm hm3 hb9
          go_wp2_with (go_at_call 12; (with_reducible refine HNU.out.mono ?_); rintro _ w9 ⟨A9, c9, rfl, ho9, hk9, _⟩; have HO9 := Lib.hid ho9; have HK9 := Lib.hid hk9; clear ho9 hk9)
          go_roundg (256 - (i + 1))
          case measure => omega
          case rel => exact ⟨i + 1, A9, c9, b9, by go_num, by rw [HSU.out]; rfl, rfl, by omega, Nat.le_refl _, HB9, HO9, Lib.hid (KS.out.kept HK9.out (by decide) (by simp)), Lib.hid (BW.out.trans (HK9.out.below (Nat.le_refl _) hzr (by simp)))⟩
        · obtain rfl : i = 256 := by omega
          clear hlt
          go_wp2_with fail
          go_loopg [6, 63] k (fun kx s6 s63 wr => ∃ (i : Nat) (A7 : Option Addr) (c7 : Nat) (b7 : List UInt8), s63 = .int .i64 i ∧ s6 = .slice A7 b7.length c7 ∧ i ≤ k ∧ k - i ≤ kx ∧ Hid (b7 = b ++ (ids.take i).flatMap (·.1)) ∧ Hid (Own wr z 5 1 A7 b7.length c7 (b7.map bv)) ∧ Hid (Own wr z 47 34 A4 k c4 (ks.flatMap (knL n))) ∧ Hid (Below z w wr))
          case atStart => exact ⟨0, A6, c6, b, rfl, rfl, Nat.zero_le _, Nat.le_refl _, Lib.hid (by simp), OB, KS, BW⟩
          case round =>
            clear OB KS BW hzr
            obtain ⟨i, A7, c7, b7, rfl, rfl, hi, hix, HB7, OB, KS, BW⟩ := hrel
            have hzr : z ≤ wr.heap.size := by rw [← HZ.out]; exact BW.out.size
            have hbl7 : b7.length ≤ 2500 := by
              rw [HB7.out, List.length_append, idsB_len, List.length_take]
              omega
            by_cases hlt : i < k
            · have hltz : (i : Int) < (k : Int) := by omega
              obtain ⟨kn, hkn⟩ : ∃ kn, ks[i]? = some kn := ⟨_, List.getElem?_eq_getElem (by rw [HKL.out]; exact hlt)⟩
              obtain ⟨gk, rfl, hgk⟩ := KS.out.adrn (by omega)
              have hld : (LdK (.pointer (some ⟨gk, i * 34, none⟩))).run Tryz.prog wr = .ok (.agg (knL n kn).toArray) wr := by
                refine run_loadAt_cells wr _ _ Tryz.underlying47 rfl ?_ (fun j v hj => ?_)
                · rw [show (knL n kn).toArray.size = 34 by simp [knL_len]]
                  exact info_kn
                · rw [add_at]
                  exact KS.out.cells9 _ _ (flatn_at (knL_len n) ks i j kn hkn v (by simpa using hj))
              have hb0 : Blk (wr.alloc (.cells zKn 47)) wr.heap.size 47 zKn := Blk.new _ _ _
              go_upto_region 21 with (first | (refine wpList_allocAgg rfl rfl (zero_kn _) ?_) | (refine wpList_storeBlk rfl rfl (vs := (knL n kn).toArray) rfl rfl hb0 (by simp [knL_len, zKn, idL_len]) (by rw [show (knL n kn).toArray.size = 34 by simp [knL_len]]; exact info_kn) (by simpa using knL_one n kn) ?_; intro w5 hb5 hk5 hs5))
              have BW5 : Below z w w5 := (BW.out.alloc hzr _).trans (hk5.below (by simp; omega) (by unfold Only; intro i hi h; omega))
              have OB5 := Lib.hid ((OB.out.alloc (.cells zKn 47)).keepOnly hk5 hb0 (by decide))
              have KS5 := Lib.hid (KS.out.same (fun q _ hq _ => (hk5.block q (by simp; omega) (by unfold Only; omega)).trans (Below.heap_alloc wr _ q hq)))
              have hz5 : z ≤ w5.heap.size := by rw [hs5]; simp; omega
              have hg9 : wr.heap.size < w5.heap.size := by rw [hs5]; simp
              generalize wr.heap.size = g9 at *
              have HB5 := Lib.hid BW5
              have hrd := Lib.hid (show Reads w5 w5.heap.size 1 (some ⟨g9, 0, none⟩) 32 (kn.id.1.map bv) from ⟨by simp [kn.id.2], fun _ => ⟨_, rfl, by exact hg9, fun j v hj => by
                rw [add_at, hb5.cell, Nat.zero_add, List.getElem?_toArray]
                unfold knL idL
                rw [List.getElem?_append_left (by
                  rcases Nat.lt_or_ge j (kn.id.1.map bv).length with q | q
                  · exact q
                  · rw [List.getElem?_eq_none q] at hj; cases hj)]
                exact hj⟩⟩)
              have hidk : ids.take (i + 1) = ids.take i ++ [kn.id] := by
                rw [List.take_add_one]
                congr 1
                rw [← HID.out, List.getElem?_map, hkn]
                rfl
              have HB8 := Lib.hid (show b7 ++ kn.id.1 = b ++ (ids.take (i + 1)).flatMap (·.1) by
                rw [hidk, HB7.out]
                simp)
              have hm1 : b7.length + 32 ≤ maxLen := by unfold maxLen; omega
              have hm2 : (b7.length + 32) * 1 ≤ 140737488355328 := by omega
              clear BW5 hb0 hk5 hs5 BW OB KS hld hkn hidk hg9 hb5
              go_wp2_with (refine wpList_append_sl rfl elemU8 rfl rfl OB5.out rfl hrd.out (bvs_one _) hm1 hm2 hz5 ?_; intro A9 c9 w9 ho9 hk9)
              have HO9 := Lib.hid (show Own w9 z 5 1 A9 (b7 ++ kn.id.1).length c9 ((b7 ++ kn.id.1).map bv) by
                rw [List.length_append, kn.id.2, List.map_append]
                exact ho9)
              have HK9 := Lib.hid hk9
              clear ho9 hk9
              go_roundg (k - (i + 1))
              case measure => omega
              case rel => exact ⟨i + 1, A9, c9, b7 ++ kn.id.1, by go_num, by rw [List.length_append, kn.id.2], by omega, Nat.le_refl _, HB8, HO9, Lib.hid (KS5.out.kept HK9.out (by decide) (by simp)), Lib.hid (HB5.out.trans (HK9.out.below (Nat.le_refl _) hz5 (by simp)))⟩
            · obtain rfl : i = k := by omega
              clear hlt
              have hbH : b7 = headB ids := by
                rw [HB7.out, HB.out, ← HB2.out, List.take_of_length_le (by rw [HFV.out.2]; exact Nat.le_refl _), ← HFV.out.1]
                unfold headB
                rw [HFV.out.2]
                simp
              have HBH := Lib.hid hbH
              clear hbH
              have hnid : (xs.map (idU u)).Nodup := by
                rw [← HIDS.out]
                have hp := HPM.out.map Kn.id
                rw [List.map_map] at hp
                exact hp.nodup_iff.2 HND.out
              have hnx : xs.Nodup := (List.pairwise_map.1 hnid).imp fun h e => h (by rw [e])
              have hKI : KnI wr wr.heap.size u A4 ks := by
                refine ⟨?_, fun kk hkk => ?_, fun kk hkk => ?_⟩
                · rw [HKL.out, Hn.out]
                  exact KS.out.reads
                · obtain ⟨o, ho, rfl⟩ := List.mem_map.1 ((HPM.out.mem_iff).1 hkk)
                  exact ((HI.out.body o ho).below (by rw [HZ.out]; exact BW.out)).more BW.out.size
                · obtain ⟨o, ho, rfl⟩ := List.mem_map.1 ((HPM.out.mem_iff).1 hkk)
                  exact HI.out.cap o ho
              have hu9 : ks.length ≤ 1 ∨ 100 ≤ u.length := by rw [HKL.out, ← HN.out]; exact HU2.out
              have HE := Lib.hid (entries_any u ks A4 c4 wr hKI (by rw [HXS.out]; exact hnx) hu hu9 (by rw [HKL.out]; omega))
              rw [HKL.out, HXS.out] at HE
              clear hKI hnid hnx hu9
              go_upto_region 24 with (go_at_call 13; (with_reducible refine HE.out.mono ?_); rintro _ w4 ⟨Ar, cr, At, ct, rfl, hor, hot, hbe⟩; have HOR := Lib.hid hor; have HOT := Lib.hid hot; have HBE := Lib.hid hbe; clear hor hot hbe)
              have BW4 := Lib.hid (BW.out.trans (HBE.out.mono hzr))
              have hz4 : z ≤ w4.heap.size := by rw [← HZ.out]; exact BW4.out.size
              have OB4 := Lib.hid (OB.out.kept (Kept.ofBelow (base := 0) (E := []) (G := []) HBE.out) (by simp) (by simp))
              obtain ⟨E, hE⟩ : ∃ E, entsTo u xs i = E := ⟨_, rfl⟩
              have hEl : E.length ≤ 90000 := by
                rw [← hE]
                have h1 := entsTo_len u xs i
                have : i * (u.length + 33) ≤ 40 * 2033 := Nat.mul_le_mul (by omega) (by omega)
                omega
              obtain ⟨T, hT⟩ : ∃ T, atsTo u xs i = T := ⟨_, rfl⟩
              have hTl : T.length = i := by rw [← hT, atsTo_len]
              have hTe : ∀ v ∈ T, v ≤ 90000 := fun v hv => by
                rw [← hT] at hv
                unfold atsTo at hv
                obtain ⟨j, hj, rfl⟩ := List.mem_map.1 hv
                have h1 := entsTo_len u xs j
                have hj' := List.mem_range.1 hj
                have : j * (u.length + 33) ≤ 40 * 2033 := Nat.mul_le_mul (by omega) (by omega)
                omega
              have HRD := Lib.hid (show Reads w4 w4.heap.size 1 Ar E.length (E.map bv) by rw [← hE]; exact HOR.out.reads)
              have HNB := Lib.hid (show ∀ a, Ar = some a → 0 < E.length → a.block < w4.heap.size ∧ NotB A7 b7.length c7 a.block from fun a ha h0 => by
                obtain ⟨g', e', hb'⟩ := HOR.out.adrn (by rw [hE]; exact h0)
                rw [ha] at e'
                injection e' with e'
                subst e'
                obtain ⟨_, q2, _⟩ := HOR.out.blockAt g' (by rw [ha]; simp [Value.ownBlock])
                exact ⟨q2, OB.out.notB (.inr hb')⟩)
              have OT4 := Lib.hid (show Own w4 z 3 1 At i ct (T.map nv) by rw [← hT]; exact HOT.out.mono hzr)
              have HE9 := Lib.hid hE
              have HT9 := Lib.hid hT
              have HTL := Lib.hid hTl
              have HTE := Lib.hid hTe
              obtain ⟨M, hM⟩ : ∃ M : Nat, 1036 + i * 36 = M := ⟨_, rfl⟩
              have hMz : (1036 : Int) + (i : Int) * 36 = (M : Int) := by omega
              have hMl : M ≤ 3000 := by omega
              have HM := Lib.hid hM
              rw [hE]
              clear hE hT hTl hTe HOR HOT HE HBE OB KS BW hM hzr
              go_wp2_with fail
              go_loopg [6, 83] i (fun kx s6 s83 wr => ∃ (j : Nat) (A8 : Option Addr) (c8 : Nat) (b8 : List UInt8), s83 = .int .i64 j ∧ s6 = .slice A8 b8.length c8 ∧ j ≤ i ∧ i - j ≤ kx ∧ Hid (b8 = b7 ++ ((T.map fun a => M + a).take j).flatMap (be 4)) ∧ Hid (Own wr z 5 1 A8 b8.length c8 (b8.map bv)) ∧ Hid (Own wr z 3 1 At i ct (T.map nv)) ∧ Hid (Below z w wr) ∧ Hid (∀ p, p < w4.heap.size → NotB A7 b7.length c7 p → wr.heap[p]? = w4.heap[p]? ∧ NotB A8 b8.length c8 p) ∧ w4.heap.size ≤ wr.heap.size)
              case atStart => exact ⟨0, A7, c7, b7, rfl, rfl, Nat.zero_le _, Nat.le_refl _, Lib.hid (by simp), OB4, OT4, BW4, Lib.hid (fun p _ h => ⟨rfl, h⟩), Nat.le_refl _⟩
              case round =>
                clear OB4 OT4 BW4 hz4
                obtain ⟨j, A8, c8, b8, rfl, rfl, hj, hjx, HB8, OB, OT, BW, HNB8, hsz⟩ := hrel
                have hzr : z ≤ wr.heap.size := by rw [← HZ.out]; exact BW.out.size
                have hbl8 : b8.length ≤ 3000 := by
                  rw [HB8.out, List.length_append, nums_len, List.length_take]
                  omega
                by_cases hlt : j < i
                · have hltz : (j : Int) < (i : Int) := by omega
                  obtain ⟨v, hv⟩ : ∃ v, T[j]? = some v := ⟨_, List.getElem?_eq_getElem (by rw [HTL.out]; exact hlt)⟩
                  have hvl := HTE.out v (List.mem_of_getElem? hv)
                  obtain ⟨gt, rfl, hgt⟩ := OT.out.adrn (by omega)
                  have hct : wr.cell? ⟨gt, j, none⟩ = some (.int .i64 (v : Int)) := OT.out.cells9 j _ (by rw [List.getElem?_map, hv]; rfl)
                  have HNU := Lib.hid (pnum1 (base := z) b8 (M + v) ((M : Int) + (v : Int)) rfl wr OB.out hzr (by omega))
                  obtain ⟨b9, hb9⟩ : ∃ b9, b8 ++ [M + v].flatMap (be 4) = b9 := ⟨_, rfl⟩
                  rw [hb9] at HNU
                  have HB9 := Lib.hid (show b9 = b7 ++ ((T.map fun a => M + a).take (j + 1)).flatMap (be 4) by
                    rw [← hb9, HB8.out, List.take_add_one, List.getElem?_map, hv]
                    simp)
                  clear hv hb9
                  go_wp2_with (go_at_call 12; (with_reducible refine HNU.out.mono ?_); rintro _ w9 ⟨A9, c9, rfl, ho9, hk9, hn9⟩; have HO9 := Lib.hid ho9; have HK9 := Lib.hid hk9; have HN9 := Lib.hid hn9; clear ho9 hk9 hn9)
                  go_roundg (i - (j + 1))
                  case measure => omega
                  case rel => exact ⟨j + 1, A9, c9, b9, by go_num, rfl, by omega, Nat.le_refl _, HB9, HO9, Lib.hid (OT.out.kept HK9.out (by decide) (by simp)), Lib.hid (BW.out.trans (HK9.out.below (Nat.le_refl _) hzr (by simp))), Lib.hid (fun p hp hn => by
                      obtain ⟨q1, q2⟩ := HNB8.out p hp hn
                      obtain ⟨q3, q4⟩ := HN9.out p (by omega) q2
                      exact ⟨q3.trans q1, q4⟩), Nat.le_trans hsz HK9.out.size⟩
                · obtain rfl : j = i := by omega
                  clear hlt
                  have HRD8 := Lib.hid (show Reads wr w4.heap.size 1 Ar E.length (E.map bv) from by
                    rcases Nat.eq_zero_or_pos E.length with h0 | h0
                    · have := List.eq_nil_of_length_eq_zero h0
                      subst this
                      exact ⟨rfl, fun h => absurd h (by simp)⟩
                    · exact HRD.out.keptB fun a ha hb => (HNB8.out a.block hb (HNB.out a ha h0).2).1)
                  have hm1 : b8.length + E.length ≤ maxLen := by unfold maxLen; omega
                  have hm2 : (b8.length + E.length) * 1 ≤ 140737488355328 := by omega
                  go_upto_region 31 with (refine wpList_append_sl rfl elemU8 rfl rfl OB.out rfl HRD8.out (bvs_one E) hm1 hm2 hzr ?_; intro A9 c9 w9 ho9 hk9)
                  obtain ⟨b9, hb9⟩ : ∃ b9, b8 ++ E = b9 := ⟨_, rfl⟩
                  have hl9 : b8.length + E.length = b9.length := by rw [← hb9]; simp
                  have HO9 := Lib.hid (show Own w9 z 5 1 A9 b9.length c9 (b9.map bv) by rw [← hl9, ← hb9, List.map_append]; exact ho9)
                  have BW9 := Lib.hid (BW.out.trans (hk9.below (Nat.le_refl _) hzr (by simp)))
                  have hz9 : z ≤ w9.heap.size := Nat.le_trans hzr hk9.size
                  have hbl9 : b9.length ≤ 100000 := by omega
                  have HBB := Lib.hid (show b9 = bodyB u xs by
                    rw [← hb9, HB8.out, HBH.out]
                    unfold bodyB placesB
                    rw [HXL.out, HT9.out, HE9.out, ← HID.out, HIDS.out, HM.out, List.take_of_length_le (by rw [List.length_map, HTL.out]; exact Nat.le_refl _)])
                  rw [hl9]
                  clear hb9 ho9 hk9 hl9 hm1 hm2 HRD8 OB OT BW HNB8 hzr hsz
                  have rv : Reads (w9.alloc (.cells #[.slice A9 b9.length c9] 22)) (w9.heap.size + 1) 1 (some ⟨w9.heap.size, 0, none⟩) 1 [.slice A9 b9.length c9] := Reads.of_cells (n := 1) (heap_alloc_new _ _) rfl rfl
                  have hcm := HO9.out.cap_le
                  have hrs : RowsIn (w9.alloc (.cells #[.slice A9 b9.length c9] 22)) (w9.alloc (.cells #[.slice A9 b9.length c9] 22)).heap.size (some ⟨w9.heap.size, 0, none⟩) [⟨A9, c9, b9⟩] := by
                    refine ⟨rv.more (by simp), fun r hr => ?_⟩
                    simp only [List.mem_singleton] at hr
                    subst hr
                    exact ⟨((HO9.out.reads.alloc (Nat.le_refl _) _).more (by simp)), hcm.1, hcm.2⟩
                  have hrow : rowsB [⟨A9, c9, b9⟩] = b9 := by simp [rowsB]
                  have HSO := Lib.hid (of_any [⟨A9, c9, b9⟩] (some ⟨w9.heap.size, 0, none⟩) 1 _ hrs (by rw [hrow]; omega) (by simp))
                  rw [hrow, show [(⟨A9, c9, b9⟩ : Row3)].length = 1 from rfl] at HSO
                  obtain ⟨ID, hID⟩ : ∃ ID, sha b9 = ID := ⟨_, rfl⟩
                  rw [hID] at HSO
                  have HIDD := Lib.hid hID
                  have O10 := Lib.hid (HO9.out.alloc (.cells #[.slice A9 b9.length c9] 22))
                  have BW10 := Lib.hid (BW9.out.alloc hz9 (.cells #[.slice A9 b9.length c9] 22))
                  have hz10 : z ≤ (w9.alloc (.cells #[.slice A9 b9.length c9] 22)).heap.size := by simp; omega
                  clear rv hcm hrs hrow hID
                  go_upto_region 32 with (first | (go_at_call 14; (with_reducible refine HSO.out.mono ?_); rintro _ w11 ⟨rfl, hk11'⟩; have HK11 := Lib.hid hk11'; clear hk11') | (refine wpList_allocAgg rfl rfl (zero_noId _) ?_) | (refine wpList_storeBlk rfl rfl (vs := idC ID) rfl rfl (Blk.new _ _ _) (by rw [idC_size, idC_size]) (by rw [idC_size]; exact info42) (idL_one _) ?_; intro w12 hb12 hk12 hs12))
                  have O11 := Lib.hid (O10.out.kept (Kept.ofBelow (base := 0) (E := []) (G := []) HK11.out.all) (by simp) (by simp))
                  have BW11 := Lib.hid (BW10.out.trans (HK11.out.all.mono hz10))
                  have hz11 : z ≤ w11.heap.size := Nat.le_trans hz10 HK11.out.size
                  have O12 := Lib.hid ((O11.out.alloc (.cells (idC noId) 29)).keepOnly hk12 (Blk.new _ _ _) (by decide))
                  have BW12 := Lib.hid ((BW11.out.alloc hz11 (.cells (idC noId) 29)).trans (hk12.below (by simp; omega) (by unfold Only; intro i hi h; omega)))
                  have hz12 : z ≤ w12.heap.size := by rw [hs12]; simp; omega
                  have hg12 : w11.heap.size < w12.heap.size := by rw [hs12]; simp
                  generalize w11.heap.size = g20 at *
                  have HRI := Lib.hid (show Reads w12 w12.heap.size 1 (some ⟨g20, 0, none⟩) 32 (ID.1.map bv) from ⟨by simp [ID.2], fun _ => ⟨_, rfl, by exact hg12, fun q v hq => by
                    rw [add_at, hb12.cell, Nat.zero_add]
                    unfold idC idL
                    rw [List.getElem?_toArray]
                    exact hq⟩⟩)
                  have hm1 : b9.length + 32 ≤ maxLen := by unfold maxLen; omega
                  have hm2 : (b9.length + 32) * 1 ≤ 140737488355328 := by omega
                  clear hk12 hs12 hg12 hb12 O10 O11 BW10 BW11 HK11 BW9 HO9 hz10 hz11 hz9
                  go_wp2_with (refine wpList_append_sl rfl elemU8 rfl rfl O12.out rfl HRI.out (bvs_one _) hm1 hm2 hz12 ?_; intro A13 c13 w13 ho13 hk13)
                  have HO13 := Lib.hid ho13
                  have BW13 := Lib.hid (BW12.out.trans (hk13.below (Nat.le_refl _) hz12 (by simp)))
                  clear ho13 hk13
                  go_ret2
                  have hpk : packB u xs = b9 ++ ID.1 := by
                    unfold packB
                    rw [← HBB.out, HIDD.out]
                  have hpl : (packB u xs).length = b9.length + 32 := by rw [hpk, List.length_append, ID.2]
                  refine ⟨A13, c13, xs, by rw [hpl]; rfl, ?_, ?_, ?_, BW13.out⟩
                  · rw [← HXS.out]
                    have hp := HPM.out.map Kn.x
                    rw [List.map_map] at hp
                    exact hp
                  · have hr := HR.out
                    unfold RiseK at hr
                    have h1 : (ks.map Kn.id).Pairwise (fun a b => a.1 < b.1) := List.pairwise_map.2 hr
                    rw [HIDS.out] at h1
                    exact (List.pairwise_map (f := idU u) (R := fun a b : Id => a.1 < b.1)).1 h1
                  · rw [hpl, hpk, List.map_append]
                    exact HO13.out
end Go.Proofs.YtmlmbkelpjmafaaGreat
