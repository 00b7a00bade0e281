/- Contract of the reference's Of. No statement of the seat is proved here. -/
import Derived.Test.YtmlmbkelpjmafaaGreatPTcRofB
import Derived.Test.YtmlmbkelpjmafaaGreatPTcRofC
import Derived.Test.YtmlmbkelpjmafaaGreatPTcRofD
import Derived.Test.YtmlmbkelpjmafaaGreatPT20
namespace Go.Proofs.YtmlmbkelpjmafaaGreat
open Go.RowKit
set_option maxHeartbeats 40000000 in
set_option maxRecDepth 1000000 in
theorem rof_any (b : List UInt8) (A : Option Addr) (c : Nat) (w : World) (hr : Reads w w.heap.size 1 A b.length (b.map bv)) (hl : b.length ≤ 100000000000) :
    Calls Tryz.prog 10 #[.slice A b.length c] w fun r w' => r = .returned (idV (sha b)) ∧ Keep Nothing w w' := by
 obtain ⟨ID, hID⟩ : ∃ ID, sha b = ID := ⟨_, rfl⟩
 have HSH := Lib.hid (show ID.1 = outW (stU (blk (shaM b) ((shaM b).length / 64))) from by rw [← hID]; rfl)
 rw [hID]
 clear hID
 have HM := Lib.hid (show shaM b = b ++ padB (b.length % 64) b.length from rfl)
 obtain ⟨KC, hKC⟩ : ∃ KC, kC = KC := ⟨_, rfl⟩
 have hbk := build_k
 have hks := kC_size
 have hk1 := kC_one
 have hka := kC_at
 rw [hKC] at hbk hks hk1 hka
 have HBK := Lib.hid hbk
 have HKS := Lib.hid hks
 have HK1 := Lib.hid hk1
 have HKA := Lib.hid hka
 obtain ⟨ZW, hZW⟩ : ∃ ZW, zeroW = ZW := ⟨_, rfl⟩
 have hzl : ZW.length = 64 := by rw [← hZW]; simp [zeroW]
 have hzw := fun W => zero_w W
 rw [hZW] at hzw
 have HZ := Lib.hid hzw
 have HZL := Lib.hid hzl
 obtain ⟨S0, hS0⟩ : ∃ S0, sha0 = S0 := ⟨_, rfl⟩
 have hb0 := build_hp
 rw [hS0] at hb0
 have HB0 := Lib.hid hb0
 have HS0 := Lib.hid hS0
 clear hKC hbk hks hk1 hka hZW hzl hzw hS0 hb0
 have q1 : Blk (w.alloc (.cells (idC noId) 29)) w.heap.size 29 (idC noId) := Blk.new _ _ _
 have k1 : Keep Nothing w (w.alloc (.cells (idC noId) 29)) := (Keep.refl _ _).alloc _
 go_enter Tryz.func10, Tryz.ntmps10
 go_upto_region 3 with (first
  | (refine wpList_allocAgg rfl rfl (zero_noId _) ?_; generalize w.alloc (.cells (idC noId) 29) = w1 at *)
  | (refine wpList_built rfl rfl (vs := kParts) rfl (HBK.out _) ?_)
  | (refine wpList_allocAgg rfl rfl (HZ.out _) ?_)
  | (refine wpList_storeBlk rfl rfl (vs := KC) rfl rfl (Blk.new w1 71 (u32L ZW).toArray) (by rw [HKS.out]; simpa [u32L] using HZL.out) (by rw [HKS.out]; exact info_w) HK1.out ?_; intro w2 hb2 hkc hzc; clear hzc; have k2 := k1.trans (Keep.ofNew hkc); have q2 := q1.keep (Keep.ofNew (S := Nothing) hkc) (fun h => h); generalize w1.heap.size = kb at *; clear hkc)
  | (refine wpList_built rfl rfl (vs := hParts) rfl (HB0.out _) ?_)
  | (refine wpList_allocAgg rfl rfl (zero_st _) ?_)
  | (refine wpList_storeBlk rfl rfl (vs := stC S0) rfl rfl (Blk.new w2 72 (stC st0)) rfl info_st (st_one S0) ?_; intro w3 hb3 hkc hzc; clear hzc; have k3 := k2.trans (Keep.ofNew hkc); have q3 := q2.keep (Keep.ofNew (S := Nothing) hkc) (fun h => h); have c3 := hb2.keep (Keep.ofNew (S := Nothing) hkc) (fun h => h); have l23 := hb2.lt; have lqh := q2.lt; generalize w2.heap.size = hb at *; clear hkc; have hr3 := hr.kept k3 (Nat.le_refl _) (fun _ _ h => h); have y3 := k3.size; have z3 := hb3.lt))
 go_frame
 generalize hqq : w.heap.size = q at *
 have hqle : w.heap.size ≤ q := by omega
 have hqge : q ≤ w.heap.size := by omega
 clear hqq q1 q2 k1 k2 hb2
 go_wp2_with (first
  | (at_builtin; refine wpList_append_sl rfl elemU8 rfl rfl (Own.fresh0 (heap_alloc_new _ _) (Nat.le_refl _)) rfl (hr3.alloc y3 _) (bvs_one b) (by unfold maxLen; omega) (by omega) (by simp) ?_; intro A4 c4 w4 o4 k4; simp only [Nat.zero_add, List.nil_append] at o4)
  | (at_builtin; refine wpList_append_sl rfl elemU8 rfl rfl (o4.alloc _) rfl (Reads.of_cells (n := 1) (xs := [(128 : UInt8)].map bv) (heap_alloc_new _ _) rfl rfl) (bvs_one [128]) (by unfold maxLen; omega) (by omega) (by have := k4.size; simp at this ⊢; omega) ?_; intro A5 c5 w5 o5 k5))
 have kk5 : Kept w3.heap.size [5] [] w3 w5 := ((((Kept.refl w3.heap.size [5] [] w3).alloc _).trans k4).alloc _).trans k5
 have o5' : Own w5 w3.heap.size 5 1 A5 (m1 b 0).length c5 ((m1 b 0).map bv) := by
  rw [m1_len]
  simpa [m1] using o5
 obtain ⟨z, hz⟩ : ∃ z, (119 - b.length % 64) % 64 = z := ⟨_, rfl⟩
 have hz64 : z < 64 := by omega
 have HZZ := Lib.hid hz
 have HPB := Lib.hid (show b ++ padB (b.length % 64) b.length = m1 b z ++ be 8 (b.length * 8) from by unfold padB m1; rw [hz]; simp)
 have hlen0 : b.length + 1 = (m1 b 0).length := by rw [m1_len]
 rw [hlen0]
 clear o5 k5 o4 k4 hz hlen0 hr3
 generalize hbb : w3.heap.size = bb at *
 have hbbl : bb ≤ w3.heap.size := by omega
 clear hbb
 go_loopg [5] z (fun f s5 wr => ∃ zs A' c', zs + f = z ∧ s5 = .slice A' (m1 b zs).length c' ∧ Own wr bb 5 1 A' (m1 b zs).length c' ((m1 b zs).map bv) ∧ Kept bb [5] [] w3 wr)
 case atStart => exact ⟨0, A5, c5, by omega, rfl, o5', kk5⟩
 case round =>
  clear o5' kk5
  obtain ⟨zs, A', c', hzf, rfl, ho, hkp⟩ := hrel
  have HZF := Lib.hid hzf
  have hzs : zs ≤ z := by omega
  have ml := m1_len b zs
  have hzz := hkp.size
  have t56 : (((m1 b zs).length % 64 : Nat) = 56) ↔ zs = z := by rw [ml]; have := HZZ.out; omega
  have hnx := m1_succ b zs
  have hml : (m1 b zs).length ≤ 100000000100 := by omega
  have HNX := Lib.hid hnx
  have H56 := Lib.hid t56
  clear hzf ml hnx t56
  generalize hmz : m1 b zs = mz at *
  have HMZ := Lib.hid hmz
  clear hmz
  by_cases hlt : zs < z
  · have d1 : ((mz.length : Int) % 64 != 56) = true := by have := H56.out; simp; omega
    go_wp2_with (first | (at_builtin; refine wpList_append_sl rfl elemU8 rfl rfl (ho.alloc _) rfl (Reads.of_cells (n := 1) (xs := [(0 : UInt8)].map bv) (heap_alloc_new _ _) rfl rfl) (bvs_one [0]) (by unfold maxLen; omega) (by omega) (by simp; omega) ?_; intro A2 c2 w6 ho2 hk2))
    go_roundg (gk - 1)
    case measure => have := HZF.out; omega
    case rel => exact ⟨zs + 1, A2, c2, by have := HZF.out; omega, by rw [HNX.out]; simp, by rw [HNX.out]; simpa using ho2, (hkp.alloc _).trans hk2⟩
  · obtain rfl : zs = z := by omega
    have d1 : ((mz.length : Int) % 64 != 56) = false := by have := H56.out; simp; omega
    have hw8 : IntKind.i64.wrap (8 * (b.length : Int)) = 8 * (b.length : Int) := IntWalk.i64_in _ (by omega)
    have hwu : IntKind.u64.wrap (8 * (b.length : Int)) = ((b.length * 8 : Nat) : Int) := by simp [IntKind.wrap, IntKind.signed, IntKind.bits]; omega
    obtain ⟨V, hV⟩ : ∃ V, b.length * 8 = V := ⟨_, rfl⟩
    rw [hV] at hwu
    have HV := Lib.hid hV
    clear hV
    go_wp2_with fail
    refine (num_any 8 V (by omega) bb mz A' c' _ ho (by omega) (by omega)).mono ?_
    rintro r w6 ⟨A6, c6, rfl, o6, k6⟩
    have kk6 := hkp.trans k6
    have HMM := Lib.hid (show shaM b = mz ++ be 8 V from by rw [HM.out, HPB.out, HMZ.out, HV.out])
    have hMl : (mz ++ be 8 V).length = mz.length + 8 := by rw [List.length_append, be_len]
    have hM64 : mz.length % 64 = 56 := by have := H56.out; simpa using this
    obtain ⟨M, hM⟩ : ∃ M, mz ++ be 8 V = M := ⟨_, rfl⟩
    rw [hM] at o6 HMM hMl
    rw [hM]
    obtain ⟨N, hN⟩ : ∃ N, M.length = 64 * N := ⟨M.length / 64, by omega⟩
    have hNb : N ≤ 100000000000 := by omega
    have hN1 : 1 ≤ N := by omega
    have HN := Lib.hid hN
    have HOUT := Lib.hid (show ID.1 = outW (stU (blk M N)) from by rw [HSH.out, HMM.out, hN, Nat.mul_div_cancel_left _ (by omega)])
    have hMb : M.length ≤ 6500000000000 := by omega
    clear hM hMl hM64 hN HSH HMM HM HPB HV HNX H56 HZF HZZ d1 hw8 hwu hml ho hlt hzs hz64
    obtain ⟨mg, mo, rfl, _, _⟩ := o6.reads.at0 (by have := HN.out; omega) (by have := HN.out; omega)
    have kn6 : Keep Nothing w w6 := (k3.then_ kk6 (fun i hi h => by
     rcases h with h | ⟨h, _⟩
     · simp at h
     · omega))
    have ro6 : RO w w6 q kb hb bb KC (stC S0) (some ⟨mg, mo, none⟩) c6 M := ⟨o6, kk6.blk hb3 (by simp) (by decide), kk6.blk c3 (by simp) (by decide), kk6.blk q3 (by simp) (by decide), kn6⟩
    have ro7 := ro6.nothing ((Keep.refl Nothing w6).alloc (.cells (u32L ZW).toArray 71))
    have w7b : Blk (w6.alloc (.cells (u32L ZW).toArray 71)) w6.heap.size 71 (u32L ZW).toArray := Blk.new _ _ _
    have z6 := kk6.size
    have y6 := k6.size
    clear o6 k6 kk6 kn6 ro6 hkp hb3 c3 q3
    go_wp2_with (first | (refine wpList_allocAgg rfl rfl (HZ.out _) ?_; generalize w6.alloc (.cells (u32L ZW).toArray 71) = w7 at *; generalize w6.heap.size = wb at *))
    go_loopg [7] N (fun f s7 wr => ∃ n a ws, n + f = N ∧ a = 64 * n ∧ s7 = .int .i64 (a : Nat) ∧ RO w wr q kb hb bb KC (stC (blk M n)) (some ⟨mg, mo, none⟩) c6 M ∧ Blk wr wb 71 (u32L ws).toArray ∧ ws.length = 64)
    case atStart => exact ⟨0, 0, ZW, by omega, rfl, rfl, by rw [show blk M 0 = S0 from HS0.out]; exact ro7, w7b, HZL.out⟩
    case round =>
     clear ro7 w7b
     obtain ⟨n, a, ws, hnf, han, rfl, ro, hwb, hwl⟩ := hrel
     have HNF := Lib.hid hnf
     have HAN := Lib.hid han
     have HWL0 := Lib.hid hwl
     have hnn : n ≤ N := by omega
     clear hnf han hwl
     by_cases hlt : n < N
     · have ha64 : a + 64 ≤ M.length := by have := HAN.out; have := HN.out; omega
       have dA : decide (a < M.length) = true := decide_eq_true (by omega)
       have dA2 : decide ((a : Int) < (M.length : Int)) = true := decide_eq_true (by omega)
       obtain ⟨BL, hBL⟩ : ∃ BL, (M.drop a).take 64 = BL := ⟨_, rfl⟩
       have hBg : ∀ j, j < 64 → BL.getD j 0 = M.getD (a + j) 0 := fun j hj => by
        rw [← hBL]
        simp [hj, List.getElem?_drop]
       have HBG := Lib.hid hBg
       have HNXT := Lib.hid (show blk M (n + 1) = compress (blk M n) BL from by rw [blk, ← HAN.out, hBL])
       obtain ⟨WS, hWS⟩ := words_of BL
       clear hBL hBg
       generalize hST : blk M n = ST at *
       clear hST
       have l2 : hb < wb := by omega
       have l3 : q < wb := by omega
       go_wp2_with fail
       refine rof_l3 (BL := BL) (WS := WS) ws l23 l2 l3 hqle hMb ha64 HBG hWS hwb HWL0.out ro ?_
       clear hwb HWL0 ro
       intro a' w8 hx
       obtain ⟨u8, hx⟩ := hx
       obtain ⟨u48, hx⟩ := hx
       obtain ⟨u49, hx⟩ := hx
       obtain ⟨u50, hx⟩ := hx
       obtain ⟨u51, hx⟩ := hx
       obtain ⟨u52, hx⟩ := hx
       obtain ⟨u53, hx⟩ := hx
       obtain ⟨u54, hx⟩ := hx
       obtain ⟨u55, hx⟩ := hx
       obtain ⟨u56, hx⟩ := hx
       obtain ⟨u57, hx⟩ := hx
       obtain ⟨u58, hx⟩ := hx
       obtain ⟨u59, hx⟩ := hx
       obtain ⟨u60, hx⟩ := hx
       obtain ⟨u61, hx⟩ := hx
       obtain ⟨u62, hx⟩ := hx
       obtain ⟨u63, hx⟩ := hx
       obtain ⟨u64, hx⟩ := hx
       obtain ⟨u65, hx⟩ := hx
       obtain ⟨u66, hx⟩ := hx
       obtain ⟨u67, hx⟩ := hx
       obtain ⟨u68, hx⟩ := hx
       obtain ⟨u69, hx⟩ := hx
       obtain ⟨u70, hx⟩ := hx
       obtain ⟨u71, hx⟩ := hx
       obtain ⟨u72, hx⟩ := hx
       obtain ⟨u73, hx⟩ := hx
       obtain ⟨u74, hx⟩ := hx
       obtain ⟨u75, hx⟩ := hx
       obtain ⟨u76, hx⟩ := hx
       obtain ⟨u77, hx⟩ := hx
       obtain ⟨u78, hx⟩ := hx
       obtain ⟨u79, hx⟩ := hx
       obtain ⟨u80, hx⟩ := hx
       obtain ⟨u81, hx⟩ := hx
       obtain ⟨u82, hx⟩ := hx
       obtain ⟨u83, hx⟩ := hx
       obtain ⟨u84, hx⟩ := hx
       obtain ⟨u85, hx⟩ := hx
       obtain ⟨u86, hx⟩ := hx
       obtain ⟨u87, hx⟩ := hx
       obtain ⟨u88, hx⟩ := hx
       obtain ⟨u89, hx⟩ := hx
       obtain ⟨u90, hx⟩ := hx
       obtain ⟨u91, hx⟩ := hx
       obtain ⟨u92, hx⟩ := hx
       obtain ⟨u93, hx⟩ := hx
       obtain ⟨u94, hx⟩ := hx
       obtain ⟨⟨rest, hwb, hrl, ro⟩, rfl⟩ := hx
       go_wp2_with fail
       refine rof_l4 (BL := BL) (WS := WS) rest l23 l2 l3 hqle hMb hWS hwb hrl ro ?_
       clear hwb hrl ro
       intro a' w9 hx
       obtain ⟨u9, hx⟩ := hx
       obtain ⟨u10, hx⟩ := hx
       obtain ⟨u11, hx⟩ := hx
       obtain ⟨u95, hx⟩ := hx
       obtain ⟨u96, hx⟩ := hx
       obtain ⟨u97, hx⟩ := hx
       obtain ⟨u98, hx⟩ := hx
       obtain ⟨u99, hx⟩ := hx
       obtain ⟨u100, hx⟩ := hx
       obtain ⟨u101, hx⟩ := hx
       obtain ⟨u102, hx⟩ := hx
       obtain ⟨u103, hx⟩ := hx
       obtain ⟨u104, hx⟩ := hx
       obtain ⟨u105, hx⟩ := hx
       obtain ⟨u106, hx⟩ := hx
       obtain ⟨u107, hx⟩ := hx
       obtain ⟨u108, hx⟩ := hx
       obtain ⟨u109, hx⟩ := hx
       obtain ⟨u110, hx⟩ := hx
       obtain ⟨u111, hx⟩ := hx
       obtain ⟨u112, hx⟩ := hx
       obtain ⟨u113, hx⟩ := hx
       obtain ⟨u114, hx⟩ := hx
       obtain ⟨u115, hx⟩ := hx
       obtain ⟨u116, hx⟩ := hx
       obtain ⟨u117, hx⟩ := hx
       obtain ⟨u118, hx⟩ := hx
       obtain ⟨u119, hx⟩ := hx
       obtain ⟨u120, hx⟩ := hx
       obtain ⟨u121, hx⟩ := hx
       obtain ⟨u122, hx⟩ := hx
       obtain ⟨u123, hx⟩ := hx
       obtain ⟨u124, hx⟩ := hx
       obtain ⟨u125, hx⟩ := hx
       obtain ⟨u126, hx⟩ := hx
       obtain ⟨u127, hx⟩ := hx
       obtain ⟨u128, hx⟩ := hx
       obtain ⟨u129, hx⟩ := hx
       obtain ⟨u130, hx⟩ := hx
       obtain ⟨u131, hx⟩ := hx
       obtain ⟨u132, hx⟩ := hx
       obtain ⟨u133, hx⟩ := hx
       obtain ⟨u134, hx⟩ := hx
       obtain ⟨u135, hx⟩ := hx
       obtain ⟨u136, hx⟩ := hx
       obtain ⟨u137, hx⟩ := hx
       obtain ⟨u138, hx⟩ := hx
       obtain ⟨u139, hx⟩ := hx
       obtain ⟨u140, hx⟩ := hx
       obtain ⟨u141, hx⟩ := hx
       obtain ⟨u142, hx⟩ := hx
       obtain ⟨u143, hx⟩ := hx
       obtain ⟨u144, hx⟩ := hx
       obtain ⟨u145, hx⟩ := hx
       obtain ⟨u146, hx⟩ := hx
       obtain ⟨u147, hx⟩ := hx
       obtain ⟨⟨hwb, ro⟩, rfl⟩ := hx
       have lwb := hwb.lt
       go_wp2_with (first | (refine wpList_load rfl rfl rfl (load_stC ro.hs) ?_) | (refine wpList_allocAgg rfl rfl (zero_st _) ?_) | (refine wpList_storeBlk rfl rfl (vs := stC ST) rfl rfl (Blk.new w9 72 (stC st0)) rfl info_st (st_one ST) ?_; intro w10 hv hkc hzc; clear hzc))
       have hkN : Keep Nothing w9 w10 := Keep.ofNew hkc
       have ro2 := ro.nothing hkN
       have hwb2 := hwb.keep hkN (fun h => h)
       generalize w9.heap.size = vb at *
       clear hkc hkN hwb ro
       obtain ⟨RS, hRS⟩ := rounds_of ST (WS 64)
       have HNXT2 := Lib.hid (show blk M (n + 1) = addSt ST (RS 64) from by rw [HNXT.out]; unfold compress; rw [hWS.all, hRS.all])
       have HWL := Lib.hid (hWS.len 64)
       generalize WS 64 = ws2 at *
       clear hWS HNXT
       refine rof_l5 l23 l2 l3 hqle hMb lwb HWL HKA hRS hv hwb2 ro2 ?_
       clear hv hwb2 ro2
       intro a' w11 hx
       obtain ⟨u13, hx⟩ := hx
       obtain ⟨u14, hx⟩ := hx
       obtain ⟨u15, hx⟩ := hx
       obtain ⟨u16, hx⟩ := hx
       obtain ⟨u17, hx⟩ := hx
       obtain ⟨u18, hx⟩ := hx
       obtain ⟨u149, hx⟩ := hx
       obtain ⟨u150, hx⟩ := hx
       obtain ⟨u151, hx⟩ := hx
       obtain ⟨u152, hx⟩ := hx
       obtain ⟨u153, hx⟩ := hx
       obtain ⟨u154, hx⟩ := hx
       obtain ⟨u155, hx⟩ := hx
       obtain ⟨u156, hx⟩ := hx
       obtain ⟨u157, hx⟩ := hx
       obtain ⟨u158, hx⟩ := hx
       obtain ⟨u159, hx⟩ := hx
       obtain ⟨u160, hx⟩ := hx
       obtain ⟨u161, hx⟩ := hx
       obtain ⟨u162, hx⟩ := hx
       obtain ⟨u163, hx⟩ := hx
       obtain ⟨u164, hx⟩ := hx
       obtain ⟨u165, hx⟩ := hx
       obtain ⟨u166, hx⟩ := hx
       obtain ⟨u167, hx⟩ := hx
       obtain ⟨u168, hx⟩ := hx
       obtain ⟨u169, hx⟩ := hx
       obtain ⟨u170, hx⟩ := hx
       obtain ⟨u171, hx⟩ := hx
       obtain ⟨u172, hx⟩ := hx
       obtain ⟨u173, hx⟩ := hx
       obtain ⟨u174, hx⟩ := hx
       obtain ⟨u175, hx⟩ := hx
       obtain ⟨u176, hx⟩ := hx
       obtain ⟨u177, hx⟩ := hx
       obtain ⟨u178, hx⟩ := hx
       obtain ⟨u179, hx⟩ := hx
       obtain ⟨u180, hx⟩ := hx
       obtain ⟨u181, hx⟩ := hx
       obtain ⟨u182, hx⟩ := hx
       obtain ⟨u183, hx⟩ := hx
       obtain ⟨u184, hx⟩ := hx
       obtain ⟨u185, hx⟩ := hx
       obtain ⟨u186, hx⟩ := hx
       obtain ⟨u187, hx⟩ := hx
       obtain ⟨u188, hx⟩ := hx
       obtain ⟨u189, hx⟩ := hx
       obtain ⟨u190, hx⟩ := hx
       obtain ⟨u191, hx⟩ := hx
       obtain ⟨u192, hx⟩ := hx
       obtain ⟨u193, hx⟩ := hx
       obtain ⟨u194, hx⟩ := hx
       obtain ⟨u195, hx⟩ := hx
       obtain ⟨u196, hx⟩ := hx
       obtain ⟨u197, hx⟩ := hx
       obtain ⟨u198, hx⟩ := hx
       obtain ⟨u199, hx⟩ := hx
       obtain ⟨u200, hx⟩ := hx
       obtain ⟨u201, hx⟩ := hx
       obtain ⟨u202, hx⟩ := hx
       obtain ⟨u203, hx⟩ := hx
       obtain ⟨u204, hx⟩ := hx
       obtain ⟨u205, hx⟩ := hx
       obtain ⟨u206, hx⟩ := hx
       obtain ⟨u207, hx⟩ := hx
       obtain ⟨u208, hx⟩ := hx
       obtain ⟨u209, hx⟩ := hx
       obtain ⟨u210, hx⟩ := hx
       obtain ⟨u211, hx⟩ := hx
       obtain ⟨u212, hx⟩ := hx
       obtain ⟨u213, hx⟩ := hx
       obtain ⟨u214, hx⟩ := hx
       obtain ⟨u215, hx⟩ := hx
       obtain ⟨u216, hx⟩ := hx
       obtain ⟨u217, hx⟩ := hx
       obtain ⟨u218, hx⟩ := hx
       obtain ⟨u219, hx⟩ := hx
       obtain ⟨u220, hx⟩ := hx
       obtain ⟨u221, hx⟩ := hx
       obtain ⟨u222, hx⟩ := hx
       obtain ⟨u223, hx⟩ := hx
       obtain ⟨u224, hx⟩ := hx
       obtain ⟨u225, hx⟩ := hx
       obtain ⟨u226, hx⟩ := hx
       obtain ⟨u227, hx⟩ := hx
       obtain ⟨u228, hx⟩ := hx
       obtain ⟨u229, hx⟩ := hx
       obtain ⟨u230, hx⟩ := hx
       obtain ⟨u231, hx⟩ := hx
       obtain ⟨u232, hx⟩ := hx
       obtain ⟨u233, hx⟩ := hx
       obtain ⟨u234, hx⟩ := hx
       obtain ⟨u235, hx⟩ := hx
       obtain ⟨u236, hx⟩ := hx
       obtain ⟨u237, hx⟩ := hx
       obtain ⟨u238, hx⟩ := hx
       obtain ⟨u239, hx⟩ := hx
       obtain ⟨u240, hx⟩ := hx
       obtain ⟨u241, hx⟩ := hx
       obtain ⟨u242, hx⟩ := hx
       obtain ⟨u243, hx⟩ := hx
       obtain ⟨u244, hx⟩ := hx
       obtain ⟨u245, hx⟩ := hx
       obtain ⟨u246, hx⟩ := hx
       obtain ⟨⟨hv, hwb, ro⟩, rfl⟩ := hx
       go_wp2_with fail
       refine rof_l6 (TT := RS 64) l23 l2 l3 hqle hMb lwb lqh hv hwb ro ?_
       clear hv hwb ro
       intro a' w12 hx
       obtain ⟨u19, hx⟩ := hx
       obtain ⟨u247, hx⟩ := hx
       obtain ⟨u248, hx⟩ := hx
       obtain ⟨u249, hx⟩ := hx
       obtain ⟨u250, hx⟩ := hx
       obtain ⟨u251, hx⟩ := hx
       obtain ⟨u252, hx⟩ := hx
       obtain ⟨u253, hx⟩ := hx
       obtain ⟨u254, hx⟩ := hx
       obtain ⟨u255, hx⟩ := hx
       obtain ⟨u256, hx⟩ := hx
       obtain ⟨u257, hx⟩ := hx
       obtain ⟨u258, hx⟩ := hx
       obtain ⟨u259, hx⟩ := hx
       obtain ⟨⟨hwb, ro⟩, rfl⟩ := hx
       rw [← HNXT2.out] at ro
       have ha64' : (a : Int) + 64 ≤ 6500000000000 := by omega
       go_wp2_with fail
       go_roundg (gk - 1)
       case measure => have := HNF.out; omega
       case rel => exact ⟨n + 1, a + 64, ws2, by have := HNF.out; omega, by have := HAN.out; omega, by go_num, ro, hwb, HWL.out⟩
     · obtain rfl : n = N := by omega
       have hae : a = M.length := by have := HAN.out; have := HN.out; omega
       have dA : decide (a < M.length) = false := decide_eq_false (by omega)
       have dA2 : decide ((a : Int) < (M.length : Int)) = false := decide_eq_false (by omega)
       clear hae
       obtain ⟨S7, hS7⟩ : ∃ S7, blk M n = S7 := ⟨_, rfl⟩
       rw [hS7] at ro HOUT
       clear hS7
       obtain ⟨OB, hOB⟩ : ∃ OB, outW (stU S7) = OB := ⟨_, rfl⟩
       have HOAT := Lib.hid (show ∀ i k, i < 8 → k < 4 → OB[4 * i + k]? = some (byteAt ((stU S7).getD i 0) k) from fun i k h1 h2 => by rw [← hOB]; exact outW_at (stU S7) i k h1 h2)
       have HID := Lib.hid (show ID.1 = OB from by rw [HOUT.out, hOB])
       have hs7 : Blk wr hb 72 (u32L (stU S7)).toArray := ro.hs
       have HSU := Lib.hid (show (stU S7).length = 8 from rfl)
       have qs := ro.qs
       have kp := ro.keep
       clear hOB HOUT hwb
       generalize stU S7 = SU at *
       have o8 : Blk (wr.alloc (.cells (idC noId) 29)) wr.heap.size 29 (idC noId) := Blk.new _ _ _
       have h8 := hs7.alloc (.cells (idC noId) 29)
       have q8 := qs.alloc (.cells (idC noId) 29)
       have k8 := kp.alloc (.cells (idC noId) 29)
       have lob := hs7.lt
       have loq := qs.lt
       go_wp2_with (first | (refine wpList_allocAgg rfl rfl (zero_noId _) ?_; generalize wr.alloc (.cells (idC noId) 29) = w8 at *; generalize wr.heap.size = ob at *))
       clear ro hs7 qs kp
       go_loopg [21] 32 (fun f i wr => ∃ j : Nat, j + f = 32 ∧ i = .int .i64 j ∧ Blk wr ob 29 (spl (idC noId) 0 ((OB.take j).map bv)) ∧ Blk wr hb 72 (u32L SU).toArray ∧ Blk wr q 29 (idC noId) ∧ Keep Nothing w wr)
       case atStart => exact ⟨0, by omega, rfl, by simpa [spl] using o8, h8, q8, k8⟩
       case round =>
        clear o8 h8 q8 k8
        obtain ⟨j, hjf, rfl, ho, hs, hqb, hk⟩ := hrel
        have HJF := Lib.hid hjf
        have hj32 : j ≤ 32 := by omega
        clear hjf
        by_cases hlt : j < 32
        · obtain ⟨jj, hjj⟩ : ∃ jj, j / 4 = jj := ⟨_, rfl⟩
          obtain ⟨m, hm⟩ : ∃ m, j % 4 = m := ⟨_, rfl⟩
          have hj8 : jj < 8 := by omega
          have hm4 : m < 4 := by omega
          have hje : 4 * jj + m = j := by omega
          have hb1 := HOAT.out jj m hj8 hm4
          rw [hje] at hb1
          have hrow := row_at8 SU jj (by rw [HSU.out]; exact hj8)
          generalize SU.getD jj 0 = x at *
          have hbo : j < OB.length := (List.getElem?_eq_some_iff.1 hb1).1
          have hbv := byte_u8 x m
          have hset : (spl (idC noId) 0 ((OB.take j).map bv)).setIfInBounds j (bv (byteAt x m)) = spl (idC noId) 0 ((OB.take (j + 1)).map bv) := by
           have := spl_snoc (idC noId) ((OB.take j).map bv) (bv (byteAt x m)) (by simp [idC_size]; omega)
           rw [show ((OB.take j).map bv).length = j by simp; omega] at this
           rw [this, List.take_succ_eq_append_getElem hbo, List.map_append, List.map_singleton]
           rw [List.getElem?_eq_getElem hbo] at hb1
           injection hb1 with hb1
           rw [hb1]
          obtain ⟨v0, hv0⟩ : ∃ v0, (spl (idC noId) 0 ((OB.take j).map bv))[j]? = some v0 := ⟨_, Array.getElem?_eq_getElem (by simp [spl, idC_size]; omega)⟩
          have c1 := (ho.cell j).trans hv0
          have f1 := ho.frozen j
          have c2 := (hs.cell jj).trans hrow
          have HST2 := Lib.hid hset
          have hxl := u32_lt x
          generalize byteAt x m = y at *
          generalize x.toNat = xn at *
          have i0 : (0 : Int) ≤ (j : Int) := by omega
          have i1 : (j : Int) < 32 := by omega
          have hq4 : (j : Int) / 4 = (jj : Int) := by omega
          have i2 : (0 : Int) ≤ (jj : Int) := by omega
          have i3 : (jj : Int) < 8 := by omega
          have hmm : m = 0 ∨ m = 1 ∨ m = 2 ∨ m = 3 := by omega
          have hr4 : (j : Int) % 4 = (m : Int) := by omega
          clear hset hb1 hbo hv0 hrow hjj hm hje hm4 hj8
          rcases hmm with rfl | rfl | rfl | rfl
          · simp at hbv hr4
            have hbv2 : (xn : Int) / 16777216 = (y.toNat : Int) := by omega
            go_wp2_with fail
            go_roundg (gk - 1)
            case measure => have := HJF.out; omega
            case rel =>
             refine ⟨j + 1, by have := HJF.out; omega, by go_num, ?_, hs.far (p := ⟨ob, j, none⟩) (by simp; omega) _, hqb.far (p := ⟨ob, j, none⟩) (by simp; omega) _, hk.setCell (p := ⟨ob, j, none⟩) (.inr (by simp; omega)) _⟩
             have := ho.set_ j (.int .u8 (y.toNat : Int))
             rw [← HST2.out]
             exact this
          · simp at hbv hr4
            go_wp2_with fail
            go_roundg (gk - 1)
            case measure => have := HJF.out; omega
            case rel =>
             refine ⟨j + 1, by have := HJF.out; omega, by go_num, ?_, hs.far (p := ⟨ob, j, none⟩) (by simp; omega) _, hqb.far (p := ⟨ob, j, none⟩) (by simp; omega) _, hk.setCell (p := ⟨ob, j, none⟩) (.inr (by simp; omega)) _⟩
             have := ho.set_ j (.int .u8 (y.toNat : Int))
             rw [← HST2.out]
             exact this
          · simp at hbv hr4
            go_wp2_with fail
            go_roundg (gk - 1)
            case measure => have := HJF.out; omega
            case rel =>
             refine ⟨j + 1, by have := HJF.out; omega, by go_num, ?_, hs.far (p := ⟨ob, j, none⟩) (by simp; omega) _, hqb.far (p := ⟨ob, j, none⟩) (by simp; omega) _, hk.setCell (p := ⟨ob, j, none⟩) (.inr (by simp; omega)) _⟩
             have := ho.set_ j (.int .u8 (y.toNat : Int))
             rw [← HST2.out]
             exact this
          · simp at hbv hr4
            go_wp2_with fail
            go_roundg (gk - 1)
            case measure => have := HJF.out; omega
            case rel =>
             refine ⟨j + 1, by have := HJF.out; omega, by go_num, ?_, hs.far (p := ⟨ob, j, none⟩) (by simp; omega) _, hqb.far (p := ⟨ob, j, none⟩) (by simp; omega) _, hk.setCell (p := ⟨ob, j, none⟩) (.inr (by simp; omega)) _⟩
             have := ho.set_ j (.int .u8 (y.toNat : Int))
             rw [← HST2.out]
             exact this
        · obtain rfl : j = 32 := by omega
          have hOl : OB.length = 32 := by rw [← HID.out]; exact ID.2
          rw [List.take_of_length_le (by omega), spl_id OB (.inl hOl)] at ho
          have hid2 : idOf OB = ID := by
           unfold idOf
           rw [dif_pos hOl]
           exact Subtype.ext HID.out.symm
          rw [hid2] at ho
          clear hid2 hOl
          go_wp2_with (first | (refine wpList_load rfl rfl rfl (load_id ho) ?_) | (refine wpList_storeBlk rfl rfl (vs := idC ID) rfl rfl hqb (by rw [idC_size, idC_size]) (by rw [idC_size]; exact info42) (idL_one _) ?_; intro w9 hq9 hk9 hz9))
          refine bodyPost_ret (v := idV ID) (results_cell rfl _ _ rfl (run_loadVar_cells w9 _ (idC ID) Tryz.underlying29 rfl (by rw [idC_size]; exact info42) (fun j v hj => by rw [add_at, hq9.cell, ← hj]; simp))) rfl ⟨rfl, ?_⟩
          exact hk.then_ hk9 (by unfold Only; intro i hi h; omega)
end Go.Proofs.YtmlmbkelpjmafaaGreat
