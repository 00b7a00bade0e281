/-
  PackSmall: the law's walk. No statement of the seat is proved here.
-/
import Derived.Test.YtmlmbkelpjmafaaGreatLa
import Derived.Test.YtmlmbkelpjmafaaGreatPT25
import Derived.Deep.RegionHeld3
namespace Go.Proofs.YtmlmbkelpjmafaaGreat
open Go.RowKit Go.Shelf
def wiN (x : Int) (n : Nat) : Nat := (x % (n : Int)).toNat
theorem wiN_lt {x : Int} {n : Nat} (h : 0 < n) : wiN x n < n := by
  have h1 := Int.emod_nonneg x (b := (n : Int)) (by omega)
  have h2 := Int.emod_lt_of_pos x (b := (n : Int)) (by omega)
  unfold wiN
  omega
theorem tmod_wi {x : Int} {n : Nat} (h : 0 < n) : (0 ≤ x.tmod (n : Int) ∧ x.tmod (n : Int) = (wiN x n : Int)) ∨ (x.tmod (n : Int) < 0 ∧ x.tmod (n : Int) + (n : Int) = (wiN x n : Int) ∧ -(n : Int) < x.tmod (n : Int)) := by
  have h1 := Int.emod_nonneg x (b := (n : Int)) (by omega)
  have h2 := Int.emod_lt_of_pos x (b := (n : Int)) (by omega)
  have hw : (wiN x n : Int) = x % (n : Int) := by unfold wiN; omega
  rw [hw, Int.tmod_eq_emod]
  split
  · exact .inl ⟨by omega, by omega⟩
  · by_cases hz : x % (n : Int) = 0
    · rename_i q
      exact absurd (.inr (Int.dvd_of_emod_eq_zero hz)) q
    · exact .inr ⟨by omega, by omega, by omega⟩
set_option maxRecDepth 100000 in
theorem within9_any (x : Int) (w : World) :
    Calls Tryz.prog 5 #[.int .i64 x, .int .i64 30] w fun r w' => r = .returned (.int .i64 (wiN x 30 : Int)) ∧ w' = w := by
  have hlt := wiN_lt (x := x) (n := 30) (by omega)
  have HT := Lib.hid (tmod_wi (x := x) (n := 30) (by omega))
  rw [show ((30 : Nat) : Int) = 30 from rfl] at HT
  generalize wiN x 30 = k at *
  go_enter Tryz.func5, Tryz.ntmps5
  go_upto_region 2 with fail
  generalize x.tmod 30 = t at *
  rcases HT.out with ⟨h1, h2⟩ | ⟨h1, h2, h3⟩
  · subst h2
    have d1 : decide ((k : Int) < 0) = false := decide_eq_false (by omega)
    have h4 : ¬ (k : Int) < 0 := by omega
    go_wp2_with fail
    go_ret
    exact ⟨rfl, rfl⟩
  · have d1 : decide (t < 0) = true := decide_eq_true h1
    have w1 : IntKind.i64.wrap (t + 30) = t + 30 := IntWalk.i64_in _ (by omega)
    have H2 := Lib.hid h2
    clear h2
    go_wp2_with fail
    go_ret
    exact ⟨by rw [← H2.out]; rfl, rfl⟩
theorem Own.ge9 {w : World} {base : Nat} {e : TypeId} {size : Nat} {A : Option Addr} {n c : Nat} {xs : List Value} (h : Own w base e size A n c xs) : ∀ a, A = some a → base ≤ a.block ∧ a.block < w.heap.size := by
  intro a ha
  subst ha
  exact ⟨(h.blockAt a.block rfl).1, (h.blockAt a.block rfl).2.1⟩
theorem bv_nat (k : Nat) (h : k < 30) : bv (UInt8.ofNat k) = .int .u8 (k : Int) := by
  unfold bv
  rw [UInt8.toNat_ofNat', Nat.mod_eq_of_lt (by omega)]
def TrueQ (W : World) (e : Ending) (w' : World) : Prop := e = .returned (.bool true) ∧ Below W.heap.size W w'
set_option maxHeartbeats 8000000 in
set_option maxRecDepth 1000000 in
theorem small_walk (u : List UInt8) (x : Int) (A : Option Addr) (n c : Nat) (hu : u.length = n) (W : World) (hr : Reads W W.heap.size 1 A n (u.map bv)) (hc : n ≤ c) (hc2 : c ≤ maxLen) :
    Calls Tryz.prog 3 #[.slice A n c, .int .i64 x] W (TrueQ W) := by
  have HKN := Lib.hid (known9_any W)
  have HQ := Lib.hid (show TrueQ W = fun e w' => e = .returned (.bool true) ∧ Below W.heap.size W w' from rfl)
  obtain ⟨z, hz⟩ : ∃ z, W.heap.size = z := ⟨_, rfl⟩
  rw [HQ.out, hz]
  rw [hz] at HKN hr
  have HZ := Lib.hid hz
  have HU := Lib.hid hu
  have HR := Lib.hid hr
  unfold maxLen at hc2
  clear hz hu hr HQ
  go_enter Tryz.func3, Tryz.ntmps3
  go_upto_region 3 with (go_at_call 4; (with_reducible refine HKN.out.mono ?_); rintro _ w1 ⟨rfl, hb1⟩; have HB1 := Lib.hid hb1; clear hb1)
  clear HKN
  by_cases h1 : n < 100
  · have d1 : decide ((n : Int) < 100) = true := decide_eq_true (by omega)
    have h1' : (n : Int) < 100 := by omega
    go_wp2_with fail
    go_ret
    exact ⟨rfl, HB1.out⟩
  have d1 : decide ((n : Int) < 100) = false := decide_eq_false (by omega)
  have h1' : ¬ (n : Int) < 100 := by omega
  by_cases h2 : 2000 < n
  · have d2 : decide ((2000 : Int) < (n : Int)) = true := decide_eq_true (by omega)
    have h2' : (2000 : Int) < (n : Int) := by omega
    go_wp2_with fail
    go_ret
    exact ⟨rfl, HB1.out⟩
  have d2 : decide ((2000 : Int) < (n : Int)) = false := decide_eq_false (by omega)
  have h2' : ¬ (2000 : Int) < (n : Int) := by omega
  have hN1 := wiN_lt (x := x) (n := 30) (by omega)
  have HWI := Lib.hid (within9_any x w1)
  generalize wiN x 30 = N0 at *
  obtain ⟨N, hN⟩ : ∃ N, 1 + N0 = N := ⟨_, rfl⟩
  have hI1 : (1 : Int) + (N0 : Int) = (N : Int) := by omega
  go_upto_region 6 with (go_at_call 5; (with_reducible refine HWI.out.mono ?_); rintro _ w2 ⟨rfl, rfl⟩)
  have hN2 : N ≤ 30 := by omega
  have hN3 : 1 ≤ N := by omega
  clear hN hN1 d1 h1' d2 h2' HWI hI1
  go_upto_region 8 with fail
  have hz2 : z ≤ w2.heap.size := by have := HB1.out.size; rw [HZ.out] at this; exact this
  go_loopg [5, 6] N (fun kx s5 s6 wr => ∃ (k : Nat) (A1 : Option Addr) (c1 : Nat) (os : List Ob), s6 = .int .i64 k ∧ s5 = .slice A1 k c1 ∧ k ≤ N ∧ N - k ≤ kx ∧ Hid (os.length = k) ∧ Hid (os.map Ob.x = (List.range k).map UInt8.ofNat) ∧ Hid (Own wr z 27 2 A1 k c1 (os.flatMap (obL (u.length + 1)))) ∧ Hid (∀ o ∈ os, Reads wr wr.heap.size 1 o.A (u.length + 1) ((u ++ [o.x]).map bv) ∧ u.length + 1 ≤ o.c ∧ o.c ≤ maxLen ∧ ∀ a, o.A = some a → NotB A1 k c1 a.block) ∧ Hid (Below z W wr) ∧ z ≤ wr.heap.size)
  case atStart => exact ⟨0, none, 0, [], rfl, rfl, Nat.zero_le _, Nat.le_refl _, Lib.hid rfl, Lib.hid rfl, Lib.hid (Own.nil _ _ _ _), Lib.hid (fun o ho => by cases ho), HB1, hz2⟩
  case round =>
    clear hz2 HB1
    obtain ⟨k, A1, c1, os, rfl, rfl, hkN, hkx, HL, HX, HO, HB, HW, hzr⟩ := hrel
    by_cases hlt : k < N
    · have hltz : (k : Int) < (N : Int) := by omega
      go_upto_region 10 with fail
      obtain ⟨g, hg⟩ : ∃ g, wr.heap.size = g := ⟨_, rfl⟩
      rw [hg] at hzr
      have hk30 : k < 30 := by omega
      have HG := Lib.hid hg
      have hr1 : Reads (wr.alloc (.cells #[] 5)) g 1 A n (u.map bv) := ((HR.out.below HW.out).more hzr).below ((Below.refl g wr).alloc (by omega) _)
      have hm1 : 0 + n ≤ maxLen := by unfold maxLen; omega
      have hm2 : (0 + n) * 1 ≤ 140737488355328 := by omega
      have hm3 : n + 1 ≤ maxLen := by unfold maxLen; omega
      have hm4 : (n + 1) * 1 ≤ 140737488355328 := by omega
      have hm5 : k + 1 ≤ maxLen := by unfold maxLen; omega
      have hm6 : (k + 1) * 32 ≤ 140737488355328 := by omega
      have hn0 : 0 + n = n := Nat.zero_add _
      have hf0 : Own (wr.alloc (.cells #[] 5)) g 5 1 (some ⟨g, 0, none⟩) 0 0 [] := Own.fresh0 (by rw [← hg]; exact heap_alloc_new _ _) (Nat.le_refl _)
      have hzA : g ≤ (wr.alloc (.cells #[] 5)).heap.size := by simp; omega
      have kA : Below g wr (wr.alloc (.cells #[] 5)) := (Below.refl g wr).alloc (by omega) _
      have hx1 : ∀ v ∈ ([UInt8.ofNat k].map bv), v.oneCell' = true := bvs_one _
      have hbk := bv_nat k hk30
      rw [List.map_singleton, hbk] at hx1
      go_upto_region 9 with (first
        | (refine wpList_append_sl rfl elemU8 rfl rfl hf0 rfl hr1 (bvs_one _) hm1 hm2 hzA ?_; rw [hn0]; intro A2 c2 w3 ho3 hk3; have HK3 := Lib.hid (kA.trans (hk3.below (Nat.le_refl _) hzA (by simp))); have HO3 := Lib.hid ho3; have hz3 : g ≤ w3.heap.size := Nat.le_trans hzA hk3.size; clear ho3 hk3)
        | (refine wpList_buildSlice1 rfl elemU8 rfl (vs := #[.int .u8 (k : Int)]) (z := #[.int .u8 0]) (by kernel_rfl) rfl rfl (by omega) rfl ?_)
        | (refine wpList_append_sl rfl elemU8 rfl rfl (HO3.out.alloc _) rfl (Reads.of_cells (xs := [.int .u8 (k : Int)]) (heap_alloc_new _ _) rfl rfl) hx1 hm3 hm4 (by simp; omega) ?_; intro A4 c4 w5 ho5 hk5; have HO5 := Lib.hid ho5; have HK5 := Lib.hid (HK3.out.trans (((Below.refl g w3).alloc hz3 _).trans (hk5.below (Nat.le_refl _) (by simp; omega) (by simp)))); clear ho5 hk5)
        | (refine wpList_buildSlice1 rfl elemOb rfl (vs := #[.int .i64 1, .slice A4 (n + 1) c4]) (z := #[.int .i64 0, .slice none 0 0]) zero_ob rfl rfl (by omega) rfl ?_)
        | (refine wpList_append_slf rfl elemOb rfl rfl ((HO.out.kept (Kept.ofBelow (base := 0) (E := []) (G := []) (show Below wr.heap.size wr w5 by rw [HG.out]; exact HK5.out)) (by simp) (by simp)).alloc _) (by omega) rfl (Reads.of_cells (xs := [.int .i64 1, .slice A4 (n + 1) c4]) (heap_alloc_new _ _) rfl rfl) (ob_one _ _ _) hm5 hm6 (by have := HK5.out.size; simp; omega) ?_; intro A6 c6 w6 ho6 hk6 hn6; have HO6 := Lib.hid ho6; have HK6 := Lib.hid hk6; have HN6 := Lib.hid hn6; clear ho6 hk6 hn6))
      have hz5 : g ≤ w5.heap.size := by have := HK5.out.size; omega
      have hs5 : w5.heap.size + 1 = (w5.alloc (.cells #[.int .i64 1, .slice A4 (n + 1) c4] 27)).heap.size := by simp
      have kB : Below g wr (w5.alloc (.cells #[.int .i64 1, .slice A4 (n + 1) c4] 27)) := HK5.out.alloc hz5 _
      have hb6 : Below z W w6 := HW.out.trans ((kB.mono hzr).trans (HK6.out.below (Nat.le_refl _) (by omega) (by simp)))
      have hz6 : w5.heap.size + 1 ≤ w6.heap.size := by rw [hs5]; exact HK6.out.size
      have hl6 : (os ++ [(⟨UInt8.ofNat k, A4, c4⟩ : Ob)]).length = k + 1 := by rw [List.length_append, HL.out]; rfl
      have hx6 : (os ++ [(⟨UInt8.ofNat k, A4, c4⟩ : Ob)]).map Ob.x = (List.range (k + 1)).map UInt8.ofNat := by rw [List.map_append, HX.out, List.range_succ, List.map_append]; rfl
      have ho6 : Own w6 z 27 2 A6 (k + 1) c6 ((os ++ [(⟨UInt8.ofNat k, A4, c4⟩ : Ob)]).flatMap (obL (u.length + 1))) := by
        have := HO6.out
        rw [List.flatMap_append]
        simpa [obL, HU.out] using this
      have hB6 : ∀ o ∈ os ++ [(⟨UInt8.ofNat k, A4, c4⟩ : Ob)], Reads w6 w6.heap.size 1 o.A (u.length + 1) ((u ++ [o.x]).map bv) ∧ u.length + 1 ≤ o.c ∧ o.c ≤ maxLen ∧ ∀ a, o.A = some a → NotB A6 (k + 1) c6 a.block := by
        intro o ho
        rcases List.mem_append.1 ho with q | q
        · obtain ⟨r1, r2, r3, r4⟩ := HB.out o q
          rw [hg] at r1
          have hlt6 : ∀ a, o.A = some a → a.block < g := fun a ha => by
            obtain ⟨ad, e, hb, _⟩ := r1.2 (by omega)
            rw [ha] at e
            injection e with e
            subst e
            exact hb
          have fr : ∀ a, o.A = some a → w6.heap[a.block]? = wr.heap[a.block]? ∧ NotB A6 (k + 1) c6 a.block := fun a ha => by
            obtain ⟨e1, e2⟩ := HN6.out a.block (by have := hlt6 a ha; omega) (r4 a ha)
            exact ⟨e1.trans (kB.block a.block (hlt6 a ha)), e2⟩
          exact ⟨(r1.keptB fun a ha _ => (fr a ha).1).more (by omega), r2, r3, fun a ha => (fr a ha).2⟩
        · rw [List.mem_singleton] at q
          subst q
          have hge := HO5.out.ge9
          have hnb : ∀ a, A4 = some a → NotB A1 k c1 a.block := fun a ha => HO.out.notB (.inr (by rw [hg]; exact (hge a ha).1))
          have fr : ∀ a, A4 = some a → w6.heap[a.block]? = w5.heap[a.block]? ∧ NotB A6 (k + 1) c6 a.block := fun a ha => by
            obtain ⟨e1, e2⟩ := HN6.out a.block (by have := (hge a ha).2; omega) (hnb a ha)
            exact ⟨e1.trans (Below.heap_alloc _ _ _ (hge a ha).2), e2⟩
          have hcap := HO5.out.cap_le
          refine ⟨?_, by rw [HU.out]; exact hcap.1, hcap.2, fun a ha => (fr a ha).2⟩
          have hr5 : Reads w5 w5.heap.size 1 A4 (n + 1) ((u ++ [UInt8.ofNat k]).map bv) := by
            rw [List.map_append, List.map_singleton, hbk]
            exact HO5.out.reads
          rw [HU.out]
          exact (hr5.keptB fun a ha _ => (fr a ha).1).more (by omega)
      have HL6 := Lib.hid hl6
      have HX6 := Lib.hid hx6
      have HO7 := Lib.hid ho6
      have HB6 := Lib.hid hB6
      have HW6 := Lib.hid hb6
      have hzf : z ≤ w6.heap.size := by omega
      generalize os ++ [(⟨UInt8.ofNat k, A4, c4⟩ : Ob)] = os6 at *
      clear HL HX HO HB HW HO3 HK3 HO5 HK5 HO6 HK6 HN6 hl6 hx6 ho6 hB6 hb6 kB kA hf0 hr1 hx1 hzA HG
      go_wp2_with fail
      go_roundg (N - (k + 1))
      case measure => omega
      case rel => exact ⟨k + 1, A6, c6, os6, by go_num, rfl, by omega, Nat.le_refl _, HL6, HX6, HO7, HB6, HW6, hzf⟩
    · obtain rfl : k = N := by omega
      clear hlt hkx hkN
      generalize wr = wb at *
      have hob : ObI wb wb.heap.size u A1 os := by
        refine ⟨?_, fun o ho => (HB.out o ho).1, fun o ho => ⟨(HB.out o ho).2.1, (HB.out o ho).2.2.1⟩⟩
        rw [HL.out]
        exact HO.out.reads
      have HOB := Lib.hid hob
      clear HO HB hob
      obtain ⟨zb, hzb⟩ : ∃ zb, wb.heap.size = zb := ⟨_, rfl⟩
      rw [hzb] at HOB hzr
      have HBW : Hid (Below zb wb wb) := Lib.hid (Below.refl _ _)
      have hzw : zb ≤ wb.heap.size := by omega
      clear hzb
      have hul : u.length ≤ 2000 := by rw [HU.out]; omega
      go_upto_region 12 with fail
      have hon : ∀ i, i < k → ∃ o, os[i]? = some o ∧ o ∈ os := fun i hi => ⟨os[i]'(by rw [HL.out]; exact hi), List.getElem?_eq_getElem _, List.getElem_mem _⟩
      obtain ⟨gL, oL, rfl, hgL, hcL⟩ := HOB.out.row.at0 (by rw [HL.out]; omega) (by omega)
      have HLD : Hid (∀ (i : Nat) (o : Ob) (wx : World), os[i]? = some o → Below zb wb wx → (Instr.loadAt 27 (.pointer (some ⟨gL, oL + i * 2, none⟩))).run Tryz.prog wx = .ok (.agg #[.int .i64 1, .slice o.A (n + 1) o.c]) wx) := Lib.hid (by
        intro i o wx ho hb
        refine run_loadAt_cells wx _ _ Tryz.underlying27 rfl info_ob (fun j v hj => ?_)
        rw [add_at, Nat.add_assoc, hb.cell (by exact hgL)]
        exact hcL _ v (flatn_at (obL_len _) os i j o ho v (by rw [HU.out]; simpa [obL] using hj)))
      have HID : Hid (∀ (o : Ob) (wx : World), o ∈ os → Below zb wb wx → zb ≤ wx.heap.size → Calls Tryz.prog 6 #[.agg #[.int .i64 1, .slice o.A (n + 1) o.c]] wx (IdEPost (idU u o.x, 0) wx)) := Lib.hid (by
        intro o wx ho hb hzx
        have hr := ((HOB.out.body o ho).below hb).more hzx
        have hcap := HOB.out.cap o ho
        have hul' : (u ++ [o.x]).length = n + 1 := by rw [← HU.out]; simp
        have := refId_any 1 (u ++ [o.x]) o.A o.c wx (by rw [hul', ← HU.out]; exact hr) (by rw [hul']; omega) (by rw [hul', ← HU.out]; exact hcap.1) hcap.2
        rw [idU_obj u o.x hul, hul'] at this
        exact this)
      clear hcL
      go_loopg [7] k (fun kx s7 wx => ∃ (j : Nat), s7 = .int .i64 j ∧ j ≤ k ∧ k - j ≤ kx ∧ Hid (∀ (a b : Nat) (oa ob : Ob), a < b → b < j → os[a]? = some oa → os[b]? = some ob → idU u oa.x ≠ idU u ob.x) ∧ Hid (Below zb wb wx) ∧ zb ≤ wx.heap.size)
      case atStart => exact ⟨0, rfl, Nat.zero_le _, Nat.le_refl _, Lib.hid (fun a b oa ob _ h => by omega), HBW, hzw⟩
      case round =>
        clear HBW hzw
        obtain ⟨j, rfl, hjk, hjx, HNE, HBX, hzx⟩ := hrel
        by_cases hlt : j < k
        · have hltz : (j : Int) < (k : Int) := by omega
          obtain ⟨oj, hoj, hmj⟩ := hon j hlt
          go_upto_region 15 with fail
          go_loopg [8] j (fun kx s8 wy => ∃ (i : Nat), s8 = .int .i64 i ∧ i ≤ j ∧ j - i ≤ kx ∧ Hid (∀ (a : Nat) (oa : Ob), a < i → os[a]? = some oa → idU u oa.x ≠ idU u oj.x) ∧ Hid (Below zb wb wy) ∧ zb ≤ wy.heap.size)
          case atStart => exact ⟨0, rfl, Nat.zero_le _, Nat.le_refl _, Lib.hid (fun a oa h => by omega), HBX, hzx⟩
          case round =>
            clear HBX hzx
            obtain ⟨i, rfl, hij, hix, HNI, HBY, hzy⟩ := hrel
            by_cases hlt2 : i < j
            · have hltz2 : (i : Int) < (j : Int) := by omega
              obtain ⟨oi, hoi, hmi⟩ := hon i (by omega)
              go_upto_region 18 with (first
                | (refine wpList_load rfl rfl rfl (HLD.out j oj _ hoj HBY.out) ?_)
                | (go_at_call 6; (with_reducible refine (HID.out oj _ hmj HBY.out hzy).mono ?_); rintro _ w3 ⟨rfl, hb3⟩; have HB3 := Lib.hid (HBY.out.trans (hb3.mono hzy)); have hz3 : zb ≤ w3.heap.size := Nat.le_trans hzy hb3.size; clear hb3)
                | (refine wpList_allocAgg rfl rfl (zero_noId _) ?_)
                | (refine wpList_storeBlk rfl rfl (vs := idC (idU u oj.x)) rfl rfl (Blk.new _ _ _) (by rw [idC_size, idC_size]) (by rw [idC_size]; exact info42) (idL_one _) ?_; intro w4 hb4 hk4 hs4))
              have HB4 := Lib.hid ((HB3.out.alloc hz3 (.cells (idC noId) 29)).trans (hk4.below (by simp; omega) (by unfold Only; intro i hi h; omega)))
              have hz4 : zb ≤ w4.heap.size := by have := hb4.lt; omega
              have HQ4 := Lib.hid hb4
              clear hb4 hk4 hs4 HBY
              go_upto_region 19 with (first
                | (refine wpList_load rfl rfl rfl (HLD.out i oi _ hoi HB4.out) ?_)
                | (go_at_call 6; (with_reducible refine (HID.out oi _ hmi HB4.out hz4).mono ?_); rintro _ w5 ⟨rfl, hb5⟩; have HB5 := Lib.hid (HB4.out.trans (hb5.mono hz4)); have hz5 : zb ≤ w5.heap.size := Nat.le_trans hz4 hb5.size; have HQ5 := Lib.hid (HQ4.out.below hb5 HQ4.out.lt); clear hb5)
                | (refine wpList_allocAgg rfl rfl (zero_noId _) ?_)
                | (refine wpList_storeBlk rfl rfl (vs := idC (idU u oi.x)) rfl rfl (Blk.new _ _ _) (by rw [idC_size, idC_size]) (by rw [idC_size]; exact info42) (idL_one _) ?_; intro w6 hb6 hk6 hs6))
              have HB6 := Lib.hid ((HB5.out.alloc hz5 (.cells (idC noId) 29)).trans (hk6.below (by simp; omega) (by unfold Only; intro i hi h; omega)))
              have hz6 : zb ≤ w6.heap.size := by have := hb6.lt; omega
              have hq6 := (HQ5.out.alloc (.cells (idC noId) 29)).keep hk6 (by unfold Only; have := HQ5.out.lt; omega)
              have HQ6 := Lib.hid (And.intro hq6 hb6)
              have hnb : (binOp .eql 29 (idV (idU u oj.x)) (idV (idU u oi.x))).run Tryz.prog w6 = .ok (.bool (idU u oj.x == idU u oi.x)) w6 := run_eql_id w6 _ _
              clear hb6 hk6 hs6 hq6 HQ4 HQ5 HB5 HB4 HB3
              generalize hee : (idU u oj.x == idU u oi.x) = ee at *
              cases ee with
              | true =>
                go_wp2_with (first | (refine wpList_load rfl rfl rfl (load_id HQ6.out.1) ?_) | (refine wpList_load rfl rfl rfl (load_id HQ6.out.2) ?_) | (refine wpList_bin rfl rfl rfl rfl (guard_id _ _ _ _ _ _) hnb ?_))
                go_ret
                exact ⟨rfl, HW.out.trans (HB6.out.mono hzr)⟩
              | false =>
                have HEE := Lib.hid (show idU u oi.x ≠ idU u oj.x from fun e => by rw [e] at hee; simp at hee)
                clear hee
                go_wp2_with (first | (refine wpList_load rfl rfl rfl (load_id HQ6.out.1) ?_) | (refine wpList_load rfl rfl rfl (load_id HQ6.out.2) ?_) | (refine wpList_bin rfl rfl rfl rfl (guard_id _ _ _ _ _ _) hnb ?_))
                go_roundg (j - (i + 1))
                case measure => omega
                case rel => exact ⟨i + 1, by go_num, by omega, Nat.le_refl _, Lib.hid (fun a oa ha h => by
                    rcases Nat.lt_or_ge a i with q | q
                    · exact HNI.out a oa q h
                    · obtain rfl : a = i := by omega
                      rw [hoi] at h
                      injection h with h
                      subst h
                      exact HEE.out), HB6, hz6⟩
            · obtain rfl : i = j := by omega
              clear hlt2
              go_wp2_with fail
              go_roundg (k - (i + 1))
              case measure => omega
              case rel => exact ⟨i + 1, by go_num, by omega, Nat.le_refl _, Lib.hid (fun a b oa ob h1 h2 h3 h4 => by
                  rcases Nat.lt_or_ge b i with q | q
                  · exact HNE.out a b oa ob h1 q h3 h4
                  · obtain rfl : b = i := by omega
                    rw [hoj] at h4
                    injection h4 with h4
                    subst h4
                    exact HNI.out a oa h1 h3), HBY, hzy⟩
        · obtain rfl : j = k := by omega
          clear hlt
          have hnd : (os.map fun o => idU u o.x).Nodup := by
            unfold List.Nodup
            rw [List.pairwise_iff_getElem]
            intro a b ha hb hab
            rw [List.length_map] at ha hb
            rw [List.getElem_map, List.getElem_map]
            exact HNE.out a b _ _ hab (by rw [← HL.out]; exact hb) (List.getElem?_eq_getElem ha) (List.getElem?_eq_getElem hb)
          have hob : ObI wr wr.heap.size u (some ⟨gL, oL, none⟩) os := by
            have h0 : ObI wr zb u (some ⟨gL, oL, none⟩) os := ⟨HOB.out.row.below HBX.out, fun o ho => (HOB.out.body o ho).below HBX.out, HOB.out.cap⟩
            exact h0.more hzx
          have hbu := build_any u os (some ⟨gL, oL, none⟩) c1 wr hob hnd hul (.inr (by rw [HU.out]; omega)) (by rw [HL.out]; omega)
          rw [HL.out] at hbu
          obtain ⟨wh, hwh⟩ : ∃ wh, (j + 8) / 9 = wh := ⟨_, rfl⟩
          obtain ⟨P, hP⟩ : ∃ P, wh * (n + 1) = P := ⟨_, rfl⟩
          obtain ⟨M, hM⟩ : ∃ M, 1068 + 45 * j + (P + (j - wh) * 23) = M := ⟨_, rfl⟩
          have HBU : Hid (Calls Tryz.prog 7 #[.slice (some ⟨gL, oL, none⟩) j c1] wr fun e w' => ∃ A2 c2 xs, e = .returned (.tuple #[.slice A2 M c2, .int .i64 0]) ∧ Hid (xs.length = j ∧ xs.Pairwise (fun a b => (idU u a).1 < (idU u b).1) ∧ (packB u xs).length = M ∧ Own w' wr.heap.size 5 1 A2 M c2 ((packB u xs).map bv) ∧ Below wr.heap.size wr w')) := Lib.hid (hbu.mono (by
            rintro e w' ⟨A2, c2, xs, rfl, hp, hpw, ho, hb⟩
            have hlx : xs.length = j := by have := hp.length_eq; rw [List.length_map, HL.out] at this; exact this
            have hpl : (packB u xs).length = M := by rw [packB_len u xs j hlx, HU.out, hwh, hP, hM]
            rw [hpl] at ho ⊢
            exact ⟨A2, c2, xs, rfl, Lib.hid ⟨hlx, hpw, hpl, ho, hb⟩⟩))
          have HWX := Lib.hid (HW.out.trans (HBX.out.mono hzr))
          have hzz : z ≤ wr.heap.size := by omega
          clear hnd hob hbu HNE HLD HID hon HBX HOB
          go_upto_region 23 with (go_at_call 7; (with_reducible refine HBU.out.mono ?_); rintro _ w8 ⟨A2, c2, xs, rfl, HF⟩)
          have HPA : Hid (Calls Tryz.prog 8 #[.slice A2 M c2] w8 fun e w' => ∃ A3 c3, e = .returned (.tuple #[.slice A3 j c3, .int .i64 0]) ∧ Below z W w') := Lib.hid (by
            obtain ⟨hlx, hpw, hpl, ho, hb⟩ := HF.out
            refine (packParse_any u xs j hlx hul (.inr (by rw [HU.out]; omega)) (by omega) hpw A2 c2 M hpl w8 ho.reads ho.cap_le.1 ho.cap_le.2).mono ?_
            rintro e w' ⟨A3, c3, os3, rfl, _, _, hb3⟩
            exact ⟨A3, c3, rfl, HWX.out.trans ((hb.mono hzz).trans (hb3.mono (by have := hb.size; omega)))⟩)
          have hwj : wh ≤ j := by omega
          have hP2 : P ≤ 40000 := by
            rw [← hP]
            have h1 : wh ≤ 4 := by omega
            have h2 : n + 1 ≤ 2001 := by omega
            exact Nat.le_trans (Nat.mul_le_mul h1 h2) (by omega)
          have hPI : (wh : Int) * ((n : Int) + 1) = (P : Int) := by rw [← hP]; push_cast; rfl
          have hQI : ((j : Int) + 8) / 9 = (wh : Int) := by omega
          have hMI : (M : Int) = 1068 + 45 * (j : Int) + ((P : Int) + ((j : Int) - (wh : Int)) * 23) := by rw [← hM]; omega
          have HMI := Lib.hid hMI
          have HWH := Lib.hid hwh
          clear hMI hP hM hwh HF HBU HWX hzz hul
          go_upto_region 24 with (go_at_call 8; (with_reducible refine HPA.out.mono ?_); rintro _ w9 ⟨A3, c3, rfl, hb9⟩; have HB9 := Lib.hid hb9; clear hb9)
          have hML : decide ((M : Int) ≤ 1068 + (j : Int) * 45 + (P : Int) + ((j : Int) - (wh : Int)) * 31) = true := decide_eq_true (by have := HMI.out; omega)
          go_wp2_with fail
          go_ret
          exact ⟨rfl, HB9.out⟩
end Go.Proofs.YtmlmbkelpjmafaaGreat
