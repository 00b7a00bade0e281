/- Contract of the reference's Score. No statement of the seat is proved here. -/
import Derived.Test.YteeeehfnldkjlaaGreatDoorTC42
import Derived.Test.YteeeehfnldkjlaaGreatDoorTCId
namespace Go.Proofs.YteeeehfnldkjlaaGreatDoor
open Go.RowKit Go.Maps
def boolsC (U : List Bool) : Array Value := (U.map Value.bool).toArray
theorem boolsC_at {w : World} {g : Nat} {U : List Bool} {k : Nat} {u : Bool} (h : Blk w g 4 (boolsC U)) (hu : U[k]? = some u) : w.cell? ⟨g, k, none⟩ = some (.bool u) := (h.cell k).trans (by simp [boolsC, hu])
theorem boolsC_set {w : World} {g : Nat} {U : List Bool} (h : Blk w g 4 (boolsC U)) (k : Nat) (u : Bool) : Blk (w.setCell ⟨g, k, none⟩ (.bool u)) g 4 (boolsC (U.set k u)) := by
 have := h.set_ k (.bool u)
 rwa [show (boolsC U).setIfInBounds k (.bool u) = boolsC (U.set k u) from by simp [boolsC, List.map_set]] at this
theorem info_bool1 : (Tryz.prog.info? 4).map (fun i => (i.zero, i.size, i.bytes)) = some (some (.bool false), 1, 1) := by kernel_rfl
attribute [local go_sem] run_eql_strC run_neq_strC eqGuard_strC neGuard_strC
set_option maxHeartbeats 4000000 in
set_option maxRecDepth 100000 in
theorem rscore_any (a b : List UInt8) (A1 A2 : Option Addr) (c1 c2 B : Nat) (w : World) (hB : B ≤ w.heap.size) (h1 : Reads w B 1 A1 a.length (a.map byteV)) (h2 : Reads w B 1 A2 b.length (b.map byteV)) (ha : a.length ≤ 1000000) (hb : b.length ≤ 1000000) (hc1 : a.length ≤ c1) (hc2 : b.length ≤ c2) :
    Calls Tryz.prog 57 #[.slice A1 a.length c1, .slice A2 b.length c2] w fun e w' => e = .returned (.int .i64 (scoreP a b : Nat)) ∧ Below w.heap.size w w' := by
 have k1 : (convert 39 9 (.slice A1 a.length c1)).run Tryz.prog w = .ok (strC a) w := by
  rw [run_convert_bytes_string w 39 9 5 A1 a.length c1 Tryz.underlying39 Tryz.underlying5 Tryz.underlying9, run_str_of h1]
  rfl
 have k2 : (convert 39 9 (.slice A2 b.length c2)).run Tryz.prog w = .ok (strC b) w := by
  rw [run_convert_bytes_string w 39 9 5 A2 b.length c2 Tryz.underlying39 Tryz.underlying5 Tryz.underlying9, run_str_of h2]
  rfl
 have HS1 := Lib.hid (rsplit_any a A1 c1 B w hB h1 ha hc1)
 have HS2 := Lib.hid (fun W (hW : Below w.heap.size w W) => rsplit_any b A2 c2 B W (Nat.le_trans hB hW.size) (h2.below (hW.mono hB)) hb hc2)
 have hsc : scoreP a b = if a = b then 100 else 200 * commonP (splitL a) (splitL b) / ((splitL a).length + (splitL b).length) := rfl
 obtain ⟨lx, lxs⟩ := splitL_len a
 obtain ⟨ly, lys⟩ := splitL_len b
 have hne : a ≠ b → 0 < (splitL a).length + (splitL b).length := fun q => by
  rcases Nat.eq_zero_or_pos ((splitL a).length + (splitL b).length) with r | r
  · have e1 := List.eq_nil_of_length_eq_zero (show (splitL a).length = 0 by omega)
    have e2 := List.eq_nil_of_length_eq_zero (show (splitL b).length = 0 by omega)
    have e3 := splitL_flat a
    have e4 := splitL_flat b
    rw [e1] at e3
    rw [e2] at e4
    exact absurd (e3.symm.trans e4) q
  · exact r
 generalize scoreP a b = sc at *
 generalize splitL a = x at *
 generalize splitL b = y at *
 have HSC := Lib.hid hsc
 have HNE := Lib.hid hne
 have hxl : x.length ≤ 1000000 := by omega
 have hyl : y.length ≤ 1000000 := by omega
 clear hsc lx ly lxs lys hne h1 h2
 go_enter Tryz.func57, Tryz.ntmps57
 cases hab : (a == b) with
 | true =>
  have HE := Lib.hid (show sc = 100 from by rw [HSC.out, if_pos (beq_iff_eq.1 hab)])
  go_wp2_with fail
  go_ret
  exact ⟨by rw [HE.out]; rfl, Below.refl _ _⟩
 | false =>
  have hab' := beq_eq_false_iff_ne.1 hab
  have HE := Lib.hid (show sc = 200 * commonP x y / (x.length + y.length) from by rw [HSC.out, if_neg hab'])
  have hpos := HNE.out hab'
  clear hab' HSC HNE
  go_upto_region 3 with fail
  clear k1 k2
  go_cut [5, 6] (fun s5 s6 wx => ∃ A3 c3 A4 c4, s5 = .slice A3 x.length c3 ∧ s6 = .slice A4 y.length c4 ∧ Hid (Reads wx wx.heap.size 1 A3 x.length (strL x)) ∧ Hid (Reads wx wx.heap.size 1 A4 y.length (strL y)) ∧ Hid (Below w.heap.size w wx))
  case first =>
   go_wp2_with (first
    | (go_at_call 92; (with_reducible refine HS1.out.mono ?_); rintro _ w1 ⟨A3, c3, rfl, o3, b3⟩; have HO3 := Lib.hid o3; have HB3 := Lib.hid b3; clear o3 b3)
    | (go_at_call 92; (with_reducible refine (HS2.out _ HB3.out).mono ?_); rintro _ w2 ⟨A4, c4, rfl, o4, b4⟩; have HX := Lib.hid (show Reads w2 w2.heap.size 1 A3 x.length (strL x) from (HO3.out.reads.below b4).more b4.size); have HY := Lib.hid o4.reads; have HB4 := Lib.hid (show Below w.heap.size w w2 from HB3.out.trans (b4.mono HB3.out.size)); clear o4 b4))
   go_meet
   exact ⟨A3, c3, A4, c4, rfl, rfl, HX, HY, HB4⟩
  case rest =>
   obtain ⟨A3, c3, A4, c4, rfl, rfl, HX, HY, HB4⟩ := hcut
   clear HS1 HS2
   generalize wc = w2 at *
   obtain ⟨g, hg⟩ : ∃ g, w2.heap.size = g := ⟨_, rfl⟩
   have HG := Lib.hid hg
   have hbk := blk_new_at w2 4 (Array.replicate y.length (.bool false)) g hg
   have hbw := below_at (.cells (Array.replicate y.length (.bool false)) 4) hg
   have HU0 := Lib.hid (show Blk (w2.alloc (.cells (Array.replicate y.length (.bool false)) 4)) g 4 (boolsC (List.replicate y.length false)) from by
    rwa [show boolsC (List.replicate y.length false) = Array.replicate y.length (.bool false) from by simp [boolsC]])
   have HW0 := Lib.hid hbw
   have HXR := Lib.hid (fun W (k : Below g w2 W) => HX.out.below (hg ▸ k))
   have HYR := Lib.hid (fun W (k : Below g w2 W) => HY.out.below (hg ▸ k))
   clear hbk hbw HX HY
   go_wp2_with (refine wpList_make_one rfl rfl Tryz.underlying96 info_bool1 rfl (by omega) y.length (by omega) rfl rfl rfl rfl ?_)
   go_loopw [8, 9] (fun s8 s9 wr => ∃ (i c : Nat) (U : List Bool), s8 = .int .i64 (c : Nat) ∧ s9 = .int .i64 (i : Nat) ∧ i ≤ x.length ∧ c ≤ i ∧ Hid (U.length = y.length) ∧ Hid (c + commonP (unL y U) (x.drop i) = commonP x y) ∧ Hid (Blk wr g 4 (boolsC U)) ∧ Hid (Below g w2 wr)) (fun _ s9 _ => x.length - (intOf s9).toNat)
   case atStart => exact ⟨0, 0, List.replicate y.length false, rfl, rfl, Nat.zero_le _, Nat.le_refl _, Lib.hid (by simp), Lib.hid (by rw [unL_start, List.drop_zero, Nat.zero_add, common_comm]), HU0, HW0⟩
   case round =>
    clear HU0 HW0
    obtain ⟨i, c, U, rfl, rfl, hi, hc, HUL, HC, HU, HW⟩ := hrel
    by_cases hlt : i < x.length
    · obtain ⟨s, hs⟩ : ∃ s, x[i]? = some s := ⟨_, List.getElem?_eq_getElem hlt⟩
      have hco := HC.out
      rw [show x.drop i = s :: x.drop (i + 1) from List.drop_eq_getElem?_toList_append.trans (by rw [hs]; rfl), commonP] at hco
      have HCO := Lib.hid hco
      have HXS := Lib.hid hs
      have i0 : (0 : Int) ≤ (i : Int) := by omega
      have i1 : (i : Int) < (x.length : Int) := by omega
      clear hco hs HC
      go_wp2_with fail
      go_loopw [8, 10] (fun s8 s10 wx => ∃ k : Nat, s8 = .int .i64 (c : Nat) ∧ s10 = .int .i64 (k : Nat) ∧ k ≤ y.length ∧ Hid (∀ j, j < k → y[j]? = some s → U[j]? = some true) ∧ Hid (Blk wx g 4 (boolsC U)) ∧ Hid (Below g w2 wx)) (fun _ s10 _ => y.length - (intOf s10).toNat)
      case atStart => exact ⟨0, rfl, rfl, Nat.zero_le _, Lib.hid (fun j hj => absurd hj (by omega)), HU, HW⟩
      case round =>
       clear HU HW
       obtain ⟨k, rfl, rfl, hk, HJ, HU, HW⟩ := hrel
       by_cases hky : k < y.length
       · obtain ⟨t, ht⟩ : ∃ t, y[k]? = some t := ⟨_, List.getElem?_eq_getElem hky⟩
         obtain ⟨u, hu⟩ : ∃ u, U[k]? = some u := ⟨_, List.getElem?_eq_getElem (by rw [HUL.out]; exact hky)⟩
         obtain ⟨g4, f4, rfl, _, hc4⟩ := (HXR.out _ HW.out).at0 (by omega) (by omega)
         have d4 : wr.cell? ⟨g4, f4 + i, none⟩ = some (.string ⟨s.toArray⟩) := hc4 i (strC s) (by simp [strL, HXS.out])
         obtain ⟨g5, f5, rfl, _, hc5⟩ := (HYR.out _ HW.out).at0 (by omega) (by omega)
         have d5 : wr.cell? ⟨g5, f5 + k, none⟩ = some (.string ⟨t.toArray⟩) := hc5 k (strC t) (by simp [strL, ht])
         have d6 := boolsC_at HU.out hu
         have k0 : (0 : Int) ≤ (k : Int) := by omega
         have k1 : (k : Int) < (y.length : Int) := by omega
         have HTK := Lib.hid ht
         have HUK := Lib.hid hu
         have hgz : g ≤ wr.heap.size := HG.out ▸ HW.out.size
         have HU3 := Lib.hid (show Blk wr.drew g 4 (boolsC U) from HU.out.drew)
         have HW3 := Lib.hid (show Below g w2 wr.drew from HW.out.trans ((Below.refl _ wr).drew.mono hgz))
         clear hc4 hc5 ht hu
         have HN : (u = true ∨ s ≠ t) → Hid (∀ j, j < k + 1 → y[j]? = some s → U[j]? = some true) := fun q => Lib.hid fun j hj hj2 => by
          rcases Nat.lt_succ_iff_lt_or_eq.1 hj with h | rfl
          · exact HJ.out j h hj2
          · rcases q with rfl | q
            · exact HUK.out
            · rw [HTK.out] at hj2; exact absurd (Option.some.inj hj2).symm q
         cases u with
         | true =>
          have HN1 := HN (.inl rfl)
          clear HN
          go_upto_region 12 with fail
          refine wp_region_still_tail 15 (by kernel_rfl) (by kernel_rfl) ?_; simp only [List.take_succ_cons, List.take_zero, List.drop_succ_cons, List.drop_zero]; repeat (first | ((with_reducible refine wpStill_step (fun K hK => ?_)); go_simp; with_reducible refine hK _ ?_; clear hK K) | ((with_reducible refine wpStill_skip ?_ ?_); (focus rfl)))
          (with_reducible refine wpStill_nil ?_); change wpList _ _ _ _ _ wr.drew
          clear d4 d5 d6
          generalize wr.drew = w3 at *
          go_wp2_with fail
          go_roundw
          case rel => exact ⟨k + 1, rfl, by go_num, hky, HN1, HU3, HW3⟩
          case measure => simp [intOf]; omega
         | false =>
          cases hst : (s == t) with
          | false =>
           have HN1 := HN (.inr (beq_eq_false_iff_ne.1 hst))
           clear HN
           go_upto_region 12 with fail
           refine wp_region_still_tail 15 (by kernel_rfl) (by kernel_rfl) ?_; simp only [List.take_succ_cons, List.take_zero, List.drop_succ_cons, List.drop_zero]; repeat (first | ((with_reducible refine wpStill_step (fun K hK => ?_)); go_simp; with_reducible refine hK _ ?_; clear hK K) | ((with_reducible refine wpStill_skip ?_ ?_); (focus rfl)))
           (with_reducible refine wpStill_nil ?_); change wpList _ _ _ _ _ wr.drew
           clear d4 d5 d6
           generalize wr.drew = w3 at *
           go_wp2_with fail
           go_roundw
           case rel => exact ⟨k + 1, rfl, by go_num, hky, HN1, HU3, HW3⟩
           case measure => simp [intOf]; omega
          | true =>
           obtain rfl := beq_iff_eq.1 hst
           obtain ⟨r1, r2⟩ := unL_found HUL.out HTK.out HUK.out HJ.out
           have HC' := Lib.hid (show c + 1 + commonP (unL y (U.set k true)) (x.drop (i + 1)) = commonP x y from by have := HCO.out; rw [if_pos r1] at this; rw [r2]; omega)
           clear r1 r2 HN HCO
           go_upto_region 12 with fail
           refine wp_region_still_tail 15 (by kernel_rfl) (by kernel_rfl) ?_; simp only [List.take_succ_cons, List.take_zero, List.drop_succ_cons, List.drop_zero]; repeat (first | ((with_reducible refine wpStill_step (fun K hK => ?_)); go_simp; with_reducible refine hK _ ?_; clear hK K) | ((with_reducible refine wpStill_skip ?_ ?_); (focus rfl)))
           (with_reducible refine wpStill_nil ?_); change wpList _ _ _ _ _ wr.drew
           clear d4 d5 d6
           generalize wr.drew = w3 at *
           have e3 := boolsC_at HU3.out HUK.out
           have f3 := HU3.out.frozen k
           have HU4 := Lib.hid (boolsC_set HU3.out k true)
           have HW4 := Lib.hid (HW3.out.setCell (p := ⟨g, k, none⟩) (Nat.le_refl _) (.bool true))
           go_wp2_with fail
           go_roundw
           case rel => exact ⟨i + 1, c + 1, U.set k true, by go_num, by go_num, hlt, by omega, Lib.hid (by rw [List.length_set]; exact HUL.out), HC', HU4, HW4⟩
           case measure => simp [intOf]; omega
       · obtain rfl : k = y.length := by omega
         have hno : s ∉ unL y U := unL_none HUL.out fun j hj => HJ.out j ((List.getElem?_eq_some_iff.1 hj).1) hj
         have HC' := Lib.hid (show c + commonP (unL y U) (x.drop (i + 1)) = commonP x y from by have := HCO.out; rw [if_neg hno] at this; exact this)
         clear hno HCO
         go_wp2_with fail
         go_roundw
         case rel => exact ⟨i + 1, c, U, rfl, by go_num, hlt, by omega, HUL, HC', HU, HW⟩
         case measure => simp [intOf]; omega
    · obtain rfl : i = x.length := by omega
      have hco := HC.out
      rw [List.drop_length, commonP, Nat.add_zero] at hco
      have HE2 := Lib.hid (show (sc : Int) = ((200 * c / (x.length + y.length) : Nat) : Int) from by rw [HE.out, hco])
      clear HE hco
      go_wp2_with fail
      have e : (sc : Int) = 200 * (c : Int) / ((x.length : Int) + (y.length : Int)) := by rw [HE2.out]; simp
      go_ret
      exact ⟨by rw [e]; rfl, HB4.out.trans (HW.out.mono (HG.out ▸ HB4.out.size))⟩
end Go.Proofs.YteeeehfnldkjlaaGreatDoor
