/-
  The law walk of TreemergeCases. No statement of the seat is proved here.
-/
import Derived.Test.YteeeehfnldkjlaaGreatDoorGo
import Derived.Test.YteeeehfnldkjlaaGreatDoorGk
namespace Go.Proofs.YteeeehfnldkjlaaGreatDoor
open Go.RowKit Go.Maps
theorem eqlAgg (p : List UInt8) (n : Nat) (W : World) : (binOp .eql 44 (clashV ⟨p, n⟩) (.agg #[.string ⟨p.toArray⟩, .int .i64 (n : Nat)])).run Tryz.prog W = .ok (.bool true) W := by
  unfold clashV clashL strC
  go_simp
theorem eqlAggG (a b : Operand) (p : List UInt8) (n : Nat) (W : World) : (eqGuard .eql 44 a b (clashV ⟨p, n⟩) (.agg #[.string ⟨p.toArray⟩, .int .i64 (n : Nat)])).run Tryz.prog W = .ok () W := by
  unfold clashV clashL strC
  go_simp
attribute [local go_sem] eqlAgg eqlAggG
attribute [local go_sem ↓] ld_f ld_cl
set_option maxHeartbeats 4000000 in
set_option maxRecDepth 100000 in
theorem cases_law (o t : Int) (w : World) (hv : VarM w) :
    Calls Tryz.prog 9 #[.int .i64 o, .int .i64 t] w fun e w' => e = .returned (.bool true) ∧ Below w.heap.size w w' := by
  obtain ⟨z, hz⟩ : ∃ z, w.heap.size = z := ⟨_, rfl⟩
  have HK := Lib.hid (known17_any w hv)
  rw [hz] at HK
  rw [hz]
  have HW1 := Lib.hid (fun W => within17_any o 6 W (by omega) (by omega))
  have HW2 := Lib.hid (fun W => within17_any t 6 W (by omega) (by omega))
  go_enter Tryz.func9, Tryz.ntmps9
  go_upto_region 4 with (first
    | (go_at_call 14; (with_reducible refine HK.out.mono ?_); rintro _ w1 ⟨rfl, hb1⟩; have HB1 := Lib.hid hb1; clear hb1)
    | (go_at_call 28; (with_reducible refine (HW1.out _).mono ?_); rintro _ _ ⟨rfl, rfl⟩)
    | (go_at_call 28; (with_reducible refine (HW2.out _).mono ?_); rintro _ _ ⟨rfl, rfl⟩))
  obtain ⟨a, ha, ha6⟩ : ∃ a : Nat, o % 6 = (a : Int) ∧ a < 6 := ⟨(o % 6).toNat, by omega, by omega⟩
  obtain ⟨b, hb, hb6⟩ : ∃ b : Nat, t % 6 = (b : Int) ∧ b < 6 := ⟨(t % 6).toNat, by omega, by omega⟩
  rw [ha, hb]
  clear HK HW1 HW2
  obtain ⟨q, hq⟩ : ∃ q, w1.heap.size = q := ⟨_, rfl⟩
  have HZQ := Lib.hid (show z ≤ q from by rw [← hq, ← hz]; exact HB1.out.size)
  have hcv := conv_const w1 #[.int .u8 49, .int .u8 10, .int .u8 50, .int .u8 10, .int .u8 51, .int .u8 10, .int .u8 52, .int .u8 10, .int .u8 53, .int .u8 10, .int .u8 54, .int .u8 10] 12 12 q hq
  go_cut [5] (fun s5 wx => s5 = .pointer (some ⟨q + 1, 0, none⟩) ∧ Hid (Blk wx (q + 1) 41 (fileC csF (some ⟨q, 0, none⟩) 12)) ∧ Hid (Reads wx (q + 1) 1 (some ⟨q, 0, none⟩) 12 (csF.d.map byteV)) ∧ Hid (wx.heap.size = q + 2) ∧ Hid (Below q w1 wx))
  case first =>
    go_wp2_with fail
    go_meet
    have hz1 := size_at w1 (.cells #[.int .u8 49, .int .u8 10, .int .u8 50, .int .u8 10, .int .u8 51, .int .u8 10, .int .u8 52, .int .u8 10, .int .u8 53, .int .u8 10, .int .u8 54, .int .u8 10] 5 (12, 13)) q hq
    have hb1 := below_at (.cells #[.int .u8 49, .int .u8 10, .int .u8 50, .int .u8 10, .int .u8 51, .int .u8 10, .int .u8 52, .int .u8 10, .int .u8 53, .int .u8 10, .int .u8 54, .int .u8 10] 5 (12, 13)) hq
    have hr1 := reads_const w1 csF.d (12, 13) q hq
    exact ⟨rfl, Lib.hid (blk_new_at _ _ _ _ hz1), Lib.hid (hr1.below (below_at _ hz1)), Lib.hid (size_at _ _ _ hz1), Lib.hid (hb1.trans ((below_at _ hz1).mono (Nat.le_succ _)))⟩
  case rest =>
    obtain ⟨rfl, HX, HR, HS, HB⟩ := hcut
    clear hcv
    generalize wc = w2 at *
    go_upto_region 5 with fail
    have HSD1 := Lib.hid (fun W (k : Below (q + 2) w2 W) => show Calls Tryz.prog 29 #[.agg (fileC csF (some ⟨q, 0, none⟩) 12), .int .i64 (a : Nat), .string ⟨#[111, 117, 114, 115]⟩] W (fun e w' => ∃ A' c', e = .returned (.slice A' (csSide a csOurs).length c') ∧ FI w' w'.heap.size A' (csSide a csOurs) ∧ Below W.heap.size W w') from side0_any a csOurs (some ⟨q, 0, none⟩) 12 (q + 1) W ha6 (by decide) (by have := k.size; have := HS.out; omega) (HR.out.below (k.mono (by omega))) ⟨Nat.le_refl _, by decide⟩)
    have HSD2 := Lib.hid (fun W (k : Below (q + 2) w2 W) => show Calls Tryz.prog 29 #[.agg (fileC csF (some ⟨q, 0, none⟩) 12), .int .i64 (b : Nat), .string ⟨#[116, 104, 101, 105, 114, 115]⟩] W (fun e w' => ∃ A' c', e = .returned (.slice A' (csSide b csTheirs).length c') ∧ FI w' w'.heap.size A' (csSide b csTheirs) ∧ Below W.heap.size W w') from side0_any b csTheirs (some ⟨q, 0, none⟩) 12 (q + 1) W hb6 (by decide) (by have := k.size; have := HS.out; omega) (HR.out.below (k.mono (by omega))) ⟨Nat.le_refl _, by decide⟩)
    go_cut [6, 7] (fun s6 s7 wx => ∃ A1 c1 A2 c2, s6 = .slice A1 (csSide a csOurs).length c1 ∧ s7 = .slice A2 (csSide b csTheirs).length c2 ∧ Hid (FI wx wx.heap.size A1 (csSide a csOurs)) ∧ Hid (FI wx wx.heap.size A2 (csSide b csTheirs)) ∧ Hid (Below (q + 2) w2 wx))
    case first =>
      have hd2 : Below (q + 2) w2 w2.drew := by rw [← HS.out]; exact (Below.refl _ w2).drew
      have hl2 : (LdF (.pointer (some ⟨q + 1, 0, none⟩))).run Tryz.prog w2.drew = .ok (.agg (fileC csF (some ⟨q, 0, none⟩) 12)) w2.drew := file_load (HX.out.below hd2 (by omega))
      have HC1 := Lib.hid (HSD1.out w2.drew hd2)
      have HD2 := Lib.hid hd2
      clear hd2
      go_region_law (first
        | (go_simp; go_at_call 29; (with_reducible refine HC1.out.mono ?_); rintro _ w3 ⟨A1, c1, rfl, hf3, hb3⟩; have HB3 := Lib.hid (HD2.out.trans (hb3.mono (show q + 2 ≤ w2.drew.heap.size from HS.out ▸ Nat.le_refl _))); have HF3 := Lib.hid hf3; have hl3 : (LdF (.pointer (some ⟨q + 1, 0, none⟩))).run Tryz.prog w3 = .ok (.agg (fileC csF (some ⟨q, 0, none⟩) 12)) w3 := file_load (HX.out.below HB3.out (by omega)); have HZ3 := Lib.hid (show q + 2 ≤ w3.heap.size from HS.out ▸ hb3.size); clear hf3 hb3)
        | (go_simp; go_at_call 29; (with_reducible refine (HSD2.out w3 HB3.out).mono ?_); rintro _ w4 ⟨A2, c2, rfl, hf4, hb4⟩; have HB4 := Lib.hid (HB3.out.trans (hb4.mono HZ3.out)); have HF4 := Lib.hid hf4; have HF3' := Lib.hid ((HF3.out.below hb4).more hb4.size); clear hf4 hb4))
      all_goals
        go_wp2_with fail
        go_meet
        exact ⟨A1, c1, A2, c2, rfl, rfl, HF3', HF4, HB4⟩
    case rest =>
      obtain ⟨A1, c1, A2, c2, rfl, rfl, HF1, HF2, HB2⟩ := hcut
      clear HSD1 HSD2
      generalize wc = w4 at *
      go_upto_region 6 with fail
      obtain ⟨l, v, hm, hl, hvv⟩ := cs_table ha6 hb6
      obtain ⟨r, hr4⟩ : ∃ r, w4.heap.size = r := ⟨_, rfl⟩
      have hqr : q + 2 ≤ r := by rw [← hr4, ← HS.out]; exact HB2.out.size
      have hX4 := HX.out.below HB2.out (by omega)
      have f0 := side_fin (W := w4) (q := r) (B := q + 1) (f := csF) (D := some ⟨q, 0, none⟩) (d := 12) hr4 (HR.out.below (HB2.out.mono (by omega))) (by omega) (by decide) (by decide)
      have hb5 : Below r w4 (w4.alloc (.cells (fileC csF (some ⟨q, 0, none⟩) 12) 41)) := below_at _ hr4
      have hs5 : w4.heap.size ≤ (w4.alloc (.cells (fileC csF (some ⟨q, 0, none⟩) 12) 41)).heap.size := by simp
      have hzw : Below z w w4 := HB1.out.trans ((HB.out.trans (HB2.out.mono (by omega))).mono HZQ.out)
      have sp : ∀ (how : Nat) (who : List UInt8), who.length ≤ 1000 → ∀ f ∈ csSide how who, f.p.length ≤ 1000000 := by
        intro how who hw f hf
        unfold csSide at hf
        split at hf <;> simp at hf <;> subst hf <;> simp [csF] <;> omega
      have HM := Lib.hid (merge_comes (some ⟨r, 0, none⟩) A1 A2 1 c1 c2 _ _ (Nat.le_refl _) f0 ((HF1.out.below (hr4 ▸ hb5)).more hs5) ((HF2.out.below (hr4 ▸ hb5)).more hs5) (hv.below (hzw.trans (hb5.mono (by have := HZQ.out; omega))) (hz ▸ hv.pos)) (sp 0 [] (by decide)) (sp a csOurs (by decide)) (sp b csTheirs (by decide)) hm)
      have HZ4 := Lib.hid (show Below z w (w4.alloc (.cells (fileC csF (some ⟨q, 0, none⟩) 12) 41)) from hzw.trans (hb5.mono (by have := HZQ.out; omega)))
      have HLL := Lib.hid (And.intro hl hvv)
      have HZR := Lib.hid (show z ≤ (w4.alloc (.cells (fileC csF (some ⟨q, 0, none⟩) 12) 41)).heap.size from by rw [← hz]; exact HZ4.out.size)
      have hl4 : (LdF (.pointer (some ⟨q + 1, 0, none⟩))).run Tryz.prog w4 = .ok (.agg (fileC csF (some ⟨q, 0, none⟩) 12)) w4 := file_load hX4
      clear hX4 f0 hb5 hs5 hzw sp HF1 HF2 HB2 HX HR HS HB hqr hm hl hvv
      go_cut [8, 9, 10] (fun s8 s9 s10 wx => ∃ R rc V vc, s8 = .slice R l.length rc ∧ s9 = .slice V v.length vc ∧ s10 = .int .i64 0 ∧ Hid (Reads wx wx.heap.size 2 V v.length (v.flatMap clashL)) ∧ Hid (Below z w wx))
      case first =>
        go_wp2_with (first
          | (refine wpList_buildSlice1 rfl elemFile rfl zero_file rfl rfl (by omega) rfl ?_)
          | (go_at_call 16; refine HM.out.mono ?_; rintro _ w5 ⟨R, rc, V, vc, rfl, _, ho5, hb5⟩; have HO5 := Lib.hid ho5.reads; have HB5 := Lib.hid (HZ4.out.trans (hb5.mono HZR.out)); clear ho5 hb5))
        go_meet
        exact ⟨R, rc, V, vc, rfl, rfl, rfl, HO5, HB5⟩
      case rest =>
        obtain ⟨R, rc, V, vc, rfl, rfl, rfl, HO5, HB5⟩ := hcut
        clear HM HZ4 HZR hl4 hr4
        generalize wc = w5 at *
        obtain ⟨hl, hvv⟩ := HLL.out
        go_upto_block 0 with fail
        go_cut [11, 12, 13] (fun s11 s12 s13 wx => s11 = .int .i64 ((csWant a b).1 : Nat) ∧ s12 = .int .i64 ((csWant a b).2.1 : Nat) ∧ s13 = .string ⟨(csWant a b).2.2.toArray⟩ ∧ w5 = wx)
        case first =>
          clear hl hvv HLL HO5 HB5
          rcases (by omega : a = 0 ∨ a = 1 ∨ a = 2 ∨ a = 3 ∨ a = 4 ∨ a = 5) with rfl | rfl | rfl | rfl | rfl | rfl <;> rcases (by omega : b = 0 ∨ b = 1 ∨ b = 2 ∨ b = 3 ∨ b = 4 ∨ b = 5) with rfl | rfl | rfl | rfl | rfl | rfl
          all_goals (as_aux_lemma =>
            (go_wp2_with fail
             go_meet
             exact ⟨rfl, rfl, rfl, rfl⟩))
        case rest =>
          obtain ⟨rfl, rfl, rfl, rfl⟩ := hcut
          generalize csWant a b = cw at *
          obtain ⟨n, wh, p⟩ := cw
          simp only at hl hvv ⊢
          by_cases hw : wh = 0
          · rw [if_pos hw] at hvv
            subst hvv hw hl
            go_wp2_with fail
            go_ret
            exact ⟨by simp, HB5.out⟩
          · rw [if_neg hw] at hvv
            subst hvv hl
            obtain ⟨gv, ov, eV, hll⟩ := clash_load (k := 0) HO5.out rfl
            subst eV
            rw [Nat.zero_mul, Nat.add_zero] at hll
            have hw1 : ((wh : Int) == 0) = false := beq_eq_false_iff_ne.2 (by omega)
            have hw2 : ¬ (wh : Int) = 0 := by omega
            clear HO5 HLL
            go_wp2_with fail
            go_ret
            exact ⟨by simp, HB5.out⟩
end Go.Proofs.YteeeehfnldkjlaaGreatDoor
