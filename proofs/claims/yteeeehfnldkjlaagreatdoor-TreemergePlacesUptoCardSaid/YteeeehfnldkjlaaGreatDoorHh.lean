/-
  The law walk of TreemergePlaces. No statement of the seat is proved here.
-/
import Derived.Test.YteeeehfnldkjlaaGreatDoorHg
import Derived.Test.YteeeehfnldkjlaaGreatDoorGka
import Derived.Test.YteeeehfnldkjlaaGreatDoorWp
import Derived.Test.YteeeehfnldkjlaaGreatDoorIc
import Derived.BigRegion
namespace Go.Proofs.YteeeehfnldkjlaaGreatDoor
open Go.RowKit Go.Maps
theorem eqlPl (p : List UInt8) (n : Nat) (W : World) : (binOp .eql 44 (clashV ⟨p, n⟩) (.agg #[.string ⟨p.toArray⟩, .int .i64 (n : Nat)])).run Tryz.prog W = .ok (.bool true) W := by
  unfold clashV clashL strC
  go_simp
theorem eqlPlG (a b : Operand) (p : List UInt8) (n : Nat) (W : World) : (eqGuard .eql 44 a b (clashV ⟨p, n⟩) (.agg #[.string ⟨p.toArray⟩, .int .i64 (n : Nat)])).run Tryz.prog W = .ok () W := by
  unfold clashV clashL strC
  go_simp
set_option maxRecDepth 100000 in
theorem run_fieldF1 (s d : Value) (k : Int) (W : World) : (Instr.field 41 (.agg #[s, .int .i64 k, d]) 1).run Tryz.prog W = .ok (.int .i64 k) W := by
  kernel_rfl
set_option quotPrecheck false
local notation:max "vA" q:max => (#[Value.string ⟨#[110]⟩, Value.int IntKind.i64 1, Value.slice (some ⟨q, 0, none⟩) 8 8] : Array Value)
local notation:max "vB" q:max => (#[Value.string ⟨#[109]⟩, Value.int IntKind.i64 1, Value.slice (some ⟨q + 2, 0, none⟩) 11 11] : Array Value)
local notation:max "vM" p:max q:max => (#[Value.string ⟨List.toArray p⟩, Value.int IntKind.i64 1, Value.slice (some ⟨q, 0, none⟩) 8 8] : Array Value)
local notation:max "vC" p:max q:max => (#[Value.string ⟨List.toArray p⟩, Value.int IntKind.i64 1, Value.slice (some ⟨q + 2, 0, none⟩) 11 11] : Array Value)
local notation:max "LDF" g:max W:max v:max => (Sem.run Tryz.prog (LdF (Value.pointer (some ⟨g, 0, none⟩))) W = Result.ok (Value.agg v) W)
attribute [local go_sem] eqlPl eqlPlG run_fieldF1 run_eql_strC run_neq_strC eqGuard_strC neGuard_strC run_slice2F run_slice3F
attribute [local go_sem ↓] ld_f sl_b ld_cl
set_option maxHeartbeats 4000000 in
set_option maxRecDepth 100000 in
theorem places_law (kind : Int) (p : Pth) (w : World) (hv : VarM w) (hp : p.length ≤ 100000000) :
  Calls Tryz.prog 10 #[.int .i64 kind, .string ⟨p.toArray⟩] w fun e w' => e = .returned (.bool true) ∧ Below w.heap.size w w' := by
 obtain ⟨z, hz⟩ : ∃ z, w.heap.size = z := ⟨_, rfl⟩
 have HK := Lib.hid (known17_any w hv)
 rw [hz] at HK
 rw [hz]
 have HN := Lib.hid (fun W => rnames_any p W hp)
 have HV := Lib.hid hv
 obtain ⟨R, hR⟩ : ∃ R, rnP p = R := ⟨_, rfl⟩
 rw [hR] at HN
 have HRE := Lib.hid hR
 clear hv hR
 unfold strC at HN
 go_enter Tryz.func10, Tryz.ntmps10
 go_upto_region 3 with (go_at_call 14; (with_reducible refine HK.out.mono ?_); rintro _ w1 ⟨rfl, hb1⟩; have HB1 := Lib.hid hb1; clear hb1)
 clear HK
 have hz1 : z ≤ w1.heap.size := by rw [← hz]; exact HB1.out.size
 have HN1 := Lib.hid (HN.out w1)
 go_cut [35] (fun s35 wx => ∃ bb, s35 = .bool bb ∧ Hid (bb = false → R.length = 1 ∧ p.length ≤ 30 ∧ p ≠ [110] ∧ p ≠ [109]) ∧ Hid (Below z w wx))
 case first =>
  by_cases h0 : R.length = 1
  · have q8 : ((R.length : Int) != 1) = false := by rw [h0]; rfl
    have H0 := Lib.hid h0
    clear h0
    by_cases h1 : 30 < p.length
    · have l1 : decide ((30 : Int) < (p.length : Int)) = true := decide_eq_true (by omega)
      go_wp2_with (go_at_call 30; (refine HN1.out.mono ?_); rintro _ w2 ⟨A2, c2, rfl, _, hb2⟩; have HB2 := Lib.hid (HB1.out.trans (hb2.mono hz1)); clear hb2)
      go_meet
      exact ⟨true, rfl, Lib.hid (by simp), HB2⟩
    · have l1 : decide ((30 : Int) < (p.length : Int)) = false := decide_eq_false (by omega)
      have H1 := Lib.hid (show p.length ≤ 30 by omega)
      clear h1
      by_cases h2 : p = [110]
      · have r1 : (p == [110]) = true := beq_iff_eq.2 h2
        clear h2
        go_wp2_with (go_at_call 30; (refine HN1.out.mono ?_); rintro _ w2 ⟨A2, c2, rfl, _, hb2⟩; have HB2 := Lib.hid (HB1.out.trans (hb2.mono hz1)); clear hb2)
        go_meet
        exact ⟨true, rfl, Lib.hid (by simp), HB2⟩
      · have r1 : (p == [110]) = false := beq_eq_false_iff_ne.2 h2
        have H2 := Lib.hid h2
        clear h2
        obtain ⟨bb, hbb⟩ : ∃ bb, (p == [109]) = bb := ⟨_, rfl⟩
        have H3 := Lib.hid hbb
        go_wp2_with (go_at_call 30; (refine HN1.out.mono ?_); rintro _ w2 ⟨A2, c2, rfl, _, hb2⟩; have HB2 := Lib.hid (HB1.out.trans (hb2.mono hz1)); clear hb2)
        go_meet
        exact ⟨bb, rfl, Lib.hid fun q => ⟨H0.out, H1.out, H2.out, beq_eq_false_iff_ne.1 (H3.out.trans q)⟩, HB2⟩
  · have q8 : ((R.length : Int) != 1) = true := by rw [bne_iff_ne]; omega
    go_wp2_with (go_at_call 30; (refine HN1.out.mono ?_); rintro _ w2 ⟨A2, c2, rfl, _, hb2⟩; have HB2 := Lib.hid (HB1.out.trans (hb2.mono hz1)); clear hb2)
    go_meet
    exact ⟨true, rfl, Lib.hid (by simp), HB2⟩
 case rest =>
  obtain ⟨bb, rfl, HBB, HB2⟩ := hcut
  clear HN HN1 hz1 HB1
  generalize wc = w2 at *
  cases bb with
  | true =>
   go_wp2_with fail
   go_ret
   exact ⟨rfl, HB2.out⟩
  | false =>
   obtain ⟨g1, g2, g3, g4⟩ := HBB.out rfl
   have HP := Lib.hid (plName_of (by rw [HRE.out]; exact g1) g4 g3 g2)
   clear g1 g2 g3 g4 HBB HRE
   obtain ⟨q, hq⟩ : ∃ q, w2.heap.size = q := ⟨_, rfl⟩
   have HZQ := Lib.hid (show z ≤ q from by rw [← hq, ← hz]; exact HB2.out.size)
   have hcv := conv_const w2 #[.int .u8 111, .int .u8 110, .int .u8 101, .int .u8 10, .int .u8 116, .int .u8 119, .int .u8 111, .int .u8 10] 8 8 q hq
   go_upto_region 5 with fail
   go_cut [5] (fun s5 wx => s5 = .pointer (some ⟨q + 1, 0, none⟩) ∧ Hid (Blk wx (q + 1) 41 (fileC plA (some ⟨q, 0, none⟩) 8)) ∧ Hid (DatR wx (q + 1) plA (some ⟨q, 0, none⟩) 8) ∧ Hid (wx.heap.size = q + 2) ∧ Hid (Below q w2 wx))
   case first =>
    go_wp2_with fail
    go_meet
    have hz1 := size_at w2 (.cells #[.int .u8 111, .int .u8 110, .int .u8 101, .int .u8 10, .int .u8 116, .int .u8 119, .int .u8 111, .int .u8 10] 5 (8, 9)) q hq
    have hb1 := below_at (.cells #[.int .u8 111, .int .u8 110, .int .u8 101, .int .u8 10, .int .u8 116, .int .u8 119, .int .u8 111, .int .u8 10] 5 (8, 9)) hq
    have hr1 := reads_const w2 plA.d (8, 9) q hq
    exact ⟨rfl, Lib.hid (blk_new_at _ _ _ _ hz1), Lib.hid ⟨hr1.below (below_at _ hz1), by decide⟩, Lib.hid (size_at _ _ _ hz1), Lib.hid (hb1.trans ((below_at _ hz1).mono (Nat.le_succ _)))⟩
   case rest =>
    obtain ⟨rfl, HXA, HRA, HSA, HBA⟩ := hcut
    clear hcv
    generalize wc = w3 at *
    have hq3 := HSA.out
    have hcv := conv_const w3 #[.int .u8 116, .int .u8 104, .int .u8 114, .int .u8 101, .int .u8 101, .int .u8 10, .int .u8 102, .int .u8 111, .int .u8 117, .int .u8 114, .int .u8 10] 11 11 (q + 2) hq3
    go_upto_region 6 with fail
    go_cut [6] (fun s6 wx => s6 = .pointer (some ⟨q + 3, 0, none⟩) ∧ Hid (Blk wx (q + 1) 41 (fileC plA (some ⟨q, 0, none⟩) 8)) ∧ Hid (Blk wx (q + 3) 41 (fileC plB (some ⟨q + 2, 0, none⟩) 11)) ∧ Hid (DatR wx (q + 4) plA (some ⟨q, 0, none⟩) 8) ∧ Hid (DatR wx (q + 4) plB (some ⟨q + 2, 0, none⟩) 11) ∧ Hid (wx.heap.size = q + 4) ∧ Hid (Below q w2 wx))
    case first =>
     go_wp2_with fail
     go_meet
     have hz1 := size_at w3 (.cells #[.int .u8 116, .int .u8 104, .int .u8 114, .int .u8 101, .int .u8 101, .int .u8 10, .int .u8 102, .int .u8 111, .int .u8 117, .int .u8 114, .int .u8 10] 5 (11, 12)) (q + 2) hq3
     have hb1 := below_at (.cells #[.int .u8 116, .int .u8 104, .int .u8 114, .int .u8 101, .int .u8 101, .int .u8 10, .int .u8 102, .int .u8 111, .int .u8 117, .int .u8 114, .int .u8 10] 5 (11, 12)) hq3
     have hr1 := reads_const w3 plB.d (11, 12) (q + 2) hq3
     have hb2 := hb1.trans ((below_at (.cells (fileC plB (some ⟨q + 2, 0, none⟩) 11) 41) hz1).mono (Nat.le_succ _))
     exact ⟨rfl, Lib.hid (HXA.out.below hb2 (by omega)), Lib.hid (blk_new_at _ _ _ _ hz1), Lib.hid ((HRA.out.below (hb2.mono (by omega))).more (by omega)), Lib.hid ⟨(hr1.below (below_at _ hz1)).more (by omega), by decide⟩, Lib.hid (size_at _ _ _ hz1), Lib.hid (HBA.out.trans (hb2.mono (by omega)))⟩
    case rest =>
     obtain ⟨rfl, HXA3, HXB, HRA3, HRB, HSB, HBB⟩ := hcut
     clear hcv HXA HRA HSA HBA hq3
     generalize wc = w4 at *
     go_upto_region 7 with fail
     go_cut [7] (fun s7 wx => ∃ AB cb, s7 = .slice AB 2 cb ∧ Hid (FI wx wx.heap.size AB [plB, plA]) ∧ Hid (Below (q + 4) w4 wx))
     case first =>
      have lA : LDF (q + 1) w4 (vA q) := file_load HXA3.out
      have lB : LDF (q + 3) w4 (vB q) := file_load HXB.out
      have f2 := fi_two (B := q + 4) (s1 := .string ⟨#[110]⟩) (s2 := .string ⟨#[109]⟩) HSB.out HRA3.out HRB.out (Nat.le_refl _) rfl rfl
      have hG := good_any [plA, plB] (some ⟨q + 4, 0, none⟩) 2 _ _ (Nat.le_refl _) f2 (by simp [plA, plB])
      rw [pl_base] at hG
      have hb4 := below_at (.cells #[.string ⟨#[110]⟩, .int .i64 plA.k, .slice (some ⟨q, 0, none⟩) plA.d.length 8, .string ⟨#[109]⟩, .int .i64 plB.k, .slice (some ⟨q + 2, 0, none⟩) plB.d.length 11] 41) HSB.out
      have HG := Lib.hid hG
      have HB4 := Lib.hid hb4
      have hq4 := HSB.out
      clear f2 hG hb4
      go_wp2_with (go_at_call 21; (refine HG.out.mono ?_); rintro _ w5 ⟨AB, cb, rfl, hf5, hb5⟩; have HF5 := Lib.hid hf5; have HB5 := Lib.hid (HB4.out.trans (hb5.mono (by simp; omega))); clear hf5 hb5)
      go_meet
      exact ⟨AB, cb, rfl, HF5, HB5⟩
     case rest =>
      obtain ⟨AB, cb, rfl, HF5, HB5⟩ := hcut
      generalize wc = w5 at *
      obtain ⟨r, hr⟩ : ∃ r, w5.heap.size = r := ⟨_, rfl⟩
      have hqr : q + 4 ≤ r := by rw [← hr, ← HSB.out]; exact HB5.out.size
      have HXA5 := Lib.hid (HXA3.out.below HB5.out (by omega))
      have HXB5 := Lib.hid (HXB.out.below HB5.out (by omega))
      have HRA5 := Lib.hid (HRA3.out.below HB5.out)
      have HRB5 := Lib.hid (HRB.out.below HB5.out)
      have HZR := Lib.hid (show Below z w w5 ∧ z ≤ r from ⟨HB2.out.trans ((HBB.out.trans (HB5.out.mono (by omega))).mono HZQ.out), by have := HZQ.out; omega⟩)
      clear HXA3 HXB HRA3 HRB HSB HBB HB5 HB2
      have lA : LDF (q + 1) w5 (vA q) := file_load HXA5.out
      have HXM := Lib.hid (blk_new_at w5 41 (vM p q) r hr)
      have HSM := Lib.hid (size_at w5 (.cells (vM p q) 41) r hr)
      have HBM := Lib.hid (below_at (.cells (vM p q) 41) hr)
      go_upto_region 10 with fail
      generalize w5.alloc (.cells (vM p q) 41) = w6 at *
      clear lA
      have hr6 := HSM.out
      obtain ⟨K, hK, hK3⟩ : ∃ K : Nat, kind % 3 = (K : Int) ∧ K < 3 := ⟨(kind % 3).toNat, by omega, by omega⟩
      have HW := Lib.hid (fun W => within17_any kind 3 W (by omega) (by omega))
      rw [hK] at HW
      have HXC := Lib.hid (blk_new_at w6 44 #[.string ⟨p.toArray⟩, .int .i64 5] (r + 1) hr6)
      have HSC := Lib.hid (size_at w6 (.cells #[.string ⟨p.toArray⟩, .int .i64 5] 44) (r + 1) hr6)
      have HBC := Lib.hid (below_at (.cells #[.string ⟨p.toArray⟩, .int .i64 5] 44) hr6)
      go_upto_region 12 with fail
      generalize w6.alloc (.cells #[.string ⟨p.toArray⟩, .int .i64 5] 44) = w7 at *
      have hB7 : Below r w5 w7 := HBM.out.trans (HBC.out.mono (Nat.le_succ r))
      have HX7 := Lib.hid (HXM.out.below HBC.out (Nat.lt_succ_self r))
      have HXA7 := Lib.hid (HXA5.out.below hB7 (by omega))
      have HXB7 := Lib.hid (HXB5.out.below hB7 (by omega))
      have HRA7 := Lib.hid ((HRA5.out.below (hB7.mono hqr)).more (show q + 4 ≤ r + 2 by omega))
      have HRB7 := Lib.hid ((HRB5.out.below (hB7.mono hqr)).more (show q + 4 ≤ r + 2 by omega))
      have HZ7 := Lib.hid (show Below z w w7 from HZR.out.1.trans (hB7.mono HZR.out.2))
      have HF7 := Lib.hid (HF5.out.below (hr ▸ hB7))
      clear HXM HSM HBM HBC HXA5 HXB5 HRA5 HRB5 HF5 hr6 hB7
      go_upto_block 0 with (go_at_call 28; (with_reducible refine (HW.out _).mono ?_); rintro _ _ ⟨rfl, rfl⟩)
      go_cut [9, 10] (fun s9 s10 wx => ∃ (o t : List FileD) (A1 : Option Addr) (c1 : Nat) (A2 : Option Addr) (c2 : Nat), s9 = .slice A1 o.length c1 ∧ s10 = .slice A2 t.length c2 ∧ Hid (FI wx wx.heap.size A1 o) ∧ Hid (FI wx wx.heap.size A2 t) ∧ Hid (PlSays [plB, plA] (goodP o) (goodP t) p (if K = 2 then 6 else 5) (if K = 0 then 2 else if K = 2 then 4 else 3)) ∧ Hid ((∀ f ∈ o, f.p.length ≤ 1000000) ∧ ∀ f ∈ t, f.p.length ≤ 1000000) ∧ Hid (Blk wx (r + 1) 44 #[.string ⟨p.toArray⟩, .int .i64 (if K = 2 then 6 else 5)]) ∧ Hid (Below (r + 1) w7 wx) ∧ Hid (r + 2 ≤ wx.heap.size))
      case first =>
       have hr7 := HSC.out
       have pl := HP.out.len
       rcases (by omega : K = 0 ∨ K = 1 ∨ K = 2) with rfl | rfl | rfl
       · have lM : LDF r w7 (vM p q) := file_load (f := ⟨p, 1, plD0⟩) HX7.out
         have lB : LDF (q + 3) w7 (vB q) := file_load HXB7.out
         have lB1 : ∀ o, LDF (q + 3) (w7.alloc o) (vB q) := fun o => file_load (HXB7.out.alloc o)
         have lA2 : ∀ o o', LDF (q + 1) ((w7.alloc o).alloc o') (vA q) := fun o o' => file_load ((HXA7.out.alloc o).alloc o')
         have lC2 : ∀ o, LDF (r + 3) ((w7.alloc o).alloc (.cells (vC p q) 41)) (vC p q) := fun o => file_load (f := ⟨p, 1, plD1⟩) (blk_new_at _ _ _ (r + 3) (size_at w7 o _ hr7))
         have L2 := Lib.hid lC2
         go_wp2_with fail
         go_meet
         refine ⟨[⟨p, 1, plD0⟩, plB], [plA, ⟨p, 1, plD1⟩], some ⟨r + 2, 0, none⟩, 2, some ⟨r + 4, 0, none⟩, 2, rfl, rfl, Lib.hid ?_, Lib.hid ?_, Lib.hid HP.out.case0, Lib.hid ?_, Lib.hid (((HXC.out.alloc _).alloc _).alloc _), Lib.hid ((((Below.refl _ w7).alloc (by omega) _).alloc (by simp; omega) _).alloc (by simp; omega) _), Lib.hid (by simp; omega)⟩
         · exact (fi_two (f1 := ⟨p, 1, plD0⟩) (f2 := plB) hr7 (HRA7.out.as rfl) HRB7.out (Nat.le_refl _) rfl rfl).later (((Below.refl _ _).alloc (Nat.le_refl _) _).alloc (by simp) _)
         · exact fi_two (f1 := plA) (f2 := ⟨p, 1, plD1⟩) (size_at _ _ _ (size_at w7 _ _ hr7)) (HRA7.out.below (((Below.refl _ w7).alloc (by omega) _).alloc (by simp; omega) _)) ((HRB7.out.below (((Below.refl _ w7).alloc (by omega) _).alloc (by simp; omega) _)).as rfl) (by omega) rfl rfl
         · simp [plA, plB]; omega
       · have lM : LDF r w7 (vM p q) := file_load (f := ⟨p, 1, plD0⟩) HX7.out
         have lB : LDF (q + 3) w7 (vB q) := file_load HXB7.out
         have lA1 : ∀ o, LDF (q + 1) (w7.alloc o) (vA q) := fun o => file_load (HXA7.out.alloc o)
         have lB1 : ∀ o, LDF (q + 3) (w7.alloc o) (vB q) := fun o => file_load (HXB7.out.alloc o)
         have hcv : ∀ o, _ := fun o => conv_const (w7.alloc o) #[.int .u8 110, .int .u8 101, .int .u8 119, .int .u8 10] 4 4 (r + 3) (size_at w7 o _ hr7)
         go_wp2_with fail
         go_meet
         have k2 : ∀ o o', Below (r + 2) w7 ((w7.alloc o).alloc o') := fun o o' => ((Below.refl _ w7).alloc (by omega) o).alloc (by simp; omega) o'
         refine ⟨[⟨p, 1, plD0⟩, plB], [plA, plB, ⟨p, 1, plNew⟩], some ⟨r + 2, 0, none⟩, 2, some ⟨r + 4, 0, none⟩, 3, rfl, rfl, Lib.hid ?_, Lib.hid ?_, Lib.hid HP.out.case1, Lib.hid ?_, Lib.hid (((HXC.out.alloc _).alloc _).alloc _), Lib.hid ((((Below.refl _ w7).alloc (by omega) _).alloc (by simp; omega) _).alloc (by simp; omega) _), Lib.hid (by simp; omega)⟩
         · exact (fi_two (f1 := ⟨p, 1, plD0⟩) (f2 := plB) hr7 (HRA7.out.as rfl) HRB7.out (Nat.le_refl _) rfl rfl).later (((Below.refl _ _).alloc (Nat.le_refl _) _).alloc (by simp) _)
         · exact fi_three (f1 := plA) (f2 := plB) (f3 := ⟨p, 1, plNew⟩) (size_at _ _ _ (size_at w7 _ _ hr7)) ((HRA7.out.below (k2 _ _)).more (by omega)) ((HRB7.out.below (k2 _ _)).more (by omega)) ⟨reads_const (w7.alloc _) plNew (4, 5) (r + 3) (size_at w7 _ _ hr7), show plNew.length ≤ 4 by decide, by decide⟩ (Nat.le_refl _) rfl rfl rfl
         · simp [plA, plB]; omega
       · have lA : LDF (q + 1) w7 (vA q) := file_load HXA7.out
         have lB : LDF (q + 3) w7 (vB q) := file_load HXB7.out
         have lA2 : ∀ o o', LDF (q + 1) ((w7.alloc o).alloc o') (vA q) := fun o o' => file_load ((HXA7.out.alloc o).alloc o')
         have lB2 : ∀ o o', LDF (q + 3) ((w7.alloc o).alloc o') (vB q) := fun o o' => file_load ((HXB7.out.alloc o).alloc o')
         have hcv1 := conv_const w7 #[.int .u8 102, .int .u8 105, .int .u8 108, .int .u8 101, .int .u8 10] 5 5 (r + 2) hr7
         have hcv2 : ∀ o o', _ := fun o o' => conv_const ((w7.alloc o).alloc o') #[.int .u8 98, .int .u8 101, .int .u8 108, .int .u8 111, .int .u8 119, .int .u8 10] 6 6 (r + 4) (size_at _ o' _ (size_at w7 o _ hr7))
         have y1 : ∀ o1 o2 o3 o4, ((((w7.alloc o1).alloc o2).alloc o3).alloc o4).cell? ⟨r + 1, 1, none⟩ = some (.int .i64 5) := fun o1 o2 o3 o4 => ((((HXC.out.alloc o1).alloc o2).alloc o3).alloc o4).cell 1
         have y2 : ∀ o1 o2 o3 o4, _ := fun o1 o2 o3 o4 => ((((HXC.out.alloc o1).alloc o2).alloc o3).alloc o4).frozen 1
         go_wp2_with fail
         go_meet
         have c8 := HXC.out.set_ 1 (.int .i64 6)
         have a8 := HRA7.out.set_ (p := ⟨r + 1, 1, none⟩) (show r + 1 ≠ q by omega) (.int .i64 6)
         have b8 := HRB7.out.set_ (p := ⟨r + 1, 1, none⟩) (show r + 1 ≠ q + 2 by omega) (.int .i64 6)
         have s8 : (w7.setCell ⟨r + 1, 1, none⟩ (.int .i64 6)).heap.size = r + 2 := by simp [hr7]
         have k8 : Below (r + 1) w7 (w7.setCell ⟨r + 1, 1, none⟩ (.int .i64 6)) := (Below.refl _ w7).setCell (p := ⟨r + 1, 1, none⟩) (Nat.le_refl _) _
         generalize w7.setCell ⟨r + 1, 1, none⟩ (.int .i64 6) = w8 at *
         have k1 : ∀ o, Below (r + 2) w8 (w8.alloc o) := fun o => (Below.refl _ w8).alloc (by omega) o
         have k3 : ∀ o1 o2 o3, Below (r + 2) w8 (((w8.alloc o1).alloc o2).alloc o3) := fun o1 o2 o3 => (((Below.refl _ w8).alloc (by omega) o1).alloc (by simp; omega) o2).alloc (by simp; omega) o3
         refine ⟨[plA, plB, plF p], [plA, plB, plX p], some ⟨r + 3, 0, none⟩, 3, some ⟨r + 5, 0, none⟩, 3, rfl, rfl, Lib.hid ?_, Lib.hid ?_, Lib.hid HP.out.case2, Lib.hid ?_, Lib.hid ((((c8.alloc _).alloc _).alloc _).alloc _), Lib.hid (k8.trans (((((Below.refl _ w8).alloc (by omega) _).alloc (by simp; omega) _).alloc (by simp; omega) _).alloc (by simp; omega) _)), Lib.hid (by simp; omega)⟩
         · exact (fi_three (f1 := plA) (f2 := plB) (f3 := plF p) (size_at _ _ _ s8) ((a8.below (k1 _)).more (by omega)) ((b8.below (k1 _)).more (by omega)) ⟨reads_const w8 plFil (5, 6) (r + 2) s8, show plFil.length ≤ 5 by decide, by decide⟩ (Nat.le_refl _) rfl rfl rfl).later (((Below.refl _ _).alloc (Nat.le_refl _) _).alloc (by simp) _)
         · exact fi_three (f1 := plA) (f2 := plB) (f3 := plX p) (size_at _ _ _ (size_at _ _ _ (size_at w8 _ _ s8))) ((a8.below (k3 _ _ _)).more (by omega)) ((b8.below (k3 _ _ _)).more (by omega)) ⟨reads_const ((w8.alloc _).alloc _) plBel (6, 7) (r + 4) (size_at _ _ _ (size_at w8 _ _ s8)), show plBel.length ≤ 6 by decide, by decide⟩ (Nat.le_refl _) rfl rfl (by unfold strC plX; rw [← ba_app2])
         · simp [plA, plB, plF, plX]; omega
      case rest =>
       obtain ⟨o, t, A1, c1, A2, c2, rfl, rfl, HO, HT, HS, HL, HC, HB8, HS8⟩ := hcut
       generalize wc = w8 at *
       obtain ⟨x, hm, hx, hk⟩ := HS.out
       have HXX := Lib.hid (And.intro hx hk)
       have hb8 : Below r w7 w8 := HB8.out.mono (Nat.le_succ r)
       have HZ8 := Lib.hid (show Below z w w8 from HZ7.out.trans (hb8.mono HZR.out.2))
       have HG1 := Lib.hid (good_any o A1 c1 _ w8 (Nat.le_refl _) HO.out fun f hf => Nat.le_trans (HL.out.1 f hf) (by decide))
       have HG2 := Lib.hid (fun W (k : Below w8.heap.size w8 W) => good_any t A2 c2 _ W k.size (HT.out.below k) fun f hf => Nat.le_trans (HL.out.2 f hf) (by decide))
       have HF8 := Lib.hid (HF7.out.below (hr ▸ hb8))
       have HMC := Lib.hid (fun AO co AT ct W (k : Below w8.heap.size w8 W) (h2 : FI W W.heap.size AO (goodP o)) (h3 : FI W W.heap.size AT (goodP t)) => show Calls Tryz.prog 16 #[.slice AB 2 cb, .slice AO (goodP o).length co, .slice AT (goodP t).length ct] W (MergeOk x [⟨p, if K = 2 then 6 else 5⟩] W) from merge_comes (b := [plB, plA]) AB AO AT cb co ct _ W (Nat.le_refl _) ((HF8.out.below (k.mono (by rw [hr]; have := HS8.out; omega))).more (by rw [hr]; have := HS8.out; have := k.size; omega)) h2 h3 (HV.out.below (hz.symm ▸ HZ8.out.trans (k.mono (by have := HS8.out; have := HZR.out.2; omega))) HV.out.pos) (by simp [plA, plB]) (good_paths o) (good_paths t) hm)
       clear HO HT HS HL hm hx hk hb8 HF7 HZ7 HX7 HXA7 HXB7 HRA7 HRB7 HXC HSC
       go_upto_region 25 with fail
       go_cut [13, 14, 15] (fun s13 s14 s15 wx => ∃ A3 c3 A4 c4, s13 = .slice A3 x.length c3 ∧ s14 = .slice A4 1 c4 ∧ s15 = .int .i64 0 ∧ Hid (FI wx wx.heap.size A3 x) ∧ Hid (Reads wx wx.heap.size 2 A4 [(⟨p, if K = 2 then 6 else 5⟩ : ClashD)].length ([(⟨p, if K = 2 then 6 else 5⟩ : ClashD)].flatMap clashL)) ∧ Hid (Below w8.heap.size w8 wx))
       case first =>
        go_wp2_with (first
         | (go_at_call 21; (with_reducible refine HG1.out.mono ?_); rintro _ w9 ⟨AO, co, rfl, hf9, hb9⟩; have HF9 := Lib.hid hf9; have HB9 := Lib.hid hb9; clear hf9 hb9)
         | (go_at_call 21; (with_reducible refine (HG2.out w9 HB9.out).mono ?_); rintro _ w10 ⟨AT, ct, rfl, hf10, hb10⟩; have HB10 := Lib.hid (HB9.out.trans (hb10.mono HB9.out.size)); have HM := Lib.hid (HMC.out AO co AT ct w10 HB10.out (HF9.out.later hb10) hf10); clear hf10 hb10)
         | (go_at_call 16; (with_reducible refine HM.out.mono ?_); rintro _ w11 ⟨A3, c3, A4, c4, rfl, hf11, ho11, hb11⟩; have HF11 := Lib.hid hf11; have HO11 := Lib.hid ho11.reads; have HB11 := Lib.hid (HB10.out.trans (hb11.mono HB10.out.size)); clear hf11 ho11 hb11))
        go_meet
        exact ⟨A3, c3, A4, c4, rfl, rfl, rfl, HF11, HO11, HB11⟩
       case rest =>
        obtain ⟨A3, c3, A4, c4, rfl, rfl, rfl, HF11, HO11, HB11⟩ := hcut
        clear HG1 HG2 HMC
        generalize wc = w11 at *
        obtain ⟨n, hn⟩ : ∃ n : Nat, (if K = 0 then 2 else if K = 2 then 4 else 3) = n := ⟨_, rfl⟩
        go_upto_if 106 with (go_at_call 28; (with_reducible refine (HW.out _).mono ?_); rintro _ _ ⟨rfl, rfl⟩)
        go_cut [16] (fun s16 wx => s16 = .int .i64 (if K = 0 then 2 else 3) ∧ w11 = wx)
        case first =>
         rcases (by omega : K = 0 ∨ K = 1 ∨ K = 2) with rfl | rfl | rfl
         all_goals
          go_wp2_with fail
          go_meet
          exact ⟨rfl, rfl⟩
        case rest =>
         obtain ⟨rfl, rfl⟩ := hcut
         go_upto_if 109 with (go_at_call 28; (with_reducible refine (HW.out _).mono ?_); rintro _ _ ⟨rfl, rfl⟩)
         go_cut [16] (fun s16 wx => s16 = .int .i64 (n : Nat) ∧ w11 = wx)
         case first =>
          rcases (by omega : K = 0 ∨ K = 1 ∨ K = 2) with rfl | rfl | rfl
          all_goals
           subst hn
           go_wp2_with fail
           go_meet
           exact ⟨rfl, rfl⟩
         case rest =>
          obtain ⟨rfl, rfl⟩ := hcut
          rw [hn] at HXX
          have hwi : (if K = 2 then (6 : Int) else 5) = ((if K = 2 then 6 else 5 : Nat) : Int) := by split <;> rfl
          rw [hwi] at HC
          have hn4 : n ≤ 4 := by rw [← hn]; split; omega; split <;> omega
          generalize hwh : (if K = 2 then 6 else 5 : Nat) = wh at *
          obtain ⟨hx, hk⟩ := HXX.out
          generalize hf : getF x (p ++ [126]) = f at *
          have hxn : ((x.length : Int) == (n : Int)) = true := by rw [hx]; simp
          have hd : Below w11.heap.size w11 w11.drew := (Below.refl _ w11).drew
          have hz8 : r + 2 ≤ w11.heap.size := Nat.le_trans HS8.out HB11.out.size
          have hfd := find_any x (p ++ [126]) A3 c3 w11.heap.size w11.drew (Nat.le_refl _) (HF11.out.below hd) (by rw [hx]; omega)
          have hc11 := ((HC.out.below HB11.out (by have := HS8.out; omega)).below hd (by omega))
          obtain ⟨gv, ov, eV, hll⟩ := clash_load (k := 0) (HO11.out.below hd) rfl
          subst eV
          rw [Nat.zero_mul, Nat.add_zero] at hll
          have hbf : Below z w w11.drew := HZ8.out.trans ((HB11.out.trans (hd.mono HB11.out.size)).mono (by have := HS8.out; have := HZR.out.2; omega))
          have hzz : z ≤ w11.drew.heap.size := by show z ≤ w11.heap.size; have := HZR.out.2; omega
          rw [hf] at hfd
          unfold FileBack fileC strC at hfd
          rw [hk, ← ba_app2, hx] at hfd
          have HFD := Lib.hid hfd
          have HBF := Lib.hid (And.intro hbf hzz)
          clear hfd hbf hzz hd hz8 HF11 HO11 HXX hk
          have hlc : (LdCl (.pointer (some ⟨r + 1, 0, none⟩))).run Tryz.prog w11.drew = .ok (.agg #[.string ⟨p.toArray⟩, .int .i64 (wh : Nat)]) w11.drew := run_loadAt_blk (P := Tryz.prog) hc11 0 #[.string ⟨p.toArray⟩, .int .i64 (wh : Nat)] Tryz.underlying44 rfl info_clash2 (by simp)
          have pl : ¬ 9223372036854775807 < p.length + 1 := by have := HP.out.len; omega
          clear hc11
          go_upto_region 31 with fail
          refine wp_region_still_tail 24 (by kernel_rfl) (by kernel_rfl) ?_; simp only [List.take_succ_cons, List.take_zero, List.drop_succ_cons, List.drop_zero]; repeat (first | ((with_reducible refine wpStill_step (fun K hK => ?_)); go_simp; with_reducible refine hK _ ?_; clear hK K) | ((with_reducible refine wpStill_skip ?_ ?_); (focus rfl)))
          (with_reducible refine wpStill_nil ?_); change wpList _ _ _ _ _ w11.drew
          go_wp2_with (go_at_call 25; (with_reducible refine HFD.out.mono ?_); rintro _ w12 ⟨D, d, rfl, _, _, _, hb12⟩; have HB12 := Lib.hid (HBF.out.1.trans (hb12.mono HBF.out.2)); clear hb12)
          go_ret
          exact ⟨by simp, HB12.out⟩
end Go.Proofs.YteeeehfnldkjlaaGreatDoor
