/-
  Contract of pack's entry at an entry of a pack whose bodies are alike but for the last byte. No statement of the seat is proved here.
-/
import Derived.Test.YtmlmbkelpjmafaaGreatKp
namespace Go.Proofs.YtmlmbkelpjmafaaGreat
open Go.RowKit Go.Shelf
theorem build_ob1 (k : Int) (w : World) : (Instr.build 27 #[(0, .int .i64 k)]).run Tryz.prog w = .ok (.agg #[.int .i64 k, .slice none 0 0]) w := by kernel_rfl
theorem entB_form (u : List UInt8) (k : Nat) (x : UInt8) (rest : List UInt8) : entB u k x ++ rest = 98 :: (be 4 (bseB k) ++ (be 4 (datB u k x).length ++ (datB u k x ++ rest))) := by simp [entB]
def EntryPost (B g : Nat) (u : List UInt8) (x : UInt8) (rest : List UInt8) (w : World) (e : Ending) (w' : World) : Prop := ∃ A c A' c', e = .returned (.tuple #[.agg #[.int .i64 1, .slice A (u.length + 1) c], .bool true]) ∧ (Reads w' w'.heap.size 1 A (u.length + 1) ((u ++ [x]).map bv) ∧ u.length + 1 ≤ c ∧ c ≤ maxLen ∧ ∀ a, A = some a → w.heap.size ≤ a.block) ∧ CurI w' B g 107 A' rest c' ∧ Keep (Only g) w w'
theorem CurI.mem {w w' : World} {B g : Nat} {t : TypeId} {A : Option Addr} {l : List UInt8} {c : Nat} (h : CurI w B g t A l c) (hk : Keep Nothing w w') (hB : B ≤ w.heap.size) : CurI w' B g t A l c :=
  ⟨h.1.keep hk (fun q => q), h.2.1.kept hk hB (fun _ _ q => q), h.2.2⟩
theorem Reads.notCur {w : World} {B size n g : Nat} {A : Option Addr} {xs : List Value} {ik : IntKind} {v : Int} {t : TypeId} {S S' : Value} (h : Reads w B size A n xs) (hn : 0 < n) (hs : 0 < size) (hx : xs[0]? = some (.int ik v)) (hb : Blk w g t #[S, S']) (hS : S ≠ .int ik v) (hS' : S' ≠ .int ik v) : ∀ a, A = some a → a.block ≠ g := by
  obtain ⟨g', off, rfl, _, hc⟩ := h.at0 hn hs
  intro a ha e
  injection ha with ha
  subst ha
  have hcc := hc 0 _ hx
  simp only at e
  subst e
  rw [hb.cell, Nat.add_zero] at hcc
  match off, hcc with
  | 0, hcc => simp at hcc; exact hS hcc
  | 1, hcc => simp at hcc; exact hS' hcc
  | off + 2, hcc => simp at hcc
theorem Reads.notCurB {w : World} {B n g : Nat} {A : Option Addr} {l : List UInt8} {t : TypeId} {S S' : Value} (h : Reads w B 1 A n (l.map bv)) (hn : 0 < n) (hb : Blk w g t #[S, S']) (hS : ∀ v, S ≠ .int .u8 v) (hS' : ∀ v, S' ≠ .int .u8 v) : ∀ a, A = some a → a.block ≠ g := by
  cases l with
  | nil => have := h.1; simp at this; omega
  | cons y l => exact h.notCur (ik := .u8) (v := (y.toNat : Int)) hn (by omega) rfl hb (hS _) (hS' _)
set_option maxHeartbeats 8000000 in
set_option maxRecDepth 1000000 in
theorem pentry_any (B g : Nat) (u : List UInt8) (k : Nat) (x : UInt8) (rest : List UInt8) (A : Option Addr) (c : Nat) (os : List Ob) (L : Option Addr) (cL : Nat) (w : World)
    (hcu : CurI w B g 107 A (entB u k x ++ rest) c) (hB : B ≤ w.heap.size) (hos : os.length = k) (hI : ObI w w.heap.size u L os) (hu : u.length ≤ 2000) (hu2 : k = 0 ∨ 100 ≤ u.length) (hk : k < 40) (hr : rest.length ≤ 800000) :
    Calls Tryz.prog 45 #[.pointer (some ⟨g, 0, none⟩), .slice L k cL] w (EntryPost B g u x rest w) := by
  obtain ⟨n, hn⟩ : ∃ n, u.length + 1 = n := ⟨_, rfl⟩
  have HP := Lib.hid (show EntryPost B g u x rest w = fun e w' => ∃ A c A' c', e = .returned (.tuple #[.agg #[.int .i64 1, .slice A n c], .bool true]) ∧ (Reads w' w'.heap.size 1 A n ((u ++ [x]).map bv) ∧ n ≤ c ∧ c ≤ maxLen ∧ ∀ a, A = some a → w.heap.size ≤ a.block) ∧ CurI w' B g 107 A' rest c' ∧ Keep (Only g) w w' from by rw [← hn]; rfl)
  rw [HP.out]
  have Hn := Lib.hid hn
  have HI := Lib.hid hI
  have HOS := Lib.hid hos
  have HU2 := Lib.hid hu2
  obtain ⟨D, hD⟩ : ∃ D, datB u k x = D := ⟨_, rfl⟩
  have hDl : D.length ≤ 2100 := by rw [← hD]; have := datB_len u k x; omega
  have hbk : bseB k ≤ k := by unfold bseB; split <;> omega
  have HD := Lib.hid hD
  rw [entB_form, hD] at hcu
  clear hI hos hu2 hn hD HP
  have hgl := hcu.1.lt
  have HCB := Lib.hid hcu.1
  have hBg := hcu.2.2.2.2
  have HCU := Lib.hid (hcu.mem ((Keep.refl _ w).alloc (.cells #[.int .i64 0, .slice none 0 0] 27)) hB)
  have HK1 := Lib.hid ((Keep.refl (Only g) w).alloc (.cells #[.int .i64 0, .slice none 0 0] 27))
  have HB4 := Lib.hid (Blk.new w 27 #[.int .i64 0, .slice none 0 0])
  have hz1 : w.heap.size < (w.alloc (.cells #[.int .i64 0, .slice none 0 0] 27)).heap.size := by simp
  obtain ⟨z, hz⟩ : ∃ z, w.heap.size = z := ⟨_, rfl⟩
  have HZ := Lib.hid hz
  rw [hz] at HB4 hz1 hB hgl
  clear hcu hz
  go_enter Tryz.func45, Tryz.ntmps45
  go_upto_region 1 with (refine wpList_allocAgg rfl rfl (zero_ob _) ?_)
  rw [HZ.out]
  generalize w.alloc (.cells #[.int .i64 0, .slice none 0 0] 27) = w1 at *
  have H1 := Lib.hid (pone_any B g 98 A _ c w1 HCU.out (by simp [be_len]; omega) (by omega))
  rw [show (((98 : UInt8).toNat : Nat) : Int) = 98 from rfl] at H1
  go_upto_region 2 with (first
    | (go_at_call 43; (with_reducible refine H1.out.mono ?_); rintro _ w2 ⟨ad, ct, A2, c2, rfl, hcell, ⟨_, _, hr9⟩, hq2, hk2⟩; have HQ2 := Lib.hid hq2; have HK2 := Lib.hid hk2; have HKI := Lib.hid (kind98_any ad ct w2 hcell (by obtain ⟨ad', e', hb', _⟩ := hr9.2 (by omega); injection e' with e'; subst e'; have := hk2.size; omega)); clear hq2 hk2 hcell hr9 H1)
    | (go_at_call 64; (with_reducible refine HKI.out.mono ?_); rintro _ w3 ⟨rfl, hk3⟩; have HK3 := Lib.hid hk3; clear hk3 HKI)
    | (refine wpList_built rfl rfl (vs := #[(0, .int .i64 1)]) rfl (build_ob1 _ _) ?_)
    | (refine wpList_allocAgg rfl rfl (zero_ob _) ?_)
    | (refine wpList_storeBlk rfl rfl (vs := #[.int .i64 1, .slice none 0 0]) rfl rfl (Blk.new _ _ _) rfl info_ob (ob_one _ _ _) ?_; intro w5 hb5 hk5 hs5))
  have z2 : w1.heap.size ≤ w2.heap.size := HK2.out.size
  have z3 : w2.heap.size ≤ w3.heap.size := HK3.out.size
  have z5 : w3.heap.size < w5.heap.size := by rw [hs5]; simp
  have bel : Below w3.heap.size w3 w5 := ((Below.refl _ w3).alloc (Nat.le_refl _) _).trans (hk5.below (by simp) (by unfold Only; intro i hi h; omega))
  have kg3 : Keep (Only g) w w3 := (HK1.out.trans HK2.out).trans (HK3.out.mono (fun _ _ q => absurd q id))
  have KG5 := Lib.hid (show Keep (Only g) w w5 from (kg3.alloc _).then_ hk5 (fun i hi q => by unfold Only at q; rw [HZ.out] at hi; omega))
  have CU5 := Lib.hid ((HQ2.out.mem HK3.out (by omega)).keepIn (bel.mono (by omega)))
  have B45 := Lib.hid ((((HB4.out.keep HK2.out (by unfold Only; omega)).keep HK3.out (fun q => q)).below bel (by omega)))
  have B65 := Lib.hid hb5
  have hz5 : z < w5.heap.size := by omega
  have hg6 : z < w3.heap.size ∧ g < w3.heap.size := by omega
  generalize w3.heap.size = g6 at *
  clear bel kg3 hk5 hs5 hb5 HQ2 HK1 HK2 HK3 HB4 z2 z3 z5 hz1 HCU
  have H2 := Lib.hid (pbe_any B g (bseB k) _ _ _ w5 CU5.out (by omega) (by simp [be_len]; omega) (by omega))
  go_upto_region 3 with (first
    | (go_at_call 44; (with_reducible refine H2.out.mono ?_); rintro _ w6 ⟨A6, c6, rfl, hq6, hk6⟩; have HQ6 := Lib.hid hq6; have HK6 := Lib.hid hk6; have H3 := Lib.hid (pbe_any B g D.length _ _ _ w6 hq6 (by omega) (by simp; omega) (by have := hk6.size; omega)); clear hq6 hk6 H2)
    | (go_at_call 44; (with_reducible refine H3.out.mono ?_); rintro _ w7 ⟨A7, c7, rfl, hq7, hk7⟩; have HQ7 := Lib.hid hq7; have HK7 := Lib.hid hk7; clear hq7 hk7 H3))
  have z6 : w5.heap.size ≤ w6.heap.size := HK6.out.size
  have z7 : w6.heap.size ≤ w7.heap.size := HK7.out.size
  have H4 := Lib.hid (ptake_any D.length B g A7 _ c7 w7 HQ7.out (by simp) (by simp; omega))
  have hrd := HQ7.out.2.1.front (k := D.length) (by simp)
  rw [Nat.mul_one, ← List.map_take, List.take_left' rfl] at hrd
  have HRD := Lib.hid hrd
  clear hrd
  go_upto_region 4 with (go_at_call 43; (with_reducible refine H4.out.mono ?_); rintro _ w8 ⟨cD, A8, c8, rfl, hcd1, hcd2, hq8, hk8⟩; have HQ8 := Lib.hid hq8; have HK8 := Lib.hid hk8; clear hq8 hk8)
  have z8 : w7.heap.size ≤ w8.heap.size := HK8.out.size
  have KG8 := Lib.hid (((KG5.out.trans HK6.out).trans HK7.out).trans HK8.out)
  have CU8 := Lib.hid (show CurI w8 B g 107 A8 rest c8 by simpa using HQ8.out)
  have B48 := Lib.hid (((B45.out.keep HK6.out (by unfold Only; omega)).keep HK7.out (by unfold Only; omega)).keep HK8.out (by unfold Only; omega))
  have B68 := Lib.hid (((B65.out.keep HK6.out (by unfold Only; omega)).keep HK7.out (by unfold Only; omega)).keep HK8.out (by unfold Only; omega))
  have HRD8 := Lib.hid (HRD.out.kept HK8.out (by omega) (fun i hi q => by unfold Only at q; omega))
  have cc := CU8.out.1.cell 1
  have cg := B68.out.cell 0
  simp at cc cg
  have e1 : ¬ (k : Int) < (bseB k : Int) := by omega
  clear HQ8 HK8 HK7 HK6 HQ7 HQ6 B45 B65 KG5 CU5 H4 HRD
  go_upto_region 6 with fail
  by_cases h9 : k % 9 = 0
  · have e2 : ((bseB k : Nat) : Int) = 0 := by unfold bseB; rw [if_pos h9]; rfl
    have hDu : D = u ++ [x] := by rw [← HD.out]; unfold datB; rw [if_pos h9]
    have HDU := Lib.hid hDu
    have HCL := Lib.hid (clone_any D A7 cD B w8 HRD8.out (by omega) (by omega))
    clear hDu h9
    go_wp2_with (first
      | (go_at_call 65; (with_reducible refine HCL.out.mono ?_); rintro _ w9 ⟨A9, c9, rfl, ho9, hk9⟩; have HO9 := Lib.hid ho9; have HK9 := Lib.hid hk9; have hb69 := B68.out.keep hk9 (fun q => q); have cg1 := hb69.cell 1; have fg1 := hb69.frozen 1; simp at cg1; have HB69 := Lib.hid hb69; clear ho9 hk9 hb69 HCL)
      | (refine wpList_load rfl rfl rfl (load_obj (show Blk _ g6 27 #[.int .i64 1, .slice A9 D.length c9] from HB69.out.set_ 1 _)) ?_)
      | (refine wpList_storeBlk rfl rfl (vs := #[.int .i64 1, .slice A9 D.length c9]) rfl rfl ((B48.out.keep HK9.out (fun q => q)).far (by show z ≠ g6; omega) _) rfl info_ob (ob_one _ _ _) ?_; intro w10 hb10 hk10 hs10))
    have hb4 : Blk (w9.setCell ⟨g6, 1, none⟩ (.slice A9 D.length c9)) z 27 #[.int .i64 0, .slice none 0 0] := (B48.out.keep HK9.out (fun q => q)).far (by show z ≠ g6; omega) _
    have o10 := (HO9.out.setCell (p := ⟨g6, 1, none⟩) HB69.out (by decide) (.slice A9 D.length c9)).keepOnly hk10 hb4 (by decide)
    have hz9 : w8.heap.size ≤ w9.heap.size := HK9.out.size
    have k10 : Keep (Only g) w w10 := ((KG8.out.trans (HK9.out.mono (fun _ _ q => absurd q id))).setCell (p := ⟨g6, 1, none⟩) (.inr (by rw [HZ.out]; show z ≤ g6; omega)) (.slice A9 D.length c9)).then_ hk10 (fun i hi q => by unfold Only at q; rw [HZ.out] at hi; omega)
    have bl : Below (g + 1) w9 w10 := ((Below.refl (g + 1) w9).setCell (p := ⟨g6, 1, none⟩) (by show g + 1 ≤ g6; omega) (.slice A9 D.length c9)).trans (hk10.below (by simp [World.setCell]; omega) (fun i hi q => by unfold Only at q; omega))
    have cu10 := (CU8.out.mem HK9.out (by omega)).keepIn bl
    refine bodyPost_ret (results_cell_tmp rfl _ _ rfl (run_loadVar_cells w10 _ #[.int .i64 1, .slice A9 D.length c9] Tryz.underlying27 rfl info_ob (fun j v hj => by rw [add_at, hb10.cell, ← hj]; simp))) rfl ?_
    have hlD : D.length = n := by rw [HDU.out, ← Hn.out]; simp
    have hcm := o10.cap_le
    rw [hlD] at hcm
    refine ⟨A9, c9, _, _, by rw [hlD]; rfl, ⟨?_, hcm.1, hcm.2, fun a ha => ?_⟩, cu10, k10⟩
    rotate_left
    · obtain ⟨g', e', hb'⟩ := HO9.out.adrn (by have := Hn.out; omega)
      rw [ha] at e'
      injection e' with e'
      subst e'
      rw [HZ.out]
      show z ≤ g'
      omega
    have := o10.reads
    rw [hlD, HDU.out] at this
    exact this
  · obtain ⟨j, hj⟩ : ∃ j, k = j + 1 := ⟨k - 1, by omega⟩
    have hb : bseB k = k := by unfold bseB; rw [if_neg h9]
    have hDu : D = dltB u x := by rw [← HD.out]; unfold datB; rw [if_neg h9]
    have hDl2 : D.length = 23 := by rw [hDu, dltB_len]
    have hu100 : 100 ≤ u.length := by rcases HU2.out with q | q <;> omega
    obtain ⟨o, ho⟩ : ∃ o, os[j]? = some o := ⟨_, List.getElem?_eq_getElem (by rw [HOS.out]; omega)⟩
    have hmo : o ∈ os := List.mem_of_getElem? ho
    obtain ⟨gL, oL, rfl, hgL, hcL⟩ := HI.out.row.at0 (by rw [HOS.out]; omega) (by omega)
    have hLg : gL ≠ g := HI.out.row.notCur (ik := .i64) (v := 1) (by rw [HOS.out]; omega) (by omega) (by
      have := flatn_at (obL_len (u.length + 1)) os j 0 o ho _ rfl
      cases os with
      | nil => simp at ho
      | cons a l => rfl) HCB.out (by intro e; cases e) (by intro e; cases e) _ rfl
    rw [HZ.out] at hgL
    have hcell : w8.cell? ⟨gL, oL + j * 2 + 1, none⟩ = some (.slice o.A n o.c) := by
      rw [World.cell?_of_block (w := w) (KG8.out.block gL (by rw [HZ.out]; exact hgL) (by unfold Only; exact hLg)), Nat.add_assoc, ← Hn.out]
      exact hcL _ _ (flatn_at (obL_len (u.length + 1)) os j 1 o ho _ rfl)
    have hbd : Reads w8 w8.heap.size 1 o.A (u.length + 1) ((u ++ [o.x]).map bv) := by
      have h0 := HI.out.body o hmo
      have hne := h0.notCurB (by omega) HCB.out (fun _ e => by cases e) (fun _ e => by cases e)
      exact (h0.keptB fun a ha hb => KG8.out.block a.block hb (by unfold Only; exact hne a ha)).more (by rw [HZ.out]; omega)
    have hcap := HI.out.cap o hmo
    have hrd := HRD8.out.more (show B ≤ w8.heap.size by omega)
    rw [hDl2, hDu] at hrd
    have HAP := Lib.hid (dapply_any u o.x x u.length rfl (by omega) hu o.A A7 o.c cD w8 hbd hcap.1 hcap.2 hrd (by rw [← hDl2]; exact hcd1) hcd2)
    rw [Hn.out] at HAP
    have HPD := Lib.hid (show DAppPost (u ++ [x]) w8 = fun e w' => ∃ A, e = .returned (.tuple #[.slice A n n, .int .i64 0]) ∧ Reads w' w'.heap.size 1 A n ((u ++ [x]).map bv) ∧ (∀ a, A = some a → w8.heap.size ≤ a.block) ∧ Below w8.heap.size w8 w' from by unfold DAppPost; rw [show (u ++ [x]).length = n by rw [← Hn.out]; simp])
    rw [HPD.out] at HAP
    have e2 : ((bseB k : Nat) : Int) = (j : Int) + 1 := by rw [hb, hj]; rfl
    have e3 : ((D.length : Nat) : Int) = 23 := by rw [hDl2]; rfl
    have e4 : IntKind.i64.wrap (j : Int) = (j : Int) := by rw [IntKind.wrap_i64]; omega
    have e5 : (j : Int) < (k : Int) := by omega
    have e6 : ¬ (j : Int) + 1 = 0 := by omega
    have e7 : ((j : Int) + 1 == 0) = false := beq_eq_false_iff_ne.2 e6
    have e8 : (n : Int) ≤ 65536 := by have := Hn.out; omega
    have HDL := Lib.hid hDl2
    rw [hDl2]
    clear hb hDu hDl2 hj ho hmo hcL hLg hbd hcap hrd h9 HPD
    go_wp2_with (first
      | (go_at_call 66; (with_reducible refine HAP.out.mono ?_); rintro _ w9 ⟨A9, rfl, hr9, hbk9, hbw9⟩; have HBK9 := Lib.hid hbk9; clear hbk9; have HR9 := Lib.hid hr9; have HB9 := Lib.hid hbw9; have hb69 := B68.out.below hbw9 B68.out.lt; have cg1 := hb69.cell 1; have fg1 := hb69.frozen 1; simp at cg1; have HB69 := Lib.hid hb69; clear hr9 hbw9 hb69 HAP hcell)
      | (refine wpList_load rfl rfl rfl (load_obj (show Blk _ g6 27 #[.int .i64 1, .slice A9 n n] from HB69.out.set_ 1 _)) ?_)
      | (refine wpList_storeBlk rfl rfl (vs := #[.int .i64 1, .slice A9 n n]) rfl rfl ((B48.out.below HB9.out B48.out.lt).far (by show z ≠ g6; omega) _) rfl info_ob (ob_one _ _ _) ?_; intro w10 hb10 hk10 hs10))
    have hb4 : Blk (w9.setCell ⟨g6, 1, none⟩ (.slice A9 n n)) z 27 #[.int .i64 0, .slice none 0 0] := (B48.out.below HB9.out B48.out.lt).far (by show z ≠ g6; omega) _
    have hz9 : w8.heap.size ≤ w9.heap.size := HB9.out.size
    have k10 : Keep (Only g) w w10 := ((KG8.out.trans (Below.keep_ HB9.out (Only g))).setCell (p := ⟨g6, 1, none⟩) (.inr (by rw [HZ.out]; show z ≤ g6; omega)) (.slice A9 n n)).then_ hk10 (fun i hi q => by unfold Only at q; rw [HZ.out] at hi; omega)
    have bl : Below (g + 1) w9 w10 := ((Below.refl (g + 1) w9).setCell (p := ⟨g6, 1, none⟩) (by show g + 1 ≤ g6; omega) (.slice A9 n n)).trans (hk10.below (by simp [World.setCell]; omega) (fun i hi q => by unfold Only at q; omega))
    have cu10 := (CU8.out.keepIn (HB9.out.mono (by omega))).keepIn bl
    have hn0 : 0 < n := by have := Hn.out; omega
    have n6 := HR9.out.notCurB hn0 HB69.out (fun _ e => by cases e) (fun _ e => by cases e)
    have n4 := HR9.out.notCurB hn0 (B48.out.below HB9.out B48.out.lt) (fun _ e => by cases e) (fun _ e => by cases e)
    have r10 : Reads w10 w9.heap.size 1 A9 n ((u ++ [x]).map bv) := HR9.out.keptB fun a ha hb => (hk10.block a.block (by simp [World.setCell]; exact hb) (by unfold Only; exact n4 a ha)).trans (Below.heap_setCell w9 ⟨g6, 1, none⟩ _ a.block (n6 a ha))
    refine bodyPost_ret (results_cell_tmp rfl _ _ rfl (run_loadVar_cells w10 _ #[.int .i64 1, .slice A9 n n] Tryz.underlying27 rfl info_ob (fun j v hj => by rw [add_at, hb10.cell, ← hj]; simp))) rfl ?_
    exact ⟨A9, n, _, _, rfl, ⟨r10.more (by rw [hs10]; simp [World.setCell]), Nat.le_refl _, by have := Hn.out; unfold maxLen; omega, fun a ha => by have := HBK9.out a ha; rw [HZ.out]; omega⟩, cu10, k10⟩
end Go.Proofs.YtmlmbkelpjmafaaGreat
