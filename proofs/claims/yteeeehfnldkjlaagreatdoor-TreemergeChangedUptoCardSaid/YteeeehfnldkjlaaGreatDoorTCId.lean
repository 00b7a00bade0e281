/- Contract of the reference's Diff. No statement of the seat is proved here. -/
import Derived.Test.YteeeehfnldkjlaaGreatDoorTC41
import Derived.Test.YteeeehfnldkjlaaGreatDoorTC42
import Derived.BigRegion
import Derived.Deep.QuietTactic
import Derived.BigQuiet
namespace Go.Proofs.YteeeehfnldkjlaaGreatDoor
open Go.RowKit Go.Maps
def CR (w : World) (z B : Nat) (A : Option Addr) (c : Nat) (l : List ChangeD) : Prop := ∃ tv : List (Value × Value), tv.length = l.length ∧ Own w z 94 6 A l.length c (chgL l tv) ∧ ∀ (k : Nat) x y, l[k]? = some x → tv[k]? = some y → DataR w B x.old y.1 ∧ DataR w B x.new y.2
theorem CR.nil_ (w : World) (z B : Nat) : CR w z B none 0 [] := ⟨[], rfl, Own.nil _ _ _ _, fun _ _ _ h => by cases h⟩
theorem DataR.zero (w : World) (B : Nat) : DataR w B zeroF (.slice none 0 0) := ⟨none, 0, rfl, Nat.le_refl _, by decide, Reads.none_⟩
theorem CR.snoc {w w' : World} {z B : Nat} {A' : Option Addr} {c' : Nat} {l : List ChangeD} {tv : List (Value × Value)} {x : ChangeD} {v1 v2 : Value} (h1 : tv.length = l.length) (h3 : ∀ (k : Nat) x y, l[k]? = some x → tv[k]? = some y → DataR w B x.old y.1 ∧ DataR w B x.new y.2)
    (hx : DataR w B x.old v1 ∧ DataR w B x.new v2) (ho : Own w' z 94 6 A' (l.length + 1) c' (chgL l tv ++ (chgC x v1 v2).toList)) (hb : Below B w w') : CR w' z B A' c' (l ++ [x]) := by
 refine ⟨tv ++ [(v1, v2)], by simp [h1], ?_, fun k a b e1 e2 => ?_⟩
 · rw [chgL_snoc h1, List.length_append]
   exact ho
 · have hd : DataR w B a.old b.1 ∧ DataR w B a.new b.2 := by
    rcases Nat.lt_trichotomy k l.length with q | q | q
    · rw [List.getElem?_append_left q] at e1
      rw [List.getElem?_append_left (by omega)] at e2
      exact h3 k a b e1 e2
    · subst q
      rw [List.getElem?_append_right (Nat.le_refl _), Nat.sub_self] at e1
      rw [List.getElem?_append_right (by omega), h1, Nat.sub_self] at e2
      injection e1 with e1
      injection e2 with e2
      subst e1 e2
      exact hx
    · rw [List.getElem?_eq_none (by rw [List.length_append, List.length_singleton]; omega)] at e1
      cases e1
   exact ⟨hd.1.below hb, hd.2.below hb⟩
theorem CR.keepB {w w' : World} {z B : Nat} {A : Option Addr} {c : Nat} {l : List ChangeD} (h : CR w z B A c l) (hb : Below w.heap.size w w') (hB : B ≤ w.heap.size) : CR w' z B A c l := by
 obtain ⟨tv, h1, h2, h3⟩ := h
 have kk : Kept 0 [] [] w w' := Kept.ofBelow hb
 exact ⟨tv, h1, h2.kept kk (by simp) (by simp), fun k x y e1 e2 => ⟨(h3 k x y e1 e2).1.below (hb.mono hB), (h3 k x y e1 e2).2.below (hb.mono hB)⟩⟩
theorem CR.of {w w' : World} {z B : Nat} {A' : Option Addr} {c' : Nat} {l : List ChangeD} {tv : List (Value × Value)} (h1 : tv.length = l.length) (h3 : ∀ (k : Nat) x y, l[k]? = some x → tv[k]? = some y → DataR w B x.old y.1 ∧ DataR w B x.new y.2) (ho : Own w' z 94 6 A' l.length c' (chgL l tv)) (hb : Below B w w') : CR w' z B A' c' l :=
 ⟨tv, h1, ho, fun k x y e1 e2 => ⟨(h3 k x y e1 e2).1.below hb, (h3 k x y e1 e2).2.below hb⟩⟩
theorem file_ld {W : World} {g o : Nat} {x : FileD} {DA : Option Addr} {dc : Nat} (h0 : W.cell? ⟨g, o, none⟩ = some (strC x.p)) (h1 : W.cell? ⟨g, o + 1, none⟩ = some (.int .i64 x.k)) (h2 : W.cell? ⟨g, o + 2, none⟩ = some (.slice DA x.d.length dc)) : (LdF (.pointer (some ⟨g, o, none⟩))).run Tryz.prog W = .ok (.agg (fileC x DA dc)) W := by
 refine run_loadAt_cells (P := Tryz.prog) W _ (fileC x DA dc) Tryz.underlying41 rfl info_file fun j u hj => ?_
 rw [add_at]
 rcases j with _ | _ | _ | j
 · exact h0.trans hj
 · exact h1.trans hj
 · exact h2.trans hj
 · simp [fileC] at hj
theorem bdc1 (f : FileD) (A : Option Addr) (c : Nat) (w : World) : (BdC #[(0, .agg (fileC f A c))]).run Tryz.prog w = .ok (.agg (chgC ⟨f, zeroF⟩ (.slice A f.d.length c) (.slice none 0 0))) w := by kernel_rfl
theorem bdc2 (f g : FileD) (A A' : Option Addr) (c c' : Nat) (w : World) : (BdC #[(0, .agg (fileC f A c)), (1, .agg (fileC g A' c'))]).run Tryz.prog w = .ok (.agg (chgC ⟨f, g⟩ (.slice A f.d.length c) (.slice A' g.d.length c'))) w := by kernel_rfl
theorem bdc3 (g : FileD) (A : Option Addr) (c : Nat) (w : World) : (BdC #[(1, .agg (fileC g A c))]).run Tryz.prog w = .ok (.agg (chgC ⟨zeroF, g⟩ (.slice none 0 0) (.slice A g.d.length c))) w := by kernel_rfl
theorem slc1 (x : ChangeD) (v1 v2 : Value) (W : World) : (SlC 1 #[(0, .agg (chgC x v1 v2))]).run Tryz.prog W = .ok (.slice (some ⟨W.heap.size, 0, none⟩) 1 1) (W.alloc (.cells (chgC x v1 v2) 94)) := run_buildSlice1 elemChg zero_chg rfl rfl (by omega) W
attribute [local go_sem] slc1 run_eql_strC run_neq_strC eqGuard_strC neGuard_strC bdc1 bdc2 bdc3
attribute [local go_sem ↓] ld_f bd_c sl_c
set_option maxHeartbeats 4000000 in
set_option maxRecDepth 100000 in
theorem rdiff_any (a b : List FileD) (A1 A2 : Option Addr) (c1 c2 B : Nat) (w : World) (hB : B ≤ w.heap.size) (h1 : FI w B A1 a) (h2 : FI w B A2 b) (hla : a.length ≤ 1000000) (hlb : b.length ≤ 1000000) :
    Calls Tryz.prog 23 #[.slice A1 a.length c1, .slice A2 b.length c2] w fun e w' => ∃ A c, e = .returned (.slice A (rdiffP a b).length c) ∧ CR w' w.heap.size B A c (rdiffP a b) ∧ Below w.heap.size w w' := by
 obtain ⟨z, hz⟩ : ∃ z, w.heap.size = z := ⟨_, rfl⟩
 obtain ⟨R, hR⟩ : ∃ R, rdiffP a b = R := ⟨_, rfl⟩
 rw [hz, hR]
 have HR := Lib.hid hR
 have HZ := Lib.hid hz
 have hBz : B ≤ z := hz ▸ hB
 have H1 := Lib.hid h1
 have H2 := Lib.hid h2
 clear h1 h2 hR
 go_enter Tryz.func23, Tryz.ntmps23
 go_wp2_with fail
 go_loopw [5, 6, 7] (fun s5 s6 s7 wr => ∃ (A : Option Addr) (c i k m : Nat) (D : List ChangeD), s5 = .slice A m c ∧ s6 = .int .i64 (i : Nat) ∧ s7 = .int .i64 (k : Nat) ∧ i ≤ a.length ∧ k ≤ b.length ∧ m ≤ i + k ∧ Hid (m = D.length) ∧ Hid (D ++ rdiffP (a.drop i) (b.drop k) = R) ∧ Hid (CR wr z B A c D) ∧ Hid (Below z w wr)) (fun _ s6 s7 _ => a.length + b.length - ((intOf s6).toNat + (intOf s7).toNat))
 case atStart => exact ⟨none, 0, 0, 0, 0, [], rfl, rfl, rfl, Nat.zero_le _, Nat.zero_le _, by omega, Lib.hid rfl, Lib.hid (by rw [List.drop_zero, List.drop_zero]; exact HR.out), Lib.hid (CR.nil_ _ _ _), Lib.hid (Below.refl _ _)⟩
 case round =>
  obtain ⟨A, c, i, k, m, D, rfl, rfl, rfl, hi, hk, hm, HM, HD, HC, HW⟩ := hrel
  have hwz : z ≤ wr.heap.size := HZ.out ▸ HW.out.size
  obtain ⟨tv, ht1, ho, ht3⟩ := HC.out
  rw [← HM.out] at ho
  have HT := Lib.hid (And.intro ht1 ht3)
  have HO := Lib.hid ho
  clear ht1 ht3 ho
  have i0 : (0 : Int) ≤ (i : Int) := by omega
  have k0 : (0 : Int) ≤ (k : Int) := by omega
  by_cases hia : i < a.length
  · obtain ⟨f, hf⟩ : ∃ f, a[i]? = some f := ⟨_, List.getElem?_eq_getElem hia⟩
    have i1 : (i : Int) < (a.length : Int) := by omega
    have hda : a.drop i = f :: a.drop (i + 1) := by rw [List.drop_eq_getElem?_toList_append, hf]; rfl
    by_cases hkb : k < b.length
    · obtain ⟨g, hg⟩ : ∃ g, b[k]? = some g := ⟨_, List.getElem?_eq_getElem hkb⟩
      have k1 : (k : Int) < (b.length : Int) := by omega
      have hdb : b.drop k = g :: b.drop (k + 1) := by rw [List.drop_eq_getElem?_toList_append, hg]; rfl
      obtain ⟨g9, o9, DA, dc, eA, hB9, _, x0, x1, x2, d1, d2, d3⟩ := (H1.out.below (HW.out.mono hBz)).at_ hf
      subst eA
      have HDR := Lib.hid (show DataR wr B f (.slice DA f.d.length dc) from ⟨DA, dc, rfl, d1, d2, d3⟩)
      have HLA := Lib.hid (fun (W : World) (k : ∀ p : Addr, p.block < B → W.cell? p = wr.cell? p) => file_ld ((k ⟨g9, o9 + i * 3, none⟩ hB9).trans x0) ((k ⟨g9, o9 + i * 3 + 1, none⟩ hB9).trans x1) ((k ⟨g9, o9 + i * 3 + 2, none⟩ hB9).trans x2))
      have q1 : wr.cell? ⟨g9, o9 + i * 3, none⟩ = some (.string ⟨f.p.toArray⟩) := x0
      clear x0 x1 x2
      obtain ⟨g8, o8, DC, dd, eC, hB8, _, y0, y1, y2, e1, e2, e3⟩ := (H2.out.below (HW.out.mono hBz)).at_ hg
      subst eC
      have HDS := Lib.hid (show DataR wr B g (.slice DC g.d.length dd) from ⟨DC, dd, rfl, e1, e2, e3⟩)
      have HLC := Lib.hid (fun (W : World) (kk : ∀ p : Addr, p.block < B → W.cell? p = wr.cell? p) => file_ld ((kk ⟨g8, o8 + k * 3, none⟩ hB8).trans y0) ((kk ⟨g8, o8 + k * 3 + 1, none⟩ hB8).trans y1) ((kk ⟨g8, o8 + k * 3 + 2, none⟩ hB8).trans y2))
      have q2 : wr.cell? ⟨g8, o8 + k * 3, none⟩ = some (.string ⟨g.p.toArray⟩) := y0
      clear y0 y1 y2
      have kd : decide ((b.length : Int) ≤ (k : Int)) = false := decide_eq_false (by omega)
      have id : decide ((a.length : Int) ≤ (i : Int)) = false := decide_eq_false (by omega)
      rcases pth_tri f.p g.p with hlt | heq | hgt
      · have hb1 : Op.bytesLess f.p g.p = true := by rw [bytesLess_eq]; exact decide_eq_true hlt
        have HN := Lib.hid (show D ++ [(⟨f, zeroF⟩ : ChangeD)] ++ rdiffP (a.drop (i + 1)) (b.drop k) = R from by
         rw [← HD.out, hda, rdiff_old f _ _ (.inr ⟨g, _, hdb, hlt⟩), List.append_assoc]; rfl)
        clear hlt
        go_upto_region 8 with fail
        refine wp_region_still_tail 23 (by kernel_rfl) (by kernel_rfl) ?_; simp only [List.take_succ_cons, List.take_zero, List.drop_succ_cons, List.drop_zero]; repeat (first | ((with_reducible refine wpStill_step (fun K hK => ?_)); go_simp; with_reducible refine hK _ ?_; clear hK K) | ((with_reducible refine wpStill_skip ?_ ?_); (focus rfl)))
        (with_reducible refine wpStill_nil ?_); change wpList _ _ _ _ _ wr.drew
        have hd1 : Below z wr wr.drew := (Below.refl _ wr).drew.mono hwz
        have hz1 : z ≤ wr.drew.heap.size := hwz
        have he1 : ∀ p : Addr, wr.drew.cell? p = wr.cell? p := fun p => rfl
        have HO1 := Lib.hid (show Own wr.drew z 94 6 A m c (chgL D tv) from HO.out.drew)
        generalize wr.drew = w1 at *
        have hld := HLA.out w1 (fun _ _ => he1 _)
        go_wp2_with (at_builtin; refine wpList_append_slf rfl elemChg rfl rfl (n := m) (xs := chgL D tv) (HO1.out.alloc _) (m := 1) (by omega) rfl (Reads.of_blk (n := 1) (size := 6) (xs := (chgC ⟨f, zeroF⟩ (.slice DA f.d.length dc) (.slice none 0 0)).toList) (heap_alloc_new _ _) rfl rfl) (chgC_one _ rfl rfl) (by unfold maxLen; omega) (by omega) (by simp; omega) ?_; intro A4 c4 w4 o4 k4 _; have HO4 := Lib.hid o4; have HK4 := Lib.hid k4; clear o4 k4)
        have hb4 : Below z wr w4 := (hd1.alloc hz1 _).trans (HK4.out.below (Nat.le_refl _) (by simp; omega) (by simp))
        go_roundw
        case rel => exact ⟨A4, c4, i + 1, k, m + 1, D ++ [⟨f, zeroF⟩], rfl, by first | rfl | go_num, by first | rfl | go_num, by omega, by omega, by omega, Lib.hid (by rw [HM.out]; simp), HN, Lib.hid (CR.snoc HT.out.1 HT.out.2 ⟨HDR.out, DataR.zero _ _⟩ (HM.out ▸ HO4.out) (hb4.mono hBz)), Lib.hid (HW.out.trans hb4)⟩
        case measure => simp [intOf]; omega
      · have hb1 : Op.bytesLess f.p g.p = false := by rw [bytesLess_eq, heq]; exact decide_eq_false (List.lt_irrefl _)
        have hb2 : Op.bytesLess g.p f.p = false := by rw [bytesLess_eq, heq]; exact decide_eq_false (List.lt_irrefl _)
        have HTW := Lib.hid (show D ++ ((if f = g then [] else [⟨f, g⟩]) ++ rdiffP (a.drop (i + 1)) (b.drop (k + 1))) = R from by
         rw [← HD.out, hda, hdb, rdiff_two f g _ _ heq])
        clear heq
        go_upto_region 8 with fail
        refine wp_region_still_tail 23 (by kernel_rfl) (by kernel_rfl) ?_; simp only [List.take_succ_cons, List.take_zero, List.drop_succ_cons, List.drop_zero]; repeat (first | ((with_reducible refine wpStill_step (fun K hK => ?_)); go_simp; with_reducible refine hK _ ?_; clear hK K) | ((with_reducible refine wpStill_skip ?_ ?_); (focus rfl)))
        (with_reducible refine wpStill_nil ?_); change wpList _ _ _ _ _ wr.drew
        have hd1 : Below z wr wr.drew := (Below.refl _ wr).drew.mono hwz
        have hz1 : z ≤ wr.drew.heap.size := hwz
        have he1 : ∀ p : Addr, wr.drew.cell? p = wr.cell? p := fun p => rfl
        have HO1 := Lib.hid (show Own wr.drew z 94 6 A m c (chgL D tv) from HO.out.drew)
        generalize wr.drew = w1 at *
        have q3 : w1.cell? ⟨g9, o9 + i * 3, none⟩ = some (.string ⟨f.p.toArray⟩) := (he1 _).trans q1
        have q4 : w1.cell? ⟨g8, o8 + k * 3, none⟩ = some (.string ⟨g.p.toArray⟩) := (he1 _).trans q2
        go_upto_region 11 with fail
        refine wp_region_still_tail 17 (by kernel_rfl) (by kernel_rfl) ?_; simp only [List.take_succ_cons, List.take_zero, List.drop_succ_cons, List.drop_zero]; repeat (first | ((with_reducible refine wpStill_step (fun K hK => ?_)); go_simp; with_reducible refine hK _ ?_; clear hK K) | ((with_reducible refine wpStill_skip ?_ ?_); (focus rfl)))
        (with_reducible refine wpStill_nil ?_); change wpList _ _ _ _ _ w1.drew
        have hd2 : Below z wr w1.drew := hd1.trans ((Below.refl _ w1).drew.mono hz1)
        have hz2 : z ≤ w1.drew.heap.size := hz1
        have he2 : ∀ p : Addr, w1.drew.cell? p = wr.cell? p := fun p => he1 p
        have HO2 := Lib.hid (show Own w1.drew z 94 6 A m c (chgL D tv) from HO1.out.drew)
        generalize w1.drew = w2 at *
        have hl1 := HLA.out w2.drew (fun _ _ => he2 _)
        have hl2 := HLC.out w2.drew (fun _ _ => he2 _)
        have hsm := same_any f g DA DC dc dd B w2.drew (show B ≤ w2.heap.size from Nat.le_trans hBz hz2) (d3.keep fun _ _ => he2 _) (e3.keep fun _ _ => he2 _)
        rw [sameB_eq] at hsm
        have HSM := Lib.hid hsm
        have hd3 : Below z wr w2.drew := hd2.trans ((Below.refl _ w2).drew.mono hz2)
        have hz3 : z ≤ w2.drew.heap.size := hz2
        clear hsm q1 q2 q3 q4 d3 e3
        by_cases hfg : f = g
        · rw [decide_eq_true hfg] at HSM
          rw [if_pos hfg, List.nil_append] at HTW
          clear hfg
          go_upto_region 4 with fail
          refine wp_region_still_tail 8 (by kernel_rfl) (by kernel_rfl) ?_; simp only [List.take_succ_cons, List.take_zero, List.drop_succ_cons, List.drop_zero]; repeat (first | ((with_reducible refine wpStill_step (fun K hK => ?_)); go_simp; with_reducible refine hK _ ?_; clear hK K) | ((with_reducible refine wpStill_skip ?_ ?_); (focus rfl)))
          (with_reducible refine wpStill_nil ?_); change wpList _ _ _ _ _ w2.drew
          go_wp2_with (go_at_call 26; (with_reducible refine HSM.out.mono ?_); rintro _ w9 ⟨rfl, hb9⟩; have HB9 := Lib.hid hb9; clear hb9)
          have hb4 : Below z wr w9 := hd3.trans (HB9.out.mono hz3)
          go_roundw
          case rel => exact ⟨A, c, i + 1, k + 1, m, D, rfl, by go_num, by go_num, by omega, by omega, by omega, HM, HTW, Lib.hid (CR.of HT.out.1 HT.out.2 (HM.out ▸ HO2.out.drew.kept (Kept.ofBelow (base := 0) (E := []) (G := []) HB9.out) (by simp) (by simp)) (hb4.mono hBz)), Lib.hid (HW.out.trans hb4)⟩
          case measure => simp [intOf]; omega
        · rw [decide_eq_false hfg] at HSM
          rw [if_neg hfg] at HTW
          have HN := Lib.hid (show D ++ [(⟨f, g⟩ : ChangeD)] ++ rdiffP (a.drop (i + 1)) (b.drop (k + 1)) = R from by rw [← HTW.out, List.append_assoc])
          clear hfg HTW
          go_upto_region 4 with fail
          refine wp_region_still_tail 8 (by kernel_rfl) (by kernel_rfl) ?_; simp only [List.take_succ_cons, List.take_zero, List.drop_succ_cons, List.drop_zero]; repeat (first | ((with_reducible refine wpStill_step (fun K hK => ?_)); go_simp; with_reducible refine hK _ ?_; clear hK K) | ((with_reducible refine wpStill_skip ?_ ?_); (focus rfl)))
          (with_reducible refine wpStill_nil ?_); change wpList _ _ _ _ _ w2.drew
          go_upto_region 5 with (go_at_call 26; (with_reducible refine HSM.out.mono ?_); rintro _ w9 ⟨rfl, hb9⟩; have HB9 := Lib.hid hb9; clear hb9)
          have hd5 : Below z wr w9.drew := hd3.trans ((HB9.out.trans ((Below.refl _ w9).drew.mono HB9.out.size)).mono hz3)
          have hz5 : z ≤ w9.drew.heap.size := Nat.le_trans hz3 HB9.out.size
          have HO5 := Lib.hid (show Own w9.drew z 94 6 A m c (chgL D tv) from (HO2.out.drew.kept (Kept.ofBelow (base := 0) (E := []) (G := []) HB9.out) (by simp) (by simp)).drew)
          have hl3 := HLA.out w9.drew (fun p hp => hd5.cell (Nat.lt_of_lt_of_le hp hBz))
          have hl4 := HLC.out w9.drew (fun p hp => hd5.cell (Nat.lt_of_lt_of_le hp hBz))
          clear hl1 hl2
          have hz6 : z ≤ w9.heap.size := hz5
          go_region_law ((refine step_append_sl (by rfl) elemChg (by rfl) (by rfl) (n := m) (xs := chgL D tv) (HO5.out.alloc _) (by rfl) (Reads.of_blk (n := 1) (size := 6) (xs := (chgC ⟨f, g⟩ (.slice DA f.d.length dc) (.slice DC g.d.length dd)).toList) (heap_alloc_new _ _) rfl rfl) (chgC_one _ rfl rfl) (by unfold maxLen; omega) (by omega) (by simp; omega) ?_); intro A4 c4 w4 o4 k4; have HO4 := Lib.hid o4; have HK4 := Lib.hid k4; clear o4 k4)
          all_goals
           go_wp2_with fail
           have hb4 : Below z wr w4 := (hd5.alloc hz5 _).trans (HK4.out.below (Nat.le_refl _) (by simp; omega) (by simp))
           go_roundw
           case rel => exact ⟨A4, c4, i + 1, k + 1, m + 1, D ++ [⟨f, g⟩], rfl, by go_num, by go_num, by omega, by omega, by omega, Lib.hid (by rw [HM.out]; simp), HN, Lib.hid (CR.snoc HT.out.1 HT.out.2 ⟨HDR.out, HDS.out⟩ (HM.out ▸ HO4.out) (hb4.mono hBz)), Lib.hid (HW.out.trans hb4)⟩
           case measure => simp [intOf]; omega
      · have hb1 : Op.bytesLess f.p g.p = false := by rw [bytesLess_eq]; exact decide_eq_false (pth_asym hgt)
        have hb2 : Op.bytesLess g.p f.p = true := by rw [bytesLess_eq]; exact decide_eq_true hgt
        have HN := Lib.hid (show D ++ [(⟨zeroF, g⟩ : ChangeD)] ++ rdiffP (a.drop i) (b.drop (k + 1)) = R from by
         rw [← HD.out, hdb, rdiff_new g _ _ (.inr ⟨f, _, hda, hgt⟩), List.append_assoc]; rfl)
        clear hgt
        go_upto_region 8 with fail
        refine wp_region_still_tail 23 (by kernel_rfl) (by kernel_rfl) ?_; simp only [List.take_succ_cons, List.take_zero, List.drop_succ_cons, List.drop_zero]; repeat (first | ((with_reducible refine wpStill_step (fun K hK => ?_)); go_simp; with_reducible refine hK _ ?_; clear hK K) | ((with_reducible refine wpStill_skip ?_ ?_); (focus rfl)))
        (with_reducible refine wpStill_nil ?_); change wpList _ _ _ _ _ wr.drew
        have hd1 : Below z wr wr.drew := (Below.refl _ wr).drew.mono hwz
        have hz1 : z ≤ wr.drew.heap.size := hwz
        have he1 : ∀ p : Addr, wr.drew.cell? p = wr.cell? p := fun p => rfl
        have HO1 := Lib.hid (show Own wr.drew z 94 6 A m c (chgL D tv) from HO.out.drew)
        generalize wr.drew = w1 at *
        have q3 : w1.cell? ⟨g9, o9 + i * 3, none⟩ = some (.string ⟨f.p.toArray⟩) := (he1 _).trans q1
        have q4 : w1.cell? ⟨g8, o8 + k * 3, none⟩ = some (.string ⟨g.p.toArray⟩) := (he1 _).trans q2
        go_upto_region 11 with fail
        refine wp_region_still_tail 17 (by kernel_rfl) (by kernel_rfl) ?_; simp only [List.take_succ_cons, List.take_zero, List.drop_succ_cons, List.drop_zero]; repeat (first | ((with_reducible refine wpStill_step (fun K hK => ?_)); go_simp; with_reducible refine hK _ ?_; clear hK K) | ((with_reducible refine wpStill_skip ?_ ?_); (focus rfl)))
        (with_reducible refine wpStill_nil ?_); change wpList _ _ _ _ _ w1.drew
        have hd2 : Below z wr w1.drew := hd1.trans ((Below.refl _ w1).drew.mono hz1)
        have hz2 : z ≤ w1.drew.heap.size := hz1
        have he2 : ∀ p : Addr, w1.drew.cell? p = wr.cell? p := fun p => he1 p
        have HO2 := Lib.hid (show Own w1.drew z 94 6 A m c (chgL D tv) from HO1.out.drew)
        generalize w1.drew = w2 at *
        have hld := HLC.out w2 (fun _ _ => he2 _)
        go_wp2_with (at_builtin; refine wpList_append_slf rfl elemChg rfl rfl (n := m) (xs := chgL D tv) (HO2.out.alloc _) (m := 1) (by omega) rfl (Reads.of_blk (n := 1) (size := 6) (xs := (chgC ⟨zeroF, g⟩ (.slice none 0 0) (.slice DC g.d.length dd)).toList) (heap_alloc_new _ _) rfl rfl) (chgC_one _ rfl rfl) (by unfold maxLen; omega) (by omega) (by simp; omega) ?_; intro A4 c4 w4 o4 k4 _; have HO4 := Lib.hid o4; have HK4 := Lib.hid k4; clear o4 k4)
        have hb4 : Below z wr w4 := (hd2.alloc hz2 _).trans (HK4.out.below (Nat.le_refl _) (by simp; omega) (by simp))
        go_roundw
        case rel => exact ⟨A4, c4, i, k + 1, m + 1, D ++ [⟨zeroF, g⟩], rfl, by first | rfl | go_num, by first | rfl | go_num, by omega, by omega, by omega, Lib.hid (by rw [HM.out]; simp), HN, Lib.hid (CR.snoc HT.out.1 HT.out.2 ⟨DataR.zero _ _, HDS.out⟩ (HM.out ▸ HO4.out) (hb4.mono hBz)), Lib.hid (HW.out.trans hb4)⟩
        case measure => simp [intOf]; omega
    · obtain ⟨g9, o9, DA, dc, eA, hB9, _, x0, x1, x2, d1, d2, d3⟩ := (H1.out.below (HW.out.mono hBz)).at_ hf
      subst eA
      have HDR := Lib.hid (show DataR wr B f (.slice DA f.d.length dc) from ⟨DA, dc, rfl, d1, d2, d3⟩)
      have HLA := Lib.hid (fun (W : World) (k : ∀ p : Addr, p.block < B → W.cell? p = wr.cell? p) => file_ld ((k ⟨g9, o9 + i * 3, none⟩ hB9).trans x0) ((k ⟨g9, o9 + i * 3 + 1, none⟩ hB9).trans x1) ((k ⟨g9, o9 + i * 3 + 2, none⟩ hB9).trans x2))
      have q1 : wr.cell? ⟨g9, o9 + i * 3, none⟩ = some (.string ⟨f.p.toArray⟩) := x0
      clear x0 x1 x2
      obtain rfl : k = b.length := by omega
      have k1 : ¬ (b.length : Int) < (b.length : Int) := by omega
      have HN := Lib.hid (show D ++ [(⟨f, zeroF⟩ : ChangeD)] ++ rdiffP (a.drop (i + 1)) (b.drop b.length) = R from by
       rw [← HD.out, hda, rdiff_old f _ _ (.inl (by simp)), List.append_assoc]; rfl)
      go_upto_region 8 with fail
      go_region
      have hd1 : Below z wr wr.drew := (Below.refl _ wr).drew.mono hwz
      have hz1 : z ≤ wr.drew.heap.size := hwz
      have he1 : ∀ p : Addr, wr.drew.cell? p = wr.cell? p := fun p => rfl
      have HO1 := Lib.hid (show Own wr.drew z 94 6 A m c (chgL D tv) from HO.out.drew)
      generalize wr.drew = w1 at *
      have hld := HLA.out w1 (fun _ _ => he1 _)
      go_wp2_with (at_builtin; refine wpList_append_slf rfl elemChg rfl rfl (n := m) (xs := chgL D tv) (HO1.out.alloc _) (m := 1) (by omega) rfl (Reads.of_blk (n := 1) (size := 6) (xs := (chgC ⟨f, zeroF⟩ (.slice DA f.d.length dc) (.slice none 0 0)).toList) (heap_alloc_new _ _) rfl rfl) (chgC_one _ rfl rfl) (by unfold maxLen; omega) (by omega) (by simp; omega) ?_; intro A4 c4 w4 o4 k4 _; have HO4 := Lib.hid o4; have HK4 := Lib.hid k4; clear o4 k4)
      have hb4 : Below z wr w4 := (hd1.alloc hz1 _).trans (HK4.out.below (Nat.le_refl _) (by simp; omega) (by simp))
      go_roundw
      case rel => exact ⟨A4, c4, i + 1, b.length, m + 1, D ++ [⟨f, zeroF⟩], rfl, by first | rfl | go_num, by first | rfl | go_num, by omega, by omega, by omega, Lib.hid (by rw [HM.out]; simp), HN, Lib.hid (CR.snoc HT.out.1 HT.out.2 ⟨HDR.out, DataR.zero _ _⟩ (HM.out ▸ HO4.out) (hb4.mono hBz)), Lib.hid (HW.out.trans hb4)⟩
      case measure => simp [intOf]; omega
  · by_cases hkb : k < b.length
    · obtain ⟨g, hg⟩ : ∃ g, b[k]? = some g := ⟨_, List.getElem?_eq_getElem hkb⟩
      have hdb : b.drop k = g :: b.drop (k + 1) := by rw [List.drop_eq_getElem?_toList_append, hg]; rfl
      obtain ⟨g8, o8, DC, dd, eC, hB8, _, y0, y1, y2, e1, e2, e3⟩ := (H2.out.below (HW.out.mono hBz)).at_ hg
      subst eC
      have HDS := Lib.hid (show DataR wr B g (.slice DC g.d.length dd) from ⟨DC, dd, rfl, e1, e2, e3⟩)
      have HLC := Lib.hid (fun (W : World) (kk : ∀ p : Addr, p.block < B → W.cell? p = wr.cell? p) => file_ld ((kk ⟨g8, o8 + k * 3, none⟩ hB8).trans y0) ((kk ⟨g8, o8 + k * 3 + 1, none⟩ hB8).trans y1) ((kk ⟨g8, o8 + k * 3 + 2, none⟩ hB8).trans y2))
      have q2 : wr.cell? ⟨g8, o8 + k * 3, none⟩ = some (.string ⟨g.p.toArray⟩) := y0
      clear y0 y1 y2
      obtain rfl : i = a.length := by omega
      have k1 : (k : Int) < (b.length : Int) := by omega
      have i1 : ¬ (a.length : Int) < (a.length : Int) := by omega
      have kd : decide ((b.length : Int) ≤ (k : Int)) = false := decide_eq_false (by omega)
      have id : decide ((a.length : Int) < (a.length : Int)) = false := decide_eq_false (by omega)
      have HN := Lib.hid (show D ++ [(⟨zeroF, g⟩ : ChangeD)] ++ rdiffP (a.drop a.length) (b.drop (k + 1)) = R from by
       rw [← HD.out, hdb, rdiff_new g _ _ (.inl (by simp)), List.append_assoc]; rfl)
      go_upto_region 8 with fail
      refine wp_region_still_tail 23 (by kernel_rfl) (by kernel_rfl) ?_; simp only [List.take_succ_cons, List.take_zero, List.drop_succ_cons, List.drop_zero]; repeat (first | ((with_reducible refine wpStill_step (fun K hK => ?_)); go_simp; with_reducible refine hK _ ?_; clear hK K) | ((with_reducible refine wpStill_skip ?_ ?_); (focus rfl)))
      (with_reducible refine wpStill_nil ?_); change wpList _ _ _ _ _ wr.drew
      have hd1 : Below z wr wr.drew := (Below.refl _ wr).drew.mono hwz
      have hz1 : z ≤ wr.drew.heap.size := hwz
      have he1 : ∀ p : Addr, wr.drew.cell? p = wr.cell? p := fun p => rfl
      have HO1 := Lib.hid (show Own wr.drew z 94 6 A m c (chgL D tv) from HO.out.drew)
      generalize wr.drew = w1 at *
      go_upto_region 11 with fail
      refine wp_region_still_tail 17 (by kernel_rfl) (by kernel_rfl) ?_; simp only [List.take_succ_cons, List.take_zero, List.drop_succ_cons, List.drop_zero]; repeat (first | ((with_reducible refine wpStill_step (fun K hK => ?_)); go_simp; with_reducible refine hK _ ?_; clear hK K) | ((with_reducible refine wpStill_skip ?_ ?_); (focus rfl)))
      (with_reducible refine wpStill_nil ?_); change wpList _ _ _ _ _ w1.drew
      have hd2 : Below z wr w1.drew := hd1.trans ((Below.refl _ w1).drew.mono hz1)
      have hz2 : z ≤ w1.drew.heap.size := hz1
      have he2 : ∀ p : Addr, w1.drew.cell? p = wr.cell? p := fun p => he1 p
      have HO2 := Lib.hid (show Own w1.drew z 94 6 A m c (chgL D tv) from HO1.out.drew)
      generalize w1.drew = w2 at *
      have hld := HLC.out w2 (fun _ _ => he2 _)
      go_wp2_with (at_builtin; refine wpList_append_slf rfl elemChg rfl rfl (n := m) (xs := chgL D tv) (HO2.out.alloc _) (m := 1) (by omega) rfl (Reads.of_blk (n := 1) (size := 6) (xs := (chgC ⟨zeroF, g⟩ (.slice none 0 0) (.slice DC g.d.length dd)).toList) (heap_alloc_new _ _) rfl rfl) (chgC_one _ rfl rfl) (by unfold maxLen; omega) (by omega) (by simp; omega) ?_; intro A4 c4 w4 o4 k4 _; have HO4 := Lib.hid o4; have HK4 := Lib.hid k4; clear o4 k4)
      have hb4 : Below z wr w4 := (hd2.alloc hz2 _).trans (HK4.out.below (Nat.le_refl _) (by simp; omega) (by simp))
      go_roundw
      case rel => exact ⟨A4, c4, a.length, k + 1, m + 1, D ++ [⟨zeroF, g⟩], rfl, by first | rfl | go_num, by first | rfl | go_num, by omega, by omega, by omega, Lib.hid (by rw [HM.out]; simp), HN, Lib.hid (CR.snoc HT.out.1 HT.out.2 ⟨DataR.zero _ _, HDS.out⟩ (HM.out ▸ HO4.out) (hb4.mono hBz)), Lib.hid (HW.out.trans hb4)⟩
      case measure => simp [intOf]; omega
    · obtain rfl : i = a.length := by omega
      obtain rfl : k = b.length := by omega
      have k1 : ¬ (b.length : Int) < (b.length : Int) := by omega
      have i1 : ¬ (a.length : Int) < (a.length : Int) := by omega
      have HE := Lib.hid (show D = R from by
       rw [← HD.out, List.drop_length, List.drop_length, rdiffP]
       simp)
      go_wp2_with fail
      go_ret
      exact ⟨A, c, by rw [← HE.out, HM.out]; rfl, HE.out ▸ HC.out, HW.out⟩
end Go.Proofs.YteeeehfnldkjlaaGreatDoor
