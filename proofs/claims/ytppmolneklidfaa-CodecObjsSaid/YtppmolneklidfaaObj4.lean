/-
  Contract of the reference's ParseObj. No statement of the seat is proved here.
-/
import Derived.Test.YtppmolneklidfaaObj3
import Derived.Deep.DeepCutAuto
namespace Go.Proofs.Ytppmolneklidfaa
open Go.RowKit

/-! ### Plain: what parseObj is, case by case -/
theorem take1 {b : List UInt8} (h : 5 ≤ b.length) : takeL b 0 0 1 = [b.getD 0 0] ∧ takeAt b 0 0 1 = 1 ∧ takeE b 0 0 1 = 0 := by
  obtain ⟨t1, t2, t3⟩ := take_good b 0 1 (by omega)
  refine ⟨?_, t2, t3⟩
  refine Eq.trans t1 ?_
  cases b with
  | nil => simp at h
  | cons x l => rfl
theorem poK_of {b : List UInt8} (h : 5 ≤ b.length) : poK b = kindOf (b.getD 0 0) := by
  unfold poK
  rw [(take1 h).1]
  unfold num
  simp
theorem po_kind {b : List UInt8} (h : 5 ≤ b.length) (hk : kindOf (b.getD 0 0) = 0) : parseObj b = ((0, []), 3) := by
  unfold parseObj
  rw [if_neg (by omega)]
  have : poE1 b = 3 := by unfold poE1; rw [poK_of h, hk, (take1 h).2.2]; rfl
  rw [this]
  exact poTail_err (by decide)
theorem po_next {b : List UInt8} (h : 5 ≤ b.length) (hk : kindOf (b.getD 0 0) ≠ 0) : parseObj b = poTail b (kindOf (b.getD 0 0)) 1 0 := by
  unfold parseObj
  rw [if_neg (by omega)]
  have h1 : poE1 b = 0 := by
    unfold poE1
    rw [poK_of h, (take1 h).2.2]
    have : (kindOf (b.getD 0 0) != 0) = true := by simpa using hk
    rw [this]
    rfl
  rw [h1, poK_of h, show poAt1 b = 1 from (take1 h).2.1]
theorem take4 {b : List UInt8} (h : 5 ≤ b.length) : takeL b 1 0 4 = (b.drop 1).take 4 ∧ takeAt b 1 0 4 = 5 ∧ takeE b 1 0 4 = 0 := take_good b 1 4 (by omega)
def poN (b : List UInt8) : Nat := num ((b.drop 1).take 4)
theorem text4 {b : List UInt8} (h : 5 ≤ b.length) : textL b 1 0 4 = takeL b 5 0 (poN b) ∧ textAt b 1 0 4 = takeAt b 5 0 (poN b) ∧ textE b 1 0 4 = takeE b 5 0 (poN b) := by
  unfold textL textAt textE
  rw [(take4 h).1, (take4 h).2.1, (take4 h).2.2]
  exact ⟨rfl, rfl, rfl⟩
theorem po_cut {b : List UInt8} {k : Int} (h : 5 ≤ b.length) (hn : b.length < 5 + poN b) : poTail b k 1 0 = ((0, []), 14) := by
  obtain ⟨t1, t2, t3⟩ := take_cut b 5 (poN b) (by omega)
  have e4 : poE4 b 1 0 = 14 := by
    unfold poE4 endE
    rw [(text4 h).2.2, t3]
    exact if_neg (by decide)
  unfold poTail poE5
  rw [e4]
  rfl
theorem po_more {b : List UInt8} {k : Int} (h : 5 ≤ b.length) (hn : 5 + poN b < b.length) : poTail b k 1 0 = ((0, []), 15) := by
  obtain ⟨t1, t2, t3⟩ := take_good b 5 (poN b) (by omega)
  have e4 : poE4 b 1 0 = 15 := by
    unfold poE4 endE
    rw [(text4 h).2.1, (text4 h).2.2, t2, t3, show (((5 + poN b : Nat) : Int) == (b.length : Int)) = false from beq_eq_false_iff_ne.2 (by omega)]
    rfl
  unfold poTail poE5
  rw [e4]
  rfl
theorem po_good {b : List UInt8} {k : Int} (h : 5 ≤ b.length) (hn : 5 + poN b = b.length) : poTail b k 1 0 = if bodyE k (b.drop 5) = 0 then ((k, b.drop 5), 0) else ((0, []), bodyE k (b.drop 5)) := by
  obtain ⟨t1, t2, t3⟩ := take_good b 5 (poN b) (by omega)
  have hb : textL b 1 0 4 = b.drop 5 := by
    rw [(text4 h).1, t1]
    exact List.take_of_length_le (by rw [List.length_drop]; omega)
  have e4 : poE4 b 1 0 = 0 := by
    unfold poE4 endE
    rw [(text4 h).2.1, (text4 h).2.2, t2, t3, show (((5 + poN b : Nat) : Int) == (b.length : Int)) = true from beq_iff_eq.2 (by omega)]
    rfl
  unfold poTail poE5
  rw [e4, hb, if_pos rfl]

theorem obj_err {b : List UInt8} {w w' : World} {e : Int} (he : parseObj b = ((0, []), e)) (hk : Below w.heap.size w w') : ObjPost b w (.returned (.tuple #[.agg #[.int .i64 0, .slice none 0 0], .int .i64 e])) w' :=
  ⟨none, 0, by rw [he]; rfl, by rw [he]; exact Own.nil _ _ _ _, hk⟩

attribute [local go_sem ↓] ld_id eq_id bd_com st_com
set_option maxHeartbeats 4000000 in
set_option maxRecDepth 100000 in
theorem rparseObj_any (b : List UInt8) (A : Option Addr) (c : Nat) (w : World) (hr : Reads w w.heap.size 1 A b.length (b.map bv)) (hl : b.length ≤ 1000000) (hc1 : b.length ≤ c) (hc2 : c ≤ maxLen) :
    Calls Try.prog 29 #[.slice A b.length c] w (ObjPost b w) := by
  have q0 : Blk (w.alloc (.cells #[.int .i64 0, .slice none 0 0] 38)) w.heap.size 38 #[.int .i64 0, .slice none 0 0] := Blk.new _ _ _
  have k0 : Below w.heap.size w (w.alloc (.cells #[.int .i64 0, .slice none 0 0] 38)) := (Below.refl _ _).alloc (Nat.le_refl _) _
  by_cases h5 : b.length < 5
  · have HP := Lib.hid (show parseObj b = ((0, []), 14) from if_pos h5)
    have d1 : decide ((b.length : Int) < 5) = true := decide_eq_true (by omega)
    go_enter Try.func29, Try.ntmps29
    go_wp2_with fail
    refine bodyPost_ret (results_cell_tmp rfl _ _ rfl (loadVar_obj q0)) rfl ?_
    exact obj_err HP.out k0
  · have h5' : 5 ≤ b.length := by omega
    have d1 : decide ((b.length : Int) < 5) = false := decide_eq_false (by omega)
    obtain ⟨mg, mo, rfl, hmg, hcells⟩ := hr.at0 (by omega) (by omega)
    obtain ⟨x, hx⟩ : ∃ x, b.getD 0 0 = x := ⟨_, rfl⟩
    have c0 : w.cell? ⟨mg, mo, none⟩ = some (.int .u8 (x.toNat : Int)) := by
      have := hcells 0 (bv x) (by rw [← hx]; cases b with | nil => simp at h5' | cons y l => rfl)
      exact this
    have hm := hc2
    unfold maxLen at hm
    clear hcells
    have hcase : (x = 98 ∧ kindOf x = 1) ∨ (x = 116 ∧ kindOf x = 2) ∨ (x = 99 ∧ kindOf x = 3) ∨ (((x.toNat : Int) == 98) = false ∧ ((x.toNat : Int) == 116) = false ∧ ((x.toNat : Int) == 99) = false ∧ kindOf x = 0) := by
      have hne : ∀ y : UInt8, x ≠ y → ((x.toNat : Int) == (y.toNat : Int)) = false := fun y h => beq_eq_false_iff_ne.2 (fun q => h (UInt8.toNat_inj.1 (by omega)))
      by_cases h1 : x = 98
      · subst h1; exact .inl ⟨rfl, rfl⟩
      · by_cases h2 : x = 116
        · subst h2; exact .inr (.inl ⟨rfl, rfl⟩)
        · by_cases h3 : x = 99
          · subst h3; exact .inr (.inr (.inl ⟨rfl, rfl⟩))
          · exact .inr (.inr (.inr ⟨hne 98 h1, hne 116 h2, hne 99 h3, by unfold kindOf; rw [if_neg h3, if_neg h2, if_neg h1]⟩))
    have HX := Lib.hid hx
    clear hx
    have w0c : ∀ o, (w.alloc o).cell? ⟨mg, mo, none⟩ = w.cell? ⟨mg, mo, none⟩ := fun o => World.cell?_alloc_lt w o _ hmg
    have c1 := (w0c (.cells #[.int .i64 0, .slice none 0 0] 38)).trans c0
    have hr1 := hr.alloc (Nat.le_refl _) (.cells #[.int .i64 0, .slice none 0 0] 38)
    have z0 := k0.size
    clear w0c c0
    go_enter Try.func29, Try.ntmps29
    go_upto_region 1 with fail
    generalize w.alloc (.cells #[.int .i64 0, .slice none 0 0] 38) = w0 at *
    generalize hq : w.heap.size = q at *
    have HQ := Lib.hid hq
    have hqle : q ≤ w.heap.size := by omega
    have hqge : w.heap.size ≤ q := by omega
    have l0 := q0.lt
    clear hq
    have fin : ∀ (W : World) (e : Int), parseObj b = ((0, []), e) → Below q w W → ObjPost b w (.returned (.tuple #[.agg #[.int .i64 0, .slice none 0 0], .int .i64 e])) W := fun W e h1 h2 => obj_err h1 (by rw [HQ.out]; exact h2)
    have FIN := Lib.hid fin
    clear fin
    have a0 := q0.cell 0
    have a1 := q0.cell 1
    have g0 := q0.frozen 0
    have g1 := q0.frozen 1
    simp at a0 a1
    rcases hcase with ⟨rfl, hk⟩ | ⟨rfl, hk⟩ | ⟨rfl, hk⟩ | ⟨n1, n2, n3, hk⟩
    rotate_left 3
    · have HP := Lib.hid (po_kind h5' (by rw [HX.out]; exact hk))
      clear hk
      go_wp2_with (first | (refine wpList_storeBlk rfl rfl (vs := #[.int .i64 0, .slice none 0 0]) rfl rfl q0 rfl info_obj obj_one ?_; intro w9 hq9 hk9 hz9))
      refine bodyPost_ret (results_cell_tmp rfl _ _ rfl (loadVar_obj hq9)) rfl ?_
      exact FIN.out _ 3 HP.out (k0.trans (hk9.below (by omega) (by unfold Only; intro i hi h; omega)))
    all_goals
      have HP := Lib.hid (show parseObj b = poTail b _ 1 0 from by rw [po_next h5' (by rw [HX.out, hk]; decide), HX.out, hk])
      have hgt := fun W hr' => get_any b 1 4 (by omega) (by omega) q (some ⟨mg, mo, none⟩) c W hr' (by omega)
      have HGT := Lib.hid hgt
      clear hk hgt
      go_wp2_with fail
      refine (HGT.out _ hr1).mono ?_
      rintro r w1 ⟨rfl, rfl⟩
      have hnn : num ((b.drop 1).take 4) < 4294967296 := Nat.lt_of_lt_of_le (num_lt _) (Nat.le_trans (Nat.pow_le_pow_right (by omega) (List.length_take_le 4 (b.drop 1))) (by decide))
      have hpn : poN b = num ((b.drop 1).take 4) := rfl
      generalize num ((b.drop 1).take 4) = n at *
      have HPN := Lib.hid hpn
      clear hpn HGT c1
      by_cases hn1 : b.length < 5 + n
      · have HPP := Lib.hid (HP.out.trans (po_cut h5' (by rw [HPN.out]; exact hn1)))
        have d2 : decide ((b.length : Int) - 5 < (n : Int)) = true := decide_eq_true (by omega)
        go_wp2_with (first | (refine wpList_storeBlk rfl rfl (vs := #[.int .i64 0, .slice none 0 0]) rfl rfl q0 rfl info_obj obj_one ?_; intro w9 hq9 hk9 hz9))
        refine bodyPost_ret (results_cell_tmp rfl _ _ rfl (loadVar_obj hq9)) rfl ?_
        exact FIN.out _ 14 HPP.out (k0.trans (hk9.below (by omega) (by unfold Only; intro i hi h; omega)))
      · have d2 : decide ((b.length : Int) - 5 < (n : Int)) = false := decide_eq_false (by omega)
        by_cases hn2 : 5 + n < b.length
        · have HPP := Lib.hid (HP.out.trans (po_more h5' (by rw [HPN.out]; exact hn2)))
          have d3 : decide ((n : Int) < (b.length : Int) - 5) = true := decide_eq_true (by omega)
          go_wp2_with (first | (refine wpList_storeBlk rfl rfl (vs := #[.int .i64 0, .slice none 0 0]) rfl rfl q0 rfl info_obj obj_one ?_; intro w9 hq9 hk9 hz9))
          refine bodyPost_ret (results_cell_tmp rfl _ _ rfl (loadVar_obj hq9)) rfl ?_
          exact FIN.out _ 15 HPP.out (k0.trans (hk9.below (by omega) (by unfold Only; intro i hi h; omega)))
        · have d3 : decide ((n : Int) < (b.length : Int) - 5) = false := decide_eq_false (by omega)
          have HPP := Lib.hid (HP.out.trans (po_good h5' (by rw [HPN.out]; omega)))
          obtain ⟨S, hS, hSr⟩ : ∃ S, (if c = 5 then some (⟨mg, mo, none⟩ : Addr) else (some (⟨mg, mo, none⟩ : Addr)).map (·.add 5)) = S ∧ ((c = 5) = True ∧ some (⟨mg, mo, none⟩ : Addr) = S ∨ (c = 5) = False ∧ some (⟨mg, mo + 5, none⟩ : Addr) = S) := by
            refine ⟨_, rfl, ?_⟩
            by_cases h : c = 5
            · exact .inl ⟨eq_true h, (if_pos h).symm⟩
            · exact .inr ⟨eq_false h, by rw [if_neg h]; rfl⟩
          have hrd := hr1.cut (k := 5) (cap := c) h5' hc1
          simp only [Nat.mul_one] at hrd
          rw [hS, ← List.map_drop] at hrd
          have hdl : (b.drop 5).length = b.length - 5 := List.length_drop ..
          obtain ⟨bd, hbd⟩ : ∃ bd, b.drop 5 = bd := ⟨_, rfl⟩
          rw [hbd] at hrd HPP hdl
          have HBD := Lib.hid hdl
          clear hS hbd hdl HP
          have hzz : q ≤ w0.heap.size := by omega
          rcases hSr with ⟨hca, rfl⟩ | ⟨hca, rfl⟩
          all_goals
            go_wp2_with (first | (at_builtin; refine wpList_append_sl rfl elemU8 rfl rfl (Own.fresh0 (heap_alloc_new _ _) (Nat.le_refl _)) rfl (hrd.alloc hzz _) (bvs_one bd) (by unfold maxLen; omega) (by omega) (by simp) ?_; intro A2 c2 w2 o2 k2; simp only [Nat.zero_add, List.nil_append] at o2) | (refine wpList_load rfl rfl rfl (load_obj (Blk.new _ _ _)) ?_))
            have k02 : Below q w w2 := (k0.alloc (by omega) _).trans (k2.below (B := q) (by omega) (by simp; omega) (by simp))
            have z2 := k2.size
            simp at z2
            have q2 := k2.blk (q0.alloc (.cells #[] 5)) (by simp) (by decide)
            have hcm := o2.cap_le
            have o2' : Own w2 w0.heap.size 5 1 A2 bd.length c2 (bd.map bv) := by rw [HBD.out]; exact o2
            rw [← HBD.out]
            rw [← HBD.out] at hcm
            have hbl : bd.length ≤ 1000000 := by rw [HBD.out]; omega
            clear o2 k2 hrd
            refine (rbody_any _ bd A2 c2 _ ((o2'.reads.alloc (Nat.le_refl _) _).more (by simp)) hbl hcm.1 hcm.2).mono ?_
            rintro r w4 ⟨rfl, be4⟩
            have k04 := (k02.alloc (by omega) _).trans (be4.mono (by simp; omega))
            have q4 := (q2.alloc _).below be4 (by simp; omega)
            have p4 := (Blk.new w2 38 _).below be4 (by simp)
            have o4 := (o2'.alloc _).kept (b' := 0) (E := []) (G := []) (Kept.ofBelow be4) (by simp) (by simp)
            have z4 := be4.size
            simp at z4
            have l4 := q4.lt
            clear be4 q2 k02 o2'
            generalize hee : bodyE _ bd = ee at *
            have HEE := Lib.hid hee
            clear hee
            by_cases h0 : ee = 0
            · subst h0
              have HR := Lib.hid (HPP.out.trans (if_pos rfl))
              go_wp2_with (first | (refine wpList_load rfl rfl rfl (load_obj p4) ?_) | (refine wpList_storeBlk rfl rfl (vs := #[.int .i64 _, .slice A2 bd.length c2]) rfl rfl q4 rfl info_obj obj_one2 ?_; intro wf qf kf zf))
              refine bodyPost_ret (results_cell_tmp rfl _ _ rfl (loadVar_obj qf)) rfl ?_
              have of := (o4.keepOnly kf q4 (by decide)).mono (base' := q) (by omega)
              refine ⟨A2, c2, by rw [HR.out]; rfl, by rw [HR.out, HQ.out]; exact of, ?_⟩
              rw [HQ.out]
              exact k04.trans (kf.below (by omega) (by unfold Only; intro i hi h; omega))
            · have h01 : (ee != 0) = true := by simpa using h0
              have HR := Lib.hid (HPP.out.trans (if_neg h0))
              go_wp2_with (first | (refine wpList_storeBlk rfl rfl (vs := #[.int .i64 0, .slice none 0 0]) rfl rfl q4 rfl info_obj obj_one ?_; intro w9 hq9 hk9 hz9))
              refine bodyPost_ret (results_cell_tmp rfl _ _ rfl (loadVar_obj hq9)) rfl ?_
              exact FIN.out _ _ HR.out (k04.trans (hk9.below (by omega) (by unfold Only; intro i hi h; omega)))
end Go.Proofs.Ytppmolneklidfaa
