/-
  Texts of the codec joined (Obj4, ShaK, Sha1). No statement of the seat is proved here.
-/
import Derived.Test.YtppmolneklidfaaGreatZ14
import Derived.Deep.DeepCutAuto
import Derived.Test.YtppmolneklidfaaGreatZ03
import Derived.BigQuiet
namespace Go.Proofs.YtppmolneklidfaaGreat
open Go.RowKit

/-! ### Plain: what parseObj is, case by case -/
theorem take1 {b : List UInt8} (h : 5 ≤ b.length) : takeL b 0 0 1 = [b.getD 0 0] ∧ takeAt b 0 0 1 = 1 ∧ takeE b 0 0 1 = 0 := by
  obtain ⟨t1, t2, t3⟩ := take_good b 0 1 (by omega)
  refine ⟨?_, t2, t3⟩
  refine Eq.trans t1 ?_
  cases b with
  | nil => simp at h
  | cons x l => rfl
theorem poK_of {b : List UInt8} (h : 5 ≤ b.length) : poK b = kindOf (b.getD 0 0) := by
  unfold poK
  rw [(take1 h).1]
  unfold num
  simp
theorem po_kind {b : List UInt8} (h : 5 ≤ b.length) (hk : kindOf (b.getD 0 0) = 0) : parseObj b = ((0, []), 3) := by
  unfold parseObj
  rw [if_neg (by omega)]
  have : poE1 b = 3 := by unfold poE1; rw [poK_of h, hk, (take1 h).2.2]; rfl
  rw [this]
  exact poTail_err (by decide)
theorem po_next {b : List UInt8} (h : 5 ≤ b.length) (hk : kindOf (b.getD 0 0) ≠ 0) : parseObj b = poTail b (kindOf (b.getD 0 0)) 1 0 := by
  unfold parseObj
  rw [if_neg (by omega)]
  have h1 : poE1 b = 0 := by
    unfold poE1
    rw [poK_of h, (take1 h).2.2]
    have : (kindOf (b.getD 0 0) != 0) = true := by simpa using hk
    rw [this]
    rfl
  rw [h1, poK_of h, show poAt1 b = 1 from (take1 h).2.1]
theorem take4 {b : List UInt8} (h : 5 ≤ b.length) : takeL b 1 0 4 = (b.drop 1).take 4 ∧ takeAt b 1 0 4 = 5 ∧ takeE b 1 0 4 = 0 := take_good b 1 4 (by omega)
def poN (b : List UInt8) : Nat := num ((b.drop 1).take 4)
theorem text4 {b : List UInt8} (h : 5 ≤ b.length) : textL b 1 0 4 = takeL b 5 0 (poN b) ∧ textAt b 1 0 4 = takeAt b 5 0 (poN b) ∧ textE b 1 0 4 = takeE b 5 0 (poN b) := by
  unfold textL textAt textE
  rw [(take4 h).1, (take4 h).2.1, (take4 h).2.2]
  exact ⟨rfl, rfl, rfl⟩
theorem po_cut {b : List UInt8} {k : Int} (h : 5 ≤ b.length) (hn : b.length < 5 + poN b) : poTail b k 1 0 = ((0, []), 14) := by
  obtain ⟨t1, t2, t3⟩ := take_cut b 5 (poN b) (by omega)
  have e4 : poE4 b 1 0 = 14 := by
    unfold poE4 endE
    rw [(text4 h).2.2, t3]
    exact if_neg (by decide)
  unfold poTail poE5
  rw [e4]
  rfl
theorem po_more {b : List UInt8} {k : Int} (h : 5 ≤ b.length) (hn : 5 + poN b < b.length) : poTail b k 1 0 = ((0, []), 15) := by
  obtain ⟨t1, t2, t3⟩ := take_good b 5 (poN b) (by omega)
  have e4 : poE4 b 1 0 = 15 := by
    unfold poE4 endE
    rw [(text4 h).2.1, (text4 h).2.2, t2, t3, show (((5 + poN b : Nat) : Int) == (b.length : Int)) = false from beq_eq_false_iff_ne.2 (by omega)]
    rfl
  unfold poTail poE5
  rw [e4]
  rfl
theorem po_good {b : List UInt8} {k : Int} (h : 5 ≤ b.length) (hn : 5 + poN b = b.length) : poTail b k 1 0 = if bodyE k (b.drop 5) = 0 then ((k, b.drop 5), 0) else ((0, []), bodyE k (b.drop 5)) := by
  obtain ⟨t1, t2, t3⟩ := take_good b 5 (poN b) (by omega)
  have hb : textL b 1 0 4 = b.drop 5 := by
    rw [(text4 h).1, t1]
    exact List.take_of_length_le (by rw [List.length_drop]; omega)
  have e4 : poE4 b 1 0 = 0 := by
    unfold poE4 endE
    rw [(text4 h).2.1, (text4 h).2.2, t2, t3, show (((5 + poN b : Nat) : Int) == (b.length : Int)) = true from beq_iff_eq.2 (by omega)]
    rfl
  unfold poTail poE5
  rw [e4, hb, if_pos rfl]

theorem obj_err {b : List UInt8} {w w' : World} {e : Int} (he : parseObj b = ((0, []), e)) (hk : Below w.heap.size w w') : ObjPost b w (.returned (.tuple #[.agg #[.int .i64 0, .slice none 0 0], .int .i64 e])) w' :=
  ⟨none, 0, by rw [he]; rfl, by rw [he]; exact Own.nil _ _ _ _, hk⟩

attribute [local go_sem ↓] ld_id eq_id bd_com st_com
set_option maxHeartbeats 4000000 in
set_option maxRecDepth 100000 in
theorem rparseObj_any (b : List UInt8) (A : Option Addr) (c : Nat) (w : World) (hr : Reads w w.heap.size 1 A b.length (b.map bv)) (hl : b.length ≤ 1000000) (hc1 : b.length ≤ c) (hc2 : c ≤ maxLen) :
    Calls Tryz.prog 35 #[.slice A b.length c] w (ObjPost b w) := by
  have q0 : Blk (w.alloc (.cells #[.int .i64 0, .slice none 0 0] 45)) w.heap.size 45 #[.int .i64 0, .slice none 0 0] := Blk.new _ _ _
  have k0 : Below w.heap.size w (w.alloc (.cells #[.int .i64 0, .slice none 0 0] 45)) := (Below.refl _ _).alloc (Nat.le_refl _) _
  by_cases h5 : b.length < 5
  · have HP := Lib.hid (show parseObj b = ((0, []), 14) from if_pos h5)
    have d1 : decide ((b.length : Int) < 5) = true := decide_eq_true (by omega)
    go_enter Tryz.func35, Tryz.ntmps35
    go_wp2_with fail
    refine bodyPost_ret (results_cell_tmp rfl _ _ rfl (loadVar_obj q0)) rfl ?_
    exact obj_err HP.out k0
  · have h5' : 5 ≤ b.length := by omega
    have d1 : decide ((b.length : Int) < 5) = false := decide_eq_false (by omega)
    obtain ⟨mg, mo, rfl, hmg, hcells⟩ := hr.at0 (by omega) (by omega)
    obtain ⟨x, hx⟩ : ∃ x, b.getD 0 0 = x := ⟨_, rfl⟩
    have c0 : w.cell? ⟨mg, mo, none⟩ = some (.int .u8 (x.toNat : Int)) := by
      have := hcells 0 (bv x) (by rw [← hx]; cases b with | nil => simp at h5' | cons y l => rfl)
      exact this
    have hm := hc2
    unfold maxLen at hm
    clear hcells
    have hcase : (x = 98 ∧ kindOf x = 1) ∨ (x = 116 ∧ kindOf x = 2) ∨ (x = 99 ∧ kindOf x = 3) ∨ (((x.toNat : Int) == 98) = false ∧ ((x.toNat : Int) == 116) = false ∧ ((x.toNat : Int) == 99) = false ∧ kindOf x = 0) := by
      have hne : ∀ y : UInt8, x ≠ y → ((x.toNat : Int) == (y.toNat : Int)) = false := fun y h => beq_eq_false_iff_ne.2 (fun q => h (UInt8.toNat_inj.1 (by omega)))
      by_cases h1 : x = 98
      · subst h1; exact .inl ⟨rfl, rfl⟩
      · by_cases h2 : x = 116
        · subst h2; exact .inr (.inl ⟨rfl, rfl⟩)
        · by_cases h3 : x = 99
          · subst h3; exact .inr (.inr (.inl ⟨rfl, rfl⟩))
          · exact .inr (.inr (.inr ⟨hne 98 h1, hne 116 h2, hne 99 h3, by unfold kindOf; rw [if_neg h3, if_neg h2, if_neg h1]⟩))
    have HX := Lib.hid hx
    clear hx
    have w0c : ∀ o, (w.alloc o).cell? ⟨mg, mo, none⟩ = w.cell? ⟨mg, mo, none⟩ := fun o => World.cell?_alloc_lt w o _ hmg
    have c1 := (w0c (.cells #[.int .i64 0, .slice none 0 0] 45)).trans c0
    have hr1 := hr.alloc (Nat.le_refl _) (.cells #[.int .i64 0, .slice none 0 0] 45)
    have z0 := k0.size
    clear w0c c0
    go_enter Tryz.func35, Tryz.ntmps35
    go_upto_region 1 with fail
    generalize w.alloc (.cells #[.int .i64 0, .slice none 0 0] 45) = w0 at *
    generalize hq : w.heap.size = q at *
    have HQ := Lib.hid hq
    have hqle : q ≤ w.heap.size := by omega
    have hqge : w.heap.size ≤ q := by omega
    have l0 := q0.lt
    clear hq
    have fin : ∀ (W : World) (e : Int), parseObj b = ((0, []), e) → Below q w W → ObjPost b w (.returned (.tuple #[.agg #[.int .i64 0, .slice none 0 0], .int .i64 e])) W := fun W e h1 h2 => obj_err h1 (by rw [HQ.out]; exact h2)
    have FIN := Lib.hid fin
    clear fin
    have a0 := q0.cell 0
    have a1 := q0.cell 1
    have g0 := q0.frozen 0
    have g1 := q0.frozen 1
    simp at a0 a1
    rcases hcase with ⟨rfl, hk⟩ | ⟨rfl, hk⟩ | ⟨rfl, hk⟩ | ⟨n1, n2, n3, hk⟩
    rotate_left 3
    · have HP := Lib.hid (po_kind h5' (by rw [HX.out]; exact hk))
      clear hk
      go_wp2_with (first | (refine wpList_storeBlk rfl rfl (vs := #[.int .i64 0, .slice none 0 0]) rfl rfl q0 rfl info_obj obj_one ?_; intro w9 hq9 hk9 hz9))
      refine bodyPost_ret (results_cell_tmp rfl _ _ rfl (loadVar_obj hq9)) rfl ?_
      exact FIN.out _ 3 HP.out (k0.trans (hk9.below (by omega) (by unfold Only; intro i hi h; omega)))
    all_goals
      have HP := Lib.hid (show parseObj b = poTail b _ 1 0 from by rw [po_next h5' (by rw [HX.out, hk]; decide), HX.out, hk])
      have hgt := fun W hr' => get_any b 1 4 (by omega) (by omega) q (some ⟨mg, mo, none⟩) c W hr' (by omega)
      have HGT := Lib.hid hgt
      clear hk hgt
      go_wp2_with fail
      refine (HGT.out _ hr1).mono ?_
      rintro r w1 ⟨rfl, rfl⟩
      have hnn : num ((b.drop 1).take 4) < 4294967296 := Nat.lt_of_lt_of_le (num_lt _) (Nat.le_trans (Nat.pow_le_pow_right (by omega) (List.length_take_le 4 (b.drop 1))) (by decide))
      have hpn : poN b = num ((b.drop 1).take 4) := rfl
      generalize num ((b.drop 1).take 4) = n at *
      have HPN := Lib.hid hpn
      clear hpn HGT c1
      by_cases hn1 : b.length < 5 + n
      · have HPP := Lib.hid (HP.out.trans (po_cut h5' (by rw [HPN.out]; exact hn1)))
        have d2 : decide ((b.length : Int) - 5 < (n : Int)) = true := decide_eq_true (by omega)
        go_wp2_with (first | (refine wpList_storeBlk rfl rfl (vs := #[.int .i64 0, .slice none 0 0]) rfl rfl q0 rfl info_obj obj_one ?_; intro w9 hq9 hk9 hz9))
        refine bodyPost_ret (results_cell_tmp rfl _ _ rfl (loadVar_obj hq9)) rfl ?_
        exact FIN.out _ 14 HPP.out (k0.trans (hk9.below (by omega) (by unfold Only; intro i hi h; omega)))
      · have d2 : decide ((b.length : Int) - 5 < (n : Int)) = false := decide_eq_false (by omega)
        by_cases hn2 : 5 + n < b.length
        · have HPP := Lib.hid (HP.out.trans (po_more h5' (by rw [HPN.out]; exact hn2)))
          have d3 : decide ((n : Int) < (b.length : Int) - 5) = true := decide_eq_true (by omega)
          go_wp2_with (first | (refine wpList_storeBlk rfl rfl (vs := #[.int .i64 0, .slice none 0 0]) rfl rfl q0 rfl info_obj obj_one ?_; intro w9 hq9 hk9 hz9))
          refine bodyPost_ret (results_cell_tmp rfl _ _ rfl (loadVar_obj hq9)) rfl ?_
          exact FIN.out _ 15 HPP.out (k0.trans (hk9.below (by omega) (by unfold Only; intro i hi h; omega)))
        · have d3 : decide ((n : Int) < (b.length : Int) - 5) = false := decide_eq_false (by omega)
          have HPP := Lib.hid (HP.out.trans (po_good h5' (by rw [HPN.out]; omega)))
          obtain ⟨S, hS, hSr⟩ : ∃ S, (if c = 5 then some (⟨mg, mo, none⟩ : Addr) else (some (⟨mg, mo, none⟩ : Addr)).map (·.add 5)) = S ∧ ((c = 5) = True ∧ some (⟨mg, mo, none⟩ : Addr) = S ∨ (c = 5) = False ∧ some (⟨mg, mo + 5, none⟩ : Addr) = S) := by
            refine ⟨_, rfl, ?_⟩
            by_cases h : c = 5
            · exact .inl ⟨eq_true h, (if_pos h).symm⟩
            · exact .inr ⟨eq_false h, by rw [if_neg h]; rfl⟩
          have hrd := hr1.cut (k := 5) (cap := c) h5' hc1
          simp only [Nat.mul_one] at hrd
          rw [hS, ← List.map_drop] at hrd
          have hdl : (b.drop 5).length = b.length - 5 := List.length_drop ..
          obtain ⟨bd, hbd⟩ : ∃ bd, b.drop 5 = bd := ⟨_, rfl⟩
          rw [hbd] at hrd HPP hdl
          have HBD := Lib.hid hdl
          clear hS hbd hdl HP
          have hzz : q ≤ w0.heap.size := by omega
          rcases hSr with ⟨hca, rfl⟩ | ⟨hca, rfl⟩
          all_goals
            go_wp2_with (first | (at_builtin; refine wpList_append_sl rfl elemU8 rfl rfl (Own.fresh0 (heap_alloc_new _ _) (Nat.le_refl _)) rfl (hrd.alloc hzz _) (bvs_one bd) (by unfold maxLen; omega) (by omega) (by simp) ?_; intro A2 c2 w2 o2 k2; simp only [Nat.zero_add, List.nil_append] at o2) | (refine wpList_load rfl rfl rfl (load_obj (Blk.new _ _ _)) ?_))
            have k02 : Below q w w2 := (k0.alloc (by omega) _).trans (k2.below (B := q) (by omega) (by simp; omega) (by simp))
            have z2 := k2.size
            simp at z2
            have q2 := k2.blk (q0.alloc (.cells #[] 5)) (by simp) (by decide)
            have hcm := o2.cap_le
            have o2' : Own w2 w0.heap.size 5 1 A2 bd.length c2 (bd.map bv) := by rw [HBD.out]; exact o2
            rw [← HBD.out]
            rw [← HBD.out] at hcm
            have hbl : bd.length ≤ 1000000 := by rw [HBD.out]; omega
            clear o2 k2 hrd
            refine (rbody_any _ bd A2 c2 _ ((o2'.reads.alloc (Nat.le_refl _) _).more (by simp)) hbl hcm.1 hcm.2).mono ?_
            rintro r w4 ⟨rfl, be4⟩
            have k04 := (k02.alloc (by omega) _).trans (be4.mono (by simp; omega))
            have q4 := (q2.alloc _).below be4 (by simp; omega)
            have p4 := (Blk.new w2 45 _).below be4 (by simp)
            have o4 := (o2'.alloc _).kept (b' := 0) (E := []) (G := []) (Kept.ofBelow be4) (by simp) (by simp)
            have z4 := be4.size
            simp at z4
            have l4 := q4.lt
            clear be4 q2 k02 o2'
            generalize hee : bodyE _ bd = ee at *
            have HEE := Lib.hid hee
            clear hee
            by_cases h0 : ee = 0
            · subst h0
              have HR := Lib.hid (HPP.out.trans (if_pos rfl))
              go_wp2_with (first | (refine wpList_load rfl rfl rfl (load_obj p4) ?_) | (refine wpList_storeBlk rfl rfl (vs := #[.int .i64 _, .slice A2 bd.length c2]) rfl rfl q4 rfl info_obj obj_one2 ?_; intro wf qf kf zf))
              refine bodyPost_ret (results_cell_tmp rfl _ _ rfl (loadVar_obj qf)) rfl ?_
              have of := (o4.keepOnly kf q4 (by decide)).mono (base' := q) (by omega)
              refine ⟨A2, c2, by rw [HR.out]; rfl, by rw [HR.out, HQ.out]; exact of, ?_⟩
              rw [HQ.out]
              exact k04.trans (kf.below (by omega) (by unfold Only; intro i hi h; omega))
            · have h01 : (ee != 0) = true := by simpa using h0
              have HR := Lib.hid (HPP.out.trans (if_neg h0))
              go_wp2_with (first | (refine wpList_storeBlk rfl rfl (vs := #[.int .i64 0, .slice none 0 0]) rfl rfl q4 rfl info_obj obj_one ?_; intro w9 hq9 hk9 hz9))
              refine bodyPost_ret (results_cell_tmp rfl _ _ rfl (loadVar_obj hq9)) rfl ?_
              exact FIN.out _ _ HR.out (k04.trans (hk9.below (by omega) (by unfold Only; intro i hi h; omega)))
end Go.Proofs.YtppmolneklidfaaGreat

namespace Go.Proofs.YtppmolneklidfaaGreat
open Go.RowKit

/-- The constants of the rounds. -/
def shaK : List UInt32 := [1116352408, 1899447441, 3049323471, 3921009573, 961987163, 1508970993, 2453635748, 2870763221, 3624381080, 310598401, 607225278, 1426881987, 1925078388, 2162078206, 2614888103, 3248222580, 3835390401, 4022224774, 264347078, 604807628, 770255983, 1249150122, 1555081692, 1996064986, 2554220882, 2821834349, 2952996808, 3210313671, 3336571891, 3584528711, 113926993, 338241895, 666307205, 773529912, 1294757372, 1396182291, 1695183700, 1986661051, 2177026350, 2456956037, 2730485921, 2820302411, 3259730800, 3345764771, 3516065817, 3600352804, 4094571909, 275423344, 430227734, 506948616, 659060556, 883997877, 958139571, 1322822218, 1537002063, 1747873779, 1955562222, 2024104815, 2227730452, 2361852424, 2428436474, 2756734187, 3204031479, 3329325298]
def wv (x : UInt32) : Value := .int .u32 (x.toNat : Int)
def u32L (l : List UInt32) : List Value := l.map wv
def kParts : Array (Nat × Value) := #[(0, .int .u32 1116352408), (1, .int .u32 1899447441), (2, .int .u32 3049323471), (3, .int .u32 3921009573), (4, .int .u32 961987163), (5, .int .u32 1508970993), (6, .int .u32 2453635748), (7, .int .u32 2870763221), (8, .int .u32 3624381080), (9, .int .u32 310598401), (10, .int .u32 607225278), (11, .int .u32 1426881987), (12, .int .u32 1925078388), (13, .int .u32 2162078206), (14, .int .u32 2614888103), (15, .int .u32 3248222580), (16, .int .u32 3835390401), (17, .int .u32 4022224774), (18, .int .u32 264347078), (19, .int .u32 604807628), (20, .int .u32 770255983), (21, .int .u32 1249150122), (22, .int .u32 1555081692), (23, .int .u32 1996064986), (24, .int .u32 2554220882), (25, .int .u32 2821834349), (26, .int .u32 2952996808), (27, .int .u32 3210313671), (28, .int .u32 3336571891), (29, .int .u32 3584528711), (30, .int .u32 113926993), (31, .int .u32 338241895), (32, .int .u32 666307205), (33, .int .u32 773529912), (34, .int .u32 1294757372), (35, .int .u32 1396182291), (36, .int .u32 1695183700), (37, .int .u32 1986661051), (38, .int .u32 2177026350), (39, .int .u32 2456956037), (40, .int .u32 2730485921), (41, .int .u32 2820302411), (42, .int .u32 3259730800), (43, .int .u32 3345764771), (44, .int .u32 3516065817), (45, .int .u32 3600352804), (46, .int .u32 4094571909), (47, .int .u32 275423344), (48, .int .u32 430227734), (49, .int .u32 506948616), (50, .int .u32 659060556), (51, .int .u32 883997877), (52, .int .u32 958139571), (53, .int .u32 1322822218), (54, .int .u32 1537002063), (55, .int .u32 1747873779), (56, .int .u32 1955562222), (57, .int .u32 2024104815), (58, .int .u32 2227730452), (59, .int .u32 2361852424), (60, .int .u32 2428436474), (61, .int .u32 2756734187), (62, .int .u32 3204031479), (63, .int .u32 3329325298)]
def hParts : Array (Nat × Value) := #[(0, .int .u32 1779033703), (1, .int .u32 3144134277), (2, .int .u32 1013904242), (3, .int .u32 2773480762), (4, .int .u32 1359893119), (5, .int .u32 2600822924), (6, .int .u32 528734635), (7, .int .u32 1541459225)]
theorem shaK_len : shaK.length = 64 := rfl
end Go.Proofs.YtppmolneklidfaaGreat

namespace Go.Proofs.YtppmolneklidfaaGreat
open Go.RowKit

/-! ### Words -/
def addU (a b : UInt32) : UInt32 := a + b
def xorU (a b : UInt32) : UInt32 := a ^^^ b
def andU (a b : UInt32) : UInt32 := a &&& b
def notU (a : UInt32) : UInt32 := xorU 4294967295 a
def shr3 (a : UInt32) : UInt32 := a >>> 3
def shr10 (a : UInt32) : UInt32 := a >>> 10
def rotU (a : UInt32) (n : Nat) : UInt32 := (a >>> UInt32.ofNat n) ||| (a <<< UInt32.ofNat (32 - n))
def word4 (a b c d : UInt8) : UInt32 := ((a.toUInt32 <<< 24 ||| b.toUInt32 <<< 16) ||| c.toUInt32 <<< 8) ||| d.toUInt32

theorem u32_lt (a : UInt32) : a.toNat < 4294967296 := a.toNat_lt
theorem add_u32 (a b : UInt32) : IntKind.u32.wrap ((a.toNat : Int) + (b.toNat : Int)) = ((addU a b).toNat : Int) := by
  rw [IntKind.wrap_u32']
  unfold addU
  rw [UInt32.toNat_add]
  omega
theorem add_u32' (a b : UInt32) : ((a.toNat : Int) + (b.toNat : Int)) % 4294967296 = ((addU a b).toNat : Int) := by rw [← add_u32, IntKind.wrap_u32']
theorem xor_u32 (a b : UInt32) : bits .xor .u32 (a.toNat : Int) (b.toNat : Int) = ((xorU a b).toNat : Int) := by
  rw [u32_xor_nat _ _ (u32_lt a) (u32_lt b)]
  unfold xorU
  rw [UInt32.toNat_xor]
theorem and_u32 (a b : UInt32) : bits .and .u32 (a.toNat : Int) (b.toNat : Int) = ((andU a b).toNat : Int) := by
  rw [u32_and_nat _ _ (u32_lt a) (u32_lt b)]
  unfold andU
  rw [UInt32.toNat_and]
theorem not_u32 (a : UInt32) : bits .xor .u32 IntKind.u32.max (a.toNat : Int) = ((notU a).toNat : Int) := xor_u32 4294967295 a
theorem shr3_u32 (a : UInt32) : (a.toNat : Int) / 8 = ((shr3 a).toNat : Int) := by
  unfold shr3
  rw [UInt32.toNat_shiftRight]
  simp [Nat.shiftRight_eq_div_pow]
theorem shr10_u32 (a : UInt32) : (a.toNat : Int) / 1024 = ((shr10 a).toNat : Int) := by
  unfold shr10
  rw [UInt32.toNat_shiftRight]
  simp [Nat.shiftRight_eq_div_pow]
theorem rot_u32 (a : UInt32) (n : Nat) (hn : 1 ≤ n) (hn' : n ≤ 31) : bits .or .u32 ((a.toNat : Int) / (2 ^ n : Nat)) ((a.toNat : Int) * (2 ^ (32 - n) : Nat) % 4294967296) = ((rotU a n).toNat : Int) := by
  have h1 : (a.toNat : Int) / (2 ^ n : Nat) = ((a.toNat / 2 ^ n : Nat) : Int) := by omega
  have h2 : (a.toNat : Int) * (2 ^ (32 - n) : Nat) % 4294967296 = ((a.toNat * 2 ^ (32 - n) % 4294967296 : Nat) : Int) := by omega
  rw [h1, h2, u32_or_nat _ _ (Nat.lt_of_le_of_lt (Nat.div_le_self _ _) (u32_lt a)) (Nat.mod_lt _ (by omega))]
  unfold rotU
  rw [UInt32.toNat_or, UInt32.toNat_shiftRight, UInt32.toNat_shiftLeft]
  simp only [UInt32.toNat_ofNat', Nat.shiftRight_eq_div_pow, Nat.shiftLeft_eq]
  rw [Nat.mod_eq_of_lt (a := n) (by omega), Nat.mod_eq_of_lt (a := n) (by omega), Nat.mod_eq_of_lt (a := 32 - n) (by omega), Nat.mod_eq_of_lt (a := 32 - n) (by omega)]
theorem or_comm32 (x y : Int) : bits .or .u32 x y = bits .or .u32 y x := by
  show IntKind.u32.wrap ((BitVec.ofInt 32 x ||| BitVec.ofInt 32 y).toNat : Int) = IntKind.u32.wrap ((BitVec.ofInt 32 y ||| BitVec.ofInt 32 x).toNat : Int)
  rw [BitVec.or_comm]

/-- The words by which the sum turns. -/
def Turns (n : Nat) : Prop := n = 2 ∨ n = 6 ∨ n = 7 ∨ n = 11 ∨ n = 13 ∨ n = 17 ∨ n = 18 ∨ n = 19 ∨ n = 22 ∨ n = 25

theorem nwrap (n : Nat) (h : Turns n) : bits .and .u64 (IntKind.u64.wrap (-(n : Int))) 31 = ((32 - n : Nat) : Int) := by
  rcases h with rfl | rfl | rfl | rfl | rfl | rfl | rfl | rfl | rfl | rfl <;> decide +kernel

set_option maxHeartbeats 1000000 in
theorem turn_any (x : UInt32) (n : Nat) (hn : Turns n) (w : World) :
    Calls Tryz.prog 94 #[.int .u32 (x.toNat : Int), .int .i64 (n : Int)] w fun r w' => r = .returned (.int .u32 ((rotU x n).toNat : Int)) ∧ w = w' := by
  have hs := nwrap n hn
  have hr := rot_u32 x n (by unfold Turns at hn; omega) (by unfold Turns at hn; omega)
  rw [or_comm32] at hr
  have h1 := u32_lt x
  rcases hn with rfl | rfl | rfl | rfl | rfl | rfl | rfl | rfl | rfl | rfl
  all_goals
    simp at hs hr
    generalize rotU x _ = z at *
    generalize x.toNat = y at *
    go_enter Tryz.func94, Tryz.ntmps94
    go_wp2
    go_ret
    exact ⟨rfl, rfl⟩
set_option maxHeartbeats 1000000 in
theorem rturn_any (x : UInt32) (n : Nat) (hn : Turns n) (w : World) :
    Calls Tryz.prog 87 #[.int .u32 (x.toNat : Int), .int .i64 (n : Int)] w fun r w' => r = .returned (.int .u32 ((rotU x n).toNat : Int)) ∧ ∃ k, w' = w.drewN k := by
  have hr := rot_u32 x n (by unfold Turns at hn; omega) (by unfold Turns at hn; omega)
  have h1 := u32_lt x
  rcases hn with rfl | rfl | rfl | rfl | rfl | rfl | rfl | rfl | rfl | rfl
  all_goals
    simp at hr
    generalize rotU x _ = z at *
    generalize x.toNat = y at *
    go_enter Tryz.func87, Tryz.ntmps87
    go_wp2_with fail
    go_quiet (fail)
    go_wp2
    go_ret
    exact ⟨rfl, _, rfl⟩

theorem word_u32 (a b c d : UInt8) : bits .or .u32 (bits .or .u32 (bits .or .u32 ((a.toNat : Int) * 16777216) ((b.toNat : Int) * 65536)) ((c.toNat : Int) * 256)) (d.toNat : Int) = ((word4 a b c d).toNat : Int) := by
  have ha := a.toNat_lt
  have hb := b.toNat_lt
  have hc := c.toNat_lt
  have hd := d.toNat_lt
  have e1 : (a.toNat : Int) * 16777216 = ((a.toNat * 16777216 : Nat) : Int) := by omega
  have e2 : (b.toNat : Int) * 65536 = ((b.toNat * 65536 : Nat) : Int) := by omega
  have e3 : (c.toNat : Int) * 256 = ((c.toNat * 256 : Nat) : Int) := by omega
  have l1 : a.toNat * 16777216 ||| b.toNat * 65536 < 2 ^ 32 := Nat.or_lt_two_pow (by omega) (by omega)
  have l2 : (a.toNat * 16777216 ||| b.toNat * 65536) ||| c.toNat * 256 < 2 ^ 32 := Nat.or_lt_two_pow l1 (by omega)
  rw [e1, e2, e3, u32_or_nat _ _ (by omega) (by omega), u32_or_nat _ _ (by omega) (by omega), u32_or_nat _ _ (by omega) (by omega)]
  unfold word4
  simp only [UInt32.toNat_or, UInt32.toNat_shiftLeft, UInt8.toNat_toUInt32, Nat.shiftLeft_eq]
  rw [show (24 : UInt32).toNat % 32 = 24 from rfl, show (16 : UInt32).toNat % 32 = 16 from rfl, show (8 : UInt32).toNat % 32 = 8 from rfl]
  rw [Nat.mod_eq_of_lt (by omega), Nat.mod_eq_of_lt (by omega), Nat.mod_eq_of_lt (by omega)]
set_option maxHeartbeats 1000000 in
theorem word_any (b0 b1 b2 b3 : UInt8) (g off n c : Nat) (w : World) (h0 : w.cell? ⟨g, off, none⟩ = some (bv b0)) (h1 : w.cell? ⟨g, off + 1, none⟩ = some (bv b1)) (h2 : w.cell? ⟨g, off + 2, none⟩ = some (bv b2)) (h3 : w.cell? ⟨g, off + 3, none⟩ = some (bv b3)) (hn : 4 ≤ n) :
    Calls Tryz.prog 93 #[.slice (some ⟨g, off, none⟩) n c] w fun r w' => r = .returned (.int .u32 ((word4 b0 b1 b2 b3).toNat : Int)) ∧ ∃ k, w' = w.drewN k := by
  have hw := word_u32 b0 b1 b2 b3
  unfold bv at h0 h1 h2 h3
  have x0 := b0.toNat_lt
  have x1 := b1.toNat_lt
  have x2 := b2.toNat_lt
  have x3 := b3.toNat_lt
  generalize word4 b0 b1 b2 b3 = z at *
  generalize b0.toNat = y0 at *
  generalize b1.toNat = y1 at *
  generalize b2.toNat = y2 at *
  generalize b3.toNat = y3 at *
  go_enter Tryz.func93, Tryz.ntmps93
  go_wp2_with fail
  go_quiet (fail)
  go_wp2
  go_ret
  exact ⟨rfl, _, rfl⟩

/-! ### The constants -/
def kC : Array Value := (u32L shaK).toArray
theorem kC_size : kC.size = 64 := by simp [kC, u32L, shaK_len]
theorem build_k (w : World) : (Instr.build 154 kParts).run Tryz.prog w = .ok (.agg kC) w := by kernel_rfl
def zeroW : List UInt32 := List.replicate 64 0
theorem zero_w (w : World) : (zeroValue 154).run Tryz.prog w = .ok (.agg (u32L zeroW).toArray) w := by kernel_rfl
theorem info_w : (Tryz.prog.info? 154).map (·.size) = some 64 := by kernel_rfl
theorem u32_one (l : List UInt32) : ∀ v ∈ u32L l, v.oneCell' = true := by
  intro v hv
  obtain ⟨x, _, rfl⟩ := List.mem_map.1 hv
  rfl
theorem u32L_len (l : List UInt32) : (u32L l).length = l.length := by simp [u32L]
set_option maxHeartbeats 1000000 in
set_option maxRecDepth 100000 in
theorem rounds_any (w : World) : Calls Tryz.prog 95 #[] w fun r w' => r = .returned (.agg kC) ∧ Keep Nothing w w' := by
  go_enter Tryz.func95, Tryz.ntmps95
  go_wp2_with (first | (refine wpList_allocAgg rfl rfl (zero_w _) ?_) | (refine wpList_built rfl rfl (vs := kParts) rfl (build_k _) ?_) | (refine wpList_storeBlk rfl rfl (vs := kC) rfl rfl (Blk.new _ _ _) (by rw [kC_size]; simp [u32L, zeroW]) (by rw [kC_size]; exact info_w) (by simpa [kC] using u32_one shaK) ?_; intro w2 hb2 hk2 hz2))
  refine bodyPost_ret (v := .agg kC) (results_cell rfl _ _ rfl (run_loadVar_cells w2 _ kC Tryz.underlying154 rfl (by rw [kC_size]; exact info_w) (fun j v hj => by rw [add_at, hb2.cell, ← hj]; simp))) rfl ⟨rfl, ?_⟩
  exact Keep.ofNew hk2
end Go.Proofs.YtppmolneklidfaaGreat
