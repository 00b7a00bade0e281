/-
  Contract of pack.entries at texts that are alike but for the last byte. No statement of the seat is proved here.
-/
import Derived.Test.YtmlmbkelpjmafaaGreatKi
import Derived.BigRegion
namespace Go.Proofs.YtmlmbkelpjmafaaGreat
open Go.RowKit Go.Shelf
def datB (u : List UInt8) (k : Nat) (x : UInt8) : List UInt8 := if k % 9 = 0 then u ++ [x] else dltB u x
def bseB (k : Nat) : Nat := if k % 9 = 0 then 0 else k
def entB (u : List UInt8) (k : Nat) (x : UInt8) : List UInt8 := [98] ++ [bseB k, (datB u k x).length].flatMap (be 4) ++ datB u k x
def entsTo (u : List UInt8) (xs : List UInt8) (k : Nat) : List UInt8 := (List.range k).flatMap fun i => entB u i (xs.getD i 0)
def atsTo (u : List UInt8) (xs : List UInt8) (k : Nat) : List Nat := (List.range k).map fun i => (entsTo u xs i).length
def chnB (k : Nat) : Nat := if k = 0 then 0 else (k - 1) % 9
theorem entsTo_succ (u xs : List UInt8) (k : Nat) : entsTo u xs (k + 1) = entsTo u xs k ++ entB u k (xs.getD k 0) := by simp [entsTo, List.range_succ]
theorem atsTo_succ (u xs : List UInt8) (k : Nat) : atsTo u xs (k + 1) = atsTo u xs k ++ [(entsTo u xs k).length] := by simp [atsTo, List.range_succ]
theorem atsTo_len (u xs : List UInt8) (k : Nat) : (atsTo u xs k).length = k := by simp [atsTo]
theorem datB_len (u : List UInt8) (k : Nat) (x : UInt8) : (datB u k x).length ≤ u.length + 24 := by
  unfold datB
  split
  · simp
  · rw [dltB_len]; omega
theorem entB_len (u : List UInt8) (k : Nat) (x : UInt8) : (entB u k x).length = 9 + (datB u k x).length := by simp [entB, be_len]; omega
theorem entsTo_len (u xs : List UInt8) (k : Nat) : (entsTo u xs k).length ≤ k * (u.length + 33) := by
  induction k with
  | zero => simp [entsTo]
  | succ k ih =>
    rw [entsTo_succ, List.length_append, entB_len, Nat.succ_mul]
    have := datB_len u k (xs.getD k 0)
    omega
def zKn : Array Value := (idL noId ++ [Value.int .i64 0, Value.slice none 0 0]).toArray
theorem zero_kn (w : World) : (zeroValue 47).run Tryz.prog w = .ok (.agg zKn) w := by kernel_rfl
theorem info_kn : (Tryz.prog.info? 47).map (·.size) = some 34 := by kernel_rfl
theorem info_int9 : (Tryz.prog.info? 3).map (fun i => (i.zero, i.size, i.bytes)) = some (some (.int .i64 0), 1, 8) := by kernel_rfl
theorem elemI9 : Elem Tryz.prog 48 3 1 8 := by
  refine ⟨Tryz.underlying48, ?_, by decide⟩
  have h := info_int9
  cases hq : Tryz.prog.info? 3 with
  | none => rw [hq] at h; cases h
  | some i =>
    rw [hq] at h
    simp only [Option.map_some, Option.some.injEq, Prod.mk.injEq] at h
    exact ⟨i, _, rfl, h.1, h.2.1, h.2.2, rfl⟩
theorem chnB_lt {k : Nat} (h : 0 < k) : (chnB k < 8 ↔ k % 9 ≠ 0) ∧ chnB k ≤ 8 := by
  unfold chnB
  rw [if_neg (by omega)]
  omega
theorem chnB_zero {k : Nat} (h : k % 9 = 0) : chnB (k + 1) = 0 := by
  unfold chnB
  rw [if_neg (by omega), Nat.add_sub_cancel]
  exact h
theorem chnB_succ {k : Nat} (h : k % 9 ≠ 0) : chnB (k + 1) = chnB k + 1 := by
  unfold chnB
  rw [if_neg (by omega), if_neg (by omega)]
  omega
theorem Reads.keptB {w w' : World} {B size n : Nat} {A : Option Addr} {xs : List Value} (h : Reads w B size A n xs) (hk : ∀ a, A = some a → a.block < B → w'.heap[a.block]? = w.heap[a.block]?) : Reads w' B size A n xs :=
  ⟨h.1, fun hn => by
    obtain ⟨ad, e, hb, hc⟩ := h.2 hn
    refine ⟨ad, e, hb, fun j u hu => (World.cell?_of_block (w := w) ?_).trans (hc j u hu)⟩
    rw [block_of_add]
    exact hk ad e hb⟩
theorem Own.notB {w : World} {base : Nat} {e : TypeId} {size : Nat} {A : Option Addr} {n c : Nat} {xs : List Value} (h : Own w base e size A n c xs) {p : Nat} (hp : p < base ∨ w.heap.size ≤ p) : NotB A n c p := fun q => by
  obtain ⟨h1, h2, _⟩ := h.blockAt p q
  omega
/-- A row of pack's: what its cells are, and that each body reads. -/
structure KnI (w : World) (B : Nat) (u : List UInt8) (A : Option Addr) (ks : List Kn) : Prop where
  row : Reads w B 34 A ks.length (ks.flatMap (knL (u.length + 1)))
  body : ∀ k ∈ ks, Reads w B 1 k.A (u.length + 1) ((u ++ [k.x]).map bv)
  cap : ∀ k ∈ ks, u.length + 1 ≤ k.c ∧ k.c ≤ maxLen
attribute [local go_sem ↓] ld_k st_k
def EntsPost (u : List UInt8) (xs : List UInt8) (N : Nat) (w : World) (r : Ending) (w' : World) : Prop := ∃ A c A2 c2, r = .returned (.tuple #[.slice A (entsTo u xs N).length c, .slice A2 N c2]) ∧ Own w' w.heap.size 5 1 A (entsTo u xs N).length c ((entsTo u xs N).map bv) ∧ Own w' w.heap.size 3 1 A2 N c2 ((atsTo u xs N).map nv) ∧ Below w.heap.size w w'
set_option maxHeartbeats 8000000 in
set_option maxRecDepth 1000000 in
theorem entries_any (u : List UInt8) (ks : List Kn) (L : Option Addr) (cL : Nat) (w : World) (hI : KnI w w.heap.size u L ks) (hnd : (ks.map Kn.x).Nodup) (hu : u.length ≤ 2000) (hu2 : ks.length ≤ 1 ∨ 100 ≤ u.length) (hk : ks.length ≤ 40) :
    Calls Tryz.prog 13 #[.slice L ks.length cL] w (EntsPost u (ks.map Kn.x) ks.length w) := by
  have HI := Lib.hid hI
  have HND := Lib.hid hnd
  have HU2 := Lib.hid hu2
  clear hI hnd hu2
  obtain ⟨n, hn⟩ : ∃ n, u.length + 1 = n := ⟨_, rfl⟩
  obtain ⟨N, hN⟩ : ∃ N, ks.length = N := ⟨_, rfl⟩
  obtain ⟨xs, hxs⟩ : ∃ xs, ks.map Kn.x = xs := ⟨_, rfl⟩
  have hxl : xs.length = N := by rw [← hxs, ← hN]; simp
  obtain ⟨z, hz⟩ : ∃ z, w.heap.size = z := ⟨_, rfl⟩
  have HZ := Lib.hid hz
  have HXS := Lib.hid hxs
  have HXL := Lib.hid hxl
  have HN := Lib.hid hN
  have Hn := Lib.hid hn
  rw [hN]
  rw [hN] at hk
  rw [hxs]
  clear hz hxs hxl hN hn
  go_enter Tryz.func13, Tryz.ntmps13
  go_wp2_with fail
  go_loopg [4, 5, 6, 14] N (fun kx s4 s5 s6 s14 wr => ∃ (k : Nat) (A4 : Option Addr) (c4 : Nat) (A5 : Option Addr) (c5 : Nat) (b : List UInt8), s14 = .int .i64 k ∧ s4 = .slice A4 b.length c4 ∧ s5 = .slice A5 k c5 ∧ s6 = .int .i64 (chnB k : Nat) ∧ k ≤ N ∧ N - k ≤ kx ∧ Hid (b = entsTo u xs k) ∧ Hid (Own wr z 5 1 A4 b.length c4 (b.map bv)) ∧ Hid (Own wr z 3 1 A5 k c5 ((atsTo u xs k).map nv)) ∧ Hid (Below z w wr))
  case atStart => exact ⟨0, none, 0, none, 0, [], rfl, rfl, rfl, rfl, Nat.zero_le _, Nat.le_refl _, Lib.hid rfl, Lib.hid (Own.nil _ _ _ _), Lib.hid (Own.nil _ _ _ _), Lib.hid (Below.refl _ _)⟩
  case round =>
    obtain ⟨k, A4, c4, A5, c5, b, rfl, rfl, rfl, rfl, hkN, hkx, HB, HO4, HO5, HBW⟩ := hrel
    by_cases hlt : k < N
    · have hltz : (k : Int) < (N : Int) := by omega
      obtain ⟨kn, hkn⟩ : ∃ kn, ks[k]? = some kn := ⟨_, List.getElem?_eq_getElem (by rw [HN.out]; exact hlt)⟩
      obtain ⟨gL, oL, rfl, hgL, hcL⟩ := HI.out.row.at0 (by rw [HN.out]; omega) (by omega)
      have hwz : w.heap.size = z := HZ.out
      have hcl : ∀ j v, (knL (u.length + 1) kn)[j]? = some v → wr.cell? ⟨gL, oL + k * 34 + j, none⟩ = some v := fun j v hj => by
        rw [HBW.out.cell (by show gL < z; omega), Nat.add_assoc]
        exact hcL _ v (flatn_at (knL_len _) ks k j kn hkn v hj)
      rw [Hn.out] at hcl
      have HCL := Lib.hid hcl
      have hld : (LdK (.pointer (some ⟨gL, oL + k * 34, none⟩))).run Tryz.prog wr = .ok (.agg (knL n kn).toArray) wr := by
        refine run_loadAt_cells wr _ _ Tryz.underlying47 rfl ?_ (fun j v hj => ?_)
        · rw [show (knL n kn).toArray.size = 34 by simp [knL_len]]
          exact info_kn
        · rw [add_at]
          exact hcl j v (by simpa using hj)
      clear hcl hcL
      have hb0 : Blk (wr.alloc (.cells zKn 47)) wr.heap.size 47 zKn := Blk.new _ _ _
      go_upto_region 7 with (first | (refine wpList_allocAgg rfl rfl (zero_kn _) ?_) | (refine wpList_storeBlk rfl rfl (vs := (knL n kn).toArray) rfl rfl hb0 (by simp [knL_len, zKn, idL_len]) (by rw [show (knL n kn).toArray.size = 34 by simp [knL_len]]; exact info_kn) (by simpa using knL_one n kn) ?_; intro w1 hb1 hk1 hs1))
      have BW1 : Below z w w1 := (HBW.out.alloc (by rw [← hwz]; exact HBW.out.size) _).trans (hk1.below (by rw [← hwz]; simp; exact Nat.le_succ_of_le HBW.out.size) (by unfold Only; intro i hi h; have := HBW.out.size; omega))
      have hzr : z ≤ wr.heap.size := by rw [← hwz]; exact HBW.out.size
      have O4 := Lib.hid ((HO4.out.alloc (.cells zKn 47)).keepOnly hk1 hb0 (by decide))
      have O5 := Lib.hid ((HO5.out.alloc (.cells zKn 47)).keepOnly hk1 hb0 (by decide))
      generalize wr.heap.size = g8 at *
      clear hb0 hk1 hs1 HO4 HO5 HBW hld
      have HB1 := Lib.hid hb1
      have HBW1 := Lib.hid BW1
      have hz1 : z ≤ w1.heap.size := by rw [← hwz]; exact BW1.size
      have hm1 : k + 1 ≤ maxLen := by unfold maxLen; omega
      have hm2 : (k + 1) * 8 ≤ 140737488355328 := by omega
      clear BW1 hwz
      go_upto_region 8 with (refine wpList_append_sl rfl elemI9 rfl rfl (O5.out.alloc _) rfl (Reads.of_cells (xs := [nv b.length]) (heap_alloc_new _ _) rfl rfl) (by intro v hv; simp only [List.mem_singleton] at hv; subst hv; rfl) hm1 hm2 (by simp; omega) ?_; intro A5' c5' w2 ho5 hk2)
      have hbl : nv b.length = nv (entsTo u xs k).length := by rw [HB.out]
      rw [hbl, ← List.map_singleton (f := nv), ← List.map_append, ← atsTo_succ] at ho5
      have hk2' := ((Kept.refl z [3] [] w1).alloc _).trans hk2
      have hb2 := hk2'.blk HB1.out (by simp) (by decide)
      have O42 := Lib.hid (O4.out.kept hk2' (by decide) (by simp))
      have O52 := Lib.hid ho5
      have BW2 := Lib.hid (HBW1.out.trans (hk2'.below (Nat.le_refl _) hz1 (by simp)))
      have hz2 : z ≤ w2.heap.size := Nat.le_trans hz1 hk2'.size
      clear O4 O5 HBW1 HB1 ho5 hk2 hk2' hb1 hbl hm1 hm2 hz1
      have q32 : w2.cell? ⟨g8, 32, none⟩ = some (.int .i64 1) := by rw [hb2.cell]; simp [knL, idL_len]
      have q33 : w2.cell? ⟨g8, 33, none⟩ = some (.slice kn.A n kn.c) := by rw [hb2.cell]; simp [knL, idL_len]
      have HB2 := Lib.hid hb2
      clear hb2
      have q33d : w2.drew.cell? ⟨g8, 33, none⟩ = some (.slice kn.A n kn.c) := q33
      go_region
      have q32d : w2.drew.cell? ⟨g8, 32, none⟩ = some (.int .i64 1) := q32
      have O43 := Lib.hid O42.out.drew
      have O53 := Lib.hid O52.out.drew
      have BW3 := Lib.hid BW2.out.drew
      have HB3 := Lib.hid HB2.out.drew
      have hz3 : z ≤ w2.drew.heap.size := hz2
      clear O42 O52 BW2 HB2 q32 q33 hz2
      generalize w2.drew = w3 at *
      go_upto_region 9 with fail
      go_cut [45] (fun s45 wx => s45 = .bool (decide (k % 9 ≠ 0)) ∧ w3.drew = wx)
      case first =>
        as_aux_lemma =>
          rcases Nat.eq_zero_or_pos k with hk0 | hk0
          · have g1 : ¬ (0 : Int) < (k : Int) := by omega
            have g0 : decide (0 < k) = false := decide_eq_false (by omega)
            have g7 : ¬ 0 < k := by omega
            have HK0 := Lib.hid hk0
            clear hk0
            go_region
            go_wp2_with fail
            go_meet
            exact ⟨by rw [HK0.out]; simp, rfl⟩
          · have g1 : (0 : Int) < (k : Int) := by omega
            obtain ⟨j, hj⟩ : ∃ j, k = j + 1 := ⟨k - 1, by omega⟩
            have qj : w3.cell? ⟨gL, oL + j * 34 + 32, none⟩ = some (.int .i64 1) := by
              obtain ⟨kp, hkp⟩ : ∃ kp, ks[j]? = some kp := ⟨_, List.getElem?_eq_getElem (by rw [HN.out]; omega)⟩
              rw [BW3.out.cell (by show gL < z; rw [← HZ.out]; exact hgL), Nat.add_assoc]
              obtain ⟨g', o', e', _, hc'⟩ := HI.out.row.at0 (by rw [HN.out]; omega) (by omega)
              injection e' with e'
              injection e' with e1 e2
              subst e1 e2
              exact hc' _ _ (flatn_at (knL_len _) ks j 32 kp hkp _ (by simp [knL, idL_len]))
            have qjd : w3.drew.cell? ⟨gL, oL + j * 34 + 32, none⟩ = some (.int .i64 1) := qj
            have q32e : w3.drew.cell? ⟨g8, 32, none⟩ = some (.int .i64 1) := q32d
            have g2 : (j : Int) < (N : Int) := by omega
            have g4 : (k : Int) - 1 = (j : Int) := by omega
            have g5 : IntKind.i64.wrap (j : Int) = (j : Int) := by rw [IntKind.wrap_i64]; omega
            have g6 : (0 : Int) ≤ (j : Int) := by omega
            have hcn := chnB_lt (k := k) (by omega)
            by_cases h9 : k % 9 = 0
            · have g3 : ¬ ((chnB k : Nat) : Int) < 8 := by have := hcn.1; omega
              have H9 := Lib.hid h9
              clear hcn hj h9
              go_region
              go_wp2_with fail
              go_meet
              exact ⟨by rw [decide_eq_false (by simpa using H9.out)], rfl⟩
            · have g3 : ((chnB k : Nat) : Int) < 8 := by have := hcn.1; omega
              have H9 := Lib.hid h9
              clear hcn hj h9
              go_region
              go_wp2_with fail
              go_meet
              exact ⟨by rw [decide_eq_true H9.out], rfl⟩
      rename_i hcut
      obtain ⟨rfl, rfl⟩ := hcut
      have q32 : w3.drew.cell? ⟨g8, 32, none⟩ = some (.int .i64 1) := q32d
      have q33 : w3.drew.cell? ⟨g8, 33, none⟩ = some (.slice kn.A n kn.c) := q33d
      have O44 := Lib.hid O43.out.drew
      have O54 := Lib.hid O53.out.drew
      have BW4 := Lib.hid BW3.out.drew
      have HB4 := Lib.hid HB3.out.drew
      have hz4 : z ≤ w3.drew.heap.size := hz3
      clear O43 O53 BW3 HB3 q32d q33d hz3
      generalize w3.drew = w4 at *
      go_upto_if 45 with fail
      go_cut [9, 10] (fun s9 s10 wx => ∃ (A10 : Option Addr) (c10 : Nat), s9 = .int .i64 (bseB k : Nat) ∧ s10 = .slice A10 (datB u k kn.x).length c10 ∧ Hid (Reads wx wx.heap.size 1 A10 (datB u k kn.x).length ((datB u k kn.x).map bv)) ∧ Hid (Own wx z 5 1 A4 b.length c4 (b.map bv)) ∧ Hid (Own wx z 3 1 A5' (k + 1) c5' ((atsTo u xs (k + 1)).map nv)) ∧ Hid (Below z w wx) ∧ Hid (Blk wx g8 47 (knL n kn).toArray) ∧ z ≤ wx.heap.size ∧ Hid (∀ a, A10 = some a → NotB A4 b.length c4 a.block))
      case first =>
        as_aux_lemma =>
          have hmem : kn ∈ ks := List.mem_of_getElem? hkn
          have hzz : w.heap.size = z := HZ.out
          by_cases h9 : k % 9 = 0
          · have hrd := Lib.hid (show Reads w4 w4.heap.size 1 kn.A (datB u k kn.x).length ((datB u k kn.x).map bv) by
              unfold datB
              rw [if_pos h9]
              have := (HI.out.body kn hmem).below (by rw [hzz]; exact BW4.out)
              rw [show (u ++ [kn.x]).length = u.length + 1 by simp]
              exact this.more (by omega))
            have HNB := Lib.hid (show ∀ a, kn.A = some a → NotB A4 b.length c4 a.block from fun a ha => by
              obtain ⟨a', e', hb', _⟩ := (HI.out.body kn hmem).2 (by omega)
              rw [ha] at e'
              injection e' with e'
              subst e'
              exact O44.out.notB (.inl (by omega)))
            have hdl : (datB u k kn.x).length = n := by unfold datB; rw [if_pos h9, ← Hn.out]; simp
            have hbs : bseB k = 0 := by unfold bseB; rw [if_pos h9]
            have HDL := Lib.hid (And.intro hdl hbs)
            rw [decide_eq_false (by simpa using h9)]
            clear hdl hbs h9 hzz
            go_wp2_with fail
            go_meet
            exact ⟨kn.A, kn.c, by rw [HDL.out.2]; rfl, by rw [HDL.out.1], hrd, O44, O54, BW4, HB4, hz4, HNB⟩
          · obtain ⟨j, hj⟩ : ∃ j, k = j + 1 := ⟨k - 1, by omega⟩
            obtain ⟨kp, hkp⟩ : ∃ kp, ks[j]? = some kp := ⟨_, List.getElem?_eq_getElem (by rw [HN.out]; omega)⟩
            have hmp : kp ∈ ks := List.mem_of_getElem? hkp
            have qj : w4.cell? ⟨gL, oL + j * 34 + 33, none⟩ = some (.slice kp.A n kp.c) := by
              rw [BW4.out.cell (by show gL < z; rw [← HZ.out]; exact hgL), Nat.add_assoc]
              obtain ⟨g', o', e', _, hc'⟩ := HI.out.row.at0 (by rw [HN.out]; omega) (by omega)
              injection e' with e'
              injection e' with e1 e2
              subst e1 e2
              rw [← Hn.out]
              exact hc' _ _ (flatn_at (knL_len _) ks j 33 kp hkp _ (by simp [knL, idL_len]))
            have hne : kp.x ≠ kn.x := by
              intro e
              have hnd := List.pairwise_map.1 HND.out
              rw [List.pairwise_iff_getElem] at hnd
              have l1 : j < ks.length := by rw [HN.out]; omega
              have l2 : k < ks.length := by rw [HN.out]; omega
              refine hnd j k l1 l2 (by omega) ?_
              rw [List.getElem?_eq_getElem l1] at hkp
              rw [List.getElem?_eq_getElem l2] at hkn
              injection hkp with hkp
              injection hkn with hkn
              rw [hkp, hkn]
              exact e
            have hu100 : 100 ≤ u.length := by
              rcases HU2.out with q | q
              · rw [HN.out] at q; omega
              · exact q
            have rdm : ∀ y, y ∈ ks → Reads w4.drew w4.drew.heap.size 1 y.A (u.length + 1) ((u ++ [y.x]).map bv) := fun y hy => by
              have := (HI.out.body y hy).below (by rw [hzz]; exact BW4.out)
              exact this.more (by rw [hzz]; exact hz4)
            have hz4d : w4.heap.size = w4.drew.heap.size := rfl
            have HM := Lib.hid (make_any u kp.x kn.x hne u.length rfl (by omega) (by omega) kp.A kn.A kp.c kn.c w4.drew (rdm kp hmp) (rdm kn hmem) (HI.out.cap kn hmem).1 (HI.out.cap kn hmem).2)
            rw [Hn.out] at HM
            have hdl : ((dltB u kn.x).length : Int) < (n : Int) := by rw [dltB_len, ← Hn.out]; omega
            have hdB : datB u k kn.x = dltB u kn.x := by unfold datB; rw [if_neg h9]
            have hbB : bseB k = k := by unfold bseB; rw [if_neg h9]
            have HDB := Lib.hid (And.intro hdB hbB)
            have H9 := Lib.hid h9
            rw [decide_eq_true h9]
            have g2 : (j : Int) < (N : Int) := by omega
            have g4 : (k : Int) - 1 = (j : Int) := by omega
            have g5 : IntKind.i64.wrap (j : Int) = (j : Int) := by rw [IntKind.wrap_i64]; omega
            have g6 : (0 : Int) ≤ (j : Int) := by omega
            have qjd : w4.drew.cell? ⟨gL, oL + j * 34 + 33, none⟩ = some (.slice kp.A n kp.c) := qj
            have q33d : w4.drew.cell? ⟨g8, 33, none⟩ = some (.slice kn.A n kn.c) := q33
            clear hne hu100 rdm hdB hbB h9 hzz hj hkp hmem hmp hz4d
            go_upto_region 10 with fail
            refine wp_region_still_tail 10 (by kernel_rfl) (by kernel_rfl) ?_; simp only [List.take_succ_cons, List.take_zero, List.drop_succ_cons, List.drop_zero]; repeat (first | ((with_reducible refine wpStill_step (fun K hK => ?_)); go_simp; with_reducible refine hK _ ?_; clear hK K) | ((with_reducible refine wpStill_skip ?_ ?_); (focus rfl)))
            (with_reducible refine wpStill_nil ?_); change wpList _ _ _ _ _ w4.drew
            go_wp2_with (go_at_call 24; (with_reducible refine HM.out.mono ?_); rintro _ w6 ⟨A6, c6, rfl, ho6, hb6⟩; have HO6 := Lib.hid ho6; have HB6 := Lib.hid hb6; clear ho6 hb6; have q33e : w6.cell? ⟨g8, 33, none⟩ = some (.slice kn.A n kn.c) := (HB6.out.cell (by show g8 < w4.drew.heap.size; exact HB4.out.lt)).trans q33d)
            all_goals
              clear q33d q33 qj qjd q32
              go_wp2_with fail
              go_meet
              have O46 := Lib.hid (O44.out.drew.kept (Kept.ofBelow (base := 0) (E := []) (G := []) HB6.out) (by simp) (by simp))
              have O56 := Lib.hid (O54.out.drew.kept (Kept.ofBelow (base := 0) (E := []) (G := []) HB6.out) (by simp) (by simp))
              have hz6 : z ≤ w6.heap.size := Nat.le_trans hz4 HB6.out.size
              refine ⟨A6, c6, by rw [HDB.out.2], by rw [HDB.out.1], Lib.hid ?_, O46, O56, Lib.hid (BW4.out.drew.trans (HB6.out.mono hz4)), Lib.hid (HB4.out.drew.below HB6.out HB4.out.lt), hz6, Lib.hid (fun a ha => ?_)⟩
              · rw [HDB.out.1]
                exact HO6.out.reads
              · obtain ⟨g', e', hb'⟩ := HO6.out.adrn (by rw [dltB_len]; omega)
                rw [ha] at e'
                injection e' with e'
                subst e'
                exact O44.out.notB (.inr hb')
      rename_i hcut
      obtain ⟨A10, c10, rfl, rfl, HRD, O45, O55, BW5, HB5, hz5, HNB⟩ := hcut
      clear O44 O54 BW4 HB4 hz4 q32 q33
      generalize wc = w5 at *
      go_upto_if 67 with fail
      go_cut [6] (fun s6 wx => s6 = .int .i64 (chnB (k + 1) : Nat) ∧ w5 = wx)
      case first =>
        as_aux_lemma =>
          by_cases h9 : k % 9 = 0
          · have hb0 : bseB k = 0 := by unfold bseB; rw [if_pos h9]
            have HC0 := Lib.hid (chnB_zero h9)
            have g0 : decide (0 < bseB k) = false := decide_eq_false (by omega)
            have g1 : ¬ 0 < bseB k := by omega
            clear h9 hb0
            go_wp2_with fail
            go_meet
            exact ⟨by rw [HC0.out]; rfl, rfl⟩
          · have hb0 : bseB k = k := by unfold bseB; rw [if_neg h9]
            have hk0 : 0 < k := by omega
            have HC0 := Lib.hid (chnB_succ h9)
            have g0 : decide (0 < bseB k) = true := decide_eq_true (by omega)
            have g1 : 0 < bseB k := by omega
            have g2 := (chnB_lt (k := k) hk0).2
            clear h9 hb0
            go_wp2_with fail
            go_meet
            exact ⟨by rw [HC0.out]; rfl, rfl⟩
      rename_i hcut
      obtain ⟨rfl, rfl⟩ := hcut
      have q32 : w5.cell? ⟨g8, 32, none⟩ = some (.int .i64 1) := by rw [HB5.out.cell]; simp [knL, idL_len]
      have hbl : b.length ≤ 100000 := by
        have h1 := entsTo_len u xs k
        rw [HB.out]
        have : k * (u.length + 33) ≤ 40 * 2033 := Nat.mul_le_mul (by omega) (by omega)
        omega
      have hm1 : b.length + 1 ≤ maxLen := by unfold maxLen; omega
      have hm2 : (b.length + 1) * 1 ≤ 140737488355328 := by omega
      go_upto_region 17 with (refine wpList_append_slf rfl elemU8 rfl rfl (O45.out.alloc _) (by omega) rfl (Reads.of_cells (xs := [bv 98]) (heap_alloc_new _ _) rfl rfl) (bvs_one [98]) hm1 hm2 (by simp; omega) ?_; intro A7 c7 w7 ho7 hk7 hn7)
      obtain ⟨b7, hb7⟩ : ∃ b9 : List UInt8, b ++ [98] = b9 := ⟨_, rfl⟩
      have hl7 : b.length + 1 = b7.length := by rw [← hb7]; simp
      have ho7' : Own w7 z 5 1 A7 b7.length c7 (b7.map bv) := by rw [← hl7, ← hb7, List.map_append]; exact ho7
      have hk7' := ((Kept.refl z [5] [] w5).alloc _).trans hk7
      have hz7 : z ≤ w7.heap.size := Nat.le_trans hz5 hk7'.size
      obtain ⟨D, hD⟩ : ∃ D, datB u k kn.x = D := ⟨_, rfl⟩
      obtain ⟨b8, hb8⟩ : ∃ b9 : List UInt8, b7 ++ [bseB k, D.length].flatMap (be 4) = b9 := ⟨_, rfl⟩
      have hl8 : b8.length ≤ 100100 := by rw [← hb8, ← hb7]; simp [be_len]; omega
      have hDl : D.length ≤ 2100 := by rw [← hD]; have := datB_len u k kn.x; omega
      have HNU := Lib.hid (pnum2 (base := z) b7 (bseB k) D.length (bseB k) D.length rfl rfl w7 ho7' hz7 (by omega))
      rw [hb8] at HNU
      have HB7 := Lib.hid hb7
      have HB8 := Lib.hid hb8
      have O57 := Lib.hid (O55.out.kept hk7' (by decide) (by simp))
      have hz5' := hz5
      have HRD7 := Lib.hid (show Reads w7 w5.heap.size 1 A10 D.length (D.map bv) from by
        have hr := HRD.out
        rw [hD] at hr
        exact hr.keptB fun a ha hb => ((hn7 a.block (by simp; omega) (HNB.out a ha)).1.trans (Below.heap_alloc _ _ _ hb)))
      have HNB7 := Lib.hid (show ∀ a, A10 = some a → a.block < w5.heap.size → NotB A7 b7.length c7 a.block from fun a ha hb => by
        rw [← hl7]
        exact (hn7 a.block (by simp; omega) (HNB.out a ha)).2)
      have hz57 := hk7'.size
      have BW7 := Lib.hid (BW5.out.trans (hk7'.below (Nat.le_refl _) hz5 (by simp)))
      have HD := Lib.hid hD
      rw [hl7, hD]
      clear hk7 hk7' ho7 ho7' hn7 hb7 hb8 hm1 hm2 O45 O55 BW5 HB5 HRD HNB hl7 hbl hD q32 hz5'
      go_upto_region 17 with fail
      go_upto_region 18 with (go_at_call 12; (with_reducible refine HNU.out.mono ?_))
      rintro _ w8 ⟨A8, c8, rfl, ho8, hk8, hn8⟩
      have HO8 := Lib.hid ho8
      have O58 := Lib.hid (O57.out.kept hk8 (by decide) (by simp))
      have BW8 := Lib.hid (BW7.out.trans (hk8.below (Nat.le_refl _) hz7 (by simp)))
      have hz8 : z ≤ w8.heap.size := Nat.le_trans hz7 hk8.size
      have HRD8 := Lib.hid (show Reads w8 w5.heap.size 1 A10 D.length (D.map bv) from HRD7.out.keptB fun a ha hb => (hn8 a.block (by omega) (HNB7.out a ha hb)).1)
      clear hk8 hn8 ho8 HRD7 HNB7 O57 BW7 HNU hz7
      have hm1 : b8.length + D.length ≤ maxLen := by unfold maxLen; omega
      have hm2 : (b8.length + D.length) * 1 ≤ 140737488355328 := by omega
      go_upto_region 18 with (refine wpList_append_sl rfl elemU8 rfl rfl HO8.out rfl HRD8.out (bvs_one D) hm1 hm2 hz8 ?_; intro A9 c9 w9 ho9 hk9)
      have O59 := Lib.hid (O58.out.kept hk9 (by decide) (by simp))
      have BW9 := Lib.hid (BW8.out.trans (hk9.below (Nat.le_refl _) hz8 (by simp)))
      have HB9 := Lib.hid (show b8 ++ D = entsTo u xs (k + 1) by
        rw [entsTo_succ, ← HB.out, ← HB8.out, ← HB7.out]
        have e1 : xs.getD k 0 = kn.x := by
          rw [← HXS.out, List.getD_eq_getElem?_getD, List.getElem?_map, hkn]
          rfl
        rw [e1]
        unfold entB
        rw [HD.out]
        simp only [List.append_assoc])
      have HO9 := Lib.hid (show Own w9 z 5 1 A9 (b8 ++ D).length c9 ((b8 ++ D).map bv) by rw [List.map_append, List.length_append]; exact ho9)
      clear ho9 hk9 HO8 O58 BW8 HRD8 hm1 hm2
      go_wp2_with fail
      go_roundg (N - (k + 1))
      case measure => omega
      case rel => exact ⟨k + 1, A9, c9, A5', c5', b8 ++ D, by go_num, by rw [List.length_append], rfl, rfl, by omega, Nat.le_refl _, HB9, HO9, O59, BW9⟩
    · obtain rfl : k = N := by omega
      clear hlt
      have e := HB.out
      subst e
      go_wp2_with fail
      go_ret2
      rw [← HZ.out] at HO4 HO5 HBW
      exact ⟨A4, c4, A5, c5, rfl, HO4.out, HO5.out, HBW.out⟩
end Go.Proofs.YtmlmbkelpjmafaaGreat
