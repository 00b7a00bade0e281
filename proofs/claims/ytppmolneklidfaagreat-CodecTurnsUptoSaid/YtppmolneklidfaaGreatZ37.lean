/-
  Texts of the codec joined (LawTxs). No statement of the seat is proved here.
-/
import Derived.Test.YtppmolneklidfaaGreatZ29
import Derived.Test.YtppmolneklidfaaGreatZ31
import Derived.Test.YtppmolneklidfaaGreatZ33
import Derived.Test.YtppmolneklidfaaGreatZ35
import Derived.Test.YtppmolneklidfaaGreatZ36
import Derived.Test.YtppmolneklidfaaGreatZ06
import Derived.JoinedCond
namespace Go.Proofs.YtppmolneklidfaaGreat
open Go.ChangeShapes Go.WideShapes Go.ChangeAt Go.RowKit

attribute [local go_sem ↓] cv_bs ld_tx
set_option maxHeartbeats 16000000 in
set_option maxRecDepth 100000 in
theorem txs_walk (t u : TxD) (b : List UInt8) (mv tv ev mv' tv' ev' : Value) (A : Option Addr) (c : Nat) (w : World) (hin : TxIn w w.heap.size t mv tv ev) (hin' : TxIn w w.heap.size u mv' tv' ev') (hb : Reads w w.heap.size 1 A b.length (b.map bv)) (hbl : b.length ≤ c) (hcm : c ≤ maxLen) (hst : TxSmall 1048576 t) :
    Calls Tryz.prog 14 #[.agg (txC t mv tv ev), .slice A b.length c, .agg (txC u mv' tv' ev')] w (TruePost w) := by
  have hcm' := hcm
  unfold maxLen at hcm'
  have q1 : Blk ((w.alloc (.cells (txC t mv tv ev) 34)).alloc (.cells (txC u mv' tv' ev') 34)) w.heap.size 34 (txC t mv tv ev) := (Blk.new _ _ _).alloc _
  have q2 : Blk ((w.alloc (.cells (txC t mv tv ev) 34)).alloc (.cells (txC u mv' tv' ev') 34)) (w.heap.size + 1) 34 (txC u mv' tv' ev') := by
    have := Blk.new (w.alloc (.cells (txC t mv tv ev) 34)) 34 (txC u mv' tv' ev')
    simpa using this
  have k0 : Keep Nothing w ((w.alloc (.cells (txC t mv tv ev) 34)).alloc (.cells (txC u mv' tv' ev') 34)) := ((Keep.refl _ _).alloc _).alloc _
  go_enter Tryz.func14, Tryz.ntmps14
  go_upto_region 1 with (first | (refine wpList_boxed rfl rfl (cs := txC t mv tv ev) rfl ?_) | (refine wpList_boxed rfl rfl (cs := txC u mv' tv' ev') rfl ?_))
  generalize (w.alloc (.cells (txC t mv tv ev) 34)).alloc (.cells (txC u mv' tv' ev') 34) = w0 at *
  have HIN := Lib.hid (show ∀ W, Below w.heap.size w W → TxIn W W.heap.size t mv tv ev ∧ TxIn W W.heap.size u mv' tv' ev' ∧ Reads W W.heap.size 1 A b.length (b.map bv) from fun W k => ⟨(hin.below k).more k.size, (hin'.below k).more k.size, (hb.below k).more k.size⟩)
  have HF := Lib.hid (show ∀ W : World, Below w.heap.size w W → TruePost w (.returned (.bool true)) W from fun W h => ⟨rfl, h⟩)
  have HEL := Lib.hid (encTxB_le hst)
  have HDO := Lib.hid (show ∀ m ∈ t.mem, dataOk m = true from fun m hm => decide_eq_true (by have := hst.data m hm; omega))
  have hh : t.head.size ≤ 9000000 := by have := hst.head; omega
  have k0b := k0.all
  have x1 := q1
  have x2 := q2
  clear hin hin' hb hst q1 q2 k0
  have l1 := x1.lt
  have l2 := x2.lt
  generalize hgq : w.heap.size = q at *
  have HQ := Lib.hid hgq
  clear hgq
  go_wp2_with fail
  refine (known_any _).mono ?_
  rintro r w1 ⟨rfl, be1⟩
  have z1 := be1.size
  have y1 := x1.below be1 l1
  have y2 := x2.below be1 l2
  have b1 : Below q w w1 := k0b.trans (be1.mono (by omega))
  clear x1 x2 be1 k0b
  go_upto_region 3 with fail
  go_cut [29] (fun s29 wx => ∃ z, s29 = .bool (z || decide (32768 < b.length)) ∧ Below q w wx ∧ q + 1 < wx.heap.size ∧ Blk wx q 34 (txC t mv tv ev) ∧ Blk wx (q + 1) 34 (txC u mv' tv' ev'))
  case first =>
    obtain ⟨i1, i2, _⟩ := HIN.out _ b1
    have g1 := LdTx.run y1
    go_wp2_with (first | (refine wpList_loadG (o := ⟨some 17, _, _, _, _, _⟩) (by rfl) rfl rfl (LdTx.run' y1) ?_))
    refine (few_any t mv tv ev _ i1).mono ?_
    rintro r w2 ⟨z1, rfl, k2⟩
    have z2 := k2.size
    have x1 := y1.keep k2 (fun h => h)
    have x2 := y2.keep k2 (fun h => h)
    have b2 : Below q w w2 := b1.trans (k2.all.mono (by omega))
    have l2' : q + 1 < w2.heap.size := by omega
    have i2' := (HIN.out _ b2).2.1
    clear y1 y2 b1 k2 i1 i2
    cases z1
    · go_wp2_with fail
      go_meet
      exact ⟨true, rfl, b2, l2', x1, x2⟩
    · go_wp2_with (first | (refine wpList_loadG (o := ⟨some 21, _, _, _, _, _⟩) (by rfl) rfl rfl (LdTx.run' x2) ?_) | (go_at_call 5; refine (few_any u mv' tv' ev' _ i2').mono ?_; rintro r w3 ⟨z3, rfl, k3⟩; have hz3 := k3.size; have v1 := x1.keep k3 (fun h => h); have v2 := x2.keep k3 (fun h => h); have b3 : Below q w w3 := b2.trans (k3.all.mono (by omega)); cases z3))
      · go_meet
        exact ⟨true, rfl, b3, by omega, v1, v2⟩
      · go_meet
        exact ⟨false, by simp; omega, b3, by omega, v1, v2⟩
  case rest =>
    obtain ⟨z, rfl, b2, l2', x1, x2⟩ := hcut
    generalize wc = w2 at *
    clear y1 y2 b1 l1 l2 z1
    generalize hz : (z || decide (32768 < b.length)) = zz at *
    cases zz
    case true =>
      clear hz
      go_wp2_with fail
      go_ret
      exact HF.out _ b2
    case false =>
      have hb32 : b.length ≤ 32768 := by simp at hz; omega
      clear hz
      go_wp2_with (first | (refine wpList_load rfl rfl rfl (LdTx.run' x1) ?_))
      refine (encodeTx_any t mv tv ev _ (HIN.out _ b2).1 hh HEL.out).mono ?_
      rintro r w3 ⟨A3, c3, rfl, o3, be3⟩
      have z3 := be3.size
      have x1 := x1.below be3 (by omega)
      have x2 := x2.below be3 (by omega)
      have b3 := b2.trans (be3.mono (by omega))
      have l3 : q + 1 < w3.heap.size := by omega
      clear be3 l2' b2
      go_wp2_with (first | (refine wpList_load rfl rfl rfl (LdTx.run' x1) ?_))
      refine (rencodeTx_any t mv tv ev _ (HIN.out _ b3).1 HDO.out HEL.out).mono ?_
      rintro r w4 ⟨A4, c4, rfl, o4, be4⟩
      have z4 := be4.size
      have x1 := x1.below be4 (by omega)
      have x2 := x2.below be4 (by omega)
      have o34 := o3.kept (b' := 0) (E := []) (G := []) (Kept.ofBelow be4) (by simp) (by simp)
      have b4 := b3.trans (be4.mono (by omega))
      have l4 : q + 1 < w4.heap.size := by omega
      have hb4 := (HIN.out _ b4).2.2
      clear be4 l3 b3 o3
      generalize encTx t = xe at *
      obtain ⟨x, e⟩ := xe
      simp only at o34 o4 ⊢
      go_wp2_with (first | (at_builtin; refine wpList_append_sl rfl elemU8 rfl rfl (Own.fresh0 (heap_alloc_new _ _) (Nat.le_refl _)) rfl (hb4.alloc (Nat.le_refl _) _) (bvs_one b) (by unfold maxLen; omega) (by omega) (by simp) ?_; intro A5 c5 w5 ho5 hk5))
      simp only [Nat.zero_add, List.nil_append] at ho5 ⊢
      have be5 : Below w4.heap.size w4 w5 := ((Below.refl _ _).alloc (Nat.le_refl _) _).trans (hk5.below (Nat.le_refl _) (by simp) (by simp))
      have z5 := be5.size
      have hcap5 := ho5.cap_le
      refine (parseTx_any b A5 c5 _ ho5.reads (by omega) hcap5.1 hcap5.2).mono ?_
      rintro r w6 ⟨p, pm, pt, pe, hp, rfl, T6, be6⟩
      have z6 := be6.size
      have be46 : Below w4.heap.size w4 w6 := be5.trans (be6.mono z5)
      clear hcap5 ho5 be5 be6 hk5 hb4
      have l6 : q + 1 < w6.heap.size := by omega
      have x1 := x1.below be46 (by omega)
      have x2 := x2.below be46 (by omega)
      have o36 := o34.kept (b' := 0) (E := []) (G := []) (Kept.ofBelow be46) (by simp) (by simp)
      have o46 := o4.kept (b' := 0) (E := []) (G := []) (Kept.ofBelow be46) (by simp) (by simp)
      have b6 := b4.trans (be46.mono (by omega))
      clear be46 o34 o4 b4 l4
      have RP := Lib.hid (fun W h => rparseTx_any b A c W h (by omega) hbl hcm)
      have HP := Lib.hid hp
      clear hp
      go_wp2_with (first | (refine wpList_allocAgg rfl rfl (zero_tx _) ?_) | (refine wpList_storeBlk rfl rfl (vs := txC p pm pt pe) rfl rfl (Blk.new _ _ _) (by rw [txC_size, txC_size]) (by rw [txC_size]; exact info_tx) T6.one ?_; intro w7 x7 hkc hzc))
      have kN : Keep Nothing w6 w7 := Keep.ofNew hkc
      have z7 := kN.size
      have l7 : q + 1 < w7.heap.size := by omega
      have hne : q + 1 < w6.heap.size := l6
      have x1 := x1.keep kN (fun h => h)
      have x2 := x2.keep kN (fun h => h)
      have o37 := o36.kept (b' := 0) (E := []) (G := []) (Kept.ofBelow kN.all) (by simp) (by simp)
      have o47 := o46.kept (b' := 0) (E := []) (G := []) (Kept.ofBelow kN.all) (by simp) (by simp)
      have T7 := T6.kept (b' := 0) (E := []) (G := []) (Kept.ofBelow kN.all) (by simp) (by simp)
      have b7 := b6.trans (kN.all.mono (by omega))
      generalize hh6 : w6.heap.size = h6 at *
      have l7' : h6 < w7.heap.size := x7.lt
      clear hkc hzc kN o36 o46 T6 b6 hh6 l6
      refine (RP.out _ (HIN.out _ b7).2.2).mono ?_
      rintro r w8 ⟨p', pm', pt', pe', hp', rfl, T8, be8⟩
      have z8 := be8.size
      have x1 := x1.below be8 (by omega)
      have x2 := x2.below be8 (by omega)
      have x7 := x7.below be8 (by omega)
      have o38 := o37.kept (b' := 0) (E := []) (G := []) (Kept.ofBelow be8) (by simp) (by simp)
      have o48 := o47.kept (b' := 0) (E := []) (G := []) (Kept.ofBelow be8) (by simp) (by simp)
      have T78 := T7.kept (b' := 0) (E := []) (G := []) (Kept.ofBelow be8) (by simp) (by simp)
      have b8 := b7.trans (be8.mono (by omega))
      have l8 : q + 1 < w8.heap.size := by omega
      have l8' : h6 < w8.heap.size := by omega
      have HSP := Lib.hid (sameTxP_of (HP.out.trans hp'.symm))
      generalize (parseTx b).2 = pc at *
      clear be8 o37 o47 T7 b7 RP HP l7 l7' hp'
      go_upto_region 9 with (first | (refine wpList_allocAgg rfl rfl (zero_tx _) ?_) | (refine wpList_storeBlk rfl rfl (vs := txC p' pm' pt' pe') rfl rfl (Blk.new _ _ _) (by rw [txC_size, txC_size]) (by rw [txC_size]; exact info_tx) T8.one ?_; intro w9 x9 hkc hzc))
      have kN : Keep Nothing w8 w9 := Keep.ofNew hkc
      have z9 := kN.size
      have x1 := (x1.keep kN (fun h => h))
      have x2 := (x2.keep kN (fun h => h))
      have x7 := (x7.keep kN (fun h => h))
      have r3 := (o38.kept (b' := 0) (E := []) (G := []) (Kept.ofBelow kN.all) (by simp) (by simp)).reads
      have r4 := (o48.kept (b' := 0) (E := []) (G := []) (Kept.ofBelow kN.all) (by simp) (by simp)).reads
      have T9 := (T78.kept (b' := 0) (E := []) (G := []) (Kept.ofBelow kN.all) (by simp) (by simp)).in_
      have T9' := (T8.kept (b' := 0) (E := []) (G := []) (Kept.ofBelow kN.all) (by simp) (by simp)).in_
      have b9 := (b8.trans (kN.all.mono (by omega)))
      generalize w8.heap.size = h8 at *
      have l9' : h8 < w9.heap.size := x9.lt
      have l9'' : h6 < w9.heap.size := by omega
      have l9 : q + 1 < w9.heap.size := by omega
      clear hkc hzc kN o38 o48 T78 T8 b8 l8 l8'
      have HS := Lib.hid (show ∀ W, Below w9.heap.size w9 W → (LdTx (.pointer (some ⟨q, 0, none⟩))).run Tryz.prog W = .ok (.agg (txC t mv tv ev)) W ∧ (LdTx (.pointer (some ⟨q + 1, 0, none⟩))).run Tryz.prog W = .ok (.agg (txC u mv' tv' ev')) W ∧ (LdTx (.pointer (some ⟨h6, 0, none⟩))).run Tryz.prog W = .ok (.agg (txC p pm pt pe)) W ∧ (LdTx (.pointer (some ⟨h8, 0, none⟩))).run Tryz.prog W = .ok (.agg (txC p' pm' pt' pe')) W ∧ (CvBS (.slice A3 x.length c3)).run Tryz.prog W = .ok (.string ⟨x.toArray⟩) W ∧ (CvBS (.slice A4 x.length c4)).run Tryz.prog W = .ok (.string ⟨x.toArray⟩) W
        from fun W k => ⟨LdTx.run (x1.below k (by omega)), LdTx.run (x2.below k (by omega)), LdTx.run (x7.below k l9''), LdTx.run (x9.below k l9'), CvBS.run (r3.below k), CvBS.run (r4.below k)⟩)
      have K65 := Lib.hid (show ∀ W, Below w9.heap.size w9 W → Calls Tryz.prog 39 #[.agg (txC p pm pt pe), .agg (txC p' pm' pt' pe')] W (fun r w' => r = .returned (.bool true) ∧ Keep Nothing W w') from fun W k => by have h := rsameTx_any p p' pm pt pe pm' pt' pe' W ((T9.below k).more k.size) ((T9'.below k).more k.size); rw [HSP.out] at h; exact h)
      obtain ⟨z, hz⟩ : ∃ z, sameTxP t u = z := ⟨_, rfl⟩
      have HB0 : ∀ W, Below w9.heap.size w9 W → Below q w W := fun W k => b9.trans (k.mono (by omega))
      have KA := Lib.hid (show ∀ W, Below w9.heap.size w9 W → Calls Tryz.prog 40 #[.agg (txC t mv tv ev), .agg (txC u mv' tv' ev')] W (fun r w' => r = .returned (.bool z) ∧ Keep Nothing W w') from fun W k => by have h := sameTx_any t u mv tv ev mv' tv' ev' W (HIN.out _ (HB0 W k)).1 (HIN.out _ (HB0 W k)).2.1; rw [hz] at h; exact h)
      have KB := Lib.hid (show ∀ W, Below w9.heap.size w9 W → Calls Tryz.prog 39 #[.agg (txC t mv tv ev), .agg (txC u mv' tv' ev')] W (fun r w' => r = .returned (.bool z) ∧ Keep Nothing W w') from fun W k => by have h := rsameTx_any t u mv tv ev mv' tv' ev' W (HIN.out _ (HB0 W k)).1 (HIN.out _ (HB0 W k)).2.1; rw [hz] at h; exact h)
      have KC := Lib.hid (show ∀ W, Below w9.heap.size w9 W → Calls Tryz.prog 40 #[.agg (txC t mv tv ev), .agg (txC t mv tv ev)] W (fun r w' => r = .returned (.bool true) ∧ Keep Nothing W w') from fun W k => by have h := sameTx_any t t mv tv ev mv tv ev W (HIN.out _ (HB0 W k)).1 (HIN.out _ (HB0 W k)).1; rw [sameTxP_refl] at h; exact h)
      have HF9 := Lib.hid (show ∀ W, Below w9.heap.size w9 W → TruePost w (.returned (.bool true)) W from fun W k => HF.out _ (HB0 W k))
      have HN := Lib.hid (show ∀ W W', Below w9.heap.size w9 W → Keep Nothing W W' → Below w9.heap.size w9 W' from fun W W' h k => h.trans (k.all.mono h.size))
      have b9' := (Keep.refl Nothing w9).drew.all
      obtain ⟨S1, S2, S7, S9, S3, S4⟩ := HS.out _ b9'
      clear hz HIN HSP hh HEL HDO HB0 HF T9 T9' x1 x2 x7 x9 r3 r4 l9 l9' l9''
      generalize w9.heap.size = h9 at *
      cases z
      all_goals
        go_region_held3 (fun W => (LdTx (.pointer (some ⟨q, 0, none⟩))).run Tryz.prog W = .ok (.agg (txC t mv tv ev)) W ∧ (LdTx (.pointer (some ⟨q + 1, 0, none⟩))).run Tryz.prog W = .ok (.agg (txC u mv' tv' ev')) W ∧ (LdTx (.pointer (some ⟨h6, 0, none⟩))).run Tryz.prog W = .ok (.agg (txC p pm pt pe)) W ∧ (LdTx (.pointer (some ⟨h8, 0, none⟩))).run Tryz.prog W = .ok (.agg (txC p' pm' pt' pe')) W ∧ (CvBS (.slice A3 x.length c3)).run Tryz.prog W = .ok (.string ⟨x.toArray⟩) W ∧ (CvBS (.slice A4 x.length c4)).run Tryz.prog W = .ok (.string ⟨x.toArray⟩) W) (first | go_keep) (first
          | (go_simp; go_at_call 39; (with_reducible refine (K65.out _ b9').mono ?_); rintro r w10 ⟨rfl, k10⟩; have b10 := HN.out _ _ b9' k10; obtain ⟨S1, S2, S7, S9, S3, S4⟩ := HS.out _ b10)
          | (go_simp; go_at_call 40; (with_reducible refine (KA.out _ b10).mono ?_); rintro r w11 ⟨rfl, k11⟩; have b11 := HN.out _ _ b10 k11; obtain ⟨S1, S2, S7, S9, S3, S4⟩ := HS.out _ b11)
          | (go_simp; go_at_call 39; (with_reducible refine (KB.out _ b11).mono ?_); rintro r w12 ⟨rfl, k12⟩; have b12 := HN.out _ _ b11 k12; obtain ⟨S1, S2, S7, S9, S3, S4⟩ := HS.out _ b12)
          | (go_simp; go_at_call 40; (with_reducible refine (KC.out _ b12).mono ?_); rintro r w13 ⟨rfl, k13⟩; have b13 := HN.out _ _ b12 k13; obtain ⟨S1, S2, S7, S9, S3, S4⟩ := HS.out _ b13))
        all_goals
          go_wp2_with fail
          go_ret
          exact HF9.out _ b13
end Go.Proofs.YtppmolneklidfaaGreat
