/-
  CodecTxs (second form): any transaction is written, and any bytes read as one, by the program as by the document. Condition: the arguments' bulk is at most 1048576.
-/
import Derived.Test.YtppmolneklidfaaTr3
import Derived.Test.YtppmolneklidfaaTr7
import Derived.Test.YtppmolneklidfaaSm6
import Derived.Test.YtppmolneklidfaaTxo
import Derived.Test.YtppmolneklidfaaFew
import Derived.Test.YtppmolneklidfaaKnown
import Derived.JoinedCond
namespace Go.Proofs.Ytppmolneklidfaa
open Go.ChangeShapes Go.WideShapes Go.ChangeAt Go.RowKit

/-! ### Bounds, and what the place of bytes does not matter for -/
theorem flatMap_le {α β : Type} {f : α → List β} {C : Nat} : ∀ (l : List α), (∀ a ∈ l, (f a).length ≤ C) → (l.flatMap f).length ≤ l.length * C
  | [], _ => by simp
  | x :: l, h => by
    have h1 := h x (by simp)
    have h2 := flatMap_le l (fun a ha => h a (by simp [ha]))
    rw [List.flatMap_cons, List.length_append, List.length_cons, Nat.succ_mul]
    omega
theorem seqB_le {q : SeqD} (h : SeqSmall 1048576 q) : (seqB q).length ≤ 36000000 := by
  have h1 := h.branch
  have h2 := h.todo
  have h3 := flat33 todoB_len q.todo
  unfold seqB
  split
  · simp [be_len]
  · simp only [List.length_append, be_len, h3, q.orig.2, q.cur.2, ← Lib.size_eq]
    omega
theorem encTxB_le {t : TxD} (h : TxSmall 1048576 t) : (encTxB t).length ≤ 140737488355328 := by
  have h1 : (headB t).length ≤ 1048577 := by
    unfold headB
    split
    · simp only [List.length_append, be_len, ← Lib.size_eq]; have := h.head; omega
    · simp
  have h2 : (t.moves.flatMap moveB).length ≤ t.moves.length * 2098000 := flatMap_le _ (fun m hm => by
    have := h.move m hm
    simp only [moveB, List.length_append, be_len, m.old.2, m.new_.2, ← Lib.size_eq]
    omega)
  have h3 : (t.mem.flatMap memB).length ≤ t.mem.length * 2098000 := flatMap_le _ (fun m hm => by
    have := h.data m hm
    simp only [memB, List.length_append, be_len, m.key.2]
    omega)
  have h4 : (seqsB t).length ≤ 36000000 := by
    unfold seqsB
    split
    · exact seqB_le h.seq
    · simp
  have h5 : t.moves.length * 2098000 ≤ 1048576 * 2098000 := Nat.mul_le_mul_right _ h.moves
  have h6 : t.mem.length * 2098000 ≤ 1048576 * 2098000 := Nat.mul_le_mul_right _ h.mem
  unfold encTxB
  simp only [List.length_append, be_len]
  omega
theorem eqL_map {α : Type} {f : α → α → Bool} {g : α → α} (hf : ∀ x y, f (g x) (g y) = f x y) : ∀ l m : List α, eqL f (l.map g) (m.map g) = eqL f l m
  | [], [] => rfl
  | [], _ :: _ => rfl
  | _ :: _, [] => rfl
  | x :: l, y :: m => by
    show (f (g x) (g y) && eqL f (l.map g) (m.map g)) = (f x y && eqL f l m)
    rw [hf, eqL_map hf l m]
theorem sameTxP_for (t u : TxD) : sameTxP (forT t) (forT u) = sameTxP t u := by
  have h := eqL_map (f := memEq) (g := forM) (fun _ _ => rfl) t.mem u.mem
  show (sameHeadP t u && ((asks t == asks u) && ((!asks t || sameSeqP t.seq u.seq) && eqL memEq (t.mem.map forM) (u.mem.map forM)))) = _
  rw [h]
  rfl
theorem sameTxP_of {t u : TxD} (h : forT t = forT u) : sameTxP t u = true := by
  rw [← sameTxP_for, h]
  exact sameTxP_refl _
def LdTx (v : Value) : Sem Value := Instr.loadAt 70 v
theorem ld_tx (v : Value) : Instr.loadAt 70 v = LdTx v := rfl
theorem LdTx.run {w : World} {g : Nat} {t : TypeId} {u : TxD} {mv tv ev : Value} (h : Blk w g t (txC u mv tv ev)) : (LdTx (.pointer (some ⟨g, 0, none⟩))).run Try.prog w = .ok (.agg (txC u mv tv ev)) w := load_whole h Try.underlying70 rfl (by rw [txC_size]; exact info_tx)
theorem LdTx.run' {w : World} {g : Nat} {t : TypeId} {u : TxD} {mv tv ev : Value} (h : Blk w g t (txC u mv tv ev)) : (Instr.loadAt 70 (.pointer (some ⟨g, 0, none⟩))).run Try.prog w = .ok (.agg (txC u mv tv ev)) w := LdTx.run h

attribute [local go_sem ↓] cv_bs ld_tx
theorem TR.in_ {base : Nat} {t : TxD} {mv tv ev : Value} {w : World} (h : TR base t mv tv ev w) : TxIn w w.heap.size t mv tv ev := by
  obtain ⟨⟨A, c, h1, h2⟩, ⟨A', c', h1', h2'⟩, ⟨A'', c'', h1'', h2''⟩, h4⟩ := h
  exact ⟨⟨A, c, h1, h2.reads, h2.cap_le⟩, ⟨A', c', h1', h2'.reads, h2'.cap_le⟩, ⟨A'', c'', h1'', h2''.reads, h2''.cap_le⟩, fun m hm => ⟨(h4 m hm).1.reads, (h4 m hm).2⟩⟩
theorem TR.one {base : Nat} {t : TxD} {mv tv ev : Value} {w : World} (h : TR base t mv tv ev w) : ∀ v ∈ (txC t mv tv ev).toList, v.oneCell' = true := by
  obtain ⟨⟨A, c, rfl, _⟩, ⟨A', c', rfl, _⟩, ⟨A'', c'', rfl, _⟩, _⟩ := h
  exact txL_one _ _ _ _ rfl rfl rfl
set_option maxHeartbeats 16000000 in
set_option maxRecDepth 100000 in
theorem txs_walk (t u : TxD) (b : List UInt8) (mv tv ev mv' tv' ev' : Value) (A : Option Addr) (c : Nat) (w : World) (hin : TxIn w w.heap.size t mv tv ev) (hin' : TxIn w w.heap.size u mv' tv' ev') (hb : Reads w w.heap.size 1 A b.length (b.map bv)) (hbl : b.length ≤ c) (hcm : c ≤ maxLen) (hst : TxSmall 1048576 t) :
    Calls Try.prog 8 #[.agg (txC t mv tv ev), .slice A b.length c, .agg (txC u mv' tv' ev')] w (TruePost w) := by
  have hcm' := hcm
  unfold maxLen at hcm'
  have q1 : Blk ((w.alloc (.cells (txC t mv tv ev) 70)).alloc (.cells (txC u mv' tv' ev') 70)) w.heap.size 70 (txC t mv tv ev) := (Blk.new _ _ _).alloc _
  have q2 : Blk ((w.alloc (.cells (txC t mv tv ev) 70)).alloc (.cells (txC u mv' tv' ev') 70)) (w.heap.size + 1) 70 (txC u mv' tv' ev') := by
    have := Blk.new (w.alloc (.cells (txC t mv tv ev) 70)) 70 (txC u mv' tv' ev')
    simpa using this
  have k0 : Keep Nothing w ((w.alloc (.cells (txC t mv tv ev) 70)).alloc (.cells (txC u mv' tv' ev') 70)) := ((Keep.refl _ _).alloc _).alloc _
  go_enter Try.func8, Try.ntmps8
  go_upto_region 1 with (first | (refine wpList_boxed rfl rfl (cs := txC t mv tv ev) rfl ?_) | (refine wpList_boxed rfl rfl (cs := txC u mv' tv' ev') rfl ?_))
  generalize (w.alloc (.cells (txC t mv tv ev) 70)).alloc (.cells (txC u mv' tv' ev') 70) = w0 at *
  have HIN := Lib.hid (show ∀ W, Below w.heap.size w W → TxIn W W.heap.size t mv tv ev ∧ TxIn W W.heap.size u mv' tv' ev' ∧ Reads W W.heap.size 1 A b.length (b.map bv) from fun W k => ⟨(hin.below k).more k.size, (hin'.below k).more k.size, (hb.below k).more k.size⟩)
  have HF := Lib.hid (show ∀ W : World, Below w.heap.size w W → TruePost w (.returned (.bool true)) W from fun W h => ⟨rfl, h⟩)
  have HEL := Lib.hid (encTxB_le hst)
  have HDO := Lib.hid (show ∀ m ∈ t.mem, dataOk m = true from fun m hm => decide_eq_true (by have := hst.data m hm; omega))
  have hh : t.head.size ≤ 9000000 := by have := hst.head; omega
  have k0b := k0.all
  have x1 := q1
  have x2 := q2
  clear hin hin' hb hst q1 q2 k0
  have l1 := x1.lt
  have l2 := x2.lt
  generalize hgq : w.heap.size = q at *
  have HQ := Lib.hid hgq
  clear hgq
  go_wp2_with fail
  refine (known_any _).mono ?_
  rintro r w1 ⟨rfl, be1⟩
  have z1 := be1.size
  have y1 := x1.below be1 l1
  have y2 := x2.below be1 l2
  have b1 : Below q w w1 := k0b.trans (be1.mono (by omega))
  clear x1 x2 be1 k0b
  go_upto_region 3 with fail
  go_cut [29] (fun s29 wx => ∃ z, s29 = .bool (z || decide (32768 < b.length)) ∧ Below q w wx ∧ q + 1 < wx.heap.size ∧ Blk wx q 70 (txC t mv tv ev) ∧ Blk wx (q + 1) 70 (txC u mv' tv' ev'))
  case first =>
    obtain ⟨i1, i2, _⟩ := HIN.out _ b1
    have g1 := LdTx.run y1
    go_wp2_with (first | (refine wpList_loadG (o := ⟨some 17, _, _, _, _, _⟩) (by rfl) rfl rfl (LdTx.run' y1) ?_))
    refine (few_any t mv tv ev _ i1).mono ?_
    rintro r w2 ⟨z1, rfl, k2⟩
    have z2 := k2.size
    have x1 := y1.keep k2 (fun h => h)
    have x2 := y2.keep k2 (fun h => h)
    have b2 : Below q w w2 := b1.trans (k2.all.mono (by omega))
    have l2' : q + 1 < w2.heap.size := by omega
    have i2' := (HIN.out _ b2).2.1
    clear y1 y2 b1 k2 i1 i2
    cases z1
    · go_wp2_with fail
      go_meet
      exact ⟨true, rfl, b2, l2', x1, x2⟩
    · go_wp2_with (first | (refine wpList_loadG (o := ⟨some 21, _, _, _, _, _⟩) (by rfl) rfl rfl (LdTx.run' x2) ?_) | (go_at_call 30; refine (few_any u mv' tv' ev' _ i2').mono ?_; rintro r w3 ⟨z3, rfl, k3⟩; have hz3 := k3.size; have v1 := x1.keep k3 (fun h => h); have v2 := x2.keep k3 (fun h => h); have b3 : Below q w w3 := b2.trans (k3.all.mono (by omega)); cases z3))
      · go_meet
        exact ⟨true, rfl, b3, by omega, v1, v2⟩
      · go_meet
        exact ⟨false, by simp; omega, b3, by omega, v1, v2⟩
  case rest =>
    obtain ⟨z, rfl, b2, l2', x1, x2⟩ := hcut
    generalize wc = w2 at *
    clear y1 y2 b1 l1 l2 z1
    generalize hz : (z || decide (32768 < b.length)) = zz at *
    cases zz
    case true =>
      clear hz
      go_wp2_with fail
      go_ret
      exact HF.out _ b2
    case false =>
      have hb32 : b.length ≤ 32768 := by simp at hz; omega
      clear hz
      go_wp2_with (first | (refine wpList_load rfl rfl rfl (LdTx.run' x1) ?_))
      refine (encodeTx_any t mv tv ev _ (HIN.out _ b2).1 hh HEL.out).mono ?_
      rintro r w3 ⟨A3, c3, rfl, o3, be3⟩
      have z3 := be3.size
      have x1 := x1.below be3 (by omega)
      have x2 := x2.below be3 (by omega)
      have b3 := b2.trans (be3.mono (by omega))
      have l3 : q + 1 < w3.heap.size := by omega
      clear be3 l2' b2
      go_wp2_with (first | (refine wpList_load rfl rfl rfl (LdTx.run' x1) ?_))
      refine (rencodeTx_any t mv tv ev _ (HIN.out _ b3).1 HDO.out HEL.out).mono ?_
      rintro r w4 ⟨A4, c4, rfl, o4, be4⟩
      have z4 := be4.size
      have x1 := x1.below be4 (by omega)
      have x2 := x2.below be4 (by omega)
      have o34 := o3.kept (b' := 0) (E := []) (G := []) (Kept.ofBelow be4) (by simp) (by simp)
      have b4 := b3.trans (be4.mono (by omega))
      have l4 : q + 1 < w4.heap.size := by omega
      have hb4 := (HIN.out _ b4).2.2
      clear be4 l3 b3 o3
      generalize encTx t = xe at *
      obtain ⟨x, e⟩ := xe
      simp only at o34 o4 ⊢
      go_wp2_with (first | (at_builtin; refine wpList_append_sl rfl elemU8 rfl rfl (Own.fresh0 (heap_alloc_new _ _) (Nat.le_refl _)) rfl (hb4.alloc (Nat.le_refl _) _) (bvs_one b) (by unfold maxLen; omega) (by omega) (by simp) ?_; intro A5 c5 w5 ho5 hk5))
      simp only [Nat.zero_add, List.nil_append] at ho5 ⊢
      have be5 : Below w4.heap.size w4 w5 := ((Below.refl _ _).alloc (Nat.le_refl _) _).trans (hk5.below (Nat.le_refl _) (by simp) (by simp))
      have z5 := be5.size
      have hcap5 := ho5.cap_le
      refine (parseTx_any b A5 c5 _ ho5.reads (by omega) hcap5.1 hcap5.2).mono ?_
      rintro r w6 ⟨p, pm, pt, pe, hp, rfl, T6, be6⟩
      have z6 := be6.size
      have be46 : Below w4.heap.size w4 w6 := be5.trans (be6.mono z5)
      clear hcap5 ho5 be5 be6 hk5 hb4
      have l6 : q + 1 < w6.heap.size := by omega
      have x1 := x1.below be46 (by omega)
      have x2 := x2.below be46 (by omega)
      have o36 := o34.kept (b' := 0) (E := []) (G := []) (Kept.ofBelow be46) (by simp) (by simp)
      have o46 := o4.kept (b' := 0) (E := []) (G := []) (Kept.ofBelow be46) (by simp) (by simp)
      have b6 := b4.trans (be46.mono (by omega))
      clear be46 o34 o4 b4 l4
      have RP := Lib.hid (fun W h => rparseTx_any b A c W h (by omega) hbl hcm)
      have HP := Lib.hid hp
      clear hp
      go_wp2_with (first | (refine wpList_allocAgg rfl rfl (zero_tx _) ?_) | (refine wpList_storeBlk rfl rfl (vs := txC p pm pt pe) rfl rfl (Blk.new _ _ _) (by rw [txC_size, txC_size]) (by rw [txC_size]; exact info_tx) T6.one ?_; intro w7 x7 hkc hzc))
      have kN : Keep Nothing w6 w7 := Keep.ofNew hkc
      have z7 := kN.size
      have l7 : q + 1 < w7.heap.size := by omega
      have hne : q + 1 < w6.heap.size := l6
      have x1 := x1.keep kN (fun h => h)
      have x2 := x2.keep kN (fun h => h)
      have o37 := o36.kept (b' := 0) (E := []) (G := []) (Kept.ofBelow kN.all) (by simp) (by simp)
      have o47 := o46.kept (b' := 0) (E := []) (G := []) (Kept.ofBelow kN.all) (by simp) (by simp)
      have T7 := T6.kept (b' := 0) (E := []) (G := []) (Kept.ofBelow kN.all) (by simp) (by simp)
      have b7 := b6.trans (kN.all.mono (by omega))
      generalize hh6 : w6.heap.size = h6 at *
      have l7' : h6 < w7.heap.size := x7.lt
      clear hkc hzc kN o36 o46 T6 b6 hh6 l6
      refine (RP.out _ (HIN.out _ b7).2.2).mono ?_
      rintro r w8 ⟨p', pm', pt', pe', hp', rfl, T8, be8⟩
      have z8 := be8.size
      have x1 := x1.below be8 (by omega)
      have x2 := x2.below be8 (by omega)
      have x7 := x7.below be8 (by omega)
      have o38 := o37.kept (b' := 0) (E := []) (G := []) (Kept.ofBelow be8) (by simp) (by simp)
      have o48 := o47.kept (b' := 0) (E := []) (G := []) (Kept.ofBelow be8) (by simp) (by simp)
      have T78 := T7.kept (b' := 0) (E := []) (G := []) (Kept.ofBelow be8) (by simp) (by simp)
      have b8 := b7.trans (be8.mono (by omega))
      have l8 : q + 1 < w8.heap.size := by omega
      have l8' : h6 < w8.heap.size := by omega
      have HSP := Lib.hid (sameTxP_of (HP.out.trans hp'.symm))
      generalize (parseTx b).2 = pc at *
      clear be8 o37 o47 T7 b7 RP HP l7 l7' hp'
      go_upto_region 9 with (first | (refine wpList_allocAgg rfl rfl (zero_tx _) ?_) | (refine wpList_storeBlk rfl rfl (vs := txC p' pm' pt' pe') rfl rfl (Blk.new _ _ _) (by rw [txC_size, txC_size]) (by rw [txC_size]; exact info_tx) T8.one ?_; intro w9 x9 hkc hzc))
      have kN : Keep Nothing w8 w9 := Keep.ofNew hkc
      have z9 := kN.size
      have x1 := (x1.keep kN (fun h => h))
      have x2 := (x2.keep kN (fun h => h))
      have x7 := (x7.keep kN (fun h => h))
      have r3 := (o38.kept (b' := 0) (E := []) (G := []) (Kept.ofBelow kN.all) (by simp) (by simp)).reads
      have r4 := (o48.kept (b' := 0) (E := []) (G := []) (Kept.ofBelow kN.all) (by simp) (by simp)).reads
      have T9 := (T78.kept (b' := 0) (E := []) (G := []) (Kept.ofBelow kN.all) (by simp) (by simp)).in_
      have T9' := (T8.kept (b' := 0) (E := []) (G := []) (Kept.ofBelow kN.all) (by simp) (by simp)).in_
      have b9 := (b8.trans (kN.all.mono (by omega)))
      generalize w8.heap.size = h8 at *
      have l9' : h8 < w9.heap.size := x9.lt
      have l9'' : h6 < w9.heap.size := by omega
      have l9 : q + 1 < w9.heap.size := by omega
      clear hkc hzc kN o38 o48 T78 T8 b8 l8 l8'
      have HS := Lib.hid (show ∀ W, Below w9.heap.size w9 W → (LdTx (.pointer (some ⟨q, 0, none⟩))).run Try.prog W = .ok (.agg (txC t mv tv ev)) W ∧ (LdTx (.pointer (some ⟨q + 1, 0, none⟩))).run Try.prog W = .ok (.agg (txC u mv' tv' ev')) W ∧ (LdTx (.pointer (some ⟨h6, 0, none⟩))).run Try.prog W = .ok (.agg (txC p pm pt pe)) W ∧ (LdTx (.pointer (some ⟨h8, 0, none⟩))).run Try.prog W = .ok (.agg (txC p' pm' pt' pe')) W ∧ (CvBS (.slice A3 x.length c3)).run Try.prog W = .ok (.string ⟨x.toArray⟩) W ∧ (CvBS (.slice A4 x.length c4)).run Try.prog W = .ok (.string ⟨x.toArray⟩) W
        from fun W k => ⟨LdTx.run (x1.below k (by omega)), LdTx.run (x2.below k (by omega)), LdTx.run (x7.below k l9''), LdTx.run (x9.below k l9'), CvBS.run (r3.below k), CvBS.run (r4.below k)⟩)
      have K65 := Lib.hid (show ∀ W, Below w9.heap.size w9 W → Calls Try.prog 35 #[.agg (txC p pm pt pe), .agg (txC p' pm' pt' pe')] W (fun r w' => r = .returned (.bool true) ∧ Keep Nothing W w') from fun W k => by have h := rsameTx_any p p' pm pt pe pm' pt' pe' W ((T9.below k).more k.size) ((T9'.below k).more k.size); rw [HSP.out] at h; exact h)
      obtain ⟨z, hz⟩ : ∃ z, sameTxP t u = z := ⟨_, rfl⟩
      have HB0 : ∀ W, Below w9.heap.size w9 W → Below q w W := fun W k => b9.trans (k.mono (by omega))
      have KA := Lib.hid (show ∀ W, Below w9.heap.size w9 W → Calls Try.prog 36 #[.agg (txC t mv tv ev), .agg (txC u mv' tv' ev')] W (fun r w' => r = .returned (.bool z) ∧ Keep Nothing W w') from fun W k => by have h := sameTx_any t u mv tv ev mv' tv' ev' W (HIN.out _ (HB0 W k)).1 (HIN.out _ (HB0 W k)).2.1; rw [hz] at h; exact h)
      have KB := Lib.hid (show ∀ W, Below w9.heap.size w9 W → Calls Try.prog 35 #[.agg (txC t mv tv ev), .agg (txC u mv' tv' ev')] W (fun r w' => r = .returned (.bool z) ∧ Keep Nothing W w') from fun W k => by have h := rsameTx_any t u mv tv ev mv' tv' ev' W (HIN.out _ (HB0 W k)).1 (HIN.out _ (HB0 W k)).2.1; rw [hz] at h; exact h)
      have KC := Lib.hid (show ∀ W, Below w9.heap.size w9 W → Calls Try.prog 36 #[.agg (txC t mv tv ev), .agg (txC t mv tv ev)] W (fun r w' => r = .returned (.bool true) ∧ Keep Nothing W w') from fun W k => by have h := sameTx_any t t mv tv ev mv tv ev W (HIN.out _ (HB0 W k)).1 (HIN.out _ (HB0 W k)).1; rw [sameTxP_refl] at h; exact h)
      have HF9 := Lib.hid (show ∀ W, Below w9.heap.size w9 W → TruePost w (.returned (.bool true)) W from fun W k => HF.out _ (HB0 W k))
      have HN := Lib.hid (show ∀ W W', Below w9.heap.size w9 W → Keep Nothing W W' → Below w9.heap.size w9 W' from fun W W' h k => h.trans (k.all.mono h.size))
      have b9' := (Keep.refl Nothing w9).drew.all
      obtain ⟨S1, S2, S7, S9, S3, S4⟩ := HS.out _ b9'
      clear hz HIN HSP hh HEL HDO HB0 HF T9 T9' x1 x2 x7 x9 r3 r4 l9 l9' l9''
      generalize w9.heap.size = h9 at *
      cases z
      all_goals
        go_region_held3 (fun W => (LdTx (.pointer (some ⟨q, 0, none⟩))).run Try.prog W = .ok (.agg (txC t mv tv ev)) W ∧ (LdTx (.pointer (some ⟨q + 1, 0, none⟩))).run Try.prog W = .ok (.agg (txC u mv' tv' ev')) W ∧ (LdTx (.pointer (some ⟨h6, 0, none⟩))).run Try.prog W = .ok (.agg (txC p pm pt pe)) W ∧ (LdTx (.pointer (some ⟨h8, 0, none⟩))).run Try.prog W = .ok (.agg (txC p' pm' pt' pe')) W ∧ (CvBS (.slice A3 x.length c3)).run Try.prog W = .ok (.string ⟨x.toArray⟩) W ∧ (CvBS (.slice A4 x.length c4)).run Try.prog W = .ok (.string ⟨x.toArray⟩) W) (first | go_keep) (first
          | (go_simp; go_at_call 35; (with_reducible refine (K65.out _ b9').mono ?_); rintro r w10 ⟨rfl, k10⟩; have b10 := HN.out _ _ b9' k10; obtain ⟨S1, S2, S7, S9, S3, S4⟩ := HS.out _ b10)
          | (go_simp; go_at_call 36; (with_reducible refine (KA.out _ b10).mono ?_); rintro r w11 ⟨rfl, k11⟩; have b11 := HN.out _ _ b10 k11; obtain ⟨S1, S2, S7, S9, S3, S4⟩ := HS.out _ b11)
          | (go_simp; go_at_call 35; (with_reducible refine (KB.out _ b11).mono ?_); rintro r w12 ⟨rfl, k12⟩; have b12 := HN.out _ _ b11 k12; obtain ⟨S1, S2, S7, S9, S3, S4⟩ := HS.out _ b12)
          | (go_simp; go_at_call 36; (with_reducible refine (KC.out _ b12).mono ?_); rintro r w13 ⟨rfl, k13⟩; have b13 := HN.out _ _ b12 k13; obtain ⟨S1, S2, S7, S9, S3, S4⟩ := HS.out _ b13))
        all_goals
          go_wp2_with fail
          go_ret
          exact HF9.out _ b13
def zId (H : Type) : DataW H := .agg (List.replicate 32 (.lit (.int .u8 0)))
def zSeq (H : Type) : DataW H := .agg [.lit (.int .i64 0), .lit (.string []), zId H, zId H, .nil, .lit (.int .i64 0), .lit (.int .i64 0), .lit (.bool false)]
def zTx (H : Type) : DataW H := .agg [.lit (.bool false), .lit (.string []), .nil, .lit (.bool false), zSeq H, .nil]
set_option maxRecDepth 100000 in
theorem codecTxs_lifted (os : Os) (started : os.Started) (H : Type) (enc : TypeId × Value → H) (F : Stop.Interp) :
    ReturnsInHanded {} Try.checked os 8 .any ((Rows.OpenSpec.upto Rows.codecTxsSpec).pre6 enc Try.prog Try.f8 Rows.codecTxsUptoRow.domain false) (((Rows.OpenSpec.upto Rows.codecTxsSpec).at F).post enc Try.prog Try.f8 false true false false) := by
  refine returnsInHanded_of_cond (C := Try.checked) (s := Rows.OpenSpec.upto Rows.codecTxsSpec) (k := Rows.uptoSmall) rfl own started (by kernel_rfl) Try.func8
    (OpenSpec.witness (enc := enc) (C := Try.checked) (s := Rows.OpenSpec.upto Rows.codecTxsSpec) (k := Rows.uptoSmall) rfl false ⟨#[], #[.agg (txC tx0 nilS nilS nilS), .slice none 0 0, .agg (txC tx0 nilS nilS nilS)], []⟩ 8 (by kernel_rfl) (by kernel_rfl) (by kernel_rfl)
      (x := ([zTx H, .nil, zTx H], [], [])) (by kernel_rfl) rfl (by kernel_rfl)) ?_
  intro W base args ds gs before hval0 hW hcnd hk _
  have hval : ∀ (j : Nat) t v, Try.f8.params[j]? = some t → args[j]? = some v → Value.okWide Try.prog W .any base t v := hval0
  have hW' := hW
  obtain ⟨p, q, hA0, hV, rfl, hfz, hnd⟩ := hW
  have hA : DataW.TrodAll enc Try.prog W 0 (fun _ => true) true Try.f8.params.toList args.toList ds p := hA0
  rw [Try.params8] at hA hval
  obtain ⟨v0, vs0, d0, ds0, p0, q0, hargs, rfl, rfl, h0, r0⟩ := trodAll_cons hA
  obtain ⟨v1, vs1, d1, ds1, p1, q1, rfl, rfl, rfl, h1, r1⟩ := trodAll_cons r0
  obtain ⟨v2, vs2, d2, ds2, p2, q2, rfl, rfl, rfl, h2, r2⟩ := trodAll_cons r1
  obtain ⟨rfl, rfl, rfl⟩ := trodAll_nil r2
  obtain rfl : args = #[v0, v1, v2] := by cases args; simp_all
  obtain ⟨rfl, rfl⟩ := trodVars_none hV
  have k0 := h0
  have lt0 : ∀ x ∈ p0, x.block < W.heap.size := by obtain ⟨m, hm⟩ := k0; exact DataW.trod_lt m _ _ _ hm
  have k1 := h1
  have lt1 : ∀ x ∈ p1, x.block < W.heap.size := by obtain ⟨m, hm⟩ := k1; exact DataW.trod_lt m _ _ _ hm
  have k2 := h2
  have lt2 : ∀ x ∈ p2, x.block < W.heap.size := by obtain ⟨m, hm⟩ := k2; exact DataW.trod_lt m _ _ _ hm
  have hbd := bulk_bound hk
  simp only [Rows.uptoBulkAll, List.cons_append, List.nil_append] at hbd
  obtain ⟨t0, mv0, tv0, ev0, rfl, in0, sm0⟩ := opened_tx (N := 1048576) (hval 0 70 v0 rfl rfl) h0 (by omega)
  obtain ⟨a1, len1, cap1, rfl⟩ := okWide_slice Try.underlying23 (hval 1 23 v1 rfl rfl)
  obtain ⟨l1, hl1, hr1, hc1, hm1⟩ := opened_bytes h1
  subst hl1
  obtain ⟨t2, mv2, tv2, ev2, rfl, in2, _⟩ := opened_tx (N := 1048576) (hval 2 70 v2 rfl rfl) h2 (by omega)
  clear hA0 hval0
  refine (txs_walk t0 t2 l1 mv0 tv0 ev0 mv2 tv2 ev2 a1 cap1 W in0 in2 hr1 hc1 hm1 sm0).mono fun e W' ⟨he, bel⟩ => ?_
  subst he
  exact ⟨_, rfl, _, _, _, [], _, [], hW', trodAll_mk1 (shut_bool Try.underlying4 _), (trodAll_cons_mk (Below.trod laidOut (by kernel_rfl) (of_decide_eq_true (by kernel_rfl)) k0 bel lt0) (trodAll_cons_mk (Below.trod laidOut (by kernel_rfl) (of_decide_eq_true (by kernel_rfl)) k1 bel lt1) (trodAll_cons_mk (Below.trod laidOut (by kernel_rfl) (of_decide_eq_true (by kernel_rfl)) k2 bel lt2) trodAll_mk0))), rfl, bel.frame _, fun h => by cases h⟩

theorem codecTxs_over : Rows.codecTxsUptoRow.holds Try.pinned (Rows.OpenSpec.upto Rows.codecTxsSpec) :=
  OpenClaim.holds_of_cond 8 Try.f8 rfl rfl rfl rfl rfl rfl rfl ⟨rfl, rfl, rfl, rfl, rfl⟩ rfl rfl rfl rfl rfl (by kernel_rfl) Try.func8 (by kernel_rfl)
    (of_decide_eq_true (by kernel_rfl)) (by unfold Func.isWrapper; first | (rw [if_pos (by decide +kernel)]; kernel_rfl) | (rw [if_neg (by decide +kernel)]; exact ⟨rfl, rfl⟩))
    (fun os started H enc _ F => codecTxs_lifted os started H enc F)

theorem codecTxs_holds : Rows.CodecTxsUptoSaid := codecTxs_over
#print axioms codecTxs_holds
end Go.Proofs.Ytppmolneklidfaa
