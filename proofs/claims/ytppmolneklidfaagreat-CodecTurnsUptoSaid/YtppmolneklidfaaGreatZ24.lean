/-
  Texts of the codec joined (Tx3, Tx4). No statement of the seat is proved here.
-/
import Derived.Test.YtppmolneklidfaaGreatZ23
namespace Go.Proofs.YtppmolneklidfaaGreat
open Go.RowKit

/-! ### A writer beside a struct's variable -/
structure WQ (w : World) (g base x : Nat) (T : TypeId) (cs : Array Value) (bs : List UInt8) (e : Int) (wr : World) : Prop where
  wt : Wt wr g base bs e
  blk : Blk wr x T cs
  kept : Kept base [5] [g] w wr
  size : base ≤ wr.heap.size
  nt : T ≠ 5
  nw : T ≠ 102
section
variable {w : World} {g base x : Nat} {T : TypeId} {cs : Array Value} {bs : List UInt8} {e : Int} {wr w' : World}
theorem WQ.ne_ (h : WQ w g base x T cs bs e wr) : x ≠ g := by
  obtain ⟨A, c, hb, _⟩ := h.wt
  exact h.blk.ne_ hb h.nw
theorem WQ.base_le (h : WQ w g base x T cs bs e wr) : base ≤ g := by
  obtain ⟨A, c, _, _, hb⟩ := h.wt
  exact hb
theorem WQ.lt (h : WQ w g base x T cs bs e wr) : g < wr.heap.size := by
  obtain ⟨A, c, hb, _⟩ := h.wt
  exact hb.lt
theorem WQ.next {bs' : List UInt8} (h : WQ w g base x T cs bs e wr) (ht : Wt w' g base bs' e) (hk : Kept base [5] [g] wr w') : WQ w g base x T cs bs' e w' :=
  ⟨ht, hk.blk h.blk (by simpa using h.ne_) (by simpa using h.nt), h.kept.trans hk, Nat.le_trans h.size hk.size, h.nt, h.nw⟩
theorem WQ.number (h : WQ w g base x T cs bs e wr) (n v : Nat) (hn : n ≤ 8) (hsz : bs.length + n ≤ 140737488355328) :
    Calls Tryz.prog 42 #[.pointer (some ⟨g, 0, none⟩), .int .i64 n, .int .u64 v] wr fun r w' => r = .returned (.tuple #[]) ∧ WQ w g base x T cs (bs ++ be n v) e w' ∧ Kept base [5] [g] wr w' :=
  (wnumber_any n v hn g base bs e wr h.wt hsz h.size).mono fun _ _ ⟨h1, h2, h3⟩ => ⟨h1, h.next h2 h3, h3⟩
theorem WQ.text (h : WQ w g base x T cs bs e wr) (n : Nat) (s : ByteArray) (hn : n ≤ 8) (hsz : bs.length + n + s.size ≤ 140737488355328) :
    Calls Tryz.prog 46 #[.pointer (some ⟨g, 0, none⟩), .int .i64 n, .string s] wr fun r w' => r = .returned (.tuple #[]) ∧ WQ w g base x T cs (bs ++ be n s.size ++ s.data.toList) e w' ∧ Kept base [5] [g] wr w' :=
  (wtext_any n s hn g base bs e wr h.wt hsz h.size).mono fun _ _ ⟨h1, h2, h3⟩ => ⟨h1, h.next h2 h3, h3⟩
theorem WQ.id (h : WQ w g base x T cs bs e wr) (i : Id) (hsz : bs.length + 32 ≤ 140737488355328) :
    Calls Tryz.prog 47 #[.pointer (some ⟨g, 0, none⟩), idV i] wr fun r w' => r = .returned (.tuple #[]) ∧ WQ w g base x T cs (bs ++ i.1) e w' ∧ Kept base [5] [g] wr w' :=
  (wid_any i g base bs e wr h.wt hsz h.size).mono fun _ _ ⟨h1, h2, h3⟩ => ⟨h1, h.next h2 h3, h3⟩
theorem Wt.keepN (h : Wt wr g base bs e) (k : Keep Nothing wr w') : Wt w' g base bs e := by
  obtain ⟨A, c, hb, ho, hg⟩ := h
  exact ⟨A, c, hb.keep k (fun x => x), ho.kept (b' := 0) (E := []) (G := []) (Kept.ofKeep k (by unfold Nothing; simp)) (by simp) (by simp), hg⟩
theorem WQ.keepN (h : WQ w g base x T cs bs e wr) (k : Keep Nothing wr w') : WQ w g base x T cs bs e w' := h.next (h.wt.keepN k) (Kept.ofKeep k (by unfold Nothing; simp))
theorem WQ.below {B : Nat} (h : WQ w g base x T cs bs e wr) (hB : B ≤ base) (hz : B ≤ w.heap.size) : Below B w wr := h.kept.below hB hz (by have := h.base_le; simp; omega)
end
theorem conv_u64 (n : Nat) (h : n ≤ 9223372036854775807) : IntKind.u64.wrap (n : Int) = (n : Int) := by
  simp [IntKind.wrap, IntKind.signed, IntKind.bits]
  omega
theorem nat_of {n : Int} (h : 0 ≤ n) : ∃ k : Nat, n = (k : Int) ∧ n.toNat = k := ⟨n.toNat, (Int.toNat_of_nonneg h).symm, rfl⟩

/-! ### Plain -/
def todoB (x : TodoD) : List UInt8 := be 1 x.act.toNat ++ x.id.1
def seqB (q : SeqD) : List UInt8 := be 1 q.kind.toNat ++ if q.kind = 0 then [] else be 1 q.branch.size ++ (q.branch.data.toList ++ (q.orig.1 ++ (q.cur.1 ++ (be 2 q.todo.length ++ (q.todo.flatMap todoB ++ (be 2 q.done.toNat ++ (be 2 q.made.toNat ++ be 1 (if q.stopped then 1 else 0))))))))
theorem todoB_len (x : TodoD) : (todoB x).length = 33 := by simp [todoB, be_len, x.id.2]
theorem flat33 {α : Type} {f : α → List UInt8} {C : Nat} (hf : ∀ a, (f a).length = C) (l : List α) : (l.flatMap f).length = l.length * C := by
  induction l with
  | nil => simp
  | cons x l ih => rw [List.flatMap_cons, List.length_append, hf, ih, List.length_cons, Nat.succ_mul, Nat.add_comm]
theorem flat_snoc {α β : Type} (f : α → List β) (l : List α) (k : Nat) (x : α) (h : l[k]? = some x) : (l.take (k + 1)).flatMap f = (l.take k).flatMap f ++ f x := by
  rw [List.take_add_one, h]
  simp
/-- What the numbers of a sequence must be to be written. -/
structure SeqFits (q : SeqD) : Prop where
  kind : 0 ≤ q.kind ∧ q.kind ≤ 255
  nums : q.kind ≠ 0 → 0 ≤ q.done ∧ q.done ≤ 65535 ∧ 0 ≤ q.made ∧ q.made ≤ 65535 ∧ ∀ x ∈ q.todo, 0 ≤ x.act ∧ x.act ≤ 255

theorem seqC_ids (q : SeqD) (tv : Value) : idC q.orig = (seqC q tv).extract 2 (2 + (idC q.orig).size) ∧ idC q.cur = (seqC q tv).extract 34 (34 + (idC q.cur).size) := by
  have h1 := idL_len q.orig
  have h2 := idL_len q.cur
  constructor
  · apply Array.ext'
    simp [seqC, seqL, idC, h1]
  · apply Array.ext'
    simp [seqC, seqL, idC, h1, h2]
/-- A load of an Id in the middle of a known block. -/
theorem ldId_mid {w : World} {g off : Nat} {t : TypeId} {cs : Array Value} {i : Id} (h : Blk w g t cs) (hi : idC i = cs.extract off (off + (idC i).size)) : (Instr.loadAt 24 (.pointer (some ⟨g, off, none⟩))).run Tryz.prog w = .ok (idV i) w :=
  run_loadAt_blk (P := Tryz.prog) h off (idC i) Tryz.underlying24 rfl (by rw [idC_size]; exact info42) hi

set_option maxHeartbeats 4000000 in
set_option maxRecDepth 100000 in
theorem wseq_any (q : SeqD) (A : Option Addr) (c B : Nat) (hf : SeqFits q) (g base : Nat) (bs : List UInt8) (e : Int) (w : World) (hw : Wt w g base bs e) (hB : B ≤ base) (hbz : base ≤ w.heap.size)
    (hr : Reads w B 33 A q.todo.length (todoLs q.todo)) (hc : q.todo.length ≤ c) (hcm : c ≤ 9223372036854775807) (hsz : bs.length + (seqB q).length ≤ 140737488355328) :
    Calls Tryz.prog 71 #[.pointer (some ⟨g, 0, none⟩), .agg (seqC q (.slice A q.todo.length c))] w (WtPost w g base (bs ++ seqB q) e) := by
  have h0 : WQ w g base w.heap.size 31 (seqC q (.slice A q.todo.length c)) bs e (w.alloc (.cells (seqC q (.slice A q.todo.length c)) 31)) := by
    have kn : Keep Nothing w (w.alloc (.cells (seqC q (.slice A q.todo.length c)) 31)) := (Keep.refl _ _).alloc _
    exact ⟨hw.keepN kn, Blk.new _ _ _, Kept.ofKeep kn (by unfold Nothing; simp), Nat.le_trans hbz kn.size, by decide, by decide⟩
  obtain ⟨kn, hkn, hkt⟩ := nat_of hf.kind.1
  have hk2 : kn ≤ 255 := by have := hf.kind.2; omega
  have HK := Lib.hid hkn
  have HKT := Lib.hid hkt
  clear hkn hkt
  have hv0 := conv_u64 kn (by omega)
  have HSB := Lib.hid (show seqB q = be 1 q.kind.toNat ++ if q.kind = 0 then [] else be 1 q.branch.size ++ (q.branch.data.toList ++ (q.orig.1 ++ (q.cur.1 ++ (be 2 q.todo.length ++ (q.todo.flatMap todoB ++ (be 2 q.done.toNat ++ (be 2 q.made.toNat ++ be 1 (if q.stopped then 1 else 0)))))))) from rfl)
  have hlb : 1 ≤ (seqB q).length := by rw [HSB.out]; simp [be_len]
  have HR := Lib.hid hr
  clear hw hr
  have HBL := Lib.hid (show ∀ bs' W, WQ w g base w.heap.size 31 (seqC q (.slice A q.todo.length c)) bs' e W → Below B w W from fun _ _ h => h.below hB (by omega))
  go_enter Tryz.func71, Tryz.ntmps71
  go_upto_region 1 with (first | (refine wpList_boxed rfl rfl (cs := seqC q _) rfl ?_))
  generalize w.alloc (.cells (seqC q (.slice A q.todo.length c)) 31) = w0 at *
  generalize w.heap.size = x at *
  have c0 := (h0.blk.cell 0).trans (seqC_at _ _).1
  rw [HK.out] at c0
  go_wp2_with fail
  refine (h0.number 1 kn (by omega) (by omega)).mono ?_
  rintro r w1 ⟨rfl, h1, _⟩
  clear c0
  have c0 := (h1.blk.cell 0).trans (seqC_at _ _).1
  rw [HK.out] at c0
  by_cases hk0 : kn = 0
  · subst hk0
    go_wp2_with fail
    go_end0
    refine ⟨rfl, ?_, h1.kept⟩
    rw [HSB.out, HKT.out, if_pos (by rw [HK.out]; rfl), List.append_nil]
    exact h1.wt
  · have d0 : ((kn : Int) == 0) = false := beq_eq_false_iff_ne.2 (by omega)
    obtain ⟨hd1, hd2, hm1, hm2, hact⟩ := hf.nums (by rw [HK.out]; omega)
    obtain ⟨dn, hdn, hdt⟩ := nat_of hd1
    obtain ⟨mn, hmn, hmt⟩ := nat_of hm1
    have dn2 : dn ≤ 65535 := by omega
    have mn2 : mn ≤ 65535 := by omega
    have HD := Lib.hid hdn
    have HDT := Lib.hid hdt
    have HM := Lib.hid hmn
    have HMT := Lib.hid hmt
    have HACT := Lib.hid hact
    clear hdn hdt hmn hmt hact hd1 hd2 hm1 hm2 hf
    have hv1 := conv_u64 dn (by omega)
    have hv2 := conv_u64 mn (by omega)
    have hv3 := conv_u64 q.todo.length (by omega)
    have HB2 := Lib.hid (show seqB q = be 1 kn ++ (be 1 q.branch.size ++ (q.branch.data.toList ++ (q.orig.1 ++ (q.cur.1 ++ (be 2 q.todo.length ++ (q.todo.flatMap todoB ++ (be 2 dn ++ (be 2 mn ++ be 1 (if q.stopped then 1 else 0))))))))) from by rw [HSB.out, if_neg (by rw [HK.out]; omega), HKT.out, HDT.out, HMT.out])
    have hlen : (seqB q).length = 1 + (1 + (q.branch.size + (32 + (32 + (2 + (q.todo.length * 33 + (2 + (2 + 1)))))))) := by
      rw [HB2.out]
      simp only [List.length_append, be_len, flat33 todoB_len, q.orig.2, q.cur.2, ← Lib.size_eq]
    generalize hsl : (seqB q).length = sl at *
    clear hsl HSB c0
    have l1 : (bs ++ be 1 kn).length = bs.length + 1 := by simp [be_len]
    generalize hb1 : bs ++ be 1 kn = b1 at *
    have c1 := (h1.blk.cell 1).trans (seqC_at _ _).2.1
    have c0 := (h1.blk.cell 0).trans (seqC_at _ _).1
    rw [HK.out] at c0
    have L1 := Lib.hid l1
    have B1 := Lib.hid hb1
    have le1 : b1.length ≤ bs.length + 1 := by omega
    clear hb1 l1
    go_wp2_with fail
    refine (h1.text 1 q.branch (by omega) (by omega)).mono ?_
    rintro r w2 ⟨rfl, h2, _⟩
    have le2 : (b1 ++ be 1 q.branch.size ++ q.branch.data.toList).length ≤ bs.length + 2 + q.branch.size := by simp only [List.length_append, be_len, ← Lib.size_eq]; omega
    generalize hb2 : b1 ++ be 1 q.branch.size ++ q.branch.data.toList = b2 at *
    have B2 := Lib.hid hb2
    clear hb2 c1 c0
    go_wp2_with (first | (refine wpList_load rfl rfl rfl (ldId_mid h2.blk (seqC_ids _ _).1) ?_))
    refine (h2.id q.orig (by omega)).mono ?_
    rintro r w3 ⟨rfl, h3, _⟩
    have le3 : (b2 ++ q.orig.1).length ≤ bs.length + 34 + q.branch.size := by simp only [List.length_append, q.orig.2]; omega
    generalize hb3 : b2 ++ q.orig.1 = b3 at *
    have B3 := Lib.hid hb3
    clear hb3
    go_wp2_with (first | (refine wpList_load rfl rfl rfl (ldId_mid h3.blk (seqC_ids _ _).2) ?_))
    refine (h3.id q.cur (by omega)).mono ?_
    rintro r w4 ⟨rfl, h4, _⟩
    have le4 : (b3 ++ q.cur.1).length ≤ bs.length + 66 + q.branch.size := by simp only [List.length_append, q.cur.2]; omega
    generalize hb4 : b3 ++ q.cur.1 = b4 at *
    have B4 := Lib.hid hb4
    clear hb4
    have c66 := (h4.blk.cell 66).trans (seqC_at _ _).2.2.1
    go_wp2_with fail
    refine (h4.number 2 q.todo.length (by omega) (by omega)).mono ?_
    rintro r w5 ⟨rfl, h5, _⟩
    have le5 : (b4 ++ be 2 q.todo.length).length ≤ bs.length + 68 + q.branch.size := by simp only [List.length_append, be_len]; omega
    generalize hb5 : b4 ++ be 2 q.todo.length = b5 at *
    have B5 := Lib.hid hb5
    clear hb5 c66
    have c66 := (h5.blk.cell 66).trans (seqC_at _ _).2.2.1
    go_wp2_with fail
    go_loopg [35] q.todo.length (fun f i wr => ∃ k, i = .int .i64 (k : Nat) ∧ k + f = q.todo.length ∧ WQ w g base x 31 (seqC q (.slice A q.todo.length c)) (b5 ++ (q.todo.take k).flatMap todoB) e wr)
    case atStart => exact ⟨0, rfl, by omega, by simpa using h5⟩
    case round =>
      obtain ⟨k, rfl, hkf, h6⟩ := hrel
      have HKF := Lib.hid hkf
      have hkn : k ≤ q.todo.length := by omega
      clear hkf h5 c66 h4 h3 h2 h1 h0
      by_cases hlt : k < q.todo.length
      · cases gk with
        | zero => exact absurd HKF.out (by omega)
        | succ f =>
          obtain ⟨m, hm⟩ : ∃ m, q.todo[k]? = some m := ⟨q.todo[k], List.getElem?_eq_getElem hlt⟩
          have hrd := HR.out.below (HBL.out _ _ h6)
          obtain ⟨g0, off, rfl, _, hc0⟩ := hrd.at0 (by omega) (by omega)
          have LL := Lib.hid (load_flat Tryz.underlying113 rfl info_todo todoL_len hc0 hm)
          have HS := Lib.hid (flat_snoc todoB q.todo k m hm)
          obtain ⟨an, han, hat⟩ := nat_of (HACT.out m (List.mem_of_getElem? hm)).1
          have an2 : an ≤ 255 := by have := (HACT.out m (List.mem_of_getElem? hm)).2; omega
          have HA := Lib.hid han
          have HAT := Lib.hid hat
          have hv4 := conv_u64 an (by omega)
          have le6 : (b5 ++ (q.todo.take k).flatMap todoB).length ≤ bs.length + 68 + q.branch.size + k * 33 := by rw [List.length_append, flat33 todoB_len, List.length_take]; have : min k q.todo.length * 33 ≤ k * 33 := Nat.mul_le_mul_right _ (Nat.min_le_left _ _); omega
          generalize hb6 : b5 ++ (q.todo.take k).flatMap todoB = b6 at *
          have B6 := Lib.hid hb6
          clear hb6 han hat hm hc0 hrd
          go_upto_region 10 with (first | (refine wpList_load rfl rfl rfl LL.out ?_) | (refine wpList_allocAgg rfl rfl (zero_todo _) ?_) | (refine wpList_storeBlk rfl rfl (vs := todoC m) rfl rfl (Blk.new _ _ _) (by rw [todoC_size, todoC_size]) (by rw [todoC_size]; exact info_todo) (todoL_one _) ?_; intro w7 x7 kc zc))
          have h7 := h6.keepN (Keep.ofNew kc)
          have hyg : g < wr.heap.size := h6.lt
          generalize wr.heap.size = y at *
          clear kc zc LL h6
          have c0 := (x7.cell 0).trans (todoC_at m)
          rw [HA.out] at c0
          go_wp2_with fail
          refine (h7.number 1 an (by omega) (by omega)).mono ?_
          rintro r w8 ⟨rfl, h8, k8⟩
          have x8 := k8.blk x7 (by simp; omega) (by decide)
          have le8 : (b6 ++ be 1 an).length ≤ bs.length + 69 + q.branch.size + k * 33 := by rw [List.length_append, be_len]; omega
          generalize hb8 : b6 ++ be 1 an = b8 at *
          have B8 := Lib.hid hb8
          clear hb8 c0 x7 k8 h7
          go_wp2_with (first | (refine wpList_load rfl rfl rfl (ldId_mid x8 (todoC_id m)) ?_))
          refine (h8.id m.id (by omega)).mono ?_
          rintro r w9 ⟨rfl, h9, _⟩
          go_wp2_with fail
          go_roundg f
          case measure => omega
          case rel =>
            refine ⟨k + 1, by go_num, by have := HKF.out; omega, ?_⟩
            rw [HS.out, show todoB m = be 1 an ++ m.id.1 from by unfold todoB; rw [HAT.out], ← List.append_assoc, ← List.append_assoc, B6.out, B8.out]
            exact h9
      · have ek : q.todo.take k = q.todo := List.take_of_length_le (by omega)
        rw [ek] at h6
        have le6 : (b5 ++ q.todo.flatMap todoB).length ≤ bs.length + 68 + q.branch.size + q.todo.length * 33 := by rw [List.length_append, flat33 todoB_len]; omega
        generalize hb6 : b5 ++ q.todo.flatMap todoB = b6 at *
        have B6 := Lib.hid hb6
        clear hb6 ek
        have c67 := (h6.blk.cell 67).trans (seqC_at _ _).2.2.2.1
        rw [HD.out] at c67
        go_wp2_with fail
        refine (h6.number 2 dn (by omega) (by omega)).mono ?_
        rintro r w7 ⟨rfl, h7, _⟩
        have le7 : (b6 ++ be 2 dn).length ≤ bs.length + 70 + q.branch.size + q.todo.length * 33 := by rw [List.length_append, be_len]; omega
        generalize hb7 : b6 ++ be 2 dn = b7 at *
        have B7 := Lib.hid hb7
        clear hb7 c67 h6
        have c68 := (h7.blk.cell 68).trans (seqC_at _ _).2.2.2.2.1
        rw [HM.out] at c68
        go_wp2_with fail
        refine (h7.number 2 mn (by omega) (by omega)).mono ?_
        rintro r w8 ⟨rfl, h8, _⟩
        have le8 : (b7 ++ be 2 mn).length ≤ bs.length + 72 + q.branch.size + q.todo.length * 33 := by rw [List.length_append, be_len]; omega
        generalize hb8 : b7 ++ be 2 mn = b8 at *
        have B8 := Lib.hid hb8
        clear hb8 c68 h7
        have c69 := (h8.blk.cell 69).trans (seqC_at _ _).2.2.2.2.2
        go_wp2_with fail
        refine (truth_any q.stopped 1 _).mono ?_
        rintro r w9 ⟨rfl, rfl⟩
        have et : (if q.stopped then (1 : Int) else 0) = (((if q.stopped then 1 else 0 : Nat) : Nat) : Int) := by cases q.stopped <;> rfl
        rw [et]
        clear et
        generalize hsn : (if q.stopped then 1 else 0 : Nat) = sn at *
        have HSN := Lib.hid hsn
        clear hsn
        go_wp2_with fail
        refine (h8.number 1 sn (by omega) (by omega)).mono ?_
        rintro r w10 ⟨rfl, h10, _⟩
        go_wp2_with fail
        go_end0
        refine ⟨rfl, ?_, h10.kept⟩
        have eqf : bs ++ seqB q = b8 ++ be 1 sn := by
          rw [HB2.out, ← B8.out, ← B7.out, ← B6.out, ← B5.out, ← B4.out, ← B3.out, ← B2.out, ← B1.out]
          simp only [List.append_assoc]
        rw [eqf]
        exact h10.wt
end Go.Proofs.YtppmolneklidfaaGreat

namespace Go.Proofs.YtppmolneklidfaaGreat
open Go.RowKit

/-! ### Plain -/
def moveB (m : MoveD) : List UInt8 := be 1 m.name.size ++ (m.name.data.toList ++ (m.old.1 ++ (m.new_.1 ++ (be 2 m.why.size ++ m.why.data.toList))))
def memB (m : MemD) : List UInt8 := m.key.1 ++ (be 4 m.data.length ++ m.data)
def flagsN (t : TxD) : Nat := (if t.hasHead then 1 else 0) + (if t.hasSeq then 2 else 0)
def headB (t : TxD) : List UInt8 := if t.hasHead then be 1 t.head.size ++ t.head.data.toList else []
def seqsB (t : TxD) : List UInt8 := if t.hasSeq then seqB t.seq else []
def encTxB (t : TxD) : List UInt8 := be 1 (flagsN t) ++ (headB t ++ (be 2 t.moves.length ++ (t.moves.flatMap moveB ++ (seqsB t ++ (be 2 t.mem.length ++ t.mem.flatMap memB)))))
def encTx (t : TxD) : List UInt8 × Int := if wrongE t = 0 then (encTxB t, 0) else ([], wrongE t)
def EncTxPost (t : TxD) (w : World) (r : Ending) (w' : World) : Prop := ∃ A c, r = .returned (.tuple #[.slice A (encTx t).1.length c, .int .i64 (encTx t).2]) ∧ Own w' w.heap.size 5 1 A (encTx t).1.length c ((encTx t).1.map bv) ∧ Below w.heap.size w w'

theorem fold_note {α : Type} {p : α → Bool} {c : Int} (hc : c ≠ 0) : ∀ (l : List α) (e : Int), l.foldl (fun e x => note e (p x) c) e = 0 ↔ e = 0 ∧ ∀ x ∈ l, p x = true
  | [], e => by simp
  | x :: l, e => by
    rw [List.foldl_cons, fold_note hc l, note_zero hc]
    simp [and_assoc]
theorem wrongE_zero {t : TxD} (h : wrongE t = 0) : longE t = 0 ∧ kindFits t = true ∧ (asks t = true → numOk t.seq.done 65535 = true ∧ numOk t.seq.made 65535 = true ∧ ∀ x ∈ t.seq.todo, numOk x.act 255 = true) := by
  unfold wrongE argE at h
  cases ha : asks t
  · rw [ha, if_neg (by decide), note_zero (by decide)] at h
    exact ⟨h.1, h.2, fun h => by cases h⟩
  · rw [ha, if_pos rfl, fold_note (by decide), note_zero (by decide), note_zero (by decide), note_zero (by decide)] at h
    obtain ⟨⟨⟨⟨h1, h2⟩, h3⟩, h4⟩, h5⟩ := h
    exact ⟨h1, h2, fun _ => ⟨h3, h4, h5⟩⟩
theorem longE_zero {t : TxD} (h : longE t = 0) : manyOk t = true ∧ headOk t = true ∧ (∀ m ∈ t.moves, moveOk m = true) ∧ (∀ m ∈ t.mem, dataOk m = true) ∧ branchOk t = true := by
  unfold longE at h
  rw [note_zero (by decide), fold_note (by decide), fold_note (by decide), note_zero (by decide), note_zero (by decide)] at h
  obtain ⟨⟨⟨⟨⟨_, h1⟩, h2⟩, h3⟩, h4⟩, h5⟩ := h
  exact ⟨h1, h2, h3, h4, h5⟩
theorem numOk_le {n : Int} {k : Nat} (h : numOk n k = true) : 0 ≤ n ∧ n ≤ k := by
  unfold numOk at h
  simpa using h
theorem seqFits {t : TxD} (h : wrongE t = 0) (hs : t.hasSeq = true) : SeqFits t.seq := by
  obtain ⟨_, h2, h3⟩ := wrongE_zero h
  unfold kindFits at h2
  rw [hs] at h2
  have hk := numOk_le (n := t.seq.kind) (k := 255) (by simpa using h2)
  refine ⟨by omega, fun hne => ?_⟩
  have ha : asks t = true := by unfold asks; rw [hs]; simpa using hne
  obtain ⟨h4, h5, h6⟩ := h3 ha
  have a1 := numOk_le h4
  have a2 := numOk_le h5
  exact ⟨by omega, by omega, by omega, by omega, fun x hx => by have := numOk_le (h6 x hx); omega⟩
theorem still_truth (b : Bool) (n : Int) (w : World) : Calls Tryz.prog 70 #[.bool b, .int .u64 n] w fun r w' => r = .returned (.int .u64 (if b then n else 0)) ∧ w' = w := (truth_any b n w).mono fun _ _ h => ⟨h.1, h.2.symm⟩
theorem flat_le {α β : Type} (f : α → List β) (l : List α) (k : Nat) : ((l.take k).flatMap f).length ≤ (l.flatMap f).length := by
  conv => rhs; rw [← List.take_append_drop k l, List.flatMap_append, List.length_append]
  omega

set_option maxHeartbeats 8000000 in
set_option maxRecDepth 100000 in
theorem encodeTx_any (t : TxD) (mv tv ev : Value) (w : World) (hin : TxIn w w.heap.size t mv tv ev) (hh : t.head.size ≤ 9000000) (hsz : (encTxB t).length ≤ 140737488355328) :
    Calls Tryz.prog 36 #[.agg (txC t mv tv ev)] w (EncTxPost t w) := by
  have q0 : Blk (w.alloc (.cells (txC t mv tv ev) 34)) w.heap.size 34 (txC t mv tv ev) := Blk.new _ _ _
  have k0 : Keep Nothing w (w.alloc (.cells (txC t mv tv ev) 34)) := (Keep.refl _ _).alloc _
  go_enter Tryz.func36, Tryz.ntmps36
  go_upto_region 1 with (first | (refine wpList_boxed rfl rfl (cs := txC t _ _ _) rfl ?_))
  generalize w.alloc (.cells (txC t mv tv ev) 34) = w0 at *
  have z0 := k0.size
  have hin0 := (hin.below k0.all).more z0
  go_upto_region 2 with (first | (refine wpList_load rfl rfl rfl (load_whole q0 Tryz.underlying34 rfl (by rw [txC_size]; exact info_tx)) ?_) | (go_at_call 69; refine (wrong_any t mv tv ev _ hin0 hh).mono ?_; rintro r w1 ⟨rfl, k1⟩))
  have q1 := q0.keep k1 (fun x => x)
  have kk1 := k0.trans k1
  have z1 := k1.size
  clear q0 k0 k1 hin0
  by_cases he : wrongE t = 0
  · have HE := Lib.hid he
    rw [he]
    have HP := Lib.hid (show EncTxPost t w = fun r w' => ∃ A c, r = .returned (.tuple #[.slice A (encTxB t).length c, .int .i64 0]) ∧ Own w' w.heap.size 5 1 A (encTxB t).length c ((encTxB t).map bv) ∧ Below w.heap.size w w' from by unfold EncTxPost encTx; rw [if_pos he])
    clear he
    obtain ⟨Am, cm, rfl, rm, lm1, lm2⟩ := hin.mv
    obtain ⟨At, ct, rfl, rt, lt1, lt2⟩ := hin.tv
    obtain ⟨Ae, ce, rfl, re, le1, le2⟩ := hin.ev
    unfold maxLen at lm2 lt2 le2
    have HDATA := Lib.hid hin.data
    have HRM := Lib.hid rm
    have HRT := Lib.hid rt
    have HRE := Lib.hid re
    clear hin rm rt re
    go_upto_region 5 with fail
    have gn : Blk (w1.alloc (.cells #[.slice none 0 0, .int .i64 0, .int .i64 0] 102)) w1.heap.size 102 #[.slice none 0 0, .int .i64 0, .int .i64 0] := Blk.new _ _ _
    have h2 : WQ w w1.heap.size w.heap.size w.heap.size 34 (txC t (.slice Am t.moves.length cm) (.slice At t.seq.todo.length ct) (.slice Ae t.mem.length ce)) [] 0 (w1.alloc (.cells #[.slice none 0 0, .int .i64 0, .int .i64 0] 102)) :=
      ⟨⟨none, 0, gn, Own.nil _ _ _ _, by omega⟩, q1.alloc _, Kept.ofKeep (kk1.alloc _) (by unfold Nothing; simp), by simp; omega, by decide, by decide⟩
    have HBL := Lib.hid (show ∀ bs' W, WQ w w1.heap.size w.heap.size w.heap.size 34 (txC t (.slice Am t.moves.length cm) (.slice At t.seq.todo.length ct) (.slice Ae t.mem.length ce)) bs' 0 W → Below w.heap.size w W from fun _ _ h => h.below (Nat.le_refl _) (Nat.le_refl _))
    clear gn q1 kk1
    generalize w1.alloc (.cells #[.slice none 0 0, .int .i64 0, .int .i64 0] 102) = w2 at *
    generalize w1.heap.size = g at *
    generalize hgq : w.heap.size = q at *
    have HQ := Lib.hid hgq
    clear hgq z0 z1
    generalize hgm : Value.slice Am t.moves.length cm = mv at *
    generalize hgt : Value.slice At t.seq.todo.length ct = tv at *
    generalize hge : Value.slice Ae t.mem.length ce = ev at *
    have HM := Lib.hid hgm
    have HT := Lib.hid hgt
    have HEV := Lib.hid hge
    clear hgm hgt hge
    have HL := Lib.hid (show encTxB t = be 1 (flagsN t) ++ (headB t ++ (be 2 t.moves.length ++ (t.moves.flatMap moveB ++ (seqsB t ++ (be 2 t.mem.length ++ t.mem.flatMap memB))))) from rfl)
    have hlen : (encTxB t).length = 1 + ((headB t).length + (2 + ((t.moves.flatMap moveB).length + ((seqsB t).length + (2 + (t.mem.flatMap memB).length))))) := by
      rw [HL.out]; simp only [List.length_append, be_len]
    go_cut [5] (fun s5 wx => s5 = .pointer (some ⟨g, 0, none⟩) ∧ WQ w g q q 34 (txC t mv tv ev) (be 1 (flagsN t)) 0 wx)
    case first =>
      have a0 := (h2.blk.cell 0).trans txC_at.1
      have a3 := (h2.blk.cell 3).trans txC_at.2.2.2.1
      have h2' : WQ w g q q 34 (txC t mv tv ev) [] 0 w2.drew := h2.next h2.wt (Kept.drew (Kept.refl _ _ _ _))
      have HF := Lib.hid (show flagsN t = (if t.hasHead then 1 else 0) + (if t.hasSeq then 2 else 0) from rfl)
      clear h2
      generalize hf : flagsN t = fn at *
      clear hf
      cases h1 : t.hasHead
      all_goals cases h3 : t.hasSeq
      all_goals
        rw [h1] at a0 HF
        rw [h3] at a3 HF
        clear h1 h3
        refine wp_region_still_tail 8 (by kernel_rfl) (by kernel_rfl) ?_; simp only [List.take_succ_cons, List.take_zero, List.drop_succ_cons, List.drop_zero]; repeat (first | ((with_reducible refine wpStill_step (fun K hK => ?_)); go_simp; with_reducible refine hK _ ?_; clear hK K) | ((with_reducible refine wpStill_skip ?_ ?_); (focus rfl)))
        (with_reducible refine wpStill_step (fun K hK => ?_)); go_simp; (with_reducible refine ⟨_, still_truth _ _ _, hK _ ?_⟩); clear hK K; repeat (first | ((with_reducible refine wpStill_step (fun K hK => ?_)); go_simp; with_reducible refine hK _ ?_; clear hK K) | ((with_reducible refine wpStill_skip ?_ ?_); (focus rfl)))
        (with_reducible refine wpStill_step (fun K hK => ?_)); go_simp; (with_reducible refine ⟨_, still_truth _ _ _, hK _ ?_⟩); clear hK K; repeat (first | ((with_reducible refine wpStill_step (fun K hK => ?_)); go_simp; with_reducible refine hK _ ?_; clear hK K) | ((with_reducible refine wpStill_skip ?_ ?_); (focus rfl)))
        (with_reducible refine wpStill_nil ?_); change wpList _ _ _ _ _ w2.drew
        go_wp2_with fail
        refine (h2'.number 1 _ (by omega) (by simp)).mono ?_
        rintro r w3 ⟨rfl, h4, _⟩
        go_wp2_with fail
        go_meet
        exact ⟨rfl, by rw [HF.out]; exact h4⟩
    case rest =>
      obtain ⟨rfl, h3⟩ := hcut
      generalize wc = w3 at *
      have le1' : (be 1 (flagsN t)).length ≤ 1 := by simp [be_len]
      generalize hb1 : be 1 (flagsN t) = b1 at *
      have B1 := Lib.hid hb1
      clear hb1 h2
      have a0 := (h3.blk.cell 0).trans txC_at.1
      go_upto_if 27 with fail
      have HH := Lib.hid (show headB t = if t.hasHead then be 1 t.head.size ++ t.head.data.toList else [] from rfl)
      go_cut [5] (fun s5 wx => s5 = .pointer (some ⟨g, 0, none⟩) ∧ WQ w g q q 34 (txC t mv tv ev) (b1 ++ headB t) 0 wx)
      case first =>
        have a1 := (h3.blk.cell 1).trans txC_at.2.1
        clear a0
        cases h1 : t.hasHead
        · rw [h1] at HH
          clear h1
          go_wp2_with fail
          go_meet
          exact ⟨rfl, by rw [HH.out, if_neg (by decide), List.append_nil]; exact h3⟩
        · rw [h1] at HH
          clear h1
          go_wp2_with fail
          refine (h3.text 1 t.head (by omega) (by omega)).mono ?_
          rintro r w4 ⟨rfl, h4, _⟩
          go_wp2_with fail
          go_meet
          exact ⟨rfl, by rw [HH.out, if_pos trivial, ← List.append_assoc]; exact h4⟩
      case rest =>
        obtain ⟨rfl, h4⟩ := hcut
        generalize wc = w4 at *
        have le2' : (b1 ++ headB t).length ≤ 1 + (headB t).length := by rw [List.length_append]; omega
        generalize hb2 : b1 ++ headB t = b2 at *
        have B2 := Lib.hid hb2
        clear hb2 h3 a0 HH
        have hv0 := conv_u64 t.moves.length (by omega)
        have a2 := (h4.blk.cell 2).trans txC_at.2.2.1
        rw [← HM.out] at a2
        go_wp2_with fail
        refine (h4.number 2 t.moves.length (by omega) (by omega)).mono ?_
        rintro r w5 ⟨rfl, h5, _⟩
        have le3' : (b2 ++ be 2 t.moves.length).length ≤ 3 + (headB t).length := by rw [List.length_append, be_len]; omega
        generalize hb3 : b2 ++ be 2 t.moves.length = b3 at *
        have B3 := Lib.hid hb3
        clear hb3 h4 a2
        have a2 := (h5.blk.cell 2).trans txC_at.2.2.1
        rw [← HM.out] at a2
        go_wp2_with fail
        go_loopg [41] t.moves.length (fun f i wr => ∃ k, i = .int .i64 (k : Nat) ∧ k + f = t.moves.length ∧ WQ w g q q 34 (txC t mv tv ev) (b3 ++ (t.moves.take k).flatMap moveB) 0 wr)
        case atStart => exact ⟨0, rfl, by omega, by simpa using h5⟩
        case round =>
          obtain ⟨k, rfl, hkf, h6⟩ := hrel
          have HKF := Lib.hid hkf
          have hkn : k ≤ t.moves.length := by omega
          clear hkf h5 a2
          by_cases hlt : k < t.moves.length
          · cases gk with
            | zero => exact absurd HKF.out (by omega)
            | succ f =>
              --<
              obtain ⟨m, hm⟩ : ∃ m, t.moves[k]? = some m := ⟨t.moves[k], List.getElem?_eq_getElem hlt⟩
              have hrd := HRM.out.below (HBL.out _ _ h6)
              obtain ⟨g0, off, rfl, _, hc0⟩ := hrd.at0 (by omega) (by omega)
              have LL := Lib.hid (load_flat Tryz.underlying60 rfl info_move moveL_len hc0 hm)
              have HS := Lib.hid (flat_snoc moveB t.moves k m hm)
              have ml : (moveB m).length = 1 + (m.name.size + (32 + (32 + (2 + m.why.size)))) := by simp only [moveB, List.length_append, be_len, m.old.2, m.new_.2, ← Lib.size_eq]
              have le6 : (b3 ++ (t.moves.take k).flatMap moveB).length + (moveB m).length ≤ 3 + (headB t).length + (t.moves.flatMap moveB).length := by
                have := flat_le moveB t.moves (k + 1)
                rw [HS.out, List.length_append] at this
                rw [List.length_append]
                omega
              generalize hb6 : b3 ++ (t.moves.take k).flatMap moveB = b6 at *
              have B6 := Lib.hid hb6
              clear hb6 hm hc0 hrd
              go_upto_region 12 with (first | (refine wpList_load rfl rfl rfl LL.out ?_) | (refine wpList_allocAgg rfl rfl (zero_move _) ?_) | (refine wpList_storeBlk rfl rfl (vs := moveC m) rfl rfl (Blk.new _ _ _) (by rw [moveC_size, moveC_size]) (by rw [moveC_size]; exact info_move) (moveL_one _) ?_; intro w7 x7 kc zc))
              have h7 := h6.keepN (Keep.ofNew kc)
              have hyg : g < wr.heap.size := h6.lt
              generalize wr.heap.size = y at *
              clear kc zc LL h6
              have c0 := (x7.cell 0).trans (moveC_at m).1
              go_wp2_with fail
              refine (h7.text 1 m.name (by omega) (by omega)).mono ?_
              rintro r w8 ⟨rfl, h8, k8⟩
              have x8 := k8.blk x7 (by simp; omega) (by decide)
              have le8 : (b6 ++ be 1 m.name.size ++ m.name.data.toList).length = b6.length + 1 + m.name.size := by simp only [List.length_append, be_len, ← Lib.size_eq]
              generalize hb8 : b6 ++ be 1 m.name.size ++ m.name.data.toList = b8 at *
              have B8 := Lib.hid hb8
              have le8' : b8.length ≤ b6.length + 1 + m.name.size := by omega
              clear hb8 c0 x7 k8 h7 le8
              go_wp2_with (first | (refine wpList_load rfl rfl rfl (ldId_mid x8 (moveC_old m)) ?_))
              refine (h8.id m.old (by omega)).mono ?_
              rintro r w9 ⟨rfl, h9, k9⟩
              have x9 := k9.blk x8 (by simp; omega) (by decide)
              have le9' : (b8 ++ m.old.1).length ≤ b6.length + 33 + m.name.size := by simp only [List.length_append, m.old.2]; omega
              generalize hb9 : b8 ++ m.old.1 = b9 at *
              have B9 := Lib.hid hb9
              clear hb9 x8 k9 h8
              go_wp2_with (first | (refine wpList_load rfl rfl rfl (ldId_mid x9 (moveC_new m)) ?_))
              refine (h9.id m.new_ (by omega)).mono ?_
              rintro r w10 ⟨rfl, h10, k10⟩
              have x10 := k10.blk x9 (by simp; omega) (by decide)
              have le10' : (b9 ++ m.new_.1).length ≤ b6.length + 65 + m.name.size := by simp only [List.length_append, m.new_.2]; omega
              generalize hb10 : b9 ++ m.new_.1 = b10 at *
              have B10 := Lib.hid hb10
              clear hb10 x9 k10 h9
              have c65 := (x10.cell 65).trans (moveC_at m).2
              go_wp2_with fail
              refine (h10.text 2 m.why (by omega) (by omega)).mono ?_
              rintro r w11 ⟨rfl, h11, k11⟩
              go_wp2_with fail
              go_roundg f
              case measure => omega
              case rel =>
                refine ⟨k + 1, by go_num, by have := HKF.out; omega, ?_⟩
                have eqf : b3 ++ (t.moves.take (k + 1)).flatMap moveB = b10 ++ be 2 m.why.size ++ m.why.data.toList := by
                  rw [HS.out, ← B10.out, ← B9.out, ← B8.out, ← B6.out]
                  simp only [moveB, List.append_assoc]
                rw [eqf]
                exact h11
              -->
          · have ek : t.moves.take k = t.moves := List.take_of_length_le (by omega)
            rw [ek] at h6
            have le6 : (b3 ++ t.moves.flatMap moveB).length ≤ 3 + (headB t).length + (t.moves.flatMap moveB).length := by rw [List.length_append]; omega
            generalize hb6 : b3 ++ t.moves.flatMap moveB = b6 at *
            have B6 := Lib.hid hb6
            clear hb6 ek HKF
            have a3 := (h6.blk.cell 3).trans txC_at.2.2.2.1
            go_upto_if 63 with fail
            go_cut [5] (fun s5 wx => s5 = .pointer (some ⟨g, 0, none⟩) ∧ WQ w g q q 34 (txC t mv tv ev) (b6 ++ seqsB t) 0 wx)
            case first =>
              have HS := Lib.hid (show seqsB t = if t.hasSeq then seqB t.seq else [] from rfl)
              clear a3
              cases h1 : t.hasSeq
              · rw [h1] at HS
                clear h1
                go_wp2_with fail
                go_meet
                exact ⟨rfl, by rw [HS.out, if_neg (by decide), List.append_nil]; exact h6⟩
              · have hfit := seqFits HE.out h1
                rw [h1] at HS
                clear h1
                have ls : (seqsB t).length = (seqB t.seq).length := by rw [HS.out, if_pos rfl]
                have HFIT := Lib.hid hfit
                have L4 : (Instr.loadAt 31 (.pointer (some ⟨q, 4, none⟩))).run Tryz.prog wr = .ok (.agg (seqC t.seq tv)) wr := LdSeq.tx h6.blk
                rw [← HT.out] at L4
                clear hfit
                go_wp2_with (first | (refine wpList_load rfl rfl rfl L4 ?_))
                refine (wseq_any t.seq At ct q HFIT.out g q b6 0 _ h6.wt (Nat.le_refl _) h6.size (HRT.out.below (HBL.out _ _ h6)) lt1 lt2 (by omega)).mono ?_
                rintro r w7 ⟨rfl, t7, k7⟩
                have h7 := h6.next t7 k7
                go_wp2_with fail
                go_meet
                exact ⟨rfl, by rw [HS.out, if_pos trivial]; exact h7⟩
            case rest =>
              obtain ⟨rfl, h7⟩ := hcut
              generalize wc = w7 at *
              have le7' : (b6 ++ seqsB t).length ≤ 3 + (headB t).length + (t.moves.flatMap moveB).length + (seqsB t).length := by rw [List.length_append]; omega
              generalize hb7 : b6 ++ seqsB t = b7 at *
              have B7 := Lib.hid hb7
              clear hb7 h6 a3
              have hv1 := conv_u64 t.mem.length (by omega)
              have a74 := (h7.blk.cell 74).trans txC_at.2.2.2.2.2
              rw [← HEV.out] at a74
              go_wp2_with fail
              refine (h7.number 2 t.mem.length (by omega) (by omega)).mono ?_
              rintro r w8 ⟨rfl, h8, _⟩
              have le8' : (b7 ++ be 2 t.mem.length).length ≤ 5 + (headB t).length + (t.moves.flatMap moveB).length + (seqsB t).length := by rw [List.length_append, be_len]; omega
              generalize hb8 : b7 ++ be 2 t.mem.length = b8 at *
              have B8 := Lib.hid hb8
              clear hb8 h7 a74
              have a74 := (h8.blk.cell 74).trans txC_at.2.2.2.2.2
              rw [← HEV.out] at a74
              go_wp2_with fail
              go_loopg [77] t.mem.length (fun f i wr => ∃ k, i = .int .i64 (k : Nat) ∧ k + f = t.mem.length ∧ WQ w g q q 34 (txC t mv tv ev) (b8 ++ (t.mem.take k).flatMap memB) 0 wr)
              case atStart => exact ⟨0, rfl, by omega, by simpa using h8⟩
              case round =>
                obtain ⟨k, rfl, hkf, h9⟩ := hrel
                have HKF := Lib.hid hkf
                have hkn : k ≤ t.mem.length := by omega
                clear hkf h8 a74
                by_cases hlt : k < t.mem.length
                · cases gk with
                  | zero => exact absurd HKF.out (by omega)
                  | succ f =>
                    obtain ⟨m, hm⟩ : ∃ m, t.mem[k]? = some m := ⟨t.mem[k], List.getElem?_eq_getElem hlt⟩
                    have hrd := HRE.out.below (HBL.out _ _ h9)
                    obtain ⟨g0, off, rfl, _, hc0⟩ := hrd.at0 (by omega) (by omega)
                    have LL := Lib.hid (load_flat Tryz.underlying62 rfl info_mem memL_len hc0 hm)
                    have HS := Lib.hid (flat_snoc memB t.mem k m hm)
                    have hdt := HDATA.out m (List.mem_of_getElem? hm)
                    have hd1 : m.data.length ≤ 9223372036854775807 := by have := hdt.2; unfold maxLen at this; omega
                    have HDT := Lib.hid (show ∀ W, Below q w W → Reads W q 1 m.adr m.data.length (m.data.map byteV) from fun W h => hdt.1.below h)
                    have ml : (memB m).length = 32 + (4 + m.data.length) := by simp only [memB, List.length_append, be_len, m.key.2]
                    have le9 : (b8 ++ (t.mem.take k).flatMap memB).length + (memB m).length ≤ 5 + (headB t).length + (t.moves.flatMap moveB).length + (seqsB t).length + (t.mem.flatMap memB).length := by
                      have := flat_le memB t.mem (k + 1)
                      rw [HS.out, List.length_append] at this
                      rw [List.length_append]
                      omega
                    generalize hb9 : b8 ++ (t.mem.take k).flatMap memB = b9 at *
                    have B9 := Lib.hid hb9
                    clear hb9 hm hc0 hrd hdt
                    go_upto_region 23 with (first | (refine wpList_load rfl rfl rfl LL.out ?_) | (refine wpList_allocAgg rfl rfl (zero_mem _) ?_) | (refine wpList_storeBlk rfl rfl (vs := memC m) rfl rfl (Blk.new _ _ _) (by rw [memC_size, memC_size]) (by rw [memC_size]; exact info_mem) (memL_one _) ?_; intro w10 x10 kc zc))
                    have h10 := h9.keepN (Keep.ofNew kc)
                    have hyg : g < wr.heap.size := h9.lt
                    generalize wr.heap.size = y at *
                    clear kc zc LL h9
                    go_wp2_with (first | (refine wpList_load rfl rfl rfl (ldId_mid x10 (memC_id m)) ?_))
                    refine (h10.id m.key (by omega)).mono ?_
                    rintro r w11 ⟨rfl, h11, k11⟩
                    have x11 := k11.blk x10 (by simp; omega) (by decide)
                    have le11 : (b9 ++ m.key.1).length ≤ b9.length + 32 := by simp only [List.length_append, m.key.2]; omega
                    generalize hb11 : b9 ++ m.key.1 = b11 at *
                    have B11 := Lib.hid hb11
                    clear hb11 x10 k11 h10
                    have c32 := (x11.cell 32).trans (memC_at m)
                    have rd := HDT.out _ (HBL.out _ _ h11)
                    go_wp2_with (first | (refine wpList_convStr rfl rfl Tryz.underlying36 Tryz.underlying5 Tryz.underlying9 (l := m.data) rfl rd ?_))
                    have es : (⟨m.data.toArray⟩ : ByteArray).size = m.data.length := by simp [ByteArray.size]
                    refine (h11.text 4 ⟨m.data.toArray⟩ (by omega) (by rw [es]; omega)).mono ?_
                    rintro r w12 ⟨rfl, h12, _⟩
                    rw [es] at h12
                    clear es
                    go_wp2_with fail
                    go_roundg f
                    case measure => omega
                    case rel =>
                      refine ⟨k + 1, by go_num, by have := HKF.out; omega, ?_⟩
                      have eqf : b8 ++ (t.mem.take (k + 1)).flatMap memB = b11 ++ be 4 m.data.length ++ m.data := by
                        rw [HS.out, ← B11.out, ← B9.out]
                        simp only [memB, List.append_assoc]
                      rw [eqf]
                      simpa using h12
                · have ek : t.mem.take k = t.mem := List.take_of_length_le (by omega)
                  rw [ek] at h9
                  go_wp2_with fail
                  refine (wdone_any g q _ 0 _ h9.wt).mono ?_
                  rintro r w10 ⟨A, c, rfl, ho, k10⟩
                  have hdn : doneL (b8 ++ t.mem.flatMap memB) 0 = encTxB t := by
                    show (if (0 : Int) = 0 then _ else _) = _
                    rw [if_pos rfl, HL.out, ← B8.out, ← B7.out, ← B6.out, ← B3.out, ← B2.out, ← B1.out]
                    simp only [List.append_assoc]
                  rw [hdn] at ho ⊢
                  clear hdn hlen
                  have kf : Below q w w10 := (HBL.out _ _ h9).trans (k10.all.mono h9.size)
                  go_wp2_with fail
                  go_ret2
                  rw [HP.out]
                  exact ⟨A, c, rfl, ho, kf⟩
  · have h01 : (wrongE t != 0) = true := by simpa using he
    have HP := Lib.hid (show EncTxPost t w = fun r w' => ∃ A c, r = .returned (.tuple #[.slice A 0 c, .int .i64 (wrongE t)]) ∧ Own w' w.heap.size 5 1 A 0 c [] ∧ Below w.heap.size w w' from by unfold EncTxPost encTx; rw [if_neg he]; rfl)
    clear he
    go_wp2_with fail
    go_ret2
    rw [HP.out]
    exact ⟨none, 0, rfl, Own.nil _ _ _ _, kk1.all⟩
end Go.Proofs.YtppmolneklidfaaGreat
