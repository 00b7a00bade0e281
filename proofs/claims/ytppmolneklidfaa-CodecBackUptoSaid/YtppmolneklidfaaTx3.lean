/-
  Contract of the writer's seq. No statement of the seat is proved here.
-/
import Derived.Test.YtppmolneklidfaaTx2
namespace Go.Proofs.Ytppmolneklidfaa
open Go.RowKit

/-! ### A writer beside a struct's variable -/
structure WQ (w : World) (g base x : Nat) (T : TypeId) (cs : Array Value) (bs : List UInt8) (e : Int) (wr : World) : Prop where
  wt : Wt wr g base bs e
  blk : Blk wr x T cs
  kept : Kept base [5] [g] w wr
  size : base ≤ wr.heap.size
  nt : T ≠ 5
  nw : T ≠ 92
section
variable {w : World} {g base x : Nat} {T : TypeId} {cs : Array Value} {bs : List UInt8} {e : Int} {wr w' : World}
theorem WQ.ne_ (h : WQ w g base x T cs bs e wr) : x ≠ g := by
  obtain ⟨A, c, hb, _⟩ := h.wt
  exact h.blk.ne_ hb h.nw
theorem WQ.base_le (h : WQ w g base x T cs bs e wr) : base ≤ g := by
  obtain ⟨A, c, _, _, hb⟩ := h.wt
  exact hb
theorem WQ.lt (h : WQ w g base x T cs bs e wr) : g < wr.heap.size := by
  obtain ⟨A, c, hb, _⟩ := h.wt
  exact hb.lt
theorem WQ.next {bs' : List UInt8} (h : WQ w g base x T cs bs e wr) (ht : Wt w' g base bs' e) (hk : Kept base [5] [g] wr w') : WQ w g base x T cs bs' e w' :=
  ⟨ht, hk.blk h.blk (by simpa using h.ne_) (by simpa using h.nt), h.kept.trans hk, Nat.le_trans h.size hk.size, h.nt, h.nw⟩
theorem WQ.number (h : WQ w g base x T cs bs e wr) (n v : Nat) (hn : n ≤ 8) (hsz : bs.length + n ≤ 140737488355328) :
    Calls Try.prog 42 #[.pointer (some ⟨g, 0, none⟩), .int .i64 n, .int .u64 v] wr fun r w' => r = .returned (.tuple #[]) ∧ WQ w g base x T cs (bs ++ be n v) e w' ∧ Kept base [5] [g] wr w' :=
  (wnumber_any n v hn g base bs e wr h.wt hsz h.size).mono fun _ _ ⟨h1, h2, h3⟩ => ⟨h1, h.next h2 h3, h3⟩
theorem WQ.text (h : WQ w g base x T cs bs e wr) (n : Nat) (s : ByteArray) (hn : n ≤ 8) (hsz : bs.length + n + s.size ≤ 140737488355328) :
    Calls Try.prog 43 #[.pointer (some ⟨g, 0, none⟩), .int .i64 n, .string s] wr fun r w' => r = .returned (.tuple #[]) ∧ WQ w g base x T cs (bs ++ be n s.size ++ s.data.toList) e w' ∧ Kept base [5] [g] wr w' :=
  (wtext_any n s hn g base bs e wr h.wt hsz h.size).mono fun _ _ ⟨h1, h2, h3⟩ => ⟨h1, h.next h2 h3, h3⟩
theorem WQ.id (h : WQ w g base x T cs bs e wr) (i : Id) (hsz : bs.length + 32 ≤ 140737488355328) :
    Calls Try.prog 44 #[.pointer (some ⟨g, 0, none⟩), idV i] wr fun r w' => r = .returned (.tuple #[]) ∧ WQ w g base x T cs (bs ++ i.1) e w' ∧ Kept base [5] [g] wr w' :=
  (wid_any i g base bs e wr h.wt hsz h.size).mono fun _ _ ⟨h1, h2, h3⟩ => ⟨h1, h.next h2 h3, h3⟩
theorem Wt.keepN (h : Wt wr g base bs e) (k : Keep Nothing wr w') : Wt w' g base bs e := by
  obtain ⟨A, c, hb, ho, hg⟩ := h
  exact ⟨A, c, hb.keep k (fun x => x), ho.kept (b' := 0) (E := []) (G := []) (Kept.ofKeep k (by unfold Nothing; simp)) (by simp) (by simp), hg⟩
theorem WQ.keepN (h : WQ w g base x T cs bs e wr) (k : Keep Nothing wr w') : WQ w g base x T cs bs e w' := h.next (h.wt.keepN k) (Kept.ofKeep k (by unfold Nothing; simp))
theorem WQ.below {B : Nat} (h : WQ w g base x T cs bs e wr) (hB : B ≤ base) (hz : B ≤ w.heap.size) : Below B w wr := h.kept.below hB hz (by have := h.base_le; simp; omega)
end
theorem conv_u64 (n : Nat) (h : n ≤ 9223372036854775807) : IntKind.u64.wrap (n : Int) = (n : Int) := by
  simp [IntKind.wrap, IntKind.signed, IntKind.bits]
  omega
theorem nat_of {n : Int} (h : 0 ≤ n) : ∃ k : Nat, n = (k : Int) ∧ n.toNat = k := ⟨n.toNat, (Int.toNat_of_nonneg h).symm, rfl⟩

/-! ### Plain -/
def todoB (x : TodoD) : List UInt8 := be 1 x.act.toNat ++ x.id.1
def seqB (q : SeqD) : List UInt8 := be 1 q.kind.toNat ++ if q.kind = 0 then [] else be 1 q.branch.size ++ (q.branch.data.toList ++ (q.orig.1 ++ (q.cur.1 ++ (be 2 q.todo.length ++ (q.todo.flatMap todoB ++ (be 2 q.done.toNat ++ (be 2 q.made.toNat ++ be 1 (if q.stopped then 1 else 0))))))))
theorem todoB_len (x : TodoD) : (todoB x).length = 33 := by simp [todoB, be_len, x.id.2]
theorem flat33 {α : Type} {f : α → List UInt8} {C : Nat} (hf : ∀ a, (f a).length = C) (l : List α) : (l.flatMap f).length = l.length * C := by
  induction l with
  | nil => simp
  | cons x l ih => rw [List.flatMap_cons, List.length_append, hf, ih, List.length_cons, Nat.succ_mul, Nat.add_comm]
theorem flat_snoc {α β : Type} (f : α → List β) (l : List α) (k : Nat) (x : α) (h : l[k]? = some x) : (l.take (k + 1)).flatMap f = (l.take k).flatMap f ++ f x := by
  rw [List.take_add_one, h]
  simp
/-- What the numbers of a sequence must be to be written. -/
structure SeqFits (q : SeqD) : Prop where
  kind : 0 ≤ q.kind ∧ q.kind ≤ 255
  nums : q.kind ≠ 0 → 0 ≤ q.done ∧ q.done ≤ 65535 ∧ 0 ≤ q.made ∧ q.made ≤ 65535 ∧ ∀ x ∈ q.todo, 0 ≤ x.act ∧ x.act ≤ 255

theorem seqC_ids (q : SeqD) (tv : Value) : idC q.orig = (seqC q tv).extract 2 (2 + (idC q.orig).size) ∧ idC q.cur = (seqC q tv).extract 34 (34 + (idC q.cur).size) := by
  have h1 := idL_len q.orig
  have h2 := idL_len q.cur
  constructor
  · apply Array.ext'
    simp [seqC, seqL, idC, h1]
  · apply Array.ext'
    simp [seqC, seqL, idC, h1, h2]
/-- A load of an Id in the middle of a known block. -/
theorem ldId_mid {w : World} {g off : Nat} {t : TypeId} {cs : Array Value} {i : Id} (h : Blk w g t cs) (hi : idC i = cs.extract off (off + (idC i).size)) : (Instr.loadAt 42 (.pointer (some ⟨g, off, none⟩))).run Try.prog w = .ok (idV i) w :=
  run_loadAt_blk (P := Try.prog) h off (idC i) Try.underlying42 rfl (by rw [idC_size]; exact info42) hi

set_option maxHeartbeats 4000000 in
set_option maxRecDepth 100000 in
theorem wseq_any (q : SeqD) (A : Option Addr) (c B : Nat) (hf : SeqFits q) (g base : Nat) (bs : List UInt8) (e : Int) (w : World) (hw : Wt w g base bs e) (hB : B ≤ base) (hbz : base ≤ w.heap.size)
    (hr : Reads w B 33 A q.todo.length (todoLs q.todo)) (hc : q.todo.length ≤ c) (hcm : c ≤ 9223372036854775807) (hsz : bs.length + (seqB q).length ≤ 140737488355328) :
    Calls Try.prog 74 #[.pointer (some ⟨g, 0, none⟩), .agg (seqC q (.slice A q.todo.length c))] w (WtPost w g base (bs ++ seqB q) e) := by
  have h0 : WQ w g base w.heap.size 67 (seqC q (.slice A q.todo.length c)) bs e (w.alloc (.cells (seqC q (.slice A q.todo.length c)) 67)) := by
    have kn : Keep Nothing w (w.alloc (.cells (seqC q (.slice A q.todo.length c)) 67)) := (Keep.refl _ _).alloc _
    exact ⟨hw.keepN kn, Blk.new _ _ _, Kept.ofKeep kn (by unfold Nothing; simp), Nat.le_trans hbz kn.size, by decide, by decide⟩
  obtain ⟨kn, hkn, hkt⟩ := nat_of hf.kind.1
  have hk2 : kn ≤ 255 := by have := hf.kind.2; omega
  have HK := Lib.hid hkn
  have HKT := Lib.hid hkt
  clear hkn hkt
  have hv0 := conv_u64 kn (by omega)
  have HSB := Lib.hid (show seqB q = be 1 q.kind.toNat ++ if q.kind = 0 then [] else be 1 q.branch.size ++ (q.branch.data.toList ++ (q.orig.1 ++ (q.cur.1 ++ (be 2 q.todo.length ++ (q.todo.flatMap todoB ++ (be 2 q.done.toNat ++ (be 2 q.made.toNat ++ be 1 (if q.stopped then 1 else 0)))))))) from rfl)
  have hlb : 1 ≤ (seqB q).length := by rw [HSB.out]; simp [be_len]
  have HR := Lib.hid hr
  clear hw hr
  have HBL := Lib.hid (show ∀ bs' W, WQ w g base w.heap.size 67 (seqC q (.slice A q.todo.length c)) bs' e W → Below B w W from fun _ _ h => h.below hB (by omega))
  go_enter Try.func74, Try.ntmps74
  go_upto_region 1 with (first | (refine wpList_boxed rfl rfl (cs := seqC q _) rfl ?_))
  generalize w.alloc (.cells (seqC q (.slice A q.todo.length c)) 67) = w0 at *
  generalize w.heap.size = x at *
  have c0 := (h0.blk.cell 0).trans (seqC_at _ _).1
  rw [HK.out] at c0
  go_wp2_with fail
  refine (h0.number 1 kn (by omega) (by omega)).mono ?_
  rintro r w1 ⟨rfl, h1, _⟩
  clear c0
  have c0 := (h1.blk.cell 0).trans (seqC_at _ _).1
  rw [HK.out] at c0
  by_cases hk0 : kn = 0
  · subst hk0
    go_wp2_with fail
    go_end0
    refine ⟨rfl, ?_, h1.kept⟩
    rw [HSB.out, HKT.out, if_pos (by rw [HK.out]; rfl), List.append_nil]
    exact h1.wt
  · have d0 : ((kn : Int) == 0) = false := beq_eq_false_iff_ne.2 (by omega)
    obtain ⟨hd1, hd2, hm1, hm2, hact⟩ := hf.nums (by rw [HK.out]; omega)
    obtain ⟨dn, hdn, hdt⟩ := nat_of hd1
    obtain ⟨mn, hmn, hmt⟩ := nat_of hm1
    have dn2 : dn ≤ 65535 := by omega
    have mn2 : mn ≤ 65535 := by omega
    have HD := Lib.hid hdn
    have HDT := Lib.hid hdt
    have HM := Lib.hid hmn
    have HMT := Lib.hid hmt
    have HACT := Lib.hid hact
    clear hdn hdt hmn hmt hact hd1 hd2 hm1 hm2 hf
    have hv1 := conv_u64 dn (by omega)
    have hv2 := conv_u64 mn (by omega)
    have hv3 := conv_u64 q.todo.length (by omega)
    have HB2 := Lib.hid (show seqB q = be 1 kn ++ (be 1 q.branch.size ++ (q.branch.data.toList ++ (q.orig.1 ++ (q.cur.1 ++ (be 2 q.todo.length ++ (q.todo.flatMap todoB ++ (be 2 dn ++ (be 2 mn ++ be 1 (if q.stopped then 1 else 0))))))))) from by rw [HSB.out, if_neg (by rw [HK.out]; omega), HKT.out, HDT.out, HMT.out])
    have hlen : (seqB q).length = 1 + (1 + (q.branch.size + (32 + (32 + (2 + (q.todo.length * 33 + (2 + (2 + 1)))))))) := by
      rw [HB2.out]
      simp only [List.length_append, be_len, flat33 todoB_len, q.orig.2, q.cur.2, ← Lib.size_eq]
    generalize hsl : (seqB q).length = sl at *
    clear hsl HSB c0
    have l1 : (bs ++ be 1 kn).length = bs.length + 1 := by simp [be_len]
    generalize hb1 : bs ++ be 1 kn = b1 at *
    have c1 := (h1.blk.cell 1).trans (seqC_at _ _).2.1
    have c0 := (h1.blk.cell 0).trans (seqC_at _ _).1
    rw [HK.out] at c0
    have L1 := Lib.hid l1
    have B1 := Lib.hid hb1
    have le1 : b1.length ≤ bs.length + 1 := by omega
    clear hb1 l1
    go_wp2_with fail
    refine (h1.text 1 q.branch (by omega) (by omega)).mono ?_
    rintro r w2 ⟨rfl, h2, _⟩
    have le2 : (b1 ++ be 1 q.branch.size ++ q.branch.data.toList).length ≤ bs.length + 2 + q.branch.size := by simp only [List.length_append, be_len, ← Lib.size_eq]; omega
    generalize hb2 : b1 ++ be 1 q.branch.size ++ q.branch.data.toList = b2 at *
    have B2 := Lib.hid hb2
    clear hb2 c1 c0
    go_wp2_with (first | (refine wpList_load rfl rfl rfl (ldId_mid h2.blk (seqC_ids _ _).1) ?_))
    refine (h2.id q.orig (by omega)).mono ?_
    rintro r w3 ⟨rfl, h3, _⟩
    have le3 : (b2 ++ q.orig.1).length ≤ bs.length + 34 + q.branch.size := by simp only [List.length_append, q.orig.2]; omega
    generalize hb3 : b2 ++ q.orig.1 = b3 at *
    have B3 := Lib.hid hb3
    clear hb3
    go_wp2_with (first | (refine wpList_load rfl rfl rfl (ldId_mid h3.blk (seqC_ids _ _).2) ?_))
    refine (h3.id q.cur (by omega)).mono ?_
    rintro r w4 ⟨rfl, h4, _⟩
    have le4 : (b3 ++ q.cur.1).length ≤ bs.length + 66 + q.branch.size := by simp only [List.length_append, q.cur.2]; omega
    generalize hb4 : b3 ++ q.cur.1 = b4 at *
    have B4 := Lib.hid hb4
    clear hb4
    have c66 := (h4.blk.cell 66).trans (seqC_at _ _).2.2.1
    go_wp2_with fail
    refine (h4.number 2 q.todo.length (by omega) (by omega)).mono ?_
    rintro r w5 ⟨rfl, h5, _⟩
    have le5 : (b4 ++ be 2 q.todo.length).length ≤ bs.length + 68 + q.branch.size := by simp only [List.length_append, be_len]; omega
    generalize hb5 : b4 ++ be 2 q.todo.length = b5 at *
    have B5 := Lib.hid hb5
    clear hb5 c66
    have c66 := (h5.blk.cell 66).trans (seqC_at _ _).2.2.1
    go_wp2_with fail
    go_loopg [35] q.todo.length (fun f i wr => ∃ k, i = .int .i64 (k : Nat) ∧ k + f = q.todo.length ∧ WQ w g base x 67 (seqC q (.slice A q.todo.length c)) (b5 ++ (q.todo.take k).flatMap todoB) e wr)
    case atStart => exact ⟨0, rfl, by omega, by simpa using h5⟩
    case round =>
      obtain ⟨k, rfl, hkf, h6⟩ := hrel
      have HKF := Lib.hid hkf
      have hkn : k ≤ q.todo.length := by omega
      clear hkf h5 c66 h4 h3 h2 h1 h0
      by_cases hlt : k < q.todo.length
      · cases gk with
        | zero => exact absurd HKF.out (by omega)
        | succ f =>
          obtain ⟨m, hm⟩ : ∃ m, q.todo[k]? = some m := ⟨q.todo[k], List.getElem?_eq_getElem hlt⟩
          have hrd := HR.out.below (HBL.out _ _ h6)
          obtain ⟨g0, off, rfl, _, hc0⟩ := hrd.at0 (by omega) (by omega)
          have LL := Lib.hid (load_flat Try.underlying82 rfl info_todo todoL_len hc0 hm)
          have HS := Lib.hid (flat_snoc todoB q.todo k m hm)
          obtain ⟨an, han, hat⟩ := nat_of (HACT.out m (List.mem_of_getElem? hm)).1
          have an2 : an ≤ 255 := by have := (HACT.out m (List.mem_of_getElem? hm)).2; omega
          have HA := Lib.hid han
          have HAT := Lib.hid hat
          have hv4 := conv_u64 an (by omega)
          have le6 : (b5 ++ (q.todo.take k).flatMap todoB).length ≤ bs.length + 68 + q.branch.size + k * 33 := by rw [List.length_append, flat33 todoB_len, List.length_take]; have : min k q.todo.length * 33 ≤ k * 33 := Nat.mul_le_mul_right _ (Nat.min_le_left _ _); omega
          generalize hb6 : b5 ++ (q.todo.take k).flatMap todoB = b6 at *
          have B6 := Lib.hid hb6
          clear hb6 han hat hm hc0 hrd
          go_upto_region 10 with (first | (refine wpList_load rfl rfl rfl LL.out ?_) | (refine wpList_allocAgg rfl rfl (zero_todo _) ?_) | (refine wpList_storeBlk rfl rfl (vs := todoC m) rfl rfl (Blk.new _ _ _) (by rw [todoC_size, todoC_size]) (by rw [todoC_size]; exact info_todo) (todoL_one _) ?_; intro w7 x7 kc zc))
          have h7 := h6.keepN (Keep.ofNew kc)
          have hyg : g < wr.heap.size := h6.lt
          generalize wr.heap.size = y at *
          clear kc zc LL h6
          have c0 := (x7.cell 0).trans (todoC_at m)
          rw [HA.out] at c0
          go_wp2_with fail
          refine (h7.number 1 an (by omega) (by omega)).mono ?_
          rintro r w8 ⟨rfl, h8, k8⟩
          have x8 := k8.blk x7 (by simp; omega) (by decide)
          have le8 : (b6 ++ be 1 an).length ≤ bs.length + 69 + q.branch.size + k * 33 := by rw [List.length_append, be_len]; omega
          generalize hb8 : b6 ++ be 1 an = b8 at *
          have B8 := Lib.hid hb8
          clear hb8 c0 x7 k8 h7
          go_wp2_with (first | (refine wpList_load rfl rfl rfl (ldId_mid x8 (todoC_id m)) ?_))
          refine (h8.id m.id (by omega)).mono ?_
          rintro r w9 ⟨rfl, h9, _⟩
          go_wp2_with fail
          go_roundg f
          case measure => omega
          case rel =>
            refine ⟨k + 1, by go_num, by have := HKF.out; omega, ?_⟩
            rw [HS.out, show todoB m = be 1 an ++ m.id.1 from by unfold todoB; rw [HAT.out], ← List.append_assoc, ← List.append_assoc, B6.out, B8.out]
            exact h9
      · have ek : q.todo.take k = q.todo := List.take_of_length_le (by omega)
        rw [ek] at h6
        have le6 : (b5 ++ q.todo.flatMap todoB).length ≤ bs.length + 68 + q.branch.size + q.todo.length * 33 := by rw [List.length_append, flat33 todoB_len]; omega
        generalize hb6 : b5 ++ q.todo.flatMap todoB = b6 at *
        have B6 := Lib.hid hb6
        clear hb6 ek
        have c67 := (h6.blk.cell 67).trans (seqC_at _ _).2.2.2.1
        rw [HD.out] at c67
        go_wp2_with fail
        refine (h6.number 2 dn (by omega) (by omega)).mono ?_
        rintro r w7 ⟨rfl, h7, _⟩
        have le7 : (b6 ++ be 2 dn).length ≤ bs.length + 70 + q.branch.size + q.todo.length * 33 := by rw [List.length_append, be_len]; omega
        generalize hb7 : b6 ++ be 2 dn = b7 at *
        have B7 := Lib.hid hb7
        clear hb7 c67 h6
        have c68 := (h7.blk.cell 68).trans (seqC_at _ _).2.2.2.2.1
        rw [HM.out] at c68
        go_wp2_with fail
        refine (h7.number 2 mn (by omega) (by omega)).mono ?_
        rintro r w8 ⟨rfl, h8, _⟩
        have le8 : (b7 ++ be 2 mn).length ≤ bs.length + 72 + q.branch.size + q.todo.length * 33 := by rw [List.length_append, be_len]; omega
        generalize hb8 : b7 ++ be 2 mn = b8 at *
        have B8 := Lib.hid hb8
        clear hb8 c68 h7
        have c69 := (h8.blk.cell 69).trans (seqC_at _ _).2.2.2.2.2
        go_wp2_with fail
        refine (truth_any q.stopped 1 _).mono ?_
        rintro r w9 ⟨rfl, rfl⟩
        have et : (if q.stopped then (1 : Int) else 0) = (((if q.stopped then 1 else 0 : Nat) : Nat) : Int) := by cases q.stopped <;> rfl
        rw [et]
        clear et
        generalize hsn : (if q.stopped then 1 else 0 : Nat) = sn at *
        have HSN := Lib.hid hsn
        clear hsn
        go_wp2_with fail
        refine (h8.number 1 sn (by omega) (by omega)).mono ?_
        rintro r w10 ⟨rfl, h10, _⟩
        go_wp2_with fail
        go_end0
        refine ⟨rfl, ?_, h10.kept⟩
        have eqf : bs ++ seqB q = b8 ++ be 1 sn := by
          rw [HB2.out, ← B8.out, ← B7.out, ← B6.out, ← B5.out, ← B4.out, ← B3.out, ← B2.out, ← B1.out]
          simp only [List.append_assoc]
        rw [eqf]
        exact h10.wt
end Go.Proofs.Ytppmolneklidfaa
