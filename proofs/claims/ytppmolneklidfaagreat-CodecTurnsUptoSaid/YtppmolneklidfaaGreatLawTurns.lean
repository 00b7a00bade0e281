/-
  CodecTurns (second form): trees, commits, objects, transactions as bytes, with some turned, cut off or laid behind, are read as the document says. Condition: the arguments' bulk is at most 1048576.
-/
import Derived.Test.YtppmolneklidfaaGreatZ37
import Derived.Test.YtppmolneklidfaaGreatZ21
import Derived.Test.YtppmolneklidfaaGreatZ38
import Derived.Test.YtppmolneklidfaaGreatZ07
import Derived.JoinedCond
import Derived.Deep.DeepCutAuto
import Derived.Deep.RegionHeld3
namespace Go.Proofs.YtppmolneklidfaaGreat
open Go.ChangeShapes Go.WideShapes Go.ChangeAt Go.RowKit

/-! ### Lengths -/
theorem encGo_len : ∀ (l : List Ent) (e : Int) (was : ByteArray) (first : Bool) (bs : List UInt8), (encGo e was first bs l).1.length ≤ bs.length + l.length * 74
  | [], _, _, _, bs => by simp [encGo]
  | x :: l, e, was, first, bs => by
    rw [encGo]
    split
    · rename_i h
      have h1 := (entE_zero h).2.2.1
      simp only [nameOk, Bool.and_eq_true, decide_eq_true_eq] at h1
      have h2 := h1.2.1
      have h3 : x.name.size ≤ 40 := by rw [show x.name.size = x.name.data.toList.length from Array.length_toList.symm]; exact h2
      have h4 : (entB x).length = 34 + x.name.size := by simp only [entB, List.length_append, be_len, x.id.2, show x.name.data.toList.length = x.name.size from Array.length_toList]; omega
      have h5 := encGo_len l 0 x.name false (bs ++ entB x)
      rw [List.length_append] at h5
      rw [List.length_cons]
      omega
    · rw [List.length_cons]
      show bs.length ≤ _
      omega
theorem encTree_le (l : List Ent) : (encTree l).1.length ≤ l.length * 74 := by
  have h := encGo_len l (note 0 (decide ((l.length : Int) ≤ 512)) 4) ByteArray.empty true []
  rw [encTree]
  simp only [doneL]
  split
  · simpa using h
  · simp
theorem ecGo_len' : ∀ (l : List Id) (e : Int) (bs : List UInt8) (pre : List Id), (ecGo e bs pre l).2.length = bs.length + l.length * 32
  | [], _, _, _ => by simp [ecGo]
  | p :: l, e, bs, pre => by
    rw [ecGo, ecGo_len' l, List.length_append, p.2, List.length_cons]
    omega
theorem encCommit_le (d : ComD) (h : d.parents.length ≤ 50) : (encCommit d).1.length ≤ 5000 := by
  rw [encCommit]
  split
  · rename_i h0
    rw [ecE, note_zero (by decide), note_zero (by decide)] at h0
    have h1 := of_decide_eq_true h0.2
    have h2 := of_decide_eq_true h0.1.2
    have h3 : (ecP d).2.length ≤ 33 + 50 * 32 := by
      rw [ecP, ecGo_len', List.length_append, be_len, d.tree.2]
      omega
    simp only [List.length_append, be_len, show d.author.data.toList.length = d.author.size from Array.length_toList, show d.msg.data.toList.length = d.msg.size from Array.length_toList]
    omega
  · simp
theorem encObj_le (e k : Int) (b : List UInt8) : (encObj e k b).1.length ≤ b.length + 5 := by
  rw [encObj]
  split
  · simp only [List.length_cons, List.length_append, be_len]; omega
  · simp
theorem encTxB_small {t : TxD} (h : TxSmall 1048576 t) : (encTxB t).length ≤ 5000000000000 := by
  have h1 : (headB t).length ≤ 1048577 := by
    unfold headB
    split
    · simp only [List.length_append, be_len, ← Lib.size_eq]; have := h.head; omega
    · simp
  have h2 : (t.moves.flatMap moveB).length ≤ t.moves.length * 2098000 := flatMap_le _ (fun m hm => by
    have := h.move m hm
    simp only [moveB, List.length_append, be_len, m.old.2, m.new_.2, ← Lib.size_eq]
    omega)
  have h3 : (t.mem.flatMap memB).length ≤ t.mem.length * 2098000 := flatMap_le _ (fun m hm => by
    have := h.data m hm
    simp only [memB, List.length_append, be_len, m.key.2]
    omega)
  have h4 : (seqsB t).length ≤ 36000000 := by
    unfold seqsB
    split
    · exact seqB_le h.seq
    · simp
  have h5 : t.moves.length * 2098000 ≤ 1048576 * 2098000 := Nat.mul_le_mul_right _ h.moves
  have h6 : t.mem.length * 2098000 ≤ 1048576 * 2098000 := Nat.mul_le_mul_right _ h.mem
  unfold encTxB
  simp only [List.length_append, be_len]
  omega
theorem encTx_le {t : TxD} (h : TxSmall 1048576 t) : (encTx t).1.length ≤ 5000000000000 := by
  rw [encTx]
  split
  · exact encTxB_small h
  · simp
/-! ### Rows of the call's own -/
theorem Own.front {w : World} {base : Nat} {e : TypeId} {A : Option Addr} {n c k : Nat} {l : List UInt8} (h : Own w base e 1 A n c (l.map bv)) (hk : k ≤ n) : Own w base e 1 A k c ((l.take k).map bv) := by
  obtain ⟨h1, h2⟩ := h
  rw [List.length_map, Nat.mul_one] at h1
  refine ⟨by rw [List.length_map, List.length_take]; omega, ?_⟩
  rcases h2 with ⟨h3, h4⟩ | ⟨g, cap, cur, h3, h4, h5, h6, h7, h8, h9⟩
  · injection h3 with e1 e2 e3
    subst e1 e2 e3
    exact .inl ⟨by rw [show k = 0 by omega], by omega⟩
  · injection h3 with e1 e2 e3
    subst e1 e3
    refine .inr ⟨g, c, cur, rfl, h4, h5, by omega, h7, h8, ?_⟩
    rw [Nat.mul_one] at h9 ⊢
    rw [List.map_take, ← h9, List.take_take, Nat.min_eq_left hk]
theorem Own.adr {w : World} {base : Nat} {e : TypeId} {A : Option Addr} {n c : Nat} {xs : List Value} (h : Own w base e 1 A n c xs) (hn : 0 < n) : ∃ g, A = some ⟨g, 0, none⟩ ∧ base ≤ g := by
  rcases h.2 with ⟨_, h4⟩ | ⟨g, cap, cur, h3, h4, _⟩
  · omega
  · injection h3 with e1
    exact ⟨g, e1, h4⟩
theorem Own.put {w : World} {base g : Nat} {e : TypeId} {n c : Nat} {l : List UInt8} (h : Own w base e 1 (some ⟨g, 0, none⟩) n c (l.map bv)) (k : Nat) (x : UInt8) :
    Own (w.setCell ⟨g, k, none⟩ (bv x)) base e 1 (some ⟨g, 0, none⟩) n c ((l.set k x).map bv) ∧ Kept base [e] [] w (w.setCell ⟨g, k, none⟩ (bv x)) := by
  have h1 := World.ownsRow.stored h k (bv x)
  refine ⟨?_, Kept.of_grown h h1.2 (by simp)⟩
  rw [List.map_set]
  exact h1.1

theorem Own.putv {w : World} {base g : Nat} {e : TypeId} {n c : Nat} {l : List UInt8} (h : Own w base e 1 (some ⟨g, 0, none⟩) n c (l.map bv)) (k : Nat) (x : UInt8) {v : Value} (hv : v = bv x) :
    Own (w.setCell ⟨g, k, none⟩ v) base e 1 (some ⟨g, 0, none⟩) n c ((l.set k x).map bv) ∧ Kept base [e] [] w (w.setCell ⟨g, k, none⟩ v) := by
  subst hv
  exact Own.put h k x
theorem u8_sum (a b : UInt8) : ((a.toNat : Int) + (b.toNat : Int)) % 256 = ((a + b).toNat : Int) := by
  rw [UInt8.toNat_add]
  simp
theorem tx0_small : TxSmall 1048576 tx0 := ⟨Nat.zero_le _, Nat.zero_le _, Nat.zero_le _, fun m hm => by simp [tx0] at hm, fun m hm => by simp [tx0] at hm, ⟨Nat.zero_le _, Nat.zero_le _, by decide, by decide, by decide, fun m hm => by simp [tx0, noSeq] at hm⟩⟩
structure TurnsIn (w : World) (q : Nat) (l : List Ent) (Al : Option Addr) (d : ComD) (Ad : Option Addr) (cd : Nat) (t : TxD) (mv tv ev : Value) (at_ : List Int) (Aa : Option Addr) (by_ : List UInt8) (Ay : Option Addr) (more : List UInt8) (Am : Option Addr) : Prop where
  ents : Reads w w.heap.size 34 Al l.length (entLs l)
  pars : Reads w w.heap.size 32 Ad d.parents.length (idLs d.parents)
  tx : TxIn w w.heap.size t mv tv ev
  ats : Reads w w.heap.size 1 Aa at_.length (at_.map (Value.int .i64))
  bys : Reads w w.heap.size 1 Ay by_.length (by_.map bv)
  mores : Reads w w.heap.size 1 Am more.length (more.map bv)
  com : Blk w q 27 (comC d.tree (.slice Ad d.parents.length cd) d.author d.time d.msg)
  box : Blk w (q + 1) 34 (txC t mv tv ev)
theorem TurnsIn.below {w w' : World} {q : Nat} {l : List Ent} {Al : Option Addr} {d : ComD} {Ad : Option Addr} {cd : Nat} {t : TxD} {mv tv ev : Value} {at_ : List Int} {Aa : Option Addr} {by_ : List UInt8} {Ay : Option Addr} {more : List UInt8} {Am : Option Addr} (h : TurnsIn w q l Al d Ad cd t mv tv ev at_ Aa by_ Ay more Am) (k : Below w.heap.size w w') : TurnsIn w' q l Al d Ad cd t mv tv ev at_ Aa by_ Ay more Am :=
  ⟨(h.ents.below k).more k.size, (h.pars.below k).more k.size, (h.tx.below k).more k.size, (h.ats.below k).more k.size, (h.bys.below k).more k.size, (h.mores.below k).more k.size, h.com.below k h.com.lt, h.box.below k h.box.lt⟩
def I64t (a : Int) : Prop := -9223372036854775808 ≤ a ∧ a ≤ 9223372036854775807
/-- Row n of the four: bytes. -/
def RowAt (w : World) (R n : Nat) : Prop := ∃ (x : List UInt8) (A : Option Addr) (c : Nat), w.cell? ⟨R, n, none⟩ = some (.slice A x.length c) ∧ Reads w w.heap.size 1 A x.length (x.map bv) ∧ x.length ≤ 5000000000000
attribute [local go_sem ↓] ld_tx bd_tx bd_com
set_option maxHeartbeats 16000000 in
set_option maxRecDepth 100000 in
theorem turns_walk (l : List Ent) (d : ComD) (t : TxD) (at_ : List Int) (by_ : List UInt8) (cut : Int) (more : List UInt8) (Al Ad Aa Ay Am : Option Addr) (cl cd ca cy cm : Nat) (mv tv ev : Value) (w : World) (hl : Reads w w.heap.size 34 Al l.length (entLs l)) (hll : l.length ≤ maxLen)
    (hd : Reads w w.heap.size 32 Ad d.parents.length (idLs d.parents)) (hdc : d.parents.length ≤ cd) (hcd : cd ≤ maxLen) (hau : d.author.size ≤ maxLen) (hms : d.msg.size ≤ maxLen)
    (ht : TxIn w w.heap.size t mv tv ev) (hst : TxSmall 1048576 t) (ha : Reads w w.heap.size 1 Aa at_.length (at_.map (Value.int .i64))) (hai : ∀ x ∈ at_, I64t x) (hal : at_.length ≤ maxLen) (hy : Reads w w.heap.size 1 Ay by_.length (by_.map bv)) (hyl : by_.length ≤ maxLen) (hct : I64t cut) (hm : Reads w w.heap.size 1 Am more.length (more.map bv)) (hml : more.length ≤ maxLen) :
    Calls Tryz.prog 3 #[.slice Al l.length cl, .agg (comC d.tree (.slice Ad d.parents.length cd) d.author d.time d.msg), .agg (txC t mv tv ev), .slice Aa at_.length ca, .slice Ay by_.length cy, .int .i64 cut, .slice Am more.length cm] w (TruePost w) := by
  have hcd' := hcd
  unfold maxLen at hll hcd' hau hms hal hyl hml
  have q1 : Blk ((w.alloc (.cells (comC d.tree (.slice Ad d.parents.length cd) d.author d.time d.msg) 27)).alloc (.cells (txC t mv tv ev) 34)) w.heap.size 27 (comC d.tree (.slice Ad d.parents.length cd) d.author d.time d.msg) := (Blk.new _ _ _).alloc _
  have q2 : Blk ((w.alloc (.cells (comC d.tree (.slice Ad d.parents.length cd) d.author d.time d.msg) 27)).alloc (.cells (txC t mv tv ev) 34)) (w.heap.size + 1) 34 (txC t mv tv ev) := by
    have := Blk.new (w.alloc (.cells (comC d.tree (.slice Ad d.parents.length cd) d.author d.time d.msg) 27)) 34 (txC t mv tv ev)
    simpa using this
  have k0 : Below w.heap.size w ((w.alloc (.cells (comC d.tree (.slice Ad d.parents.length cd) d.author d.time d.msg) 27)).alloc (.cells (txC t mv tv ev) 34)) := (((Keep.refl Nothing _).alloc _).alloc _).all
  go_enter Tryz.func3, Tryz.ntmps3
  go_upto_region 1 with (first | (refine wpList_boxed rfl rfl (cs := comC d.tree (.slice Ad d.parents.length cd) d.author d.time d.msg) rfl ?_) | (refine wpList_boxed rfl rfl (cs := txC t mv tv ev) rfl ?_))
  generalize (w.alloc (.cells (comC d.tree (.slice Ad d.parents.length cd) d.author d.time d.msg) 27)).alloc (.cells (txC t mv tv ev) 34) = w0 at *
  have B0 : TurnsIn w0 w.heap.size l Al d Ad cd t mv tv ev at_ Aa by_ Ay more Am := ⟨(hl.below k0).more k0.size, (hd.below k0).more k0.size, (ht.below k0).more k0.size, (ha.below k0).more k0.size, (hy.below k0).more k0.size, (hm.below k0).more k0.size, q1, q2⟩
  have HF := Lib.hid (show ∀ W : World, Below w.heap.size w W → TruePost w (.returned (.bool true)) W from fun W h => ⟨rfl, h⟩)
  have HEL := Lib.hid (show (encTxB t).length ≤ 140737488355328 from Nat.le_trans (encTxB_small hst) (by decide))
  have HEX := Lib.hid (encTx_le hst)
  have HDO := Lib.hid (show ∀ m ∈ t.mem, dataOk m = true from fun m hm => decide_eq_true (by have := hst.data m hm; omega))
  have HAI := Lib.hid hai
  have z0 := k0.size
  clear hl hd ht hst ha hy hm q1 q2 hai
  generalize hq : w.heap.size = q at *
  clear hq
  go_wp2_with fail
  refine (known_any _).mono ?_
  rintro r w1 ⟨rfl, be1⟩
  have k1 : Below q w w1 := k0.trans (be1.mono z0)
  have B1 := B0.below be1
  clear B0 be1 k0 z0
  have HB := Lib.hid B1
  have p1 := (B1.com.cell 32).trans comC_at.1
  have p2 := (B1.com.cell 33).trans comC_at.2.1
  have p4 := (B1.com.cell 35).trans comC_at.2.2.2
  have box1 := B1.box
  clear B1
  go_upto_region 3 with fail
  go_cut [58] (fun s58 wx => ∃ z, s58 = .bool z ∧ (z = false → l.length ≤ 100 ∧ d.parents.length ≤ 50 ∧ more.length ≤ 500) ∧ Below w1.heap.size w1 wx)
  case first =>
    --<
    by_cases h1 : 100 < l.length
    · have d1 : decide ((100 : Int) < (l.length : Int)) = true := decide_eq_true (by omega)
      go_wp2_with fail
      go_meet
      exact ⟨true, rfl, fun h => (by cases h), Below.refl _ _⟩
    have d1 : decide ((100 : Int) < (l.length : Int)) = false := decide_eq_false (by omega)
    by_cases h2 : 50 < d.parents.length
    · have d2 : decide ((50 : Int) < (d.parents.length : Int)) = true := decide_eq_true (by omega)
      go_wp2_with fail
      go_meet
      exact ⟨true, rfl, fun h => (by cases h), Below.refl _ _⟩
    have d2 : decide ((50 : Int) < (d.parents.length : Int)) = false := decide_eq_false (by omega)
    obtain ⟨z, hz⟩ : ∃ z : Int, IntKind.i64.wrap ((d.author.size : Int) + (d.msg.size : Int)) = z := ⟨_, rfl⟩
    have hadd := fun W => add_int W (d.author.size : Int) (d.msg.size : Int)
    rw [hz] at hadd
    have HADD := Lib.hid hadd
    clear hz hadd
    by_cases h3 : (5000 : Int) < z
    · have d3 : decide ((5000 : Int) < z) = true := decide_eq_true h3
      go_wp2_with (first | (refine wpList_bin_g (o := ⟨some 46, _, _, _, _, _⟩) (by rfl) rfl rfl rfl (guard_add _ _ _ _ _) (HADD.out _) ?_))
      go_meet
      exact ⟨true, rfl, fun h => (by cases h), Below.refl _ _⟩
    have d3 : decide ((5000 : Int) < z) = false := decide_eq_false h3
    have FW := Lib.hid (few_any t mv tv ev w1 HB.out.tx)
    go_wp2_with (first | (refine wpList_bin_g (o := ⟨some 46, _, _, _, _, _⟩) (by rfl) rfl rfl rfl (guard_add _ _ _ _ _) (HADD.out _) ?_) | (refine wpList_loadG (o := ⟨some 50, _, _, _, _, _⟩) (by rfl) rfl rfl (LdTx.run' box1) ?_))
    refine FW.out.mono ?_
    rintro r w2 ⟨z2, rfl, kf⟩
    clear FW HADD d1 d2 d3 p1 p2 p4
    cases z2
    · go_wp2_with fail
      go_meet
      exact ⟨true, rfl, fun h => (by cases h), kf.all⟩
    · by_cases h4 : 500 < more.length
      · have d4 : decide ((500 : Int) < (more.length : Int)) = true := decide_eq_true (by omega)
        go_wp2_with fail
        go_meet
        exact ⟨true, rfl, fun h => (by cases h), kf.all⟩
      · have d4 : decide ((500 : Int) < (more.length : Int)) = false := decide_eq_false (by omega)
        go_wp2_with fail
        go_meet
        exact ⟨false, rfl, fun _ => ⟨by omega, by omega, by omega⟩, kf.all⟩
    -->
  case rest =>
    obtain ⟨z, rfl, hz, b2⟩ := hcut
    generalize wc = w2 at *
    have k2 := k1.trans (b2.mono (by have := HB.out.com.lt; omega))
    have B2 := HB.out.below b2
    clear HB b2 k1 p1 p2 p4 box1
    cases z
    case true =>
      go_wp2_with fail
      go_ret
      exact HF.out _ k2
    case false =>
      obtain ⟨g1, g2, g3⟩ := hz rfl
      clear hz
      have HB := Lib.hid B2
      have hq2 : q + 1 < w2.heap.size := B2.box.lt
      clear B2
      go_wp2_with fail
      refine (rencodeTree_any l Al cl w2 HB.out.ents (by omega)).mono ?_
      rintro r w3 ⟨A3, c3, rfl, o3, b3⟩
      have hx1 := encTree_le l
      generalize (encTree l).2 = e1 at *
      generalize (encTree l).1 = x1 at *
      have lc := load_com (HB.out.below b3).com
      go_wp2_with (first | (refine wpList_load rfl rfl rfl lc ?_))
      refine (rencodeCommit_any d Ad cd w3 (HB.out.below b3).pars (by omega) hdc (by omega) (by omega)).mono ?_
      rintro r w4 ⟨A4, c4, rfl, o4, b4⟩
      have hx2 := encCommit_le d (by omega)
      have b24 := b3.trans (b4.mono b3.size)
      have o34 := o3.kept (b' := 0) (E := []) (G := []) (Kept.ofBelow b4) (by simp) (by simp)
      clear lc o3 b3 b4
      generalize (encCommit d).2 = e2 at *
      generalize (encCommit d).1 = x2 at *
      have lt := LdTx.run' (HB.out.below b24).box
      go_wp2_with (first | (refine wpList_load rfl rfl rfl lt ?_))
      refine (rencodeTx_any t mv tv ev w4 (HB.out.below b24).tx HDO.out HEL.out).mono ?_
      rintro r w5 ⟨A5, c5, rfl, o5, b5⟩
      have hx3 := HEX.out
      have b25 := b24.trans (b5.mono b24.size)
      have o35 := o34.kept (b' := 0) (E := []) (G := []) (Kept.ofBelow b5) (by simp) (by simp)
      have o45 := o4.kept (b' := 0) (E := []) (G := []) (Kept.ofBelow b5) (by simp) (by simp)
      have oc4 := o45.cap_le
      clear lt o34 o4 b24 b5 HEX HEL HDO
      generalize (encTx t).2 = e3 at *
      generalize (encTx t).1 = x3 at *
      go_wp2_with fail
      refine (rencodeObj_any 3 x2 A4 c4 w5 o45.reads (by omega) oc4.1 oc4.2).mono ?_
      rintro r w6 ⟨A6, c6, rfl, o6, b6⟩
      have hx4 := encObj_le (bodyE 3 x2) 3 x2
      have b26 := b25.trans (b6.mono b25.size)
      have o36 := o35.kept (b' := 0) (E := []) (G := []) (Kept.ofBelow b6) (by simp) (by simp)
      have o46 := o45.kept (b' := 0) (E := []) (G := []) (Kept.ofBelow b6) (by simp) (by simp)
      have o56 := o5.kept (b' := 0) (E := []) (G := []) (Kept.ofBelow b6) (by simp) (by simp)
      clear o35 o45 o5 b25 b6 oc4
      generalize (encObj (bodyE 3 x2) 3 x2).2 = e4 at *
      generalize (encObj (bodyE 3 x2) 3 x2).1 = x4 at *
      go_upto_region 10 with fail
      have r7 : Blk (w6.alloc (.cells #[.slice A3 x1.length c3, .slice A4 x2.length c4, .slice A5 x3.length c5, .slice A6 x4.length c6] 36)) w6.heap.size 36 #[.slice A3 x1.length c3, .slice A4 x2.length c4, .slice A5 x3.length c5, .slice A6 x4.length c6] := Blk.new _ _ _
      have k7 : Keep Nothing w6 (w6.alloc (.cells #[.slice A3 x1.length c3, .slice A4 x2.length c4, .slice A5 x3.length c5, .slice A6 x4.length c6] 36)) := (Keep.refl _ _).alloc _
      generalize w6.alloc (.cells #[.slice A3 x1.length c3, .slice A4 x2.length c4, .slice A5 x3.length c5, .slice A6 x4.length c6] 36) = w7 at *
      have b27 := b26.trans (k7.all.mono b26.size)
      have o37 := o36.kept (b' := 0) (E := []) (G := []) (Kept.ofBelow k7.all) (by simp) (by simp)
      have o47 := o46.kept (b' := 0) (E := []) (G := []) (Kept.ofBelow k7.all) (by simp) (by simp)
      have o57 := o56.kept (b' := 0) (E := []) (G := []) (Kept.ofBelow k7.all) (by simp) (by simp)
      have o67 := o6.kept (b' := 0) (E := []) (G := []) (Kept.ofBelow k7.all) (by simp) (by simp)
      generalize w6.heap.size = R at *
      have HROW := Lib.hid (show ∀ W, Below w7.heap.size w7 W → ∀ n, n < 4 → RowAt W R n from fun W k n hn => by
        have hb := r7.below k r7.lt
        have hc := hb.cell n
        rcases (by omega : n = 0 ∨ n = 1 ∨ n = 2 ∨ n = 3) with rfl | rfl | rfl | rfl
        · exact ⟨x1, A3, c3, hc, (o37.reads.below k).more k.size, by omega⟩
        · exact ⟨x2, A4, c4, hc, (o47.reads.below k).more k.size, by omega⟩
        · exact ⟨x3, A5, c5, hc, (o57.reads.below k).more k.size, by omega⟩
        · exact ⟨x4, A6, c6, hc, (o67.reads.below k).more k.size, by omega⟩)
      have HIN := Lib.hid (show ∀ W, Below w7.heap.size w7 W → TurnsIn W q l Al d Ad cd t mv tv ev at_ Aa by_ Ay more Am ∧ Below q w W from fun W k => ⟨(HB.out.below b27).below k, k2.trans ((b27.trans (k.mono b27.size)).mono (by omega))⟩)
      clear HB k2 b26 b27 o36 o46 o56 o6 o37 o47 o57 o67 k7 r7 hx1 hx2 hx3 hx4 hq2
      go_wp2_with fail
      go_loopg [24] 4 (fun f s24 wr => ∃ n : Nat, n + f = 4 ∧ s24 = .int .i64 n ∧ Below w7.heap.size w7 wr)
      case atStart => exact ⟨0, rfl, rfl, Below.refl _ _⟩
      case round =>
        obtain ⟨n, hnf, rfl, bk⟩ := hrel
        have HNF := Lib.hid hnf
        have hnn : n ≤ 4 := by omega
        clear hnf
        by_cases hn : n < 4
        · have hn0 : (0 : Int) ≤ (n : Int) := Int.natCast_nonneg _
          have hn4 : (n : Int) < 4 := by omega
          obtain ⟨x, Ax, cx, hcell, hrd, hxl⟩ := HROW.out wr bk n hn
          have zr := bk.size
          have hcell2 := (World.cell?_alloc_lt wr (.cells #[] 5) ⟨R, n, none⟩ (World.block_lt_of_cell? wr _ hcell)).trans hcell
          clear hcell
          go_upto_region 14 with (first | (at_builtin; refine wpList_append_sl rfl elemU8 rfl rfl (Own.fresh0 (heap_alloc_new _ _) (Nat.le_refl _)) rfl (hrd.alloc (Nat.le_refl _) _) (bvs_one x) (by unfold maxLen; omega) (by omega) (by simp) ?_; intro A8 c8 w8 o8 k8))
          simp only [Nat.zero_add, List.nil_append] at o8 ⊢
          have be8 : Below wr.heap.size wr w8 := ((Below.refl _ _).alloc (Nat.le_refl _) _).trans (k8.below (Nat.le_refl _) (by simp) (by simp))
          clear hcell2 hrd k8
          by_cases hx0 : x.length = 0
          · have hb0 : ((x.length : Int) == 0) = true := beq_iff_eq.2 (by omega)
            go_wp2_with fail
            go_roundg (gk - 1)
            case measure => have := HNF.out; omega
            case rel => exact ⟨n + 1, by have := HNF.out; omega, by go_num, bk.trans (be8.mono zr)⟩
          have hb0 : ((x.length : Int) == 0) = false := beq_eq_false_iff_ne.2 (by omega)
          obtain ⟨g, rfl, hg⟩ := o8.adr (by omega)
          have b8 : Below w7.heap.size w7 w8 := bk.trans (be8.mono zr)
          have z8 := be8.size
          clear be8 bk
          generalize wr.heap.size = hr at *
          have o8c := o8.cap_le
          unfold maxLen at o8c
          go_wp2_with fail
          go_loopg [26] 5 (fun f s26 wi => ∃ (i : Nat) (y : List UInt8), i + f = 5 ∧ i ≤ 4 ∧ s26 = .int .i64 i ∧ y.length = x.length ∧ Own wi hr 5 1 (some ⟨g, 0, none⟩) x.length c8 (y.map bv) ∧ Below w7.heap.size w7 wi ∧ hr ≤ wi.heap.size)
          case atStart => exact ⟨0, x, rfl, by omega, rfl, rfl, o8, b8, z8⟩
          case round =>
            clear o8 b8
            obtain ⟨i, y, hif, hi4, rfl, hyl', oy, bi, zi⟩ := hrel
            have HIF := Lib.hid hif
            have HYL := Lib.hid hyl'
            clear hif hyl'
            by_cases hc : i < at_.length ∧ i < by_.length ∧ i < 4
            · --<
              obtain ⟨hc1, hc2, hc3⟩ := hc
              have HT := (HIN.out _ bi).1
              obtain ⟨ga, oa, hAa, _, hca⟩ := HT.ats.at0 (by omega) (by omega)
              obtain ⟨gb, ob, hAy, _, hcb⟩ := HT.bys.at0 (by omega) (by omega)
              have ca0 := hca i (.int .i64 at_[i]) (by simp [hc1])
              have cb0 := hcb i (.int .u8 (by_[i].toNat : Int)) (by simp [hc2, bv])
              have hi0 : (0 : Int) ≤ (i : Int) := Int.natCast_nonneg _
              have hia : (i : Int) < (at_.length : Int) := by omega
              have hib : (i : Int) < (by_.length : Int) := by omega
              obtain ⟨k, hk⟩ : ∃ k : Nat, at_[i] % (x.length : Int) = (k : Int) := ⟨(at_[i] % (x.length : Int)).toNat, (Int.toNat_of_nonneg (Int.emod_nonneg _ (by omega))).symm⟩
              have hkl : k < x.length := by have := Int.emod_lt_of_pos at_[i] (show 0 < (x.length : Int) by omega); omega
              have WA := Lib.hid (show Calls Tryz.prog 10 #[.int .i64 at_[i], .int .i64 (x.length : Int)] wr (fun r w' => r = .returned (.int .i64 (k : Int)) ∧ wr = w') from hk ▸ within_any at_[i] x.length (by omega) (by omega) (HAI.out _ (List.getElem_mem _)) wr)
              obtain ⟨u, hu⟩ : ∃ u, y[k]? = some u := ⟨_, List.getElem?_eq_getElem (by have := HYL.out; omega)⟩
              have cy0 : wr.cell? ⟨g, k, none⟩ = some (.int .u8 (u.toNat : Int)) := by rw [World.ownsRow.cellAt oy k (by omega), List.getElem?_map, hu]; rfl
              have fy0 := World.ownsRow.frozenAt oy k
              have hk0 : (0 : Int) ≤ (k : Int) := Int.natCast_nonneg _
              have hk1 : (k : Int) < (x.length : Int) := by omega
              generalize by_[i] = z at *
              generalize at_[i] = a at *
              subst hAa hAy
              clear hca hcb HT hk hu
              go_wp2_with (first | (go_at_call 10; refine WA.out.mono ?_; rintro r w' ⟨rfl, rfl⟩))
              go_region_law (fail)
              all_goals
                go_wp2_with fail
                go_roundg (4 - i)
                case measure => have := HIF.out; omega
                case rel =>
                  obtain ⟨p1, p2⟩ := Own.putv oy k (u + z) (congrArg (Value.int .u8) (u8_sum u z))
                  exact ⟨i + 1, y.set k (u + z), by omega, by omega, by go_num, by rw [List.length_set]; exact HYL.out, p1.drew, bi.trans (p2.drew.below (B := w7.heap.size) (by omega) bi.size (by simp)), Nat.le_trans zi p2.drew.size⟩
              -->
            · have fin : at_.length ≤ i ∨ (i < at_.length ∧ by_.length ≤ i) ∨ (i < at_.length ∧ i < by_.length ∧ decide ((i : Int) < 4) = false) := by
                by_cases h1 : at_.length ≤ i
                · exact .inl h1
                · by_cases h2 : by_.length ≤ i
                  · exact .inr (.inl ⟨by omega, h2⟩)
                  · exact .inr (.inr ⟨by omega, by omega, decide_eq_false (by omega)⟩)
              clear hc
              obtain ⟨v, hv⟩ : ∃ k : Nat, cut % (x.length : Int) = (k : Int) := ⟨(cut % (x.length : Int)).toNat, (Int.toNat_of_nonneg (Int.emod_nonneg _ (by omega))).symm⟩
              have hvl : v < x.length := by have := Int.emod_lt_of_pos cut (show 0 < (x.length : Int) by omega); omega
              have WC := Lib.hid (show Calls Tryz.prog 10 #[.int .i64 cut, .int .i64 (x.length : Int)] wr (fun r w' => r = .returned (.int .i64 (v : Int)) ∧ wr = w') from hv ▸ within_any cut x.length (by omega) (by omega) hct wr)
              obtain ⟨m, hm⟩ : ∃ m : Nat, x.length = m + v := ⟨x.length - v, by omega⟩
              have hsub : (x.length : Int) - (v : Int) = (m : Int) := by omega
              have of := Own.front oy (k := m) (by omega)
              have hmr := (HIN.out _ bi).1.mores
              have hml0 : (0 : Int) ≤ (m : Int) := Int.natCast_nonneg _
              have hmlc : (m : Int) ≤ (c8 : Int) := by omega
              have hmx : m ≤ x.length := by omega
              clear hv hm
              rcases fin with f1 | ⟨f1, f2⟩ | ⟨f1, f2, f3⟩
              all_goals
                go_wp2_with (first | (go_at_call 10; refine WC.out.mono ?_; rintro r w' ⟨rfl, rfl⟩) | (at_builtin; refine wpList_append_sl rfl elemU8 rfl rfl of rfl hmr (bvs_one more) (by unfold maxLen; omega) (by omega) zi ?_; intro A9 c9 w9 o9 k9))
                have hXl : (y.take m ++ more).length = m + more.length := by
                  rw [List.length_append, List.length_take]
                  have := HYL.out
                  omega
                have o9' : Own w9 hr 5 1 A9 (y.take m ++ more).length c9 ((y.take m ++ more).map bv) := by
                  rw [hXl, List.map_append]
                  exact o9
                have b9 : Below w7.heap.size w7 w9 := bi.trans (k9.below (by omega) bi.size (by simp))
                rw [← hXl]
                clear hXl o9 k9 of hmr
                generalize y.take m ++ more = X at *
                have o9c := o9'.cap_le
                have HX := Lib.hid (show ∀ W, Below w9.heap.size w9 W → Reads W W.heap.size 1 A9 X.length (X.map bv) from fun W k => (o9'.reads.below k).more k.size)
                have HI9 := Lib.hid (show ∀ W, Below w9.heap.size w9 W → TxIn W W.heap.size t mv tv ev ∧ Blk W (q + 1) 34 (txC t mv tv ev) ∧ Below w7.heap.size w7 W from fun W k => ⟨((HIN.out _ b9).1.below k).tx, ((HIN.out _ b9).1.below k).box, b9.trans (k.mono b9.size)⟩)
                have KT := Lib.hid (show ∀ W, Below w9.heap.size w9 W → Calls Tryz.prog 11 #[.slice none 0 0, .slice A9 X.length c9] W (TruePost W) from fun W k => trees_walk [] X none A9 0 c9 W Reads.none_ (HX.out W k) (Nat.zero_le _) o9c.1 o9c.2)
                have KC := Lib.hid (show ∀ W, Below w9.heap.size w9 W → Calls Tryz.prog 12 #[.agg (comC noId nilS ByteArray.empty 0 ByteArray.empty), .slice A9 X.length c9] W (TruePost W) from fun W k => commits_walk com0 X none A9 0 c9 W Reads.none_ (HX.out W k) (Nat.le_refl _) (Nat.zero_le _) o9c.1 o9c.2 (Nat.zero_le _) (Nat.zero_le _))
                have KO := Lib.hid (show ∀ W, Below w9.heap.size w9 W → Calls Tryz.prog 13 #[.agg #[.int .i64 0, .slice none 0 0], .slice A9 X.length c9] W (TruePost W) from fun W k => objs_walk 0 [] X none A9 0 c9 W Reads.none_ (HX.out W k) (Nat.le_refl _) (Nat.zero_le _) o9c.1 o9c.2)
                have KX := Lib.hid (show ∀ W, Below w9.heap.size w9 W → Calls Tryz.prog 14 #[.agg (txC tx0 nilS nilS nilS), .slice A9 X.length c9, .agg (txC t mv tv ev)] W (TruePost W) from fun W k => txs_walk tx0 t X nilS nilS nilS mv tv ev A9 c9 W
                  ⟨⟨none, 0, rfl, Reads.none_, Nat.le_refl _, Nat.zero_le _⟩, ⟨none, 0, rfl, Reads.none_, Nat.le_refl _, Nat.zero_le _⟩, ⟨none, 0, rfl, Reads.none_, Nat.le_refl _, Nat.zero_le _⟩, fun m hm => by simp [tx0] at hm⟩ (HI9.out W k).1 (HX.out W k) o9c.1 o9c.2 tx0_small)
                have BC : ∀ W, (BdCom #[]).run Tryz.prog W = .ok (.agg (comC noId nilS ByteArray.empty 0 ByteArray.empty)) W := build_com0
                have BT : ∀ W, (BdTx #[]).run Tryz.prog W = .ok (.agg (txC tx0 nilS nilS nilS)) W := build_tx0
                clear o9' o9c b9 oy bi
                refine (KT.out _ (Below.refl _ _)).mono ?_
                rintro r wa ⟨rfl, ka⟩
                go_wp2_with fail
                refine (KC.out _ ka).mono ?_
                rintro r wb ⟨rfl, kb⟩
                have kab := ka.trans (kb.mono ka.size)
                go_wp2_with fail
                refine (KO.out _ kab).mono ?_
                rintro r wd ⟨rfl, kd⟩
                have kabd := kab.trans (kd.mono kab.size)
                have bx := (HI9.out _ kabd).2.1
                clear ka kb kab kd
                go_wp2_with (first | (refine wpList_loadG (o := ⟨some 162, _, _, _, _, _⟩) (by rfl) rfl rfl (LdTx.run' bx) ?_))
                refine (KX.out _ kabd).mono ?_
                rintro r we ⟨rfl, ke⟩
                have kend := (HI9.out _ (kabd.trans (ke.mono kabd.size))).2.2
                clear bx BC BT
                go_wp2_with fail
                go_roundg (3 - n)
                case measure => have := HNF.out; omega
                case rel => exact ⟨n + 1, by omega, by go_num, kend⟩
        · obtain rfl : n = 4 := by omega
          go_wp2_with fail
          go_ret
          exact HF.out _ (HIN.out _ bk).2
section
variable {H : Type} {enc : TypeId × Value → H} {w : World} {base : Nat} {spare : Nat → Bool} {held : Bool}
theorem flat_int (l : List Int) : l.flatMap (fun a => [Value.int .i64 a]) = l.map (Value.int .i64) := by
  induction l with
  | nil => rfl
  | cons a l ih => rw [List.flatMap_cons, ih]; rfl
theorem opened_ints {A : Option Addr} {len cap : Nat} {d : DataW H} {p : List MemPlace} (h : DataW.Trod enc Tryz.prog w base spare held 35 (.slice A len cap) d p) :
    ∃ l : List Int, l.length = len ∧ Reads w w.heap.size 1 A l.length (l.map (Value.int .i64)) ∧ l.length ≤ cap ∧ cap ≤ maxLen ∧ ∀ x ∈ l, I64t x := by
  obtain ⟨fuel, hf⟩ := h
  have hf : DataW.trod enc Tryz.prog w base spare held fuel 35 [.slice A len cap] = some (d, p) := by simpa [Value.cells] using hf
  obtain ⟨l, h1, h2, h3, h4, _, h6⟩ := open_listB (N := Rows.uptoBulk d) (f := fun a : Int => [Value.int .i64 a]) (V := fun a => (Lit.int .i64 a).wf = true) Tryz.underlying35 cells_int (by decide) (fun _ => rfl) (fun _ _ _ h _ => by obtain ⟨a, e, _, hw⟩ := DataW.trod_int Tryz.underlying3 h; exact ⟨a, e, hw⟩) hf (Nat.le_refl _)
  subst h1
  rw [flat_int] at h2
  exact ⟨l, rfl, h2, h3, h4, fun x hx => by have := h6 x hx; simpa [I64t, Lit.wf, IntKind.min, IntKind.max, IntKind.signed, IntKind.bits] using this⟩
end
def zCom (H : Type) : DataW H := .agg [zId H, .nil, .lit (.string []), .lit (.int .i64 0), .lit (.string [])]
set_option maxRecDepth 100000 in
theorem codecTurns_lifted (os : Os) (started : os.Started) (H : Type) (enc : TypeId × Value → H) (F : Stop.Interp) :
    ReturnsInHanded {} Tryz.checked os 3 .any ((Rows.OpenSpec.upto Rows.codecTurnsSpec).pre6 enc Tryz.prog Tryz.f3 Rows.codecTurnsUptoRow.domain false) (((Rows.OpenSpec.upto Rows.codecTurnsSpec).at F).post enc Tryz.prog Tryz.f3 false true false false) := by
  refine returnsInHanded_of_cond (C := Tryz.checked) (s := Rows.OpenSpec.upto Rows.codecTurnsSpec) (k := Rows.uptoSmall) rfl own started (by kernel_rfl) Tryz.func3
    (OpenSpec.witness (enc := enc) (C := Tryz.checked) (s := Rows.OpenSpec.upto Rows.codecTurnsSpec) (k := Rows.uptoSmall) rfl false ⟨#[], #[.slice none 0 0, .agg (comC noId nilS ByteArray.empty 0 ByteArray.empty), .agg (txC tx0 nilS nilS nilS), .slice none 0 0, .slice none 0 0, .int .i64 0, .slice none 0 0], []⟩ 8 (by kernel_rfl) (by kernel_rfl) (by kernel_rfl)
      (x := ([.nil, zCom H, zTx H, .nil, .nil, .lit (.int .i64 0), .nil], [], [])) (by kernel_rfl) rfl (by kernel_rfl)) ?_
  intro W base args ds gs before hval0 hW hcnd hk _
  have hval : ∀ (j : Nat) t v, Tryz.f3.params[j]? = some t → args[j]? = some v → Value.okWide Tryz.prog W .any base t v := hval0
  have hW' := hW
  obtain ⟨p, q, hA0, hV, rfl, hfz, hnd⟩ := hW
  have hA : DataW.TrodAll enc Tryz.prog W 0 (fun _ => true) true Tryz.f3.params.toList args.toList ds p := hA0
  rw [Tryz.params3] at hA hval
  obtain ⟨v0, vs0, d0, ds0, p0, q0, hargs, rfl, rfl, h0, r0⟩ := trodAll_cons hA
  obtain ⟨v1, vs1, d1, ds1, p1, q1, rfl, rfl, rfl, h1, r1⟩ := trodAll_cons r0
  obtain ⟨v2, vs2, d2, ds2, p2, q2, rfl, rfl, rfl, h2, r2⟩ := trodAll_cons r1
  obtain ⟨v3, vs3, d3, ds3, p3, q3, rfl, rfl, rfl, h3, r3⟩ := trodAll_cons r2
  obtain ⟨v4, vs4, d4, ds4, p4, q4, rfl, rfl, rfl, h4, r4⟩ := trodAll_cons r3
  obtain ⟨v5, vs5, d5, ds5, p5, q5, rfl, rfl, rfl, h5, r5⟩ := trodAll_cons r4
  obtain ⟨v6, vs6, d6, ds6, p6, q6, rfl, rfl, rfl, h6, r6⟩ := trodAll_cons r5
  obtain ⟨rfl, rfl, rfl⟩ := trodAll_nil r6
  obtain rfl : args = #[v0, v1, v2, v3, v4, v5, v6] := by cases args; simp_all
  obtain ⟨rfl, rfl⟩ := trodVars_none hV
  have k0 := h0
  have lt0 : ∀ x ∈ p0, x.block < W.heap.size := by obtain ⟨m, hm⟩ := k0; exact DataW.trod_lt m _ _ _ hm
  have k1 := h1
  have lt1 : ∀ x ∈ p1, x.block < W.heap.size := by obtain ⟨m, hm⟩ := k1; exact DataW.trod_lt m _ _ _ hm
  have k2 := h2
  have lt2 : ∀ x ∈ p2, x.block < W.heap.size := by obtain ⟨m, hm⟩ := k2; exact DataW.trod_lt m _ _ _ hm
  have k3 := h3
  have lt3 : ∀ x ∈ p3, x.block < W.heap.size := by obtain ⟨m, hm⟩ := k3; exact DataW.trod_lt m _ _ _ hm
  have k4 := h4
  have lt4 : ∀ x ∈ p4, x.block < W.heap.size := by obtain ⟨m, hm⟩ := k4; exact DataW.trod_lt m _ _ _ hm
  have k5 := h5
  have lt5 : ∀ x ∈ p5, x.block < W.heap.size := by obtain ⟨m, hm⟩ := k5; exact DataW.trod_lt m _ _ _ hm
  have k6 := h6
  have lt6 : ∀ x ∈ p6, x.block < W.heap.size := by obtain ⟨m, hm⟩ := k6; exact DataW.trod_lt m _ _ _ hm
  have hbd := bulk_bound hk
  simp only [Rows.uptoBulkAll, List.cons_append, List.nil_append] at hbd
  obtain ⟨a0, len0, cap0, rfl⟩ := okWide_slice Tryz.underlying22 (hval 0 22 v0 rfl rfl)
  obtain ⟨l0, hl0, hr0, hc0, hm0, _⟩ := opened_ents h0
  subst hl0
  obtain ⟨cd1, a1, c1, rfl, hr1, hc1, hm1, hau1, hms1, _⟩ := opened_com (hval 1 27 v1 rfl rfl) h1
  obtain ⟨t2, mv2, tv2, ev2, rfl, in2, sm2⟩ := opened_tx (N := 1048576) (hval 2 34 v2 rfl rfl) h2 (by omega)
  obtain ⟨a3, len3, cap3, rfl⟩ := okWide_slice Tryz.underlying35 (hval 3 35 v3 rfl rfl)
  obtain ⟨l3, hl3, hr3, hc3, hm3, hx3⟩ := opened_ints h3
  subst hl3
  obtain ⟨a4, len4, cap4, rfl⟩ := okWide_slice Tryz.underlying36 (hval 4 36 v4 rfl rfl)
  obtain ⟨l4, hl4, hr4, hc4, hm4⟩ := opened_bytes h4
  subst hl4
  obtain ⟨n5, rfl, _, _, w5⟩ := open_int Tryz.underlying3 (hval 5 3 v5 rfl rfl) h5
  have hn5 : I64t n5 := by simpa [I64t, Lit.wf, IntKind.min, IntKind.max, IntKind.signed, IntKind.bits] using w5
  obtain ⟨a6, len6, cap6, rfl⟩ := okWide_slice Tryz.underlying36 (hval 6 36 v6 rfl rfl)
  obtain ⟨l6, hl6, hr6, hc6, hm6⟩ := opened_bytes h6
  subst hl6
  clear hA0 hval0
  refine (turns_walk l0 cd1 t2 l3 l4 n5 l6 a0 a1 a3 a4 a6 cap0 c1 cap3 cap4 cap6 mv2 tv2 ev2 W hr0 (Nat.le_trans hc0 hm0) hr1 hc1 hm1 hau1 hms1 in2 sm2 hr3 hx3 (Nat.le_trans hc3 hm3) hr4 (Nat.le_trans hc4 hm4) hn5 hr6 (Nat.le_trans hc6 hm6)).mono fun e W' ⟨he, bel⟩ => ?_
  subst he
  exact ⟨_, rfl, _, _, _, [], _, [], hW', trodAll_mk1 (shut_bool Tryz.underlying4 _), (trodAll_cons_mk (Below.trod laidOut (by kernel_rfl) (of_decide_eq_true (by kernel_rfl)) k0 bel lt0) (trodAll_cons_mk (Below.trod laidOut (by kernel_rfl) (of_decide_eq_true (by kernel_rfl)) k1 bel lt1) (trodAll_cons_mk (Below.trod laidOut (by kernel_rfl) (of_decide_eq_true (by kernel_rfl)) k2 bel lt2) (trodAll_cons_mk (Below.trod laidOut (by kernel_rfl) (of_decide_eq_true (by kernel_rfl)) k3 bel lt3) (trodAll_cons_mk (Below.trod laidOut (by kernel_rfl) (of_decide_eq_true (by kernel_rfl)) k4 bel lt4) (trodAll_cons_mk (Below.trod laidOut (by kernel_rfl) (of_decide_eq_true (by kernel_rfl)) k5 bel lt5) (trodAll_cons_mk (Below.trod laidOut (by kernel_rfl) (of_decide_eq_true (by kernel_rfl)) k6 bel lt6) trodAll_mk0))))))), rfl, bel.frame _, fun h => by cases h⟩

theorem codecTurns_over : Rows.codecTurnsUptoRow.holds Tryz.pinned (Rows.OpenSpec.upto Rows.codecTurnsSpec) :=
  OpenClaim.holds_of_cond 3 Tryz.f3 rfl rfl rfl rfl rfl rfl rfl ⟨rfl, rfl, rfl, rfl, rfl⟩ rfl rfl rfl rfl rfl (by kernel_rfl) Tryz.func3 (by kernel_rfl)
    (of_decide_eq_true (by kernel_rfl)) (by unfold Func.isWrapper; first | (rw [if_pos (by decide +kernel)]; kernel_rfl) | (rw [if_neg (by decide +kernel)]; exact ⟨rfl, rfl⟩))
    (fun os started H enc _ F => codecTurns_lifted os started H enc F)

theorem codecTurns_holds : Rows.CodecTurnsUptoSaid := codecTurns_over
#print axioms codecTurns_holds
end Go.Proofs.YtppmolneklidfaaGreat
