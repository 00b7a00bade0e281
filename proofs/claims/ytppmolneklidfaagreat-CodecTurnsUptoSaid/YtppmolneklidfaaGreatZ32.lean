/-
  Texts of the codec joined (Tr4, Tr5, Tr6). No statement of the seat is proved here.
-/
import Derived.Test.YtppmolneklidfaaGreatZ27
import Derived.Test.YtppmolneklidfaaGreatZ05
namespace Go.Proofs.YtppmolneklidfaaGreat
open Go.RowKit

theorem Cu.kept_ {w w' : World} {g B base : Nat} {E : List TypeId} {G : List Nat} {b : List UInt8} {at_ : Nat} {e : Int} (h : Cu w g B b at_ e) (hk : Kept base E G w w') (hB : B ≤ base) (hz : B ≤ w.heap.size) (hG : ∀ x ∈ G, B ≤ x ∧ x ≠ g) (hE : 121 ∉ E) : Cu w' g B b at_ e := by
  obtain ⟨A, c, hb, hrd, h1, h2, h3, h4⟩ := h
  exact ⟨A, c, hk.blk hb (fun q => (hG g q).2 rfl) hE, hrd.below (hk.below hB hz (fun x hx => (hG x hx).1)), h1, h2, h3, h4⟩
/-! ### A reader beside two variables of a struct's type: the one that is filled (x), the result (y) -/
structure CQ (w : World) (g B : Nat) (b : List UInt8) (x y : Nat) (T : TypeId) (E : List TypeId) (cy cs : Array Value) (at_ : Nat) (e : Int) (wr : World) : Prop where
  rd : Cu wr g B b at_ e
  blk : Blk wr x T cs
  res : Blk wr y T cy
  kept : Kept w.heap.size E [g] w wr
  bz : B ≤ w.heap.size
  nx : w.heap.size ≤ x
  ny : w.heap.size ≤ y
  ne : x ≠ y
  nt : T ≠ 121 ∧ T ∉ E ∧ 121 ∉ E
  bl : b.length ≤ 140737488355328
section
variable {w : World} {g B : Nat} {b : List UInt8} {x y : Nat} {T : TypeId} {E : List TypeId} {cy cs : Array Value} {at_ : Nat} {e : Int} {wr w' : World}
theorem CQ.rblk (h : CQ w g B b x y T E cy cs at_ e wr) : ∃ A c, Blk wr g 121 #[.slice A b.length c, .int .i64 at_, .bool (e != 0)] := by
  obtain ⟨A, c, hb, _⟩ := h.rd
  exact ⟨A, c, hb⟩
theorem CQ.err (h : CQ w g B b x y T E cy cs at_ e wr) : wr.cell? ⟨g, 2, none⟩ = some (.bool (e != 0)) := by
  obtain ⟨A, c, hb⟩ := h.rblk
  have := hb.cell 2
  simpa using this
theorem CQ.xg (h : CQ w g B b x y T E cy cs at_ e wr) : x ≠ g := by obtain ⟨A, c, hb⟩ := h.rblk; exact h.blk.ne_ hb h.nt.1
theorem CQ.yg (h : CQ w g B b x y T E cy cs at_ e wr) : y ≠ g := by obtain ⟨A, c, hb⟩ := h.rblk; exact h.res.ne_ hb h.nt.1
theorem CQ.Bg (h : CQ w g B b x y T E cy cs at_ e wr) : B ≤ g := by obtain ⟨_, _, _, _, _, _, _, hb⟩ := h.rd; exact hb
theorem CQ.size (h : CQ w g B b x y T E cy cs at_ e wr) : B ≤ wr.heap.size := Nat.le_trans h.bz h.kept.size
theorem CQ.lt (h : CQ w g B b x y T E cy cs at_ e wr) : g < wr.heap.size := by obtain ⟨A, c, hb⟩ := h.rblk; exact hb.lt
theorem CQ.next {at' : Nat} {e' : Int} (h : CQ w g B b x y T E cy cs at_ e wr) (hr : Cu w' g B b at' e') (hk : Keep (Only g) wr w') : CQ w g B b x y T E cy cs at' e' w' :=
  ⟨hr, h.blk.keep hk h.xg, h.res.keep hk h.yg, h.kept.trans (Kept.ofKeep hk (by unfold Only; simp)), h.bz, h.nx, h.ny, h.ne, h.nt, h.bl⟩
theorem CQ.number (h : CQ w g B b x y T E cy cs at_ e wr) (n : Nat) (hn : n ≤ 7) : Calls Tryz.prog 54 #[.pointer (some ⟨g, 0, none⟩), .int .i64 n] wr fun r w' =>
    r = .returned (.int .i64 (num (takeL b at_ e n))) ∧ CQ w g B b x y T E cy cs (takeAt b at_ e n) (takeE b at_ e n) w' ∧ Keep (Only g) wr w' :=
  (cnum_any n hn g B b at_ e wr h.rd h.size).mono fun _ _ ⟨h1, h2, h3⟩ => ⟨h1, h.next h2 h3, h3⟩
theorem CQ.text (h : CQ w g B b x y T E cy cs at_ e wr) (n : Nat) (hn : n ≤ 7) : Calls Tryz.prog 55 #[.pointer (some ⟨g, 0, none⟩), .int .i64 n] wr fun r w' =>
    r = .returned (.string (str (textL b at_ e n))) ∧ CQ w g B b x y T E cy cs (textAt b at_ e n) (textE b at_ e n) w' ∧ Keep (Only g) wr w' :=
  (ctext_any n hn g B b at_ e wr h.rd h.size h.bl).mono fun _ _ ⟨h1, h2, h3⟩ => ⟨h1, h.next h2 h3, h3⟩
theorem CQ.number1 (h : CQ w g B b x y T E cy cs at_ e wr) : Calls Tryz.prog 54 #[.pointer (some ⟨g, 0, none⟩), .int .i64 1] wr fun r w' =>
    r = .returned (.int .i64 (num (takeL b at_ e 1))) ∧ CQ w g B b x y T E cy cs (takeAt b at_ e 1) (takeE b at_ e 1) w' ∧ Keep (Only g) wr w' := h.number 1 (by omega)
theorem CQ.number2 (h : CQ w g B b x y T E cy cs at_ e wr) : Calls Tryz.prog 54 #[.pointer (some ⟨g, 0, none⟩), .int .i64 2] wr fun r w' =>
    r = .returned (.int .i64 (num (takeL b at_ e 2))) ∧ CQ w g B b x y T E cy cs (takeAt b at_ e 2) (takeE b at_ e 2) w' ∧ Keep (Only g) wr w' := h.number 2 (by omega)
theorem CQ.text1 (h : CQ w g B b x y T E cy cs at_ e wr) : Calls Tryz.prog 55 #[.pointer (some ⟨g, 0, none⟩), .int .i64 1] wr fun r w' =>
    r = .returned (.string (str (textL b at_ e 1))) ∧ CQ w g B b x y T E cy cs (textAt b at_ e 1) (textE b at_ e 1) w' ∧ Keep (Only g) wr w' := h.text 1 (by omega)
theorem CQ.text2 (h : CQ w g B b x y T E cy cs at_ e wr) : Calls Tryz.prog 55 #[.pointer (some ⟨g, 0, none⟩), .int .i64 2] wr fun r w' =>
    r = .returned (.string (str (textL b at_ e 2))) ∧ CQ w g B b x y T E cy cs (textAt b at_ e 2) (textE b at_ e 2) w' ∧ Keep (Only g) wr w' := h.text 2 (by omega)
theorem CQ.text4 (h : CQ w g B b x y T E cy cs at_ e wr) : Calls Tryz.prog 55 #[.pointer (some ⟨g, 0, none⟩), .int .i64 4] wr fun r w' =>
    r = .returned (.string (str (textL b at_ e 4))) ∧ CQ w g B b x y T E cy cs (textAt b at_ e 4) (textE b at_ e 4) w' ∧ Keep (Only g) wr w' := h.text 4 (by omega)
theorem CQ.id (h : CQ w g B b x y T E cy cs at_ e wr) : Calls Tryz.prog 56 #[.pointer (some ⟨g, 0, none⟩)] wr fun r w' =>
    r = .returned (idV (idOf (takeL b at_ e 32))) ∧ CQ w g B b x y T E cy cs (takeAt b at_ e 32) (takeE b at_ e 32) w' ∧ Keep (Only g) wr w' :=
  (cid_any g B b at_ e wr h.rd h.size h.bl).mono fun _ _ ⟨h1, h2, h3⟩ => ⟨h1, h.next h2 h3, h3⟩
theorem CQ.drew (h : CQ w g B b x y T E cy cs at_ e wr) : CQ w g B b x y T E cy cs at_ e wr.drew := ⟨h.rd.drew, h.blk.drew, h.res.drew, h.kept.drew, h.bz, h.nx, h.ny, h.ne, h.nt, h.bl⟩
theorem CQ.keepN (h : CQ w g B b x y T E cy cs at_ e wr) (k : Keep Nothing wr w') : CQ w g B b x y T E cy cs at_ e w' :=
  ⟨h.rd.keep h.size k (fun _ q => q.elim), h.blk.keep k (fun q => q), h.res.keep k (fun q => q), h.kept.trans (Kept.ofKeep k (by unfold Nothing; simp)), h.bz, h.nx, h.ny, h.ne, h.nt, h.bl⟩
theorem CQ.alloc (h : CQ w g B b x y T E cy cs at_ e wr) (o : Obj) : CQ w g B b x y T E cy cs at_ e (wr.alloc o) := h.keepN ((Keep.refl _ _).alloc _)
theorem CQ.row (h : CQ w g B b x y T E cy cs at_ e wr) (k : Kept w.heap.size E [] wr w') : CQ w g B b x y T E cy cs at_ e w' :=
  ⟨h.rd.kept_ k h.bz h.size (by simp) h.nt.2.2, k.blk h.blk (by simp) h.nt.2.1, k.blk h.res (by simp) h.nt.2.1, h.kept.trans (k.mono (Nat.le_refl _) (fun _ h => h) (by simp)), h.bz, h.nx, h.ny, h.ne, h.nt, h.bl⟩
/-- The filled variable has turned, and nothing else. -/
theorem CQ.only {cs' : Array Value} (h : CQ w g B b x y T E cy cs at_ e wr) (hb : Blk w' x T cs') (k : Keep (Only x) wr w') : CQ w g B b x y T E cy cs' at_ e w' :=
  ⟨h.rd.keep h.size k (fun i q => by unfold Only at q; have := h.nx; have := h.bz; have := h.xg; subst q; exact ⟨by omega, h.xg⟩), hb, h.res.keep k (fun q => h.ne q.symm), h.kept.lift (Kept.ofKeep (base := w.heap.size) (E := []) (G := [x]) k (by unfold Only; simp)) (Nat.le_refl _) (by simp) (by have := h.nx; simp; omega), h.bz, h.nx, h.ny, h.ne, h.nt, h.bl⟩
theorem CQ.set (h : CQ w g B b x y T E cy cs at_ e wr) (i : Nat) (v : Value) : CQ w g B b x y T E cy (cs.setIfInBounds i v) at_ e (wr.setCell ⟨x, i, none⟩ v) :=
  h.only (h.blk.set_ i v) ((Keep.refl (Only x) wr).setCell (p := ⟨x, i, none⟩) (.inl rfl) _)
end

/-! ### A reader beside a variable that a round made -/
structure CV (wr : World) (g B : Nat) (b : List UInt8) (z : Nat) (T : TypeId) (cs : Array Value) (at_ : Nat) (e : Int) (wn : World) : Prop where
  rd : Cu wn g B b at_ e
  blk : Blk wn z T cs
  keep : Keep (Only g) wr wn
  nz : wr.heap.size ≤ z
  bz : B ≤ wr.heap.size
  nt : T ≠ 121
  bl : b.length ≤ 140737488355328
section
variable {wr : World} {g B : Nat} {b : List UInt8} {z : Nat} {T : TypeId} {cs : Array Value} {at_ : Nat} {e : Int} {wn w' : World}
theorem CV.zg (h : CV wr g B b z T cs at_ e wn) : z ≠ g := by obtain ⟨A, c, hb, _⟩ := h.rd; exact h.blk.ne_ hb h.nt
theorem CV.size (h : CV wr g B b z T cs at_ e wn) : B ≤ wn.heap.size := Nat.le_trans h.bz h.keep.size
theorem CV.next {at' : Nat} {e' : Int} (h : CV wr g B b z T cs at_ e wn) (hr : Cu w' g B b at' e') (hk : Keep (Only g) wn w') : CV wr g B b z T cs at' e' w' :=
  ⟨hr, h.blk.keep hk h.zg, h.keep.trans hk, h.nz, h.bz, h.nt, h.bl⟩
theorem CV.id (h : CV wr g B b z T cs at_ e wn) : Calls Tryz.prog 56 #[.pointer (some ⟨g, 0, none⟩)] wn fun r w' =>
    r = .returned (idV (idOf (takeL b at_ e 32))) ∧ CV wr g B b z T cs (takeAt b at_ e 32) (takeE b at_ e 32) w' :=
  (cid_any g B b at_ e wn h.rd h.size h.bl).mono fun _ _ ⟨h1, h2, h3⟩ => ⟨h1, h.next h2 h3⟩
theorem CV.text2 (h : CV wr g B b z T cs at_ e wn) : Calls Tryz.prog 55 #[.pointer (some ⟨g, 0, none⟩), .int .i64 2] wn fun r w' =>
    r = .returned (.string (str (textL b at_ e 2))) ∧ CV wr g B b z T cs (textAt b at_ e 2) (textE b at_ e 2) w' :=
  (ctext_any 2 (by omega) g B b at_ e wn h.rd h.size h.bl).mono fun _ _ ⟨h1, h2, h3⟩ => ⟨h1, h.next h2 h3⟩
theorem CV.text4 (h : CV wr g B b z T cs at_ e wn) : Calls Tryz.prog 55 #[.pointer (some ⟨g, 0, none⟩), .int .i64 4] wn fun r w' =>
    r = .returned (.string (str (textL b at_ e 4))) ∧ CV wr g B b z T cs (textAt b at_ e 4) (textE b at_ e 4) w' :=
  (ctext_any 4 (by omega) g B b at_ e wn h.rd h.size h.bl).mono fun _ _ ⟨h1, h2, h3⟩ => ⟨h1, h.next h2 h3⟩
theorem CV.keepN (h : CV wr g B b z T cs at_ e wn) (k : Keep Nothing wn w') : CV wr g B b z T cs at_ e w' :=
  ⟨h.rd.keep h.size k (fun _ q => q.elim), h.blk.keep k (fun q => q), h.keep.trans (k.mono (fun _ _ q => q.elim)), h.nz, h.bz, h.nt, h.bl⟩
theorem CV.only {cs' : Array Value} (h : CV wr g B b z T cs at_ e wn) (hb : Blk w' z T cs') (k : Keep (Only z) wn w') : CV wr g B b z T cs' at_ e w' :=
  ⟨h.rd.keep h.size k (fun i q => by unfold Only at q; have := h.nz; have := h.bz; subst q; exact ⟨by omega, h.zg⟩), hb, h.keep.then_ k (fun i hi q => by unfold Only at q; have := h.nz; omega), h.nz, h.bz, h.nt, h.bl⟩
theorem CV.set (h : CV wr g B b z T cs at_ e wn) (i : Nat) (v : Value) : CV wr g B b z T (cs.setIfInBounds i v) at_ e (wn.setCell ⟨z, i, none⟩ v) :=
  h.only (h.blk.set_ i v) ((Keep.refl (Only z) wn).setCell (p := ⟨z, i, none⟩) (.inl rfl) _)
end


/-! ### A sequence's cells inside a transaction's -/
theorem txC_seqSet (t : TxD) (mv tv ev : Value) : (∀ n, (txC t mv tv ev).setIfInBounds 4 (.int .i64 n) = txC { t with seq := { t.seq with kind := n } } mv tv ev) ∧ (∀ s, (txC t mv tv ev).setIfInBounds 5 (.string s) = txC { t with seq := { t.seq with branch := s } } mv tv ev) ∧ (∀ v, (txC t mv tv ev).setIfInBounds 70 v = txC t mv v ev) ∧
    (∀ n, (txC t mv tv ev).setIfInBounds 71 (.int .i64 n) = txC { t with seq := { t.seq with done := n } } mv tv ev) ∧ (∀ n, (txC t mv tv ev).setIfInBounds 72 (.int .i64 n) = txC { t with seq := { t.seq with made := n } } mv tv ev) ∧ (∀ z, (txC t mv tv ev).setIfInBounds 73 (.bool z) = txC { t with seq := { t.seq with stopped := z } } mv tv ev) := by
  have h1 := idL_len t.seq.orig
  have h2 := idL_len t.seq.cur
  refine ⟨fun _ => ?_, fun _ => ?_, fun _ => ?_, fun _ => ?_, fun _ => ?_, fun _ => ?_⟩ <;> (apply Array.ext'; simp [txC, txL, seqL, h1, h2])
theorem txC_seqSpl (t : TxD) (mv tv ev : Value) (i : Id) : spl (txC t mv tv ev) 6 (idC i).toList = txC { t with seq := { t.seq with orig := i } } mv tv ev ∧ spl (txC t mv tv ev) 38 (idC i).toList = txC { t with seq := { t.seq with cur := i } } mv tv ev := by
  have h1 := idL_len t.seq.orig
  have h2 := idL_len t.seq.cur
  have h3 := idL_len i
  constructor
  · apply Array.ext'
    simp [spl, txC, txL, seqL, idC, h1, h3]
  · apply Array.ext'
    simp [spl, txC, txL, seqL, idC, h1, h2, h3, List.drop_append, List.drop_of_length_le]
theorem txC_seqAt (t : TxD) (mv tv ev : Value) : (txC t mv tv ev)[5]? = some (.string t.seq.branch) ∧ (txC t mv tv ev)[70]? = some tv ∧ (txC t mv tv ev)[71]? = some (.int .i64 t.seq.done) ∧ (txC t mv tv ev)[72]? = some (.int .i64 t.seq.made) ∧ (txC t mv tv ev)[73]? = some (.bool t.seq.stopped) := by
  have h1 := idL_len t.seq.orig
  have h2 := idL_len t.seq.cur
  refine ⟨by simp [txC, txL, seqL], ?_, ?_, ?_, ?_⟩ <;> simp [txC, txL, seqL, h1, h2]
theorem build_todo1 (n : Int) (w : World) : (Instr.build 113 #[(0, .int .i64 n)]).run Tryz.prog w = .ok (.agg (todoC ⟨n, noId⟩)) w := by kernel_rfl
theorem todoC_spl (m : TodoD) (i : Id) : spl (todoC m) 1 (idC i).toList = todoC { m with id := i } := by
  have h1 := idL_len m.id
  have h3 := idL_len i
  apply Array.ext'
  simp [spl, todoC, todoL, idC, h1, h3]
end Go.Proofs.YtppmolneklidfaaGreat

namespace Go.Proofs.YtppmolneklidfaaGreat
open Go.RowKit

/-- The state: a transaction that is being filled, and the row of its steps to do. -/
structure CS (w wr : World) (g B : Nat) (b : List UInt8) (x y : Nat) (E : List TypeId) (cy : Array Value) (t : TxD) (mv ev : Value) (l : List TodoD) (A : Option Addr) (c : Nat) (at_ : Nat) (e : Int) (W : World) : Prop where
  cq : CQ w g B b x y 34 E cy (txC t mv (.slice A l.length c) ev) at_ e W
  kk : Kept wr.heap.size [113] [g, x] wr W
  ow : Own W wr.heap.size 113 33 A l.length c (todoLs l)
section
variable {w wr : World} {g B : Nat} {b : List UInt8} {x y : Nat} {E : List TypeId} {cy : Array Value} {t t' : TxD} {mv ev : Value} {l : List TodoD} {A : Option Addr} {c : Nat} {at_ : Nat} {e : Int} {W W' : World}
theorem CS.next {at' : Nat} {e' : Int} (h : CS w wr g B b x y E cy t mv ev l A c at_ e W) (hq : CQ w g B b x y 34 E cy (txC t mv (.slice A l.length c) ev) at' e' W') (hk : Keep (Only g) W W') : CS w wr g B b x y E cy t mv ev l A c at' e' W' := by
  obtain ⟨rA, rc, rb⟩ := h.cq.rblk
  exact ⟨hq, h.kk.trans (Kept.ofKeep hk (by unfold Only; intro i _ h; simp [h])), h.ow.keepOnly hk rb (by decide)⟩
theorem CS.number1 (h : CS w wr g B b x y E cy t mv ev l A c at_ e W) : Calls Tryz.prog 54 #[.pointer (some ⟨g, 0, none⟩), .int .i64 1] W fun r w' =>
    r = .returned (.int .i64 (num (takeL b at_ e 1))) ∧ CS w wr g B b x y E cy t mv ev l A c (takeAt b at_ e 1) (takeE b at_ e 1) w' := h.cq.number1.mono fun _ _ ⟨h1, h2, h3⟩ => ⟨h1, h.next h2 h3⟩
theorem CS.number2 (h : CS w wr g B b x y E cy t mv ev l A c at_ e W) : Calls Tryz.prog 54 #[.pointer (some ⟨g, 0, none⟩), .int .i64 2] W fun r w' =>
    r = .returned (.int .i64 (num (takeL b at_ e 2))) ∧ CS w wr g B b x y E cy t mv ev l A c (takeAt b at_ e 2) (takeE b at_ e 2) w' := h.cq.number2.mono fun _ _ ⟨h1, h2, h3⟩ => ⟨h1, h.next h2 h3⟩
theorem CS.text1 (h : CS w wr g B b x y E cy t mv ev l A c at_ e W) : Calls Tryz.prog 55 #[.pointer (some ⟨g, 0, none⟩), .int .i64 1] W fun r w' =>
    r = .returned (.string (str (textL b at_ e 1))) ∧ CS w wr g B b x y E cy t mv ev l A c (textAt b at_ e 1) (textE b at_ e 1) w' := h.cq.text1.mono fun _ _ ⟨h1, h2, h3⟩ => ⟨h1, h.next h2 h3⟩
theorem CS.id (h : CS w wr g B b x y E cy t mv ev l A c at_ e W) : Calls Tryz.prog 56 #[.pointer (some ⟨g, 0, none⟩)] W fun r w' =>
    r = .returned (idV (idOf (takeL b at_ e 32))) ∧ CS w wr g B b x y E cy t mv ev l A c (takeAt b at_ e 32) (takeE b at_ e 32) w' := h.cq.id.mono fun _ _ ⟨h1, h2, h3⟩ => ⟨h1, h.next h2 h3⟩
theorem CS.only {cs' : Array Value} (h : CS w wr g B b x y E cy t mv ev l A c at_ e W) (hb : Blk W' x 34 cs') (hk : Keep (Only x) W W') (hc : cs' = txC t' mv (.slice A l.length c) ev) : CS w wr g B b x y E cy t' mv ev l A c at_ e W' := by
  subst hc
  exact ⟨h.cq.only hb hk, h.kk.trans (Kept.ofKeep hk (by unfold Only; intro i _ h; simp [h])), h.ow.keepOnly hk h.cq.blk (by decide)⟩
theorem CS.set (h : CS w wr g B b x y E cy t mv ev l A c at_ e W) (i : Nat) (v : Value) (hc : (txC t mv (.slice A l.length c) ev).setIfInBounds i v = txC t' mv (.slice A l.length c) ev) : CS w wr g B b x y E cy t' mv ev l A c at_ e (W.setCell ⟨x, i, none⟩ v) :=
  h.only (h.cq.blk.set_ i v) ((Keep.refl (Only x) W).setCell (p := ⟨x, i, none⟩) (.inl rfl) _) hc
end
def CseqPost (w wr : World) (g B : Nat) (b : List UInt8) (x y : Nat) (E : List TypeId) (cy : Array Value) (t : TxD) (mv ev : Value) (at_ : Nat) (e : Int) (r : Ending) (W : World) : Prop :=
  ∃ A c, r = .returned (.bool (decide ((1 : Int) < ((rseqP b at_ e).2.2.2 : Nat)))) ∧ CS w wr g B b x y E cy { t with seq := (rseqP b at_ e).1 } mv ev (rseqP b at_ e).1.todo A c (rseqP b at_ e).2.1 (rseqP b at_ e).2.2.1 W
def LdTodoC (v : Value) : Sem Value := Instr.loadAt 113 v
theorem ld_todoC (v : Value) : Instr.loadAt 113 v = LdTodoC v := rfl

attribute [local go_sem ↓] ld_todoC bs_todo
set_option maxHeartbeats 8000000 in
set_option maxRecDepth 100000 in
theorem cseq_any (b : List UInt8) (at_ : Nat) (e : Int) (g B x y : Nat) (E : List TypeId) (cy : Array Value) (t : TxD) (mv ev : Value) (w v0 : World) (hE : 113 ∈ E) (ht : t.seq = noSeq) (h0 : CQ w g B b x y 34 E cy (txC t mv nilS ev) at_ e v0) :
    Calls Tryz.prog 73 #[.pointer (some ⟨g, 0, none⟩), .pointer (some ⟨x, 4, none⟩)] v0 (CseqPost w v0 g B b x y E cy t mv ev at_ e) := by
  have s0 : CS w v0 g B b x y E cy t mv ev [] none 0 at_ e v0 := ⟨h0, Kept.refl _ _ _ _, Own.nil _ _ _ _⟩
  have HT := Lib.hid ht
  have hwz := h0.kept.size
  clear h0 ht
  have HP := Lib.hid (show rseqP b at_ e = if num (takeL b at_ e 1) = 0 then (noSeq, takeAt b at_ e 1, takeE b at_ e 1, 0)
    else rsIds b { noSeq with kind := (num (takeL b at_ e 1) : Nat), branch := str (textL b (takeAt b at_ e 1) (takeE b at_ e 1) 1) } (textAt b (takeAt b at_ e 1) (takeE b at_ e 1) 1) (textE b (takeAt b at_ e 1) (takeE b at_ e 1) 1) from rfl)
  go_enter Tryz.func73, Tryz.ntmps73
  go_wp2_with fail
  refine s0.number1.mono ?_
  rintro r w1 ⟨rfl, s1⟩
  have hn := num1 b at_ e
  clear s0
  generalize num (takeL b at_ e 1) = n at *
  generalize takeAt b at_ e 1 = a1 at *
  generalize takeE b at_ e 1 = e1 at *
  have c1 := (s1.cq.blk.cell 4).trans txC_at.2.2.2.2.1
  have f1 := s1.cq.blk.frozen 4
  go_upto_region 2 with fail
  have s2 := s1.set 4 (.int .i64 (n : Int)) ((txC_seqSet _ _ _ _).1 _)
  have c2 := (s2.cq.blk.cell 4).trans txC_at.2.2.2.2.1
  simp only at c2
  generalize w1.setCell ⟨x, 4, none⟩ (.int .i64 (n : Int)) = w2 at *
  clear s1 c1 f1
  by_cases h0 : n = 0
  · subst h0
    have HP2 := Lib.hid (show rseqP b at_ e = (noSeq, a1, e1, 0) from by rw [HP.out, if_pos rfl])
    go_wp2_with fail
    go_ret
    refine ⟨none, 0, by rw [HP2.out]; rfl, ?_⟩
    rw [HP2.out]
    have : ({ t with seq := { t.seq with kind := ((0 : Nat) : Int) } } : TxD) = { t with seq := noSeq } := by rw [HT.out]; rfl
    rw [this] at s2
    exact s2
  · have d0 : ((n : Int) == 0) = false := beq_eq_false_iff_ne.2 (by omega)
    have HP2 := Lib.hid (show rseqP b at_ e = rsIds b { noSeq with kind := (n : Int), branch := str (textL b a1 e1 1) } (textAt b a1 e1 1) (textE b a1 e1 1) from by rw [HP.out, if_neg h0])
    go_wp2_with fail
    refine s2.text1.mono ?_
    rintro r w3 ⟨rfl, s3⟩
    clear s2 c2 HP
    generalize textL b a1 e1 1 = tl at *
    generalize textAt b a1 e1 1 = a2 at *
    generalize textE b a1 e1 1 = e2 at *
    have c1 := (s3.cq.blk.cell 5).trans (txC_seqAt _ _ _ _).1
    have f1 := s3.cq.blk.frozen 5
    go_wp2_with fail
    have s4 := s3.set 5 (.string (str tl)) ((txC_seqSet _ _ _ _).2.1 _)
    clear s3 c1 f1
    generalize w3.setCell ⟨x, 5, none⟩ (.string (str tl)) = w4 at *
    refine s4.id.mono ?_
    rintro r w5 ⟨rfl, s5⟩
    have HP3 := Lib.hid (show rseqP b at_ e = rsTodo b { noSeq with kind := (n : Int), branch := str tl, orig := idOf (takeL b a2 e2 32), cur := idOf (takeL b (takeAt b a2 e2 32) (takeE b a2 e2 32) 32) } (takeAt b (takeAt b a2 e2 32) (takeE b a2 e2 32) 32) (takeE b (takeAt b a2 e2 32) (takeE b a2 e2 32) 32) from HP2.out)
    clear s4 HP2
    generalize idOf (takeL b a2 e2 32) = i1 at *
    generalize takeAt b a2 e2 32 = a3 at *
    generalize takeE b a2 e2 32 = e3 at *
    go_wp2_with (first | (refine wpList_storePart rfl rfl (vs := idC i1) rfl rfl s5.cq.blk (by rw [idC_size, txC_size]; omega) (by rw [idC_size]; exact info42) (idL_one _) ?_; intro w6 b6 k6 _z6))
    have s6 := s5.only b6 k6 (txC_seqSpl _ _ _ _ _).1
    clear b6 k6 _z6 s5
    refine s6.id.mono ?_
    rintro r w7 ⟨rfl, s7⟩
    clear s6
    generalize idOf (takeL b a3 e3 32) = i2 at *
    generalize takeAt b a3 e3 32 = a4 at *
    generalize takeE b a3 e3 32 = e4 at *
    go_wp2_with (first | (refine wpList_storePart rfl rfl (vs := idC i2) rfl rfl s7.cq.blk (by rw [idC_size, txC_size]; omega) (by rw [idC_size]; exact info42) (idL_one _) ?_; intro w8 b8 k8 _z8))
    have s8 := s7.only b8 k8 (txC_seqSpl _ _ _ _ _).2
    clear b8 k8 _z8 s7
    refine s8.number2.mono ?_
    rintro r w9 ⟨rfl, s9⟩
    have hm := num2 b a4 e4
    have HP4 := Lib.hid (show rseqP b at_ e = rsEnd b { noSeq with kind := (n : Int), branch := str tl, orig := i1, cur := i2, todo := (rsLoop b (num (takeL b a4 e4 2)) (takeAt b a4 e4 2) (takeE b a4 e4 2) []).1 } (rsLoop b (num (takeL b a4 e4 2)) (takeAt b a4 e4 2) (takeE b a4 e4 2) []).2.1 (rsLoop b (num (takeL b a4 e4 2)) (takeAt b a4 e4 2) (takeE b a4 e4 2) []).2.2 from HP3.out)
    clear s8 HP3
    generalize num (takeL b a4 e4 2) = m at *
    generalize takeAt b a4 e4 2 = a5 at *
    generalize takeE b a4 e4 2 = e5 at *
    simp only at s9
    obtain ⟨Q, hQ⟩ : ∃ Q : SeqD, Q = { noSeq with kind := (n : Int), branch := str tl, orig := i1, cur := i2 } := ⟨_, rfl⟩
    have s9' : CS w v0 g B b x y E cy { t with seq := Q } mv ev [] none 0 a5 e5 w9 := by rw [hQ]; rw [HT.out] at s9; exact s9
    have HP5 := Lib.hid (show ∀ l at' e', rsLoop b m a5 e5 [] = (l, at', e') → rseqP b at_ e = rsEnd b { Q with todo := l } at' e' from fun l at' e' h => by rw [HP4.out, h, hQ])
    clear s9 HP4 hQ
    go_wp2_with fail
    go_loopg [6] m (fun f i W => ∃ k at' e' l A c, i = .int .i64 (k : Nat) ∧ k + f = m ∧ rsLoop b f at' e' l = rsLoop b m a5 e5 [] ∧ CS w v0 g B b x y E cy { t with seq := Q } mv ev l A c at' e' W ∧ l.length ≤ k)
    case atStart => exact ⟨0, a5, e5, [], none, 0, rfl, by omega, rfl, s9', by simp⟩
    case round =>
      obtain ⟨k, at', e', l, A, c, rfl, hkf, hlo, s10, hlm⟩ := hrel
      have HLO := Lib.hid hlo
      have HKF := Lib.hid hkf
      have hkm : k ≤ m := by omega
      clear hlo hkf s9'
      have r2 := s10.cq.err
      by_cases hgo : k < m ∧ e' = 0
      · obtain ⟨hg0, he⟩ := hgo
        subst he
        cases gk with
        | zero => exact absurd HKF.out (by omega)
        | succ f =>
          go_wp2_with fail
          refine s10.number1.mono ?_
          rintro r w11 ⟨rfl, s11⟩
          have hn1 := num1 b at' 0
          have HL2 := Lib.hid (show rsLoop b (f + 1) at' 0 l = rsLoop b f (takeAt b (takeAt b at' 0 1) (takeE b at' 0 1) 32) (takeE b (takeAt b at' 0 1) (takeE b at' 0 1) 32) (l ++ [⟨(num (takeL b at' 0 1) : Nat), idOf (takeL b (takeAt b at' 0 1) (takeE b at' 0 1) 32)⟩]) from by show (if _ then _ else _) = _; rw [if_pos rfl])
          clear s10 r2
          generalize num (takeL b at' 0 1) = dn at *
          generalize takeAt b at' 0 1 = a6 at *
          generalize takeE b at' 0 1 = e6 at *
          go_wp2_with (first | (refine wpList_built rfl rfl (vs := #[(0, .int .i64 (dn : Int))]) rfl (build_todo1 (dn : Int) _) ?_) | (refine wpList_allocAgg rfl rfl (zero_todo _) ?_) | (refine wpList_storeBlk rfl rfl (vs := todoC ⟨(dn : Int), noId⟩) rfl rfl (Blk.new _ _ _) (by rw [todoC_size, todoC_size]) (by rw [todoC_size]; exact info_todo) (todoL_one _) ?_; intro w12 x12 kc zc))
          have v12 : CV w11 g B b w11.heap.size 113 (todoC ⟨(dn : Int), noId⟩) a6 e6 w12 :=
            ⟨s11.cq.rd.keep s11.cq.size (Keep.ofNew (S := Nothing) kc) (fun _ q => q.elim), x12, Keep.ofNew kc, Nat.le_refl _, s11.cq.size, by decide, s11.cq.bl⟩
          clear kc zc x12
          have hz11 := s11.kk.size
          generalize w11.heap.size = z at *
          refine v12.id.mono ?_
          rintro r w13 ⟨rfl, v13⟩
          clear v12
          generalize idOf (takeL b a6 e6 32) = i6 at *
          generalize takeAt b a6 e6 32 = a7 at *
          generalize takeE b a6 e6 32 = e7 at *
          go_upto_region 13 with (first | (refine wpList_storePart rfl rfl (vs := idC i6) rfl rfl v13.blk (by rw [idC_size, todoC_size]; omega) (by rw [idC_size]; exact info42) (idL_one _) ?_; intro w14 b14 k14 _z14))
          have v14 := v13.only b14 k14
          rw [todoC_spl] at v14
          simp only at v14
          clear b14 k14 _z14 v13
          have s14 : CS w v0 g B b x y E cy { t with seq := Q } mv ev l A c a7 e7 w14 := s11.next (s11.cq.next v14.rd v14.keep) v14.keep
          clear s11
          have z14 := s14.kk.size
          have c70 := (s14.cq.blk.cell 70).trans (txC_seqAt _ _ _ _).2.1
          have c70' := fun o => ((s14.cq.blk.alloc o).cell 70).trans (txC_seqAt _ _ _ _).2.1
          have L1 : (LdTodoC (.pointer (some ⟨z, 0, none⟩))).run Tryz.prog w14.drew = _ := load_whole v14.blk.drew Tryz.underlying113 rfl (by rw [todoC_size]; exact info_todo)
          have BS := BsTodo.run ⟨(dn : Int), i6⟩
          have hl16 : l.length ≤ 65535 := by omega
          have CQD := Lib.hid s14.cq.drew
          have OWD := Lib.hid s14.ow.drew
          go_region_law (first | ((refine step_append_sl (by rfl) elemTodo (by rfl) (by rfl) (OWD.out.alloc _) (by rfl) (Reads.of_cells (n := 1) (xs := todoL ⟨(dn : Int), i6⟩) (heap_alloc_new _ _) rfl (by rw [todoL_len])) (todoL_one _) (by unfold maxLen; omega) (by omega) (by simp; omega) ?_); intro A' c' w15 o15 k15; have q15 := (CQD.out.alloc _).row (k15.mono hwz (by simpa using hE) (by simp)); have c15 := (q15.blk.cell 70).trans (txC_seqAt _ _ _ _).2.1; have f15 := q15.blk.frozen 70))
          all_goals
            go_wp2_with fail
            go_roundg f
            case measure => omega
            case rel =>
              have el : l.length + 1 = (l ++ [(⟨(dn : Int), i6⟩ : TodoD)]).length := by simp
              have q16 := q15.set 70 (.slice A' (l ++ [(⟨(dn : Int), i6⟩ : TodoD)]).length c')
              rw [(txC_seqSet _ _ _ _).2.2.1] at q16
              have o16 : Own w15 v0.heap.size 113 33 A' (l ++ [(⟨(dn : Int), i6⟩ : TodoD)]).length c' (todoLs (l ++ [(⟨(dn : Int), i6⟩ : TodoD)])) := by simpa [todoLs] using o15
              have kk16 := ((s14.kk.drew.alloc (.cells (todoC ⟨(dn : Int), i6⟩) 113)).trans (k15.mono (Nat.le_refl _) (fun _ h => h) (by simp))).setCell (p := ⟨x, 70, none⟩) (.inl (by simp)) (.slice A' (l ++ [(⟨(dn : Int), i6⟩ : TodoD)]).length c')
              rw [el]
              exact ⟨k + 1, _, _, _, A', c', by go_num, by have := HKF.out; omega, by rw [← HL2.out]; exact HLO.out, ⟨q16, kk16, o16.setCell (p := ⟨x, 70, none⟩) q15.blk (by decide) _⟩, by rw [← el]; omega⟩
      · have hend : rsLoop b m a5 e5 [] = (l, at', e') := by
          rw [← HLO.out]
          by_cases he : e' = 0
          · have h0 : gk = 0 := by have := HKF.out; omega
            rw [h0]
            rfl
          · exact rsLoop_err he
        have HE := Lib.hid (HP5.out _ _ _ hend)
        have fin : m ≤ k ∨ (k < m ∧ (e' != 0) = true) := by
          by_cases h1 : m ≤ k
          · exact .inl h1
          · exact .inr ⟨by omega, by have : e' ≠ 0 := fun h => hgo ⟨by omega, h⟩; simpa using this⟩
        clear hend HLO hgo HP5 hlm HKF
        rcases fin with f1 | ⟨f1, f2⟩
        all_goals
          go_wp2_with fail
          refine s10.number2.mono ?_
          rintro r w11 ⟨rfl, s11⟩
          have hd1 := num2 b at' e'
          have HE2 := Lib.hid (show rseqP b at_ e = ({ Q with todo := l, done := (num (takeL b at' e' 2) : Nat), made := (num (takeL b (takeAt b at' e' 2) (takeE b at' e' 2) 2) : Nat), stopped := ((num (takeL b (takeAt b (takeAt b at' e' 2) (takeE b at' e' 2) 2) (takeE b (takeAt b at' e' 2) (takeE b at' e' 2) 2) 1) : Int) == 1) },
            takeAt b (takeAt b (takeAt b at' e' 2) (takeE b at' e' 2) 2) (takeE b (takeAt b at' e' 2) (takeE b at' e' 2) 2) 1, takeE b (takeAt b (takeAt b at' e' 2) (takeE b at' e' 2) 2) (takeE b (takeAt b at' e' 2) (takeE b at' e' 2) 2) 1,
            num (takeL b (takeAt b (takeAt b at' e' 2) (takeE b at' e' 2) 2) (takeE b (takeAt b at' e' 2) (takeE b at' e' 2) 2) 1)) from HE.out)
          clear HE s10 r2
          generalize num (takeL b at' e' 2) = d1 at *
          generalize takeAt b at' e' 2 = a6 at *
          generalize takeE b at' e' 2 = e6 at *
          have c1 := (s11.cq.blk.cell 71).trans (txC_seqAt _ _ _ _).2.2.1
          have f1' := s11.cq.blk.frozen 71
          go_wp2_with fail
          have s12 := s11.set 71 (.int .i64 (d1 : Int)) ((txC_seqSet _ _ _ _).2.2.2.1 _)
          clear s11 c1 f1'
          generalize w11.setCell ⟨x, 71, none⟩ (.int .i64 (d1 : Int)) = w12 at *
          refine s12.number2.mono ?_
          rintro r w13 ⟨rfl, s13⟩
          have hd2 := num2 b a6 e6
          clear s12
          generalize num (takeL b a6 e6 2) = d2 at *
          generalize takeAt b a6 e6 2 = a7 at *
          generalize takeE b a6 e6 2 = e7 at *
          have c1 := (s13.cq.blk.cell 72).trans (txC_seqAt _ _ _ _).2.2.2.1
          have f1' := s13.cq.blk.frozen 72
          go_wp2_with fail
          have s14 := s13.set 72 (.int .i64 (d2 : Int)) ((txC_seqSet _ _ _ _).2.2.2.2.1 _)
          clear s13 c1 f1'
          generalize w13.setCell ⟨x, 72, none⟩ (.int .i64 (d2 : Int)) = w14 at *
          refine s14.number1.mono ?_
          rintro r w15 ⟨rfl, s15⟩
          have hd3 := num1 b a7 e7
          clear s14
          generalize num (takeL b a7 e7 1) = d3 at *
          generalize takeAt b a7 e7 1 = a8 at *
          generalize takeE b a7 e7 1 = e8 at *
          have c1 := (s15.cq.blk.cell 73).trans (txC_seqAt _ _ _ _).2.2.2.2
          have f1' := s15.cq.blk.frozen 73
          have s16 := s15.set 73 (.bool ((d3 : Int) == 1)) ((txC_seqSet _ _ _ _).2.2.2.2.2 _)
          clear s15
          simp only at s16
          go_wp2_with fail
          go_ret
          generalize w15.setCell ⟨x, 73, none⟩ (.bool ((d3 : Int) == 1)) = w16 at *
          refine ⟨A, c, by rw [HE2.out]; rfl, ?_⟩
          rw [HE2.out]
          exact ⟨s16.cq, s16.kk, s16.ow⟩
end Go.Proofs.YtppmolneklidfaaGreat

namespace Go.Proofs.YtppmolneklidfaaGreat
open Go.RowKit

/-! ### An error stays -/
theorem take_no {b : List UInt8} {at_ : Nat} {e n : Int} (he : e ≠ 0) : takeL b at_ e n = [] ∧ takeAt b at_ e n = at_ ∧ takeE b at_ e n = e := take_e b at_ e n (by simpa using he)
theorem text_no {b : List UInt8} {at_ : Nat} {e n : Int} (he : e ≠ 0) : textL b at_ e n = [] ∧ textAt b at_ e n = at_ ∧ textE b at_ e n = e := by
  unfold textL textAt textE
  obtain ⟨h1, h2, h3⟩ := take_no (b := b) (at_ := at_) (n := n) he
  rw [h1, h2, h3]
  exact take_no he
theorem note_tt (e c : Int) : note e true c = e := by unfold note; split <;> simp_all
theorem num_nil : num [] = 0 := rfl
theorem ptE_no {b : List UInt8} {t : TxD} {at_ : Nat} {e : Int} (he : e ≠ 0) : ptE b t at_ e = (tx0, e) := by
  have h : endE b at_ e = e := by unfold endE note; rw [if_neg he]
  unfold ptE
  rw [h, if_neg he]
theorem ptD_no {b : List UInt8} {t : TxD} {at_ : Nat} {e : Int} (he : e ≠ 0) : ptD b t at_ e = (tx0, e) := by
  obtain ⟨h1, h2, h3⟩ := take_no (b := b) (at_ := at_) (n := 2) he
  unfold ptD
  rw [h1, h2, h3, num_nil]
  exact ptE_no he
theorem rseqP_no {b : List UInt8} {at_ : Nat} {e : Int} (he : e ≠ 0) : rseqP b at_ e = (noSeq, at_, e, 0) := by
  obtain ⟨h1, h2, h3⟩ := take_no (b := b) (at_ := at_) (n := 1) he
  unfold rseqP
  rw [h1, h2, h3, num_nil, if_pos rfl]
theorem ptC_no {b : List UInt8} {t : TxD} {at_ : Nat} {e : Int} (he : e ≠ 0) : ptC b t at_ e = (tx0, e) := by
  unfold ptC
  rw [rseqP_no he]
  split
  · have : note e (decide (((0 : Nat) : Int) ≤ 1)) 16 = e := by unfold note; rw [if_neg he]
    show ptD b _ at_ (note e (decide (((0 : Nat) : Int) ≤ 1)) 16) = _
    rw [this]
    exact ptD_no he
  · exact ptD_no he
theorem ptB_no {b : List UInt8} {t : TxD} {at_ : Nat} {e : Int} (he : e ≠ 0) : ptB b t at_ e = (tx0, e) := by
  obtain ⟨h1, h2, h3⟩ := take_no (b := b) (at_ := at_) (n := 2) he
  unfold ptB
  rw [h1, h2, h3, num_nil]
  exact ptC_no he
theorem ptA_no {b : List UInt8} {t : TxD} {at_ : Nat} {e : Int} (he : e ≠ 0) : ptA b t at_ e = (tx0, e) := by
  obtain ⟨_, h2, h3⟩ := text_no (b := b) (at_ := at_) (n := 1) he
  unfold ptA
  rw [h2, h3]
  split <;> exact ptB_no he
theorem takeE_of_num {b : List UInt8} {at_ : Nat} {e n : Int} (h : num (takeL b at_ e n) ≠ 0) : takeE b at_ e n = 0 := by
  unfold takeL at h
  split at h
  · rename_i hc
    unfold takeE
    rw [if_pos hc.2]
    exact hc.1
  · exact absurd num_nil h
/-- flags that may not be -/
theorem parseTx_flags {b : List UInt8} (h : 3 < num (takeL b 0 0 1)) : parseTx b = (tx0, 16) := by
  unfold parseTx
  rw [takeE_of_num (by omega), show note 0 (decide ((num (takeL b 0 0 1) : Int) ≤ 3)) 16 = 16 from by rw [decide_eq_false (by omega)]; rfl]
  exact ptA_no (by decide)
theorem rseqP_bad {b : List UInt8} {at_ : Nat} {e : Int} (h : 1 < (rseqP b at_ e).2.2.2) : (rseqP b at_ e).2.2.1 = 0 := by
  unfold rseqP at h ⊢
  split at h
  · simp at h
  · rename_i h0
    rw [if_neg h0]
    exact takeE_of_num (by unfold rsIds rsTodo rsEnd at h; simp only at h; omega)

/-! ### The cursor knows one error -/
def E14 (e : Int) : Prop := e = 0 ∨ e = 14
theorem E14.take {b : List UInt8} {at_ : Nat} {e n : Int} (h : E14 e) : E14 (takeE b at_ e n) := by
  unfold takeE
  split
  · exact h
  · rcases h with rfl | rfl
    · exact .inr rfl
    · exact .inr rfl
theorem E14.text {b : List UInt8} {at_ : Nat} {e n : Int} (h : E14 e) : E14 (textE b at_ e n) := h.take.take
theorem E14.moves {b : List UInt8} : ∀ (k : Nat) {at_ : Nat} {e : Int} {l : List MoveD}, E14 e → E14 (ptMoves b k at_ e l).2.2
  | 0, _, _, _, h => h
  | k + 1, at_, e, l, h => by
    show E14 (if e = 0 then _ else _ : List MoveD × Nat × Int).2.2
    split
    · exact E14.moves k (E14.text (E14.take (E14.take (E14.text (.inl rfl)))))
    · exact h
theorem E14.mems {b : List UInt8} : ∀ (k : Nat) {at_ : Nat} {e : Int} {l : List MemD}, E14 e → E14 (ptMems b k at_ e l).2.2
  | 0, _, _, _, h => h
  | k + 1, at_, e, l, h => by
    show E14 (if e = 0 then _ else _ : List MemD × Nat × Int).2.2
    split
    · exact E14.mems k (E14.text (E14.take (.inl rfl)))
    · exact h
theorem E14.todos {b : List UInt8} : ∀ (k : Nat) {at_ : Nat} {e : Int} {l : List TodoD}, E14 e → E14 (rsLoop b k at_ e l).2.2
  | 0, _, _, _, h => h
  | k + 1, at_, e, l, h => by
    show E14 (if e = 0 then _ else _ : List TodoD × Nat × Int).2.2
    split
    · exact E14.todos k (E14.take (E14.take (.inl rfl)))
    · exact h
theorem E14.seq {b : List UInt8} {at_ : Nat} {e : Int} (h : E14 e) : E14 (rseqP b at_ e).2.2.1 := by
  unfold rseqP
  split
  · exact h.take
  · unfold rsIds rsTodo rsEnd
    exact E14.take (E14.take (E14.take (E14.todos _ (E14.take (E14.take (E14.take (E14.text h.take)))))))
theorem andI_fin : ∀ n : Fin 4, (bits .and .i64 ((n.val : Nat) : Int) 1 == 1) = bit1 n.val ∧ (bits .and .i64 ((n.val : Nat) : Int) 2 == 2) = bit2 n.val := by decide +kernel
theorem andI {n : Nat} (h : n ≤ 3) : (bits .and .i64 (n : Int) 1 == 1) = bit1 n ∧ (bits .and .i64 (n : Int) 2 == 2) = bit2 n := andI_fin ⟨n, by omega⟩
end Go.Proofs.YtppmolneklidfaaGreat
