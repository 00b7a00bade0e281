/-
  The reference's cursor beside variables; a sequence's cells inside a transaction's. No statement of the seat is proved here.
-/
import Derived.Test.YtppmolneklidfaaTx7
import Derived.Test.YtppmolneklidfaaRef4b
namespace Go.Proofs.Ytppmolneklidfaa
open Go.RowKit

theorem Cu.kept_ {w w' : World} {g B base : Nat} {E : List TypeId} {G : List Nat} {b : List UInt8} {at_ : Nat} {e : Int} (h : Cu w g B b at_ e) (hk : Kept base E G w w') (hB : B ≤ base) (hz : B ≤ w.heap.size) (hG : ∀ x ∈ G, B ≤ x ∧ x ≠ g) (hE : 109 ∉ E) : Cu w' g B b at_ e := by
  obtain ⟨A, c, hb, hrd, h1, h2, h3, h4⟩ := h
  exact ⟨A, c, hk.blk hb (fun q => (hG g q).2 rfl) hE, hrd.below (hk.below hB hz (fun x hx => (hG x hx).1)), h1, h2, h3, h4⟩
/-! ### A reader beside two variables of a struct's type: the one that is filled (x), the result (y) -/
structure CQ (w : World) (g B : Nat) (b : List UInt8) (x y : Nat) (T : TypeId) (E : List TypeId) (cy cs : Array Value) (at_ : Nat) (e : Int) (wr : World) : Prop where
  rd : Cu wr g B b at_ e
  blk : Blk wr x T cs
  res : Blk wr y T cy
  kept : Kept w.heap.size E [g] w wr
  bz : B ≤ w.heap.size
  nx : w.heap.size ≤ x
  ny : w.heap.size ≤ y
  ne : x ≠ y
  nt : T ≠ 109 ∧ T ∉ E ∧ 109 ∉ E
  bl : b.length ≤ 140737488355328
section
variable {w : World} {g B : Nat} {b : List UInt8} {x y : Nat} {T : TypeId} {E : List TypeId} {cy cs : Array Value} {at_ : Nat} {e : Int} {wr w' : World}
theorem CQ.rblk (h : CQ w g B b x y T E cy cs at_ e wr) : ∃ A c, Blk wr g 109 #[.slice A b.length c, .int .i64 at_, .bool (e != 0)] := by
  obtain ⟨A, c, hb, _⟩ := h.rd
  exact ⟨A, c, hb⟩
theorem CQ.err (h : CQ w g B b x y T E cy cs at_ e wr) : wr.cell? ⟨g, 2, none⟩ = some (.bool (e != 0)) := by
  obtain ⟨A, c, hb⟩ := h.rblk
  have := hb.cell 2
  simpa using this
theorem CQ.xg (h : CQ w g B b x y T E cy cs at_ e wr) : x ≠ g := by obtain ⟨A, c, hb⟩ := h.rblk; exact h.blk.ne_ hb h.nt.1
theorem CQ.yg (h : CQ w g B b x y T E cy cs at_ e wr) : y ≠ g := by obtain ⟨A, c, hb⟩ := h.rblk; exact h.res.ne_ hb h.nt.1
theorem CQ.Bg (h : CQ w g B b x y T E cy cs at_ e wr) : B ≤ g := by obtain ⟨_, _, _, _, _, _, _, hb⟩ := h.rd; exact hb
theorem CQ.size (h : CQ w g B b x y T E cy cs at_ e wr) : B ≤ wr.heap.size := Nat.le_trans h.bz h.kept.size
theorem CQ.lt (h : CQ w g B b x y T E cy cs at_ e wr) : g < wr.heap.size := by obtain ⟨A, c, hb⟩ := h.rblk; exact hb.lt
theorem CQ.next {at' : Nat} {e' : Int} (h : CQ w g B b x y T E cy cs at_ e wr) (hr : Cu w' g B b at' e') (hk : Keep (Only g) wr w') : CQ w g B b x y T E cy cs at' e' w' :=
  ⟨hr, h.blk.keep hk h.xg, h.res.keep hk h.yg, h.kept.trans (Kept.ofKeep hk (by unfold Only; simp)), h.bz, h.nx, h.ny, h.ne, h.nt, h.bl⟩
theorem CQ.number (h : CQ w g B b x y T E cy cs at_ e wr) (n : Nat) (hn : n ≤ 7) : Calls Try.prog 51 #[.pointer (some ⟨g, 0, none⟩), .int .i64 n] wr fun r w' =>
    r = .returned (.int .i64 (num (takeL b at_ e n))) ∧ CQ w g B b x y T E cy cs (takeAt b at_ e n) (takeE b at_ e n) w' ∧ Keep (Only g) wr w' :=
  (cnum_any n hn g B b at_ e wr h.rd h.size).mono fun _ _ ⟨h1, h2, h3⟩ => ⟨h1, h.next h2 h3, h3⟩
theorem CQ.text (h : CQ w g B b x y T E cy cs at_ e wr) (n : Nat) (hn : n ≤ 7) : Calls Try.prog 52 #[.pointer (some ⟨g, 0, none⟩), .int .i64 n] wr fun r w' =>
    r = .returned (.string (str (textL b at_ e n))) ∧ CQ w g B b x y T E cy cs (textAt b at_ e n) (textE b at_ e n) w' ∧ Keep (Only g) wr w' :=
  (ctext_any n hn g B b at_ e wr h.rd h.size h.bl).mono fun _ _ ⟨h1, h2, h3⟩ => ⟨h1, h.next h2 h3, h3⟩
theorem CQ.number1 (h : CQ w g B b x y T E cy cs at_ e wr) : Calls Try.prog 51 #[.pointer (some ⟨g, 0, none⟩), .int .i64 1] wr fun r w' =>
    r = .returned (.int .i64 (num (takeL b at_ e 1))) ∧ CQ w g B b x y T E cy cs (takeAt b at_ e 1) (takeE b at_ e 1) w' ∧ Keep (Only g) wr w' := h.number 1 (by omega)
theorem CQ.number2 (h : CQ w g B b x y T E cy cs at_ e wr) : Calls Try.prog 51 #[.pointer (some ⟨g, 0, none⟩), .int .i64 2] wr fun r w' =>
    r = .returned (.int .i64 (num (takeL b at_ e 2))) ∧ CQ w g B b x y T E cy cs (takeAt b at_ e 2) (takeE b at_ e 2) w' ∧ Keep (Only g) wr w' := h.number 2 (by omega)
theorem CQ.text1 (h : CQ w g B b x y T E cy cs at_ e wr) : Calls Try.prog 52 #[.pointer (some ⟨g, 0, none⟩), .int .i64 1] wr fun r w' =>
    r = .returned (.string (str (textL b at_ e 1))) ∧ CQ w g B b x y T E cy cs (textAt b at_ e 1) (textE b at_ e 1) w' ∧ Keep (Only g) wr w' := h.text 1 (by omega)
theorem CQ.text2 (h : CQ w g B b x y T E cy cs at_ e wr) : Calls Try.prog 52 #[.pointer (some ⟨g, 0, none⟩), .int .i64 2] wr fun r w' =>
    r = .returned (.string (str (textL b at_ e 2))) ∧ CQ w g B b x y T E cy cs (textAt b at_ e 2) (textE b at_ e 2) w' ∧ Keep (Only g) wr w' := h.text 2 (by omega)
theorem CQ.text4 (h : CQ w g B b x y T E cy cs at_ e wr) : Calls Try.prog 52 #[.pointer (some ⟨g, 0, none⟩), .int .i64 4] wr fun r w' =>
    r = .returned (.string (str (textL b at_ e 4))) ∧ CQ w g B b x y T E cy cs (textAt b at_ e 4) (textE b at_ e 4) w' ∧ Keep (Only g) wr w' := h.text 4 (by omega)
theorem CQ.id (h : CQ w g B b x y T E cy cs at_ e wr) : Calls Try.prog 53 #[.pointer (some ⟨g, 0, none⟩)] wr fun r w' =>
    r = .returned (idV (idOf (takeL b at_ e 32))) ∧ CQ w g B b x y T E cy cs (takeAt b at_ e 32) (takeE b at_ e 32) w' ∧ Keep (Only g) wr w' :=
  (cid_any g B b at_ e wr h.rd h.size h.bl).mono fun _ _ ⟨h1, h2, h3⟩ => ⟨h1, h.next h2 h3, h3⟩
theorem CQ.drew (h : CQ w g B b x y T E cy cs at_ e wr) : CQ w g B b x y T E cy cs at_ e wr.drew := ⟨h.rd.drew, h.blk.drew, h.res.drew, h.kept.drew, h.bz, h.nx, h.ny, h.ne, h.nt, h.bl⟩
theorem CQ.keepN (h : CQ w g B b x y T E cy cs at_ e wr) (k : Keep Nothing wr w') : CQ w g B b x y T E cy cs at_ e w' :=
  ⟨h.rd.keep h.size k (fun _ q => q.elim), h.blk.keep k (fun q => q), h.res.keep k (fun q => q), h.kept.trans (Kept.ofKeep k (by unfold Nothing; simp)), h.bz, h.nx, h.ny, h.ne, h.nt, h.bl⟩
theorem CQ.alloc (h : CQ w g B b x y T E cy cs at_ e wr) (o : Obj) : CQ w g B b x y T E cy cs at_ e (wr.alloc o) := h.keepN ((Keep.refl _ _).alloc _)
theorem CQ.row (h : CQ w g B b x y T E cy cs at_ e wr) (k : Kept w.heap.size E [] wr w') : CQ w g B b x y T E cy cs at_ e w' :=
  ⟨h.rd.kept_ k h.bz h.size (by simp) h.nt.2.2, k.blk h.blk (by simp) h.nt.2.1, k.blk h.res (by simp) h.nt.2.1, h.kept.trans (k.mono (Nat.le_refl _) (fun _ h => h) (by simp)), h.bz, h.nx, h.ny, h.ne, h.nt, h.bl⟩
/-- The filled variable has turned, and nothing else. -/
theorem CQ.only {cs' : Array Value} (h : CQ w g B b x y T E cy cs at_ e wr) (hb : Blk w' x T cs') (k : Keep (Only x) wr w') : CQ w g B b x y T E cy cs' at_ e w' :=
  ⟨h.rd.keep h.size k (fun i q => by unfold Only at q; have := h.nx; have := h.bz; have := h.xg; subst q; exact ⟨by omega, h.xg⟩), hb, h.res.keep k (fun q => h.ne q.symm), h.kept.lift (Kept.ofKeep (base := w.heap.size) (E := []) (G := [x]) k (by unfold Only; simp)) (Nat.le_refl _) (by simp) (by have := h.nx; simp; omega), h.bz, h.nx, h.ny, h.ne, h.nt, h.bl⟩
theorem CQ.set (h : CQ w g B b x y T E cy cs at_ e wr) (i : Nat) (v : Value) : CQ w g B b x y T E cy (cs.setIfInBounds i v) at_ e (wr.setCell ⟨x, i, none⟩ v) :=
  h.only (h.blk.set_ i v) ((Keep.refl (Only x) wr).setCell (p := ⟨x, i, none⟩) (.inl rfl) _)
end

/-! ### A reader beside a variable that a round made -/
structure CV (wr : World) (g B : Nat) (b : List UInt8) (z : Nat) (T : TypeId) (cs : Array Value) (at_ : Nat) (e : Int) (wn : World) : Prop where
  rd : Cu wn g B b at_ e
  blk : Blk wn z T cs
  keep : Keep (Only g) wr wn
  nz : wr.heap.size ≤ z
  bz : B ≤ wr.heap.size
  nt : T ≠ 109
  bl : b.length ≤ 140737488355328
section
variable {wr : World} {g B : Nat} {b : List UInt8} {z : Nat} {T : TypeId} {cs : Array Value} {at_ : Nat} {e : Int} {wn w' : World}
theorem CV.zg (h : CV wr g B b z T cs at_ e wn) : z ≠ g := by obtain ⟨A, c, hb, _⟩ := h.rd; exact h.blk.ne_ hb h.nt
theorem CV.size (h : CV wr g B b z T cs at_ e wn) : B ≤ wn.heap.size := Nat.le_trans h.bz h.keep.size
theorem CV.next {at' : Nat} {e' : Int} (h : CV wr g B b z T cs at_ e wn) (hr : Cu w' g B b at' e') (hk : Keep (Only g) wn w') : CV wr g B b z T cs at' e' w' :=
  ⟨hr, h.blk.keep hk h.zg, h.keep.trans hk, h.nz, h.bz, h.nt, h.bl⟩
theorem CV.id (h : CV wr g B b z T cs at_ e wn) : Calls Try.prog 53 #[.pointer (some ⟨g, 0, none⟩)] wn fun r w' =>
    r = .returned (idV (idOf (takeL b at_ e 32))) ∧ CV wr g B b z T cs (takeAt b at_ e 32) (takeE b at_ e 32) w' :=
  (cid_any g B b at_ e wn h.rd h.size h.bl).mono fun _ _ ⟨h1, h2, h3⟩ => ⟨h1, h.next h2 h3⟩
theorem CV.text2 (h : CV wr g B b z T cs at_ e wn) : Calls Try.prog 52 #[.pointer (some ⟨g, 0, none⟩), .int .i64 2] wn fun r w' =>
    r = .returned (.string (str (textL b at_ e 2))) ∧ CV wr g B b z T cs (textAt b at_ e 2) (textE b at_ e 2) w' :=
  (ctext_any 2 (by omega) g B b at_ e wn h.rd h.size h.bl).mono fun _ _ ⟨h1, h2, h3⟩ => ⟨h1, h.next h2 h3⟩
theorem CV.text4 (h : CV wr g B b z T cs at_ e wn) : Calls Try.prog 52 #[.pointer (some ⟨g, 0, none⟩), .int .i64 4] wn fun r w' =>
    r = .returned (.string (str (textL b at_ e 4))) ∧ CV wr g B b z T cs (textAt b at_ e 4) (textE b at_ e 4) w' :=
  (ctext_any 4 (by omega) g B b at_ e wn h.rd h.size h.bl).mono fun _ _ ⟨h1, h2, h3⟩ => ⟨h1, h.next h2 h3⟩
theorem CV.keepN (h : CV wr g B b z T cs at_ e wn) (k : Keep Nothing wn w') : CV wr g B b z T cs at_ e w' :=
  ⟨h.rd.keep h.size k (fun _ q => q.elim), h.blk.keep k (fun q => q), h.keep.trans (k.mono (fun _ _ q => q.elim)), h.nz, h.bz, h.nt, h.bl⟩
theorem CV.only {cs' : Array Value} (h : CV wr g B b z T cs at_ e wn) (hb : Blk w' z T cs') (k : Keep (Only z) wn w') : CV wr g B b z T cs' at_ e w' :=
  ⟨h.rd.keep h.size k (fun i q => by unfold Only at q; have := h.nz; have := h.bz; subst q; exact ⟨by omega, h.zg⟩), hb, h.keep.then_ k (fun i hi q => by unfold Only at q; have := h.nz; omega), h.nz, h.bz, h.nt, h.bl⟩
theorem CV.set (h : CV wr g B b z T cs at_ e wn) (i : Nat) (v : Value) : CV wr g B b z T (cs.setIfInBounds i v) at_ e (wn.setCell ⟨z, i, none⟩ v) :=
  h.only (h.blk.set_ i v) ((Keep.refl (Only z) wn).setCell (p := ⟨z, i, none⟩) (.inl rfl) _)
end


/-! ### A sequence's cells inside a transaction's -/
theorem txC_seqSet (t : TxD) (mv tv ev : Value) : (∀ n, (txC t mv tv ev).setIfInBounds 4 (.int .i64 n) = txC { t with seq := { t.seq with kind := n } } mv tv ev) ∧ (∀ s, (txC t mv tv ev).setIfInBounds 5 (.string s) = txC { t with seq := { t.seq with branch := s } } mv tv ev) ∧ (∀ v, (txC t mv tv ev).setIfInBounds 70 v = txC t mv v ev) ∧
    (∀ n, (txC t mv tv ev).setIfInBounds 71 (.int .i64 n) = txC { t with seq := { t.seq with done := n } } mv tv ev) ∧ (∀ n, (txC t mv tv ev).setIfInBounds 72 (.int .i64 n) = txC { t with seq := { t.seq with made := n } } mv tv ev) ∧ (∀ z, (txC t mv tv ev).setIfInBounds 73 (.bool z) = txC { t with seq := { t.seq with stopped := z } } mv tv ev) := by
  have h1 := idL_len t.seq.orig
  have h2 := idL_len t.seq.cur
  refine ⟨fun _ => ?_, fun _ => ?_, fun _ => ?_, fun _ => ?_, fun _ => ?_, fun _ => ?_⟩ <;> (apply Array.ext'; simp [txC, txL, seqL, h1, h2])
theorem txC_seqSpl (t : TxD) (mv tv ev : Value) (i : Id) : spl (txC t mv tv ev) 6 (idC i).toList = txC { t with seq := { t.seq with orig := i } } mv tv ev ∧ spl (txC t mv tv ev) 38 (idC i).toList = txC { t with seq := { t.seq with cur := i } } mv tv ev := by
  have h1 := idL_len t.seq.orig
  have h2 := idL_len t.seq.cur
  have h3 := idL_len i
  constructor
  · apply Array.ext'
    simp [spl, txC, txL, seqL, idC, h1, h3]
  · apply Array.ext'
    simp [spl, txC, txL, seqL, idC, h1, h2, h3, List.drop_append, List.drop_of_length_le]
theorem txC_seqAt (t : TxD) (mv tv ev : Value) : (txC t mv tv ev)[5]? = some (.string t.seq.branch) ∧ (txC t mv tv ev)[70]? = some tv ∧ (txC t mv tv ev)[71]? = some (.int .i64 t.seq.done) ∧ (txC t mv tv ev)[72]? = some (.int .i64 t.seq.made) ∧ (txC t mv tv ev)[73]? = some (.bool t.seq.stopped) := by
  have h1 := idL_len t.seq.orig
  have h2 := idL_len t.seq.cur
  refine ⟨by simp [txC, txL, seqL], ?_, ?_, ?_, ?_⟩ <;> simp [txC, txL, seqL, h1, h2]
theorem build_todo1 (n : Int) (w : World) : (Instr.build 82 #[(0, .int .i64 n)]).run Try.prog w = .ok (.agg (todoC ⟨n, noId⟩)) w := by kernel_rfl
theorem todoC_spl (m : TodoD) (i : Id) : spl (todoC m) 1 (idC i).toList = todoC { m with id := i } := by
  have h1 := idL_len m.id
  have h3 := idL_len i
  apply Array.ext'
  simp [spl, todoC, todoL, idC, h1, h3]
end Go.Proofs.Ytppmolneklidfaa
