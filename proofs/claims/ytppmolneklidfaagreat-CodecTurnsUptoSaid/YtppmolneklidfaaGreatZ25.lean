/-
  Texts of the codec joined (Tx5). No statement of the seat is proved here.
-/
import Derived.Test.YtppmolneklidfaaGreatZ22
namespace Go.Proofs.YtppmolneklidfaaGreat
open Go.RowKit

/-! ### A reader beside two variables of a struct's type: the one that is filled (x), the result (y) -/
structure RQ (w : World) (g B : Nat) (b : List UInt8) (x y : Nat) (T : TypeId) (E : List TypeId) (cy cs : Array Value) (at_ : Nat) (e : Int) (wr : World) : Prop where
  rd : Rd wr g B b at_ e
  blk : Blk wr x T cs
  res : Blk wr y T cy
  kept : Kept w.heap.size E [g] w wr
  bz : B ≤ w.heap.size
  nx : w.heap.size ≤ x
  ny : w.heap.size ≤ y
  ne : x ≠ y
  nt : T ≠ 115 ∧ T ∉ E ∧ 115 ∉ E
section
variable {w : World} {g B : Nat} {b : List UInt8} {x y : Nat} {T : TypeId} {E : List TypeId} {cy cs : Array Value} {at_ : Nat} {e : Int} {wr w' : World}
theorem RQ.rblk (h : RQ w g B b x y T E cy cs at_ e wr) : ∃ A c, Blk wr g 115 #[.slice A b.length c, .int .i64 at_, .int .i64 e] := by
  obtain ⟨A, c, hb, _⟩ := h.rd
  exact ⟨A, c, hb⟩
theorem RQ.err (h : RQ w g B b x y T E cy cs at_ e wr) : wr.cell? ⟨g, 2, none⟩ = some (.int .i64 e) := by
  obtain ⟨A, c, hb⟩ := h.rblk
  have := hb.cell 2
  simpa using this
theorem RQ.xg (h : RQ w g B b x y T E cy cs at_ e wr) : x ≠ g := by obtain ⟨A, c, hb⟩ := h.rblk; exact h.blk.ne_ hb h.nt.1
theorem RQ.yg (h : RQ w g B b x y T E cy cs at_ e wr) : y ≠ g := by obtain ⟨A, c, hb⟩ := h.rblk; exact h.res.ne_ hb h.nt.1
theorem RQ.Bg (h : RQ w g B b x y T E cy cs at_ e wr) : B ≤ g := by obtain ⟨_, _, _, _, _, _, _, hb⟩ := h.rd; exact hb
theorem RQ.size (h : RQ w g B b x y T E cy cs at_ e wr) : B ≤ wr.heap.size := Nat.le_trans h.bz h.kept.size
theorem RQ.lt (h : RQ w g B b x y T E cy cs at_ e wr) : g < wr.heap.size := by obtain ⟨A, c, hb⟩ := h.rblk; exact hb.lt
theorem RQ.next {at' : Nat} {e' : Int} (h : RQ w g B b x y T E cy cs at_ e wr) (hr : Rd w' g B b at' e') (hk : Keep (Only g) wr w') : RQ w g B b x y T E cy cs at' e' w' :=
  ⟨hr, h.blk.keep hk h.xg, h.res.keep hk h.yg, h.kept.trans (Kept.ofKeep hk (by unfold Only; simp)), h.bz, h.nx, h.ny, h.ne, h.nt⟩
theorem RQ.number (h : RQ w g B b x y T E cy cs at_ e wr) (n : Nat) (hn : n ≤ 8) : Calls Tryz.prog 51 #[.pointer (some ⟨g, 0, none⟩), .int .i64 n] wr fun r w' =>
    r = .returned (.int .u64 (num (takeL b at_ e n))) ∧ RQ w g B b x y T E cy cs (takeAt b at_ e n) (takeE b at_ e n) w' ∧ Keep (Only g) wr w' :=
  (rnumber_any n hn g B b at_ e wr h.rd h.size).mono fun _ _ ⟨h1, h2, h3⟩ => ⟨h1, h.next h2 h3, h3⟩
theorem RQ.text (h : RQ w g B b x y T E cy cs at_ e wr) (n : Nat) (hn : n ≤ 7) : Calls Tryz.prog 52 #[.pointer (some ⟨g, 0, none⟩), .int .i64 n] wr fun r w' =>
    r = .returned (.string (str (textL b at_ e n))) ∧ RQ w g B b x y T E cy cs (textAt b at_ e n) (textE b at_ e n) w' ∧ Keep (Only g) wr w' :=
  (rtext_any n hn g B b at_ e wr h.rd h.size).mono fun _ _ ⟨h1, h2, h3⟩ => ⟨h1, h.next h2 h3, h3⟩
theorem RQ.number1 (h : RQ w g B b x y T E cy cs at_ e wr) : Calls Tryz.prog 51 #[.pointer (some ⟨g, 0, none⟩), .int .i64 1] wr fun r w' =>
    r = .returned (.int .u64 (num (takeL b at_ e 1))) ∧ RQ w g B b x y T E cy cs (takeAt b at_ e 1) (takeE b at_ e 1) w' ∧ Keep (Only g) wr w' := h.number 1 (by omega)
theorem RQ.number2 (h : RQ w g B b x y T E cy cs at_ e wr) : Calls Tryz.prog 51 #[.pointer (some ⟨g, 0, none⟩), .int .i64 2] wr fun r w' =>
    r = .returned (.int .u64 (num (takeL b at_ e 2))) ∧ RQ w g B b x y T E cy cs (takeAt b at_ e 2) (takeE b at_ e 2) w' ∧ Keep (Only g) wr w' := h.number 2 (by omega)
theorem RQ.text1 (h : RQ w g B b x y T E cy cs at_ e wr) : Calls Tryz.prog 52 #[.pointer (some ⟨g, 0, none⟩), .int .i64 1] wr fun r w' =>
    r = .returned (.string (str (textL b at_ e 1))) ∧ RQ w g B b x y T E cy cs (textAt b at_ e 1) (textE b at_ e 1) w' ∧ Keep (Only g) wr w' := h.text 1 (by omega)
theorem RQ.text2 (h : RQ w g B b x y T E cy cs at_ e wr) : Calls Tryz.prog 52 #[.pointer (some ⟨g, 0, none⟩), .int .i64 2] wr fun r w' =>
    r = .returned (.string (str (textL b at_ e 2))) ∧ RQ w g B b x y T E cy cs (textAt b at_ e 2) (textE b at_ e 2) w' ∧ Keep (Only g) wr w' := h.text 2 (by omega)
theorem RQ.text4 (h : RQ w g B b x y T E cy cs at_ e wr) : Calls Tryz.prog 52 #[.pointer (some ⟨g, 0, none⟩), .int .i64 4] wr fun r w' =>
    r = .returned (.string (str (textL b at_ e 4))) ∧ RQ w g B b x y T E cy cs (textAt b at_ e 4) (textE b at_ e 4) w' ∧ Keep (Only g) wr w' := h.text 4 (by omega)
theorem RQ.id (h : RQ w g B b x y T E cy cs at_ e wr) : Calls Tryz.prog 53 #[.pointer (some ⟨g, 0, none⟩)] wr fun r w' =>
    r = .returned (idV (idOf (takeL b at_ e 32))) ∧ RQ w g B b x y T E cy cs (takeAt b at_ e 32) (takeE b at_ e 32) w' ∧ Keep (Only g) wr w' :=
  (rid_any g B b at_ e wr h.rd h.size).mono fun _ _ ⟨h1, h2, h3⟩ => ⟨h1, h.next h2 h3, h3⟩
theorem RQ.must (h : RQ w g B b x y T E cy cs at_ e wr) (is : Bool) (c : Int) : Calls Tryz.prog 44 #[.pointer (some ⟨g, 0, none⟩), .bool is, .int .i64 c] wr fun r w' =>
    r = .returned (.tuple #[]) ∧ RQ w g B b x y T E cy cs at_ (note e is c) w' ∧ Keep (Only g) wr w' := by
  obtain ⟨A, c', hb, hR⟩ := h.rd.blk
  exact (must_any g _ _ _ e c is wr hb).mono fun _ _ ⟨h1, h2, h3⟩ => ⟨h1, h.next (hR _ _ h2 h.size h3) h3, h3⟩
theorem RQ.drew (h : RQ w g B b x y T E cy cs at_ e wr) : RQ w g B b x y T E cy cs at_ e wr.drew := ⟨h.rd.drew, h.blk.drew, h.res.drew, h.kept.drew, h.bz, h.nx, h.ny, h.ne, h.nt⟩
theorem RQ.keepN (h : RQ w g B b x y T E cy cs at_ e wr) (k : Keep Nothing wr w') : RQ w g B b x y T E cy cs at_ e w' :=
  ⟨h.rd.keep h.size k (fun _ q => q.elim), h.blk.keep k (fun q => q), h.res.keep k (fun q => q), h.kept.trans (Kept.ofKeep k (by unfold Nothing; simp)), h.bz, h.nx, h.ny, h.ne, h.nt⟩
theorem RQ.alloc (h : RQ w g B b x y T E cy cs at_ e wr) (o : Obj) : RQ w g B b x y T E cy cs at_ e (wr.alloc o) := h.keepN ((Keep.refl _ _).alloc _)
theorem RQ.row (h : RQ w g B b x y T E cy cs at_ e wr) (k : Kept w.heap.size E [] wr w') : RQ w g B b x y T E cy cs at_ e w' :=
  ⟨h.rd.kept k h.bz h.size (by simp) h.nt.2.2, k.blk h.blk (by simp) h.nt.2.1, k.blk h.res (by simp) h.nt.2.1, h.kept.trans (k.mono (Nat.le_refl _) (fun _ h => h) (by simp)), h.bz, h.nx, h.ny, h.ne, h.nt⟩
/-- The filled variable has turned, and nothing else. -/
theorem RQ.only {cs' : Array Value} (h : RQ w g B b x y T E cy cs at_ e wr) (hb : Blk w' x T cs') (k : Keep (Only x) wr w') : RQ w g B b x y T E cy cs' at_ e w' :=
  ⟨h.rd.keep h.size k (fun i q => by unfold Only at q; have := h.nx; have := h.bz; have := h.xg; subst q; exact ⟨by omega, h.xg⟩), hb, h.res.keep k (fun q => h.ne q.symm), h.kept.lift (Kept.ofKeep (base := w.heap.size) (E := []) (G := [x]) k (by unfold Only; simp)) (Nat.le_refl _) (by simp) (by have := h.nx; simp; omega), h.bz, h.nx, h.ny, h.ne, h.nt⟩
theorem RQ.set (h : RQ w g B b x y T E cy cs at_ e wr) (i : Nat) (v : Value) : RQ w g B b x y T E cy (cs.setIfInBounds i v) at_ e (wr.setCell ⟨x, i, none⟩ v) :=
  h.only (h.blk.set_ i v) ((Keep.refl (Only x) wr).setCell (p := ⟨x, i, none⟩) (.inl rfl) _)
end

/-! ### A sequence's cells turned -/
theorem seqC_set (q : SeqD) (tv : Value) : (∀ s, (seqC q tv).setIfInBounds 1 (.string s) = seqC { q with branch := s } tv) ∧ (∀ v, (seqC q tv).setIfInBounds 66 v = seqC q v) ∧ (∀ n, (seqC q tv).setIfInBounds 67 (.int .i64 n) = seqC { q with done := n } tv) ∧
    (∀ n, (seqC q tv).setIfInBounds 68 (.int .i64 n) = seqC { q with made := n } tv) ∧ (∀ z, (seqC q tv).setIfInBounds 69 (.bool z) = seqC { q with stopped := z } tv) := by
  have h1 := idL_len q.orig
  have h2 := idL_len q.cur
  refine ⟨fun _ => ?_, fun _ => ?_, fun _ => ?_, fun _ => ?_, fun _ => ?_⟩ <;> (apply Array.ext'; simp [seqC, seqL, List.set_append_right, h1, h2])
theorem seqC_spl (q : SeqD) (tv : Value) (i : Id) : spl (seqC q tv) 2 (idC i).toList = seqC { q with orig := i } tv ∧ spl (seqC q tv) 34 (idC i).toList = seqC { q with cur := i } tv := by
  have h1 := idL_len q.orig
  have h2 := idL_len q.cur
  have h3 := idL_len i
  constructor
  · apply Array.ext'
    simp [spl, seqC, seqL, idC, h1, h3]
  · apply Array.ext'
    simp [spl, seqC, seqL, idC, h1, h2, h3, List.drop_append, List.drop_of_length_le]

/-! ### Plain -/
def rsLoop (b : List UInt8) : Nat → Nat → Int → List TodoD → List TodoD × Nat × Int
  | 0, at_, e, l => (l, at_, e)
  | k + 1, at_, e, l => if e = 0 then rsLoop b k (takeAt b (takeAt b at_ 0 1) (takeE b at_ 0 1) 32) (takeE b (takeAt b at_ 0 1) (takeE b at_ 0 1) 32) (l ++ [⟨(num (takeL b at_ 0 1) : Nat), idOf (takeL b (takeAt b at_ 0 1) (takeE b at_ 0 1) 32)⟩]) else (l, at_, e)
theorem rsLoop_err {b : List UInt8} {k at_ : Nat} {e : Int} {l : List TodoD} (h : e ≠ 0) : rsLoop b k at_ e l = (l, at_, e) := by
  cases k with
  | zero => rfl
  | succ k => show (if _ then _ else _) = _; rw [if_neg h]
/-- Behind the steps to do: done, made, stopped; the last number, which must be 0 or 1. -/
def rsEnd (b : List UInt8) (q : SeqD) (at_ : Nat) (e : Int) : SeqD × Nat × Int × Nat :=
  ({ q with done := (num (takeL b at_ e 2) : Nat), made := (num (takeL b (takeAt b at_ e 2) (takeE b at_ e 2) 2) : Nat), stopped := ((num (takeL b (takeAt b (takeAt b at_ e 2) (takeE b at_ e 2) 2) (takeE b (takeAt b at_ e 2) (takeE b at_ e 2) 2) 1) : Int) == 1) },
    takeAt b (takeAt b (takeAt b at_ e 2) (takeE b at_ e 2) 2) (takeE b (takeAt b at_ e 2) (takeE b at_ e 2) 2) 1, takeE b (takeAt b (takeAt b at_ e 2) (takeE b at_ e 2) 2) (takeE b (takeAt b at_ e 2) (takeE b at_ e 2) 2) 1,
    num (takeL b (takeAt b (takeAt b at_ e 2) (takeE b at_ e 2) 2) (takeE b (takeAt b at_ e 2) (takeE b at_ e 2) 2) 1))
def rsTodo (b : List UInt8) (q : SeqD) (at_ : Nat) (e : Int) : SeqD × Nat × Int × Nat :=
  rsEnd b { q with todo := (rsLoop b (num (takeL b at_ e 2)) (takeAt b at_ e 2) (takeE b at_ e 2) []).1 } (rsLoop b (num (takeL b at_ e 2)) (takeAt b at_ e 2) (takeE b at_ e 2) []).2.1 (rsLoop b (num (takeL b at_ e 2)) (takeAt b at_ e 2) (takeE b at_ e 2) []).2.2
def rsIds (b : List UInt8) (q : SeqD) (at_ : Nat) (e : Int) : SeqD × Nat × Int × Nat :=
  rsTodo b { q with orig := idOf (takeL b at_ e 32), cur := idOf (takeL b (takeAt b at_ e 32) (takeE b at_ e 32) 32) } (takeAt b (takeAt b at_ e 32) (takeE b at_ e 32) 32) (takeE b (takeAt b at_ e 32) (takeE b at_ e 32) 32)
def rseqP (b : List UInt8) (at_ : Nat) (e : Int) : SeqD × Nat × Int × Nat :=
  if num (takeL b at_ e 1) = 0 then (noSeq, takeAt b at_ e 1, takeE b at_ e 1, 0)
  else rsIds b { noSeq with kind := (num (takeL b at_ e 1) : Nat), branch := str (textL b (takeAt b at_ e 1) (takeE b at_ e 1) 1) } (textAt b (takeAt b at_ e 1) (takeE b at_ e 1) 1) (textE b (takeAt b at_ e 1) (takeE b at_ e 1) 1)
theorem num1 (b : List UInt8) (at_ : Nat) (e : Int) : num (takeL b at_ e 1) < 256 := Nat.lt_of_lt_of_le (num_lt _) (Nat.le_trans (Nat.pow_le_pow_right (by omega) (takeL_le b at_ e 1)) (by decide))
theorem num2 (b : List UInt8) (at_ : Nat) (e : Int) : num (takeL b at_ e 2) < 65536 := Nat.lt_of_lt_of_le (num_lt _) (Nat.le_trans (Nat.pow_le_pow_right (by omega) (takeL_le b at_ e 2)) (by decide))

def RseqPost (b : List UInt8) (at_ : Nat) (e : Int) (g B : Nat) (w : World) (r : Ending) (w' : World) : Prop :=
  ∃ A c, r = .returned (.agg (seqC (rseqP b at_ e).1 (.slice A (rseqP b at_ e).1.todo.length c))) ∧ Own w' w.heap.size 113 33 A (rseqP b at_ e).1.todo.length c (todoLs (rseqP b at_ e).1.todo) ∧
    Rd w' g B b (rseqP b at_ e).2.1 (note (rseqP b at_ e).2.2.1 (decide (((rseqP b at_ e).2.2.2 : Int) ≤ 1)) 16) ∧ Kept w.heap.size [113] [g] w w'

theorem places_seq (w : World) : ((Tryz.prog.fieldsOf 31).mapM fun f => do pure (f.offset, ← sizeOf f.type) : Sem (Array (Nat × Nat))).run Tryz.prog w = .ok #[(0, 1), (1, 1), (2, 32), (34, 32), (66, 1), (67, 1), (68, 1), (69, 1)] w := by kernel_rfl
theorem build_seq1 (n : Int) (w : World) : (Instr.build 31 #[(0, .int .i64 n)]).run Tryz.prog w = .ok (.agg (seqC { noSeq with kind := n } nilS)) w := by kernel_rfl
theorem fill_one {place : Nat → Option (Nat × Nat)} {cells : Array Value} {i off : Nat} {v : Value} {rest : List (Nat × Value)} (hp : place i = some (off, v.cells.size)) (hf : off + v.cells.size ≤ cells.size) : Instr.fill place cells ((i, v) :: rest) = Instr.fill place (spl cells off v.cells.toList) rest := by
  have hne : ¬ (cells.size < off + v.cells.size) := by omega
  rw [Instr.fill, hp]
  have hfa := fill_at v.cells cells off hf
  simp only [Array.size_zipIdx] at hfa
  simp [hne, hfa]
theorem run_build_fill {P : Program} {t : TypeId} {fs : Array Field} (ht : P.underlying t = some (.struct fs)) {z : Array Value} (w : World) (hz : (zeroValue t).run P w = .ok (.agg z) w) {places : Array (Nat × Nat)}
    (hp : (fs.mapM fun f => do pure (f.offset, ← sizeOf f.type) : Sem (Array (Nat × Nat))).run P w = .ok places w) {parts : Array (Nat × Value)} {cs : Array Value} (hf : Instr.fill (places[·]?) z parts.toList = some cs) :
    (Instr.build t parts).run P w = .ok (.agg cs) w := by
  unfold Instr.build
  simp only [Sem.run_bind, hz, Result.andThen_ok, run_underlying ht, hp, Value.cells, hf]
  rfl
theorem places_todo (w : World) : ((Tryz.prog.fieldsOf 113).mapM fun f => do pure (f.offset, ← sizeOf f.type) : Sem (Array (Nat × Nat))).run Tryz.prog w = .ok #[(0, 1), (1, 32)] w := by kernel_rfl
theorem fields_todo : Tryz.prog.underlying 113 = some (.struct (Tryz.prog.fieldsOf 113)) := by kernel_rfl
theorem build_todo (n : Int) (i : Id) (w : World) : (Instr.build 113 #[(0, .int .i64 n), (1, idV i)]).run Tryz.prog w = .ok (.agg (todoC ⟨n, i⟩)) w := by
  refine run_build_fill fields_todo w (zero_todo w) (places_todo w) ?_
  have h1 := idL_len i
  have h2 := idL_len noId
  rw [fill_one (off := 0) (by simp [Value.cells]) (by simp [Value.cells, todoC_size]), fill_one (off := 1) (by simp [Value.cells, idV, idC_size]) (by simp [Value.cells, idV, idC_size, spl, todoC, todoL, noTodo, h2]), Instr.fill]
  congr 1
  apply Array.ext'
  simp [spl, Value.cells, idV, idC, todoC, todoL, noTodo, h1, h2]
theorem elemTodo : Elem Tryz.prog 29 113 33 40 := by
  refine ⟨Tryz.underlying29, ?_, by decide⟩
  obtain ⟨i, hi, h1, h2, h3⟩ := info_parts (show (Tryz.prog.info? 113).map (fun i => (i.zero, i.size, i.bytes)) = some (some (.agg (todoC noTodo)), 33, 40) by kernel_rfl)
  exact ⟨i, _, hi, h1, h2, h3, todoC_size _⟩
def BdTodo (ps : Array (Nat × Value)) : Sem Value := Instr.build 113 ps
theorem bd_todo (ps : Array (Nat × Value)) : Instr.build 113 ps = BdTodo ps := rfl
def BsTodo (n : Nat) (ps : Array (Nat × Value)) : Sem Value := Instr.buildSlice 29 n ps
theorem bs_todo (n : Nat) (ps : Array (Nat × Value)) : Instr.buildSlice 29 n ps = BsTodo n ps := rfl
attribute [local go_sem ↓] bd_todo bs_todo
theorem BdTodo.run (n : Int) (i : Id) (w : World) : (BdTodo #[(0, .int .i64 n), (1, idV i)]).run Tryz.prog w = .ok (.agg (todoC ⟨n, i⟩)) w := build_todo n i w
theorem BsTodo.run (m : TodoD) (w : World) : (BsTodo 1 #[(0, .agg (todoC m))]).run Tryz.prog w = .ok (.slice (some ⟨w.heap.size, 0, none⟩) 1 1) (w.alloc (.cells (todoC m) 113)) :=
  run_buildSlice1 elemTodo zero_todo (todoC_size _) (todoC_size _) (by omega) w
set_option maxHeartbeats 8000000 in
set_option maxRecDepth 100000 in
theorem rseq_any (b : List UInt8) (at_ : Nat) (e : Int) (g B : Nat) (w : World) (hr : Rd w g B b at_ e) (hB : B ≤ w.heap.size) :
    Calls Tryz.prog 72 #[.pointer (some ⟨g, 0, none⟩)] w (RseqPost b at_ e g B w) := by
  have hlg : g < w.heap.size := by obtain ⟨_, _, hb, _⟩ := hr; exact hb.lt
  go_enter Tryz.func72, Tryz.ntmps72
  go_upto_region 1 with (first | (refine wpList_allocAgg rfl rfl (zero_seq _) ?_))
  have y0 : Blk (w.alloc (.cells (seqC noSeq nilS) 31)) w.heap.size 31 (seqC noSeq nilS) := Blk.new _ _ _
  have r0 := hr.alloc hB (.cells (seqC noSeq nilS) 31)
  have k0 : Keep Nothing w (w.alloc (.cells (seqC noSeq nilS) 31)) := (Keep.refl _ _).alloc _
  have z0 := k0.size
  generalize w.alloc (.cells (seqC noSeq nilS) 31) = w0 at *
  have HP := Lib.hid (show rseqP b at_ e = if num (takeL b at_ e 1) = 0 then (noSeq, takeAt b at_ e 1, takeE b at_ e 1, 0)
    else rsIds b { noSeq with kind := (num (takeL b at_ e 1) : Nat), branch := str (textL b (takeAt b at_ e 1) (takeE b at_ e 1) 1) } (textAt b (takeAt b at_ e 1) (takeE b at_ e 1) 1) (textE b (takeAt b at_ e 1) (takeE b at_ e 1) 1) from rfl)
  go_wp2_with fail
  refine (rnumber_any 1 (by omega) g B b at_ e _ r0 (by omega)).mono ?_
  rintro r w1 ⟨rfl, r1, k1⟩
  have hn := num1 b at_ e
  change Rd w1 g B b (takeAt b at_ e 1) (takeE b at_ e 1) at r1
  change num (takeL b at_ e 1) < 256 at hn
  have y1 := y0.keep k1 (by unfold Only; omega)
  have z1 := k1.size
  have kk1 : Keep (Only g) w w1 := (k0.mono (fun _ _ h => h.elim)).trans k1
  clear r0 y0 k0 k1
  generalize num (takeL b at_ e 1) = n at *
  generalize takeAt b at_ e 1 = a1 at *
  generalize takeE b at_ e 1 = e1 at *
  go_upto_region 2 with (first | (refine wpList_built rfl rfl (vs := #[(0, .int .i64 (n : Int))]) rfl (build_seq1 (n : Int) _) ?_) | (refine wpList_allocAgg rfl rfl (zero_seq _) ?_) | (refine wpList_storeBlk rfl rfl (vs := seqC { noSeq with kind := (n : Int) } nilS) rfl rfl (Blk.new _ _ _) (by rw [seqC_size, seqC_size]) (by rw [seqC_size]; exact info_seq) (seqL_one _ _ rfl) ?_; intro w2 x2 kc zc))
  have kN : Keep Nothing w1 w2 := Keep.ofNew kc
  have h2 : RQ w g B b w1.heap.size w.heap.size 31 [113] (seqC noSeq nilS) (seqC { noSeq with kind := (n : Int) } nilS) a1 e1 w2 :=
    ⟨r1.keep (by omega) kN (fun _ q => q.elim), x2, y1.keep kN (fun q => q), Kept.ofKeep (kk1.trans (kN.mono (fun _ _ h => h.elim))) (by unfold Only; simp), hB, by omega, Nat.le_refl _, by have := y1.lt; omega, by decide⟩
  clear kc zc kN x2 r1 y1 kk1
  have c0 := (h2.blk.cell 0).trans (seqC_at _ _).1
  simp only at c0
  generalize w1.heap.size = x at *
  generalize hgy : w.heap.size = y at *
  have HY := Lib.hid hgy
  clear hgy
  by_cases h0 : n = 0
  · subst h0
    have HP2 := Lib.hid (show rseqP b at_ e = (noSeq, a1, e1, 0) from by rw [HP.out, if_pos rfl])
    go_wp2_with (first | (refine wpList_load rfl rfl rfl (load_whole h2.blk Tryz.underlying31 rfl (by rw [seqC_size]; exact info_seq)) ?_) | (refine wpList_storeBlk rfl rfl (vs := seqC { noSeq with kind := ((0 : Nat) : Int) } nilS) rfl rfl h2.res (by rw [seqC_size, seqC_size]) (by rw [seqC_size]; exact info_seq) (seqL_one _ _ rfl) ?_; intro w3 y3 k3 z3))
    refine bodyPost_ret (v := .agg (seqC noSeq nilS)) (results_cell rfl _ _ rfl (run_loadVar_cells w3 _ (seqC noSeq nilS) Tryz.underlying31 rfl (by rw [seqC_size]; exact info_seq) (fun j v hj => by rw [add_at, y3.cell, ← hj]; simp; rfl))) rfl ?_
    have hyB : B ≤ y := by rw [← HY.out]; exact h2.bz
    refine ⟨none, 0, by rw [HP2.out]; rfl, by rw [HP2.out]; exact Own.nil _ _ _ _, ?_, ?_⟩
    · rw [HP2.out]
      have t := h2.rd.keep h2.size k3 (fun i q => by unfold Only at q; subst q; exact ⟨hyB, h2.yg⟩)
      have en : note e1 (decide (((0 : Nat) : Int) ≤ 1)) 16 = e1 := by unfold note; split <;> simp_all
      show Rd w3 g B b a1 (note e1 (decide (((0 : Nat) : Int) ≤ 1)) 16)
      rw [en]
      exact t
    · exact h2.kept.lift (Kept.ofKeep (base := w.heap.size) (E := []) (G := [y]) k3 (by unfold Only; simp)) (Nat.le_refl _) (by simp) (by rw [HY.out]; simp)
  · have d0 : ((n : Int) == 0) = false := beq_eq_false_iff_ne.2 (by omega)
    have HP2 := Lib.hid (show rseqP b at_ e = rsIds b { noSeq with kind := (n : Int), branch := str (textL b a1 e1 1) } (textAt b a1 e1 1) (textE b a1 e1 1) from by rw [HP.out, if_neg h0])
    go_wp2_with fail
    refine h2.text1.mono ?_
    rintro r w3 ⟨rfl, h3, _⟩
    clear h2 c0 HP
    generalize textL b a1 e1 1 = tl at *
    generalize textAt b a1 e1 1 = a2 at *
    generalize textE b a1 e1 1 = e2 at *
    have c1 := (h3.blk.cell 1).trans (seqC_at _ _).2.1
    have f1 := h3.blk.frozen 1
    go_wp2_with fail
    have h4 := h3.set 1 (.string (str tl))
    rw [(seqC_set _ _).1] at h4
    clear h3 c1 f1
    generalize w3.setCell ⟨x, 1, none⟩ (.string (str tl)) = w4 at *
    refine h4.id.mono ?_
    rintro r w5 ⟨rfl, h5, _⟩
    have HP3 := Lib.hid (show rseqP b at_ e = rsTodo b { noSeq with kind := (n : Int), branch := str tl, orig := idOf (takeL b a2 e2 32), cur := idOf (takeL b (takeAt b a2 e2 32) (takeE b a2 e2 32) 32) } (takeAt b (takeAt b a2 e2 32) (takeE b a2 e2 32) 32) (takeE b (takeAt b a2 e2 32) (takeE b a2 e2 32) 32) from HP2.out)
    clear h4 HP2
    generalize idOf (takeL b a2 e2 32) = i1 at *
    generalize takeAt b a2 e2 32 = a3 at *
    generalize takeE b a2 e2 32 = e3 at *
    go_wp2_with (first | (refine wpList_storePart rfl rfl (vs := idC i1) rfl rfl h5.blk (by rw [idC_size, seqC_size]; omega) (by rw [idC_size]; exact info42) (idL_one _) ?_; intro w6 b6 k6 _z6))
    have h6 := h5.only b6 k6
    rw [(seqC_spl _ _ _).1] at h6
    clear b6 k6 _z6 h5
    refine h6.id.mono ?_
    rintro r w7 ⟨rfl, h7, _⟩
    clear h6
    generalize idOf (takeL b a3 e3 32) = i2 at *
    generalize takeAt b a3 e3 32 = a4 at *
    generalize takeE b a3 e3 32 = e4 at *
    go_wp2_with (first | (refine wpList_storePart rfl rfl (vs := idC i2) rfl rfl h7.blk (by rw [idC_size, seqC_size]; omega) (by rw [idC_size]; exact info42) (idL_one _) ?_; intro w8 b8 k8 _z8))
    have h8 := h7.only b8 k8
    rw [(seqC_spl _ _ _).2] at h8
    clear b8 k8 _z8 h7
    refine h8.number2.mono ?_
    rintro r w9 ⟨rfl, h9, _⟩
    have hm := num2 b a4 e4
    have HP4 := Lib.hid (show rseqP b at_ e = rsEnd b { noSeq with kind := (n : Int), branch := str tl, orig := i1, cur := i2, todo := (rsLoop b (num (takeL b a4 e4 2)) (takeAt b a4 e4 2) (takeE b a4 e4 2) []).1 } (rsLoop b (num (takeL b a4 e4 2)) (takeAt b a4 e4 2) (takeE b a4 e4 2) []).2.1 (rsLoop b (num (takeL b a4 e4 2)) (takeAt b a4 e4 2) (takeE b a4 e4 2) []).2.2 from HP3.out)
    clear h8 HP3
    generalize num (takeL b a4 e4 2) = m at *
    generalize takeAt b a4 e4 2 = a5 at *
    generalize takeE b a4 e4 2 = e5 at *
    simp only at h9
    have HQ : ∃ Q : SeqD, Q = { noSeq with kind := (n : Int), branch := str tl, orig := i1, cur := i2 } := ⟨_, rfl⟩
    obtain ⟨Q, hQ⟩ := HQ
    have h9' : RQ w g B b x y 31 [113] (seqC noSeq nilS) (seqC Q nilS) a5 e5 w9 := by rw [hQ]; exact h9
    have HP5 := Lib.hid (show ∀ l at' e', rsLoop b m a5 e5 [] = (l, at', e') → rseqP b at_ e = rsEnd b { Q with todo := l } at' e' from fun l at' e' h => by rw [HP4.out, h, hQ])
    clear h9 HP4 hQ
    go_wp2_with fail
    go_loopg [4] m (fun f i wr => ∃ at' e' l A c, i = .int .u64 (f : Nat) ∧ rsLoop b f at' e' l = rsLoop b m a5 e5 [] ∧ RQ w g B b x y 31 [113] (seqC noSeq nilS) (seqC Q (.slice A l.length c)) at' e' wr ∧ Own wr w.heap.size 113 33 A l.length c (todoLs l) ∧ l.length + f ≤ m)
    case atStart => exact ⟨a5, e5, [], none, 0, rfl, rfl, h9', Own.nil _ _ _ _, by simp⟩
    case round =>
      obtain ⟨at', e', l, A, c, rfl, hlo, h10, o10, hlm⟩ := hrel
      have HLO := Lib.hid hlo
      clear hlo h9'
      have r2 := h10.err
      by_cases hgo : 0 < gk ∧ e' = 0
      · obtain ⟨hg0, he⟩ := hgo
        subst he
        cases gk with
        | zero => exact absurd hg0 (by omega)
        | succ f =>
          go_wp2_with fail
          refine h10.number1.mono ?_
          rintro r w11 ⟨rfl, h11, k11⟩
          have hn1 := num1 b at' 0
          have HL2 := Lib.hid (show rsLoop b (f + 1) at' 0 l = rsLoop b f (takeAt b (takeAt b at' 0 1) (takeE b at' 0 1) 32) (takeE b (takeAt b at' 0 1) (takeE b at' 0 1) 32) (l ++ [⟨(num (takeL b at' 0 1) : Nat), idOf (takeL b (takeAt b at' 0 1) (takeE b at' 0 1) 32)⟩]) from by show (if _ then _ else _) = _; rw [if_pos rfl])
          obtain ⟨rA, rc, rb⟩ := h10.rblk
          have o11 := o10.keepOnly k11 rb (by decide)
          clear h10 o10 k11 rb r2
          generalize num (takeL b at' 0 1) = dn at *
          generalize takeAt b at' 0 1 = a6 at *
          generalize takeE b at' 0 1 = e6 at *
          have hz := h11.kept.size
          have c66 := (h11.blk.cell 66).trans (seqC_at _ _).2.2.1
          have BD := BdTodo.run (dn : Int) (idOf (takeL b a6 e6 32))
          have BS := BsTodo.run ⟨(dn : Int), idOf (takeL b a6 e6 32)⟩
          have hD := h11.drew
          have HW := Lib.hid hD.id
          obtain ⟨rA, rc, rb⟩ := hD.rblk
          have O11 := Lib.hid (show ∀ W, Keep (Only g) w11.drew W → Own W w.heap.size 113 33 A l.length c (todoLs l) from fun W k => o11.drew.keepOnly k rb (by decide))
          clear hD rb o11
          go_wp2_with fail
          generalize idOf (takeL b a6 e6 32) = i6 at *
          generalize takeAt b a6 e6 32 = a7 at *
          generalize takeE b a6 e6 32 = e7 at *
          go_region_law (first | ((refine step_append_sl (by rfl) elemTodo (by rfl) (by rfl) (Own.alloc o12 _) (by rfl) (Reads.of_cells (n := 1) (xs := todoL ⟨(dn : Int), i6⟩) (heap_alloc_new _ _) rfl (by rw [todoL_len])) (todoL_one _) (by unfold maxLen; omega) (by omega) (by simp; omega) ?_); intro A' c' w13 o13 k13; have h13 := (h12.alloc _).row (k13.mono (Nat.le_refl _) (by simp) (by simp)); have c13 := (h13.blk.cell 66).trans (seqC_at _ _).2.2.1; have f13 := h13.blk.frozen 66) | (go_simp; go_at_call 53; refine HW.out.mono ?_; rintro r w12 ⟨rfl, h12, k12⟩; have c12 := (h12.blk.cell 66).trans (seqC_at _ _).2.2.1; have c12' := fun o => ((h12.blk.alloc o).cell 66).trans (seqC_at _ _).2.2.1; have o12 := O11.out _ k12; have z12 := h12.kept.size))
          all_goals
            go_wp2_with fail
            go_roundg f
            case measure => omega
            case rel =>
              have h14 := h13.set 66 (.slice A' (l.length + 1) c')
              rw [(seqC_set _ _).2.1] at h14
              have o14 : Own w13 w.heap.size 113 33 A' (l ++ [(⟨(dn : Int), i6⟩ : TodoD)]).length c' (todoLs (l ++ [(⟨(dn : Int), i6⟩ : TodoD)])) := by simpa [todoLs] using o13
              have el : l.length + 1 = (l ++ [(⟨(dn : Int), i6⟩ : TodoD)]).length := by simp
              rw [el] at h14 ⊢
              exact ⟨_, _, _, A', c', by go_num, by rw [← HL2.out]; exact HLO.out, h14, o14.setCell (p := ⟨x, 66, none⟩) h13.blk (by decide) _, by rw [← el]; omega⟩
      · have hend : rsLoop b m a5 e5 [] = (l, at', e') := by
          rw [← HLO.out]
          by_cases he : e' = 0
          · have h0 : gk = 0 := by omega
            rw [h0]
            rfl
          · exact rsLoop_err he
        have HE := Lib.hid (HP5.out _ _ _ hend)
        have fin : gk = 0 ∨ (0 < gk ∧ (e' == 0) = false) := by
          by_cases h1 : gk = 0
          · exact .inl h1
          · exact .inr ⟨by omega, beq_eq_false_iff_ne.2 (fun h => hgo ⟨by omega, h⟩)⟩
        clear hend HLO hgo HP5 hlm
        rcases fin with rfl | ⟨f1, f2⟩
        all_goals
          go_wp2_with fail
          refine h10.number2.mono ?_
          rintro r w11 ⟨rfl, h11, k11⟩
          have hd1 := num2 b at' e'
          have HE2 := Lib.hid (show rseqP b at_ e = ({ Q with todo := l, done := (num (takeL b at' e' 2) : Nat), made := (num (takeL b (takeAt b at' e' 2) (takeE b at' e' 2) 2) : Nat), stopped := ((num (takeL b (takeAt b (takeAt b at' e' 2) (takeE b at' e' 2) 2) (takeE b (takeAt b at' e' 2) (takeE b at' e' 2) 2) 1) : Int) == 1) },
            takeAt b (takeAt b (takeAt b at' e' 2) (takeE b at' e' 2) 2) (takeE b (takeAt b at' e' 2) (takeE b at' e' 2) 2) 1, takeE b (takeAt b (takeAt b at' e' 2) (takeE b at' e' 2) 2) (takeE b (takeAt b at' e' 2) (takeE b at' e' 2) 2) 1,
            num (takeL b (takeAt b (takeAt b at' e' 2) (takeE b at' e' 2) 2) (takeE b (takeAt b at' e' 2) (takeE b at' e' 2) 2) 1)) from HE.out)
          obtain ⟨rA, rc, rb⟩ := h10.rblk
          have o11 := o10.keepOnly k11 rb (by decide)
          clear HE h10 o10 k11 rb r2
          generalize num (takeL b at' e' 2) = d1 at *
          generalize takeAt b at' e' 2 = a6 at *
          generalize takeE b at' e' 2 = e6 at *
          have c1 := (h11.blk.cell 67).trans (seqC_at _ _).2.2.2.1
          have f1 := h11.blk.frozen 67
          go_wp2_with fail
          have h12 := h11.set 67 (.int .i64 (d1 : Int))
          have o12 := o11.setCell (p := ⟨x, 67, none⟩) h11.blk (by decide) (.int .i64 (d1 : Int))
          rw [(seqC_set _ _).2.2.1] at h12
          clear h11 c1 f1 o11
          generalize w11.setCell ⟨x, 67, none⟩ (.int .i64 (d1 : Int)) = w12 at *
          refine h12.number2.mono ?_
          rintro r w13 ⟨rfl, h13, k13⟩
          have hd2 := num2 b a6 e6
          obtain ⟨rA, rc, rb⟩ := h12.rblk
          have o13 := o12.keepOnly k13 rb (by decide)
          clear h12 o12 k13 rb
          generalize num (takeL b a6 e6 2) = d2 at *
          generalize takeAt b a6 e6 2 = a7 at *
          generalize takeE b a6 e6 2 = e7 at *
          have c1 := (h13.blk.cell 68).trans (seqC_at _ _).2.2.2.2.1
          have f1 := h13.blk.frozen 68
          go_wp2_with fail
          have h14 := h13.set 68 (.int .i64 (d2 : Int))
          have o14 := o13.setCell (p := ⟨x, 68, none⟩) h13.blk (by decide) (.int .i64 (d2 : Int))
          rw [(seqC_set _ _).2.2.2.1] at h14
          clear h13 c1 f1 o13
          generalize w13.setCell ⟨x, 68, none⟩ (.int .i64 (d2 : Int)) = w14 at *
          refine h14.number1.mono ?_
          rintro r w15 ⟨rfl, h15, k15⟩
          have hd3 := num1 b a7 e7
          obtain ⟨rA, rc, rb⟩ := h14.rblk
          have o15 := o14.keepOnly k15 rb (by decide)
          clear h14 o14 k15 rb
          generalize num (takeL b a7 e7 1) = d3 at *
          generalize takeAt b a7 e7 1 = a8 at *
          generalize takeE b a7 e7 1 = e8 at *
          go_wp2_with fail
          refine (h15.must (decide ((d3 : Int) ≤ 1)) 16).mono ?_
          rintro r w16 ⟨rfl, h16, k16⟩
          obtain ⟨rA, rc, rb⟩ := h15.rblk
          have o16 := o15.keepOnly k16 rb (by decide)
          clear h15 o15 k16 rb
          have c1 := (h16.blk.cell 69).trans (seqC_at _ _).2.2.2.2.2
          have f1 := h16.blk.frozen 69
          have h17 := h16.set 69 (.bool ((d3 : Int) == 1))
          have o17 := o16.setCell (p := ⟨x, 69, none⟩) h16.blk (by decide) (.bool ((d3 : Int) == 1))
          rw [(seqC_set _ _).2.2.2.2] at h17
          clear h16 o16
          obtain ⟨Z, hZ⟩ : ∃ Z : SeqD, Z = { Q with todo := l, done := (d1 : Int), made := (d2 : Int), stopped := ((d3 : Int) == 1) } := ⟨_, rfl⟩
          have h17' : RQ w g B b x y 31 [113] (seqC noSeq nilS) (seqC Z (.slice A l.length c)) a8 (note e8 (decide ((d3 : Int) ≤ 1)) 16) (w16.setCell ⟨x, 69, none⟩ (.bool ((d3 : Int) == 1))) := by rw [hZ]; exact h17
          have HE3 := Lib.hid (show rseqP b at_ e = (Z, a8, e8, d3) from by rw [HE2.out, hZ])
          have HTD := Lib.hid (show Z.todo = l from by rw [hZ])
          clear h17 HE2 hZ
          go_upto_region 17 with fail
          generalize w16.setCell ⟨x, 69, none⟩ (.bool ((d3 : Int) == 1)) = w17 at *
          go_wp2_with (first | (refine wpList_load rfl rfl rfl (load_whole h17'.blk Tryz.underlying31 rfl (by rw [seqC_size]; exact info_seq)) ?_) | (refine wpList_storeBlk rfl rfl (vs := seqC Z (.slice A l.length c)) rfl rfl h17'.res (by rw [seqC_size, seqC_size]) (by rw [seqC_size]; exact info_seq) (seqL_one _ _ rfl) ?_; intro w18 y18 k18 z18))
          refine bodyPost_ret (v := .agg (seqC Z (.slice A l.length c))) (results_cell rfl _ _ rfl (run_loadVar_cells w18 _ (seqC Z (.slice A l.length c)) Tryz.underlying31 rfl (by rw [seqC_size]; exact info_seq) (fun j v hj => by rw [add_at, y18.cell, ← hj]; simp))) rfl ?_
          have hyB : B ≤ y := by rw [← HY.out]; exact h17'.bz
          have hrd := h17'.rd.keep h17'.size k18 (fun i q => by unfold Only at q; subst q; exact ⟨hyB, h17'.yg⟩)
          have hkk := h17'.kept.lift (Kept.ofKeep (base := w.heap.size) (E := []) (G := [y]) k18 (by unfold Only; simp)) (Nat.le_refl _) (by simp) (by rw [HY.out]; simp)
          have ho := o17.keepOnly k18 h17'.res (by decide)
          refine ⟨A, c, ?_, ?_, ?_, hkk⟩
          · rw [HE3.out]; show _ = Ending.returned (.agg (seqC Z (.slice A Z.todo.length c))); rw [HTD.out]
          · rw [HE3.out]; show Own _ _ _ _ A Z.todo.length c (todoLs Z.todo); rw [HTD.out]; exact ho
          · rw [HE3.out]; exact hrd
end Go.Proofs.YtppmolneklidfaaGreat
