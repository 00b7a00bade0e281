/-
  Contracts of codec's longest, truth, asked. No statement of the seat is proved here.
-/
import Derived.Test.YtppmolneklidfaaTx0
import Derived.Test.YtppmolneklidfaaPcom
import Derived.Deep.DeepCutAuto
import Derived.Deep.RegionLaw
import Derived.Deep.RegionHeld3
namespace Go.Proofs.Ytppmolneklidfaa
open Go.RowKit

def noMove : MoveD := ⟨ByteArray.empty, noId, noId, ByteArray.empty⟩
def noTodo : TodoD := ⟨0, noId⟩
def noMem : MemD := ⟨noId, [], none, 0⟩
theorem zero_move (w : World) : (zeroValue 128).run Try.prog w = .ok (.agg (moveC noMove)) w := by kernel_rfl
theorem zero_todo (w : World) : (zeroValue 82).run Try.prog w = .ok (.agg (todoC noTodo)) w := by kernel_rfl
theorem zero_mem (w : World) : (zeroValue 130).run Try.prog w = .ok (.agg (memC noMem)) w := by kernel_rfl
theorem wpStill_skip {P : Program} {ops : Array Oper} {w : World} {Q : Act → Prop} {a : Act} {o : Oper} {rest : List Oper} (hw : Region.wanted o (yielded ops a.tmps) = false) (h : wpStill P ops w Q rest (a.put o.dst undef)) : wpStill P ops w Q (o :: rest) a := by
  unfold wpStill
  rw [if_neg (by simp [hw])]
  exact h
theorem longest1 (w : World) : Calls Try.prog 95 #[.int .i64 1] w fun r w' => r = .returned (.int .i64 255) ∧ w = w' := by
  go_enter Try.func95, Try.ntmps95
  go_wp2_with fail
  go_ret
  exact ⟨rfl, rfl⟩
theorem longest2 (w : World) : Calls Try.prog 95 #[.int .i64 2] w fun r w' => r = .returned (.int .i64 65535) ∧ w = w' := by
  go_enter Try.func95, Try.ntmps95
  go_wp2_with fail
  go_ret
  exact ⟨rfl, rfl⟩
theorem longest4 (w : World) : Calls Try.prog 95 #[.int .i64 4] w fun r w' => r = .returned (.int .i64 4294967295) ∧ w = w' := by
  go_enter Try.func95, Try.ntmps95
  go_wp2_with fail
  go_ret
  exact ⟨rfl, rfl⟩
theorem still1 (w : World) : Calls Try.prog 95 #[.int .i64 1] w fun r w' => r = .returned (.int .i64 255) ∧ w' = w := (longest1 w).mono fun _ _ h => ⟨h.1, h.2.symm⟩
theorem still2 (w : World) : Calls Try.prog 95 #[.int .i64 2] w fun r w' => r = .returned (.int .i64 65535) ∧ w' = w := (longest2 w).mono fun _ _ h => ⟨h.1, h.2.symm⟩
theorem still4 (w : World) : Calls Try.prog 95 #[.int .i64 4] w fun r w' => r = .returned (.int .i64 4294967295) ∧ w' = w := (longest4 w).mono fun _ _ h => ⟨h.1, h.2.symm⟩
theorem truth_any (b : Bool) (n : Int) (w : World) : Calls Try.prog 73 #[.bool b, .int .u64 n] w fun r w' => r = .returned (.int .u64 (if b then n else 0)) ∧ w = w' := by
  cases b
  all_goals
    go_enter Try.func73, Try.ntmps73
    go_wp2_with fail
    go_ret
    exact ⟨rfl, rfl⟩

def LdSeq (v : Value) : Sem Value := Instr.loadAt 67 v
theorem ld_seq (v : Value) : Instr.loadAt 67 v = LdSeq v := rfl
def StSeq (p v : Value) : Sem Unit := Instr.storeAt 67 p v
theorem st_seq (p v : Value) : Instr.storeAt 67 p v = StSeq p v := rfl
theorem seqL_one (q : SeqD) (tv : Value) (h : tv.oneCell' = true) : ∀ v ∈ (seqC q tv).toList, v.oneCell' = true := by
  intro v hv
  simp only [seqC, seqL, List.mem_cons, List.mem_append, List.not_mem_nil, or_false] at hv
  rcases hv with rfl | rfl | hv | hv | rfl | rfl | rfl | rfl
  · rfl
  · rfl
  · exact idL_one _ _ (by simpa [idC] using hv)
  · exact idL_one _ _ (by simpa [idC] using hv)
  · exact h
  · rfl
  · rfl
  · rfl
theorem LdSeq.tx {w : World} {g : Nat} {tt : TypeId} {t : TxD} {mv tv ev : Value} (h : Blk w g tt (txC t mv tv ev)) : (LdSeq (.pointer (some ⟨g, 4, none⟩))).run Try.prog w = .ok (.agg (seqC t.seq tv)) w :=
  run_loadAt_blk (P := Try.prog) h 4 (seqC t.seq tv) Try.underlying67 rfl (by rw [seqC_size]; exact info_seq) (txC_seq t mv tv ev)
theorem StSeq.go {w : World} {g : Nat} {t : TypeId} {cs : Array Value} (h : Blk w g t cs) (hs : cs.size = 70) (q : SeqD) (tv : Value) (hv : tv.oneCell' = true) : ∃ w', (StSeq (.pointer (some ⟨g, 0, none⟩)) (.agg (seqC q tv))).run Try.prog w = .ok () w' ∧ Blk w' g t (seqC q tv) ∧ Keep (Only g) w w' := by
  have := run_storeAt_blk (P := Try.prog) (ty := 67) (vs := seqC q tv) h 0 (by rw [seqC_size]; exact info_seq) (by rw [seqC_size]; omega) (seqL_one q tv hv)
  refine ⟨_, this, ?_, Keep.setRow (Keep.refl (Only g) w) (.inl rfl) _⟩
  rw [spl_all (by rw [hs, seqC_size])]
  exact h.row _
def noSeq : SeqD := ⟨0, ByteArray.empty, noId, noId, [], 0, 0, false⟩
theorem zero_seq (w : World) : (zeroValue 67).run Try.prog w = .ok (.agg (seqC noSeq nilS)) w := by kernel_rfl
def asks (t : TxD) : Bool := t.hasSeq && (t.seq.kind != 0)
theorem txC_at {t : TxD} {mv tv ev : Value} : (txC t mv tv ev)[0]? = some (.bool t.hasHead) ∧ (txC t mv tv ev)[1]? = some (.string t.head) ∧ (txC t mv tv ev)[2]? = some mv ∧ (txC t mv tv ev)[3]? = some (.bool t.hasSeq) ∧ (txC t mv tv ev)[4]? = some (.int .i64 t.seq.kind) ∧ (txC t mv tv ev)[74]? = some ev := by
  have h := seqL_len t.seq tv
  refine ⟨by simp [txC, txL], by simp [txC, txL], by simp [txC, txL], by simp [txC, txL], by simp [txC, txL, seqL], ?_⟩
  simp [txC, txL, h]

attribute [local go_sem ↓] ld_seq st_seq
set_option maxHeartbeats 1000000 in
set_option maxRecDepth 100000 in
theorem asked_any (t : TxD) (mv tv ev : Value) (htv : tv.oneCell' = true) (w : World) :
    Calls Try.prog 82 #[.agg (txC t mv tv ev)] w fun r w' => r = .returned (.tuple #[.agg (seqC t.seq tv), .bool (asks t)]) ∧ Keep Nothing w w' := by
  have q1 : Blk ((w.alloc (.cells (txC t mv tv ev) 70)).alloc (.cells (seqC noSeq nilS) 67)) w.heap.size 70 (txC t mv tv ev) := (Blk.new _ _ _).alloc _
  have q2 : Blk ((w.alloc (.cells (txC t mv tv ev) 70)).alloc (.cells (seqC noSeq nilS) 67)) (w.heap.size + 1) 67 (seqC noSeq nilS) := by
    have := Blk.new (w.alloc (.cells (txC t mv tv ev) 70)) 67 (seqC noSeq nilS)
    simpa using this
  have k0 : Keep Nothing w ((w.alloc (.cells (txC t mv tv ev) 70)).alloc (.cells (seqC noSeq nilS) 67)) := ((Keep.refl _ _).alloc _).alloc _
  go_enter Try.func82, Try.ntmps82
  go_upto_region 1 with (first | (refine wpList_boxed rfl rfl (cs := txC t mv tv ev) rfl ?_) | (refine wpList_allocAgg rfl rfl (zero_seq _) ?_; generalize (w.alloc (.cells (txC t mv tv ev) 70)).alloc (.cells (seqC noSeq nilS) 67) = w0 at *))
  have L1 := LdSeq.tx q1.drew
  obtain ⟨w3, S3, p3, k3⟩ := StSeq.go q2.drew (seqC_size _ _) t.seq tv htv
  have kk : Keep Nothing w w3 := k0.drew.then_ k3 (fun i hi h => by unfold Only at h; omega)
  have a3 := (q1.cell 3).trans txC_at.2.2.2.1
  have a4 := (q1.cell 4).trans txC_at.2.2.2.2.1
  have q3 := q1.drew.keep k3 (by unfold Only; omega)
  have b3 := (q3.cell 3).trans txC_at.2.2.2.1
  have b4 := (q3.cell 4).trans txC_at.2.2.2.2.1
  have HA := Lib.hid (show asks t = (t.hasSeq && (t.seq.kind != 0)) from rfl)
  clear q1 q2 k0 k3 q3
  generalize w.heap.size = q at *
  cases hh : t.hasSeq
  · rw [hh] at a3 b3 HA
    simp only [Bool.false_and] at HA
    go_region
    all_goals
      go_wp2_with fail
      refine bodyPost_ret (results_cell_tmp rfl _ _ rfl (run_loadVar_cells w3 _ (seqC t.seq tv) Try.underlying67 rfl (by rw [seqC_size]; exact info_seq) (fun j v hj => by rw [add_at, p3.cell, ← hj]; simp))) rfl ?_
      exact ⟨by rw [HA.out]; rfl, kk⟩
  · rw [hh] at a3 b3 HA
    simp only [Bool.true_and] at HA
    go_region
    all_goals
      go_wp2_with fail
      refine bodyPost_ret (results_cell_tmp rfl _ _ rfl (run_loadVar_cells w3 _ (seqC t.seq tv) Try.underlying67 rfl (by rw [seqC_size]; exact info_seq) (fun j v hj => by rw [add_at, p3.cell, ← hj]; simp))) rfl ?_
      exact ⟨by rw [HA.out]; rfl, kk⟩
end Go.Proofs.Ytppmolneklidfaa
