/-
  Texts of the codec joined (Tx0, Tx1). No statement of the seat is proved here.
-/
import Derived.Test.YtppmolneklidfaaGreatZ07
import Derived.Test.YtppmolneklidfaaGreatZ04
import Derived.Test.YtppmolneklidfaaGreatZ08
import Derived.Deep.DeepCutAuto
import Derived.Deep.RegionLaw
import Derived.Deep.RegionHeld3
namespace Go.Proofs.YtppmolneklidfaaGreat
open Go.RowKit

structure TodoD where
  act : Int
  id : Id
structure MoveD where
  name : ByteArray
  old : Id
  new_ : Id
  why : ByteArray
/-- A memory; adr, cap: where its bytes lie. -/
structure MemD where
  key : Id
  data : List UInt8
  adr : Option Addr
  cap : Nat
structure SeqD where
  kind : Int
  branch : ByteArray
  orig : Id
  cur : Id
  todo : List TodoD
  done : Int
  made : Int
  stopped : Bool
structure TxD where
  hasHead : Bool
  head : ByteArray
  moves : List MoveD
  hasSeq : Bool
  seq : SeqD
  mem : List MemD

def todoL (x : TodoD) : List Value := .int .i64 x.act :: idL x.id
def todoC (x : TodoD) : Array Value := (todoL x).toArray
theorem todoL_len (x : TodoD) : (todoL x).length = 33 := by simp [todoL, idL_len]
theorem todoC_size (x : TodoD) : (todoC x).size = 33 := by simp [todoC, todoL_len]
theorem todoC_id (x : TodoD) : idC x.id = (todoC x).extract 1 (1 + (idC x.id).size) := by
  apply Array.ext'
  simp [todoC, todoL, idC, idL_len, List.take_of_length_le]
theorem info_todo : (Tryz.prog.info? 113).map (·.size) = some 33 := by kernel_rfl

def moveL (x : MoveD) : List Value := .string x.name :: (idL x.old ++ (idL x.new_ ++ [.string x.why]))
def moveC (x : MoveD) : Array Value := (moveL x).toArray
theorem moveL_len (x : MoveD) : (moveL x).length = 66 := by simp [moveL, idL_len]
theorem moveC_size (x : MoveD) : (moveC x).size = 66 := by simp [moveC, moveL_len]
theorem moveC_old (x : MoveD) : idC x.old = (moveC x).extract 1 (1 + (idC x.old).size) := by
  apply Array.ext'
  simp [moveC, moveL, idC, idL_len]
theorem moveC_new (x : MoveD) : idC x.new_ = (moveC x).extract 33 (33 + (idC x.new_).size) := by
  apply Array.ext'
  simp [moveC, moveL, idC, idL_len]
theorem info_move : (Tryz.prog.info? 60).map (·.size) = some 66 := by kernel_rfl

def memL (x : MemD) : List Value := idL x.key ++ [.slice x.adr x.data.length x.cap]
def memC (x : MemD) : Array Value := (memL x).toArray
theorem memL_len (x : MemD) : (memL x).length = 33 := by simp [memL, idL_len]
theorem memC_size (x : MemD) : (memC x).size = 33 := by simp [memC, memL_len]
theorem memC_id (x : MemD) : idC x.key = (memC x).extract 0 (0 + (idC x.key).size) := by
  apply Array.ext'
  simp [memC, memL, idC, idL_len]
theorem memC_at (x : MemD) : (memC x)[32]? = some (.slice x.adr x.data.length x.cap) := by
  have h := idL_len x.key
  simp [memC, memL, h]
theorem info_mem : (Tryz.prog.info? 62).map (·.size) = some 33 := by kernel_rfl

def seqL (q : SeqD) (tv : Value) : List Value := .int .i64 q.kind :: .string q.branch :: (idL q.orig ++ (idL q.cur ++ [tv, .int .i64 q.done, .int .i64 q.made, .bool q.stopped]))
def seqC (q : SeqD) (tv : Value) : Array Value := (seqL q tv).toArray
theorem seqL_len (q : SeqD) (tv : Value) : (seqL q tv).length = 70 := by simp [seqL, idL_len]
theorem seqC_size (q : SeqD) (tv : Value) : (seqC q tv).size = 70 := by simp [seqC, seqL_len]
theorem info_seq : (Tryz.prog.info? 31).map (·.size) = some 70 := by kernel_rfl

def txL (t : TxD) (mv tv ev : Value) : List Value := .bool t.hasHead :: .string t.head :: mv :: .bool t.hasSeq :: (seqL t.seq tv ++ [ev])
def txC (t : TxD) (mv tv ev : Value) : Array Value := (txL t mv tv ev).toArray
theorem txL_len (t : TxD) (mv tv ev : Value) : (txL t mv tv ev).length = 75 := by simp [txL, seqL_len]
theorem txC_size (t : TxD) (mv tv ev : Value) : (txC t mv tv ev).size = 75 := by simp [txC, txL_len]
theorem txC_seq (t : TxD) (mv tv ev : Value) : seqC t.seq tv = (txC t mv tv ev).extract 4 (4 + (seqC t.seq tv).size) := by
  apply Array.ext'
  simp [txC, txL, seqC, seqL_len]
theorem info_tx : (Tryz.prog.info? 34).map (·.size) = some 75 := by kernel_rfl

/-! ### Rows of structs -/
theorem flat_lenT {α : Type} {f : α → List Value} {C : Nat} (hf : ∀ a, (f a).length = C) (l : List α) : (l.flatMap f).length = l.length * C := by
  induction l with
  | nil => simp
  | cons x l ih => rw [List.flatMap_cons, List.length_append, hf, ih, List.length_cons, Nat.succ_mul, Nat.add_comm]
theorem flat_at {α : Type} {f : α → List Value} {C : Nat} (hf : ∀ a, (f a).length = C) (l : List α) (k j : Nat) (x : α) (hk : l[k]? = some x) (u : Value) (hj : (f x)[j]? = some u) : (l.flatMap f)[k * C + j]? = some u := by
  induction l generalizing k with
  | nil => simp at hk
  | cons y l ih =>
    have hj' : j < C := by
      rcases Nat.lt_or_ge j C with q | q
      · exact q
      · rw [List.getElem?_eq_none (by rw [hf]; exact q)] at hj; cases hj
    cases k with
    | zero =>
      simp only [List.getElem?_cons_zero, Option.some.injEq] at hk
      subst hk
      rw [List.flatMap_cons, Nat.zero_mul, Nat.zero_add, List.getElem?_append_left (by rw [hf]; exact hj')]
      exact hj
    | succ k =>
      simp only [List.getElem?_cons_succ] at hk
      have e : (k + 1) * C = k * C + C := Nat.succ_mul k C
      rw [List.flatMap_cons, List.getElem?_append_right (by rw [hf]; omega), hf, show (k + 1) * C + j - C = k * C + j by omega]
      exact ih k hk
/-- A load of a row's element. -/
theorem load_flat {w : World} {α : Type} {f : α → List Value} {C : Nat} {ty : TypeId} {d : TypeDesc} (hu : Tryz.prog.underlying ty = some d) (hd : (match d with | .struct _ | .array _ _ => true | _ => false) = true) (hi : (Tryz.prog.info? ty).map (·.size) = some C) (hf : ∀ a, (f a).length = C)
    {l : List α} {k : Nat} {x : α} {g off : Nat} (hc : ∀ j u, (l.flatMap f)[j]? = some u → w.cell? ⟨g, off + j, none⟩ = some u) (hk : l[k]? = some x) :
    (Instr.loadAt ty (.pointer (some ⟨g, off + k * C, none⟩))).run Tryz.prog w = .ok (.agg (f x).toArray) w :=
  run_loadAt_cells (P := Tryz.prog) w _ (f x).toArray hu (by cases d <;> first | rfl | exact hd) (by rw [hi]; simp [hf]) (fun j v hj => by rw [add_at, Nat.add_assoc]; exact hc _ _ (flat_at hf l k j x hk v (by simpa using hj)))
/-- A load of a variable that is an aggregate. -/
theorem load_whole {w : World} {g : Nat} {t ty : TypeId} {cs : Array Value} {d : TypeDesc} (h : Blk w g t cs) (hu : Tryz.prog.underlying ty = some d) (hd : (match d with | .struct _ | .array _ _ => true | _ => false) = true) (hi : (Tryz.prog.info? ty).map (·.size) = some cs.size) : (Instr.loadAt ty (.pointer (some ⟨g, 0, none⟩))).run Tryz.prog w = .ok (.agg cs) w :=
  run_loadAt_blk (P := Tryz.prog) h 0 cs hu (by cases d <;> first | rfl | exact hd) hi (by simp)
theorem todoL_one (x : TodoD) : ∀ v ∈ (todoC x).toList, v.oneCell' = true := by
  intro v hv
  simp only [todoC, todoL, List.mem_cons] at hv
  rcases hv with rfl | hv
  · rfl
  · exact idL_one _ v hv
theorem moveL_one (x : MoveD) : ∀ v ∈ (moveC x).toList, v.oneCell' = true := by
  intro v hv
  simp only [moveC, moveL, List.mem_cons, List.mem_append, List.not_mem_nil, or_false] at hv
  rcases hv with rfl | hv | hv | rfl
  · rfl
  · exact idL_one _ v hv
  · exact idL_one _ v hv
  · rfl
theorem memL_one (x : MemD) : ∀ v ∈ (memC x).toList, v.oneCell' = true := by
  intro v hv
  simp only [memC, memL, List.mem_append, List.mem_cons, List.not_mem_nil, or_false] at hv
  rcases hv with hv | rfl
  · exact idL_one _ v hv
  · rfl
def moveLs (l : List MoveD) : List Value := l.flatMap moveL
def todoLs (l : List TodoD) : List Value := l.flatMap todoL
def memLs (l : List MemD) : List Value := l.flatMap memL
theorem moveC_at (x : MoveD) : (moveC x)[0]? = some (.string x.name) ∧ (moveC x)[65]? = some (.string x.why) := by
  have h1 := idL_len x.old
  have h2 := idL_len x.new_
  refine ⟨by simp [moveC, moveL], ?_⟩
  simp [moveC, moveL, h1, h2]
theorem todoC_at (x : TodoD) : (todoC x)[0]? = some (.int .i64 x.act) := by simp [todoC, todoL]
theorem seqC_at (q : SeqD) (tv : Value) : (seqC q tv)[0]? = some (.int .i64 q.kind) ∧ (seqC q tv)[1]? = some (.string q.branch) ∧ (seqC q tv)[66]? = some tv ∧ (seqC q tv)[67]? = some (.int .i64 q.done) ∧ (seqC q tv)[68]? = some (.int .i64 q.made) ∧ (seqC q tv)[69]? = some (.bool q.stopped) := by
  have h1 := idL_len q.orig
  have h2 := idL_len q.cur
  refine ⟨by simp [seqC, seqL], by simp [seqC, seqL], ?_, ?_, ?_, ?_⟩ <;> simp [seqC, seqL, h1, h2]

/-- A transaction's slices read as they should. -/
structure TxIn (w : World) (B : Nat) (t : TxD) (mv tv ev : Value) : Prop where
  mv : ∃ A c, mv = .slice A t.moves.length c ∧ Reads w B 66 A t.moves.length (moveLs t.moves) ∧ t.moves.length ≤ c ∧ c ≤ maxLen
  tv : ∃ A c, tv = .slice A t.seq.todo.length c ∧ Reads w B 33 A t.seq.todo.length (todoLs t.seq.todo) ∧ t.seq.todo.length ≤ c ∧ c ≤ maxLen
  ev : ∃ A c, ev = .slice A t.mem.length c ∧ Reads w B 33 A t.mem.length (memLs t.mem) ∧ t.mem.length ≤ c ∧ c ≤ maxLen
  data : ∀ m ∈ t.mem, Reads w B 1 m.adr m.data.length (m.data.map bv) ∧ m.data.length ≤ maxLen
theorem TxIn.below {w w' : World} {B : Nat} {t : TxD} {mv tv ev : Value} (h : TxIn w B t mv tv ev) (hb : Below B w w') : TxIn w' B t mv tv ev := by
  obtain ⟨⟨A, c, h1, h2, h3⟩, ⟨A', c', h1', h2', h3'⟩, ⟨A'', c'', h1'', h2'', h3''⟩, h4⟩ := h
  exact ⟨⟨A, c, h1, h2.below hb, h3⟩, ⟨A', c', h1', h2'.below hb, h3'⟩, ⟨A'', c'', h1'', h2''.below hb, h3''⟩, fun m hm => ⟨(h4 m hm).1.below hb, (h4 m hm).2⟩⟩
theorem TxIn.more {w : World} {B B' : Nat} {t : TxD} {mv tv ev : Value} (h : TxIn w B t mv tv ev) (hb : B ≤ B') : TxIn w B' t mv tv ev := by
  obtain ⟨⟨A, c, h1, h2, h3⟩, ⟨A', c', h1', h2', h3'⟩, ⟨A'', c'', h1'', h2'', h3''⟩, h4⟩ := h
  exact ⟨⟨A, c, h1, h2.more hb, h3⟩, ⟨A', c', h1', h2'.more hb, h3'⟩, ⟨A'', c'', h1'', h2''.more hb, h3''⟩, fun m hm => ⟨(h4 m hm).1.more hb, (h4 m hm).2⟩⟩
end Go.Proofs.YtppmolneklidfaaGreat

namespace Go.Proofs.YtppmolneklidfaaGreat
open Go.RowKit

def noMove : MoveD := ⟨ByteArray.empty, noId, noId, ByteArray.empty⟩
def noTodo : TodoD := ⟨0, noId⟩
def noMem : MemD := ⟨noId, [], none, 0⟩
theorem zero_move (w : World) : (zeroValue 60).run Tryz.prog w = .ok (.agg (moveC noMove)) w := by kernel_rfl
theorem zero_todo (w : World) : (zeroValue 113).run Tryz.prog w = .ok (.agg (todoC noTodo)) w := by kernel_rfl
theorem zero_mem (w : World) : (zeroValue 62).run Tryz.prog w = .ok (.agg (memC noMem)) w := by kernel_rfl
theorem wpStill_skip {P : Program} {ops : Array Oper} {w : World} {Q : Act → Prop} {a : Act} {o : Oper} {rest : List Oper} (hw : Region.wanted o (yielded ops a.tmps) = false) (h : wpStill P ops w Q rest (a.put o.dst undef)) : wpStill P ops w Q (o :: rest) a := by
  unfold wpStill
  rw [if_neg (by simp [hw])]
  exact h
theorem longest1 (w : World) : Calls Tryz.prog 88 #[.int .i64 1] w fun r w' => r = .returned (.int .i64 255) ∧ w = w' := by
  go_enter Tryz.func88, Tryz.ntmps88
  go_wp2_with fail
  go_ret
  exact ⟨rfl, rfl⟩
theorem longest2 (w : World) : Calls Tryz.prog 88 #[.int .i64 2] w fun r w' => r = .returned (.int .i64 65535) ∧ w = w' := by
  go_enter Tryz.func88, Tryz.ntmps88
  go_wp2_with fail
  go_ret
  exact ⟨rfl, rfl⟩
theorem longest4 (w : World) : Calls Tryz.prog 88 #[.int .i64 4] w fun r w' => r = .returned (.int .i64 4294967295) ∧ w = w' := by
  go_enter Tryz.func88, Tryz.ntmps88
  go_wp2_with fail
  go_ret
  exact ⟨rfl, rfl⟩
theorem still1 (w : World) : Calls Tryz.prog 88 #[.int .i64 1] w fun r w' => r = .returned (.int .i64 255) ∧ w' = w := (longest1 w).mono fun _ _ h => ⟨h.1, h.2.symm⟩
theorem still2 (w : World) : Calls Tryz.prog 88 #[.int .i64 2] w fun r w' => r = .returned (.int .i64 65535) ∧ w' = w := (longest2 w).mono fun _ _ h => ⟨h.1, h.2.symm⟩
theorem still4 (w : World) : Calls Tryz.prog 88 #[.int .i64 4] w fun r w' => r = .returned (.int .i64 4294967295) ∧ w' = w := (longest4 w).mono fun _ _ h => ⟨h.1, h.2.symm⟩
theorem truth_any (b : Bool) (n : Int) (w : World) : Calls Tryz.prog 70 #[.bool b, .int .u64 n] w fun r w' => r = .returned (.int .u64 (if b then n else 0)) ∧ w = w' := by
  cases b
  all_goals
    go_enter Tryz.func70, Tryz.ntmps70
    go_wp2_with fail
    go_ret
    exact ⟨rfl, rfl⟩

def LdSeq (v : Value) : Sem Value := Instr.loadAt 31 v
theorem ld_seq (v : Value) : Instr.loadAt 31 v = LdSeq v := rfl
def StSeq (p v : Value) : Sem Unit := Instr.storeAt 31 p v
theorem st_seq (p v : Value) : Instr.storeAt 31 p v = StSeq p v := rfl
theorem seqL_one (q : SeqD) (tv : Value) (h : tv.oneCell' = true) : ∀ v ∈ (seqC q tv).toList, v.oneCell' = true := by
  intro v hv
  simp only [seqC, seqL, List.mem_cons, List.mem_append, List.not_mem_nil, or_false] at hv
  rcases hv with rfl | rfl | hv | hv | rfl | rfl | rfl | rfl
  · rfl
  · rfl
  · exact idL_one _ _ (by simpa [idC] using hv)
  · exact idL_one _ _ (by simpa [idC] using hv)
  · exact h
  · rfl
  · rfl
  · rfl
theorem LdSeq.tx {w : World} {g : Nat} {tt : TypeId} {t : TxD} {mv tv ev : Value} (h : Blk w g tt (txC t mv tv ev)) : (LdSeq (.pointer (some ⟨g, 4, none⟩))).run Tryz.prog w = .ok (.agg (seqC t.seq tv)) w :=
  run_loadAt_blk (P := Tryz.prog) h 4 (seqC t.seq tv) Tryz.underlying31 rfl (by rw [seqC_size]; exact info_seq) (txC_seq t mv tv ev)
theorem StSeq.go {w : World} {g : Nat} {t : TypeId} {cs : Array Value} (h : Blk w g t cs) (hs : cs.size = 70) (q : SeqD) (tv : Value) (hv : tv.oneCell' = true) : ∃ w', (StSeq (.pointer (some ⟨g, 0, none⟩)) (.agg (seqC q tv))).run Tryz.prog w = .ok () w' ∧ Blk w' g t (seqC q tv) ∧ Keep (Only g) w w' := by
  have := run_storeAt_blk (P := Tryz.prog) (ty := 31) (vs := seqC q tv) h 0 (by rw [seqC_size]; exact info_seq) (by rw [seqC_size]; omega) (seqL_one q tv hv)
  refine ⟨_, this, ?_, Keep.setRow (Keep.refl (Only g) w) (.inl rfl) _⟩
  rw [spl_all (by rw [hs, seqC_size])]
  exact h.row _
def noSeq : SeqD := ⟨0, ByteArray.empty, noId, noId, [], 0, 0, false⟩
theorem zero_seq (w : World) : (zeroValue 31).run Tryz.prog w = .ok (.agg (seqC noSeq nilS)) w := by kernel_rfl
def asks (t : TxD) : Bool := t.hasSeq && (t.seq.kind != 0)
theorem txC_at {t : TxD} {mv tv ev : Value} : (txC t mv tv ev)[0]? = some (.bool t.hasHead) ∧ (txC t mv tv ev)[1]? = some (.string t.head) ∧ (txC t mv tv ev)[2]? = some mv ∧ (txC t mv tv ev)[3]? = some (.bool t.hasSeq) ∧ (txC t mv tv ev)[4]? = some (.int .i64 t.seq.kind) ∧ (txC t mv tv ev)[74]? = some ev := by
  have h := seqL_len t.seq tv
  refine ⟨by simp [txC, txL], by simp [txC, txL], by simp [txC, txL], by simp [txC, txL], by simp [txC, txL, seqL], ?_⟩
  simp [txC, txL, h]

attribute [local go_sem ↓] ld_seq st_seq
set_option maxHeartbeats 1000000 in
set_option maxRecDepth 100000 in
theorem asked_any (t : TxD) (mv tv ev : Value) (htv : tv.oneCell' = true) (w : World) :
    Calls Tryz.prog 76 #[.agg (txC t mv tv ev)] w fun r w' => r = .returned (.tuple #[.agg (seqC t.seq tv), .bool (asks t)]) ∧ Keep Nothing w w' := by
  have q1 : Blk ((w.alloc (.cells (txC t mv tv ev) 34)).alloc (.cells (seqC noSeq nilS) 31)) w.heap.size 34 (txC t mv tv ev) := (Blk.new _ _ _).alloc _
  have q2 : Blk ((w.alloc (.cells (txC t mv tv ev) 34)).alloc (.cells (seqC noSeq nilS) 31)) (w.heap.size + 1) 31 (seqC noSeq nilS) := by
    have := Blk.new (w.alloc (.cells (txC t mv tv ev) 34)) 31 (seqC noSeq nilS)
    simpa using this
  have k0 : Keep Nothing w ((w.alloc (.cells (txC t mv tv ev) 34)).alloc (.cells (seqC noSeq nilS) 31)) := ((Keep.refl _ _).alloc _).alloc _
  go_enter Tryz.func76, Tryz.ntmps76
  go_upto_region 1 with (first | (refine wpList_boxed rfl rfl (cs := txC t mv tv ev) rfl ?_) | (refine wpList_allocAgg rfl rfl (zero_seq _) ?_; generalize (w.alloc (.cells (txC t mv tv ev) 34)).alloc (.cells (seqC noSeq nilS) 31) = w0 at *))
  have L1 := LdSeq.tx q1.drew
  obtain ⟨w3, S3, p3, k3⟩ := StSeq.go q2.drew (seqC_size _ _) t.seq tv htv
  have kk : Keep Nothing w w3 := k0.drew.then_ k3 (fun i hi h => by unfold Only at h; omega)
  have a3 := (q1.cell 3).trans txC_at.2.2.2.1
  have a4 := (q1.cell 4).trans txC_at.2.2.2.2.1
  have q3 := q1.drew.keep k3 (by unfold Only; omega)
  have b3 := (q3.cell 3).trans txC_at.2.2.2.1
  have b4 := (q3.cell 4).trans txC_at.2.2.2.2.1
  have HA := Lib.hid (show asks t = (t.hasSeq && (t.seq.kind != 0)) from rfl)
  clear q1 q2 k0 k3 q3
  generalize w.heap.size = q at *
  cases hh : t.hasSeq
  · rw [hh] at a3 b3 HA
    simp only [Bool.false_and] at HA
    go_region
    all_goals
      go_wp2_with fail
      refine bodyPost_ret (results_cell_tmp rfl _ _ rfl (run_loadVar_cells w3 _ (seqC t.seq tv) Tryz.underlying31 rfl (by rw [seqC_size]; exact info_seq) (fun j v hj => by rw [add_at, p3.cell, ← hj]; simp))) rfl ?_
      exact ⟨by rw [HA.out]; rfl, kk⟩
  · rw [hh] at a3 b3 HA
    simp only [Bool.true_and] at HA
    go_region
    all_goals
      go_wp2_with fail
      refine bodyPost_ret (results_cell_tmp rfl _ _ rfl (run_loadVar_cells w3 _ (seqC t.seq tv) Tryz.underlying31 rfl (by rw [seqC_size]; exact info_seq) (fun j v hj => by rw [add_at, p3.cell, ← hj]; simp))) rfl ?_
      exact ⟨by rw [HA.out]; rfl, kk⟩
end Go.Proofs.YtppmolneklidfaaGreat
