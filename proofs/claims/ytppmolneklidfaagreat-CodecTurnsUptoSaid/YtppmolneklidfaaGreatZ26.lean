/-
  Texts of the codec joined (Tx6). No statement of the seat is proved here.
-/
import Derived.Test.YtppmolneklidfaaGreatZ25
import Derived.Lib.ConvBytes
namespace Go.Proofs.YtppmolneklidfaaGreat
open Go.RowKit

/-! ### Plain -/
def tx0 : TxD := ⟨false, ByteArray.empty, [], false, noSeq, []⟩
def ptMoves (b : List UInt8) : Nat → Nat → Int → List MoveD → List MoveD × Nat × Int
  | 0, at_, e, l => (l, at_, e)
  | k + 1, at_, e, l => if e = 0 then
      ptMoves b k (textAt b (takeAt b (takeAt b (textAt b at_ 0 1) (textE b at_ 0 1) 32) (takeE b (textAt b at_ 0 1) (textE b at_ 0 1) 32) 32) (takeE b (takeAt b (textAt b at_ 0 1) (textE b at_ 0 1) 32) (takeE b (textAt b at_ 0 1) (textE b at_ 0 1) 32) 32) 2)
        (textE b (takeAt b (takeAt b (textAt b at_ 0 1) (textE b at_ 0 1) 32) (takeE b (textAt b at_ 0 1) (textE b at_ 0 1) 32) 32) (takeE b (takeAt b (textAt b at_ 0 1) (textE b at_ 0 1) 32) (takeE b (textAt b at_ 0 1) (textE b at_ 0 1) 32) 32) 2)
        (l ++ [⟨str (textL b at_ 0 1), idOf (takeL b (textAt b at_ 0 1) (textE b at_ 0 1) 32), idOf (takeL b (takeAt b (textAt b at_ 0 1) (textE b at_ 0 1) 32) (takeE b (textAt b at_ 0 1) (textE b at_ 0 1) 32) 32),
          str (textL b (takeAt b (takeAt b (textAt b at_ 0 1) (textE b at_ 0 1) 32) (takeE b (textAt b at_ 0 1) (textE b at_ 0 1) 32) 32) (takeE b (takeAt b (textAt b at_ 0 1) (textE b at_ 0 1) 32) (takeE b (textAt b at_ 0 1) (textE b at_ 0 1) 32) 32) 2)⟩])
    else (l, at_, e)
theorem ptMoves_err {b : List UInt8} {k at_ : Nat} {e : Int} {l : List MoveD} (h : e ≠ 0) : ptMoves b k at_ e l = (l, at_, e) := by
  cases k with
  | zero => rfl
  | succ k => show (if _ then _ else _) = _; rw [if_neg h]
def ptMems (b : List UInt8) : Nat → Nat → Int → List MemD → List MemD × Nat × Int
  | 0, at_, e, l => (l, at_, e)
  | k + 1, at_, e, l => if e = 0 then ptMems b k (textAt b (takeAt b at_ 0 32) (takeE b at_ 0 32) 4) (textE b (takeAt b at_ 0 32) (takeE b at_ 0 32) 4) (l ++ [⟨idOf (takeL b at_ 0 32), textL b (takeAt b at_ 0 32) (takeE b at_ 0 32) 4, none, 0⟩]) else (l, at_, e)
theorem ptMems_err {b : List UInt8} {k at_ : Nat} {e : Int} {l : List MemD} (h : e ≠ 0) : ptMems b k at_ e l = (l, at_, e) := by
  cases k with
  | zero => rfl
  | succ k => show (if _ then _ else _) = _; rw [if_neg h]
def ptE (b : List UInt8) (t : TxD) (at_ : Nat) (e : Int) : TxD × Int := if endE b at_ e = 0 then (t, 0) else (tx0, endE b at_ e)
def ptD (b : List UInt8) (t : TxD) (at_ : Nat) (e : Int) : TxD × Int :=
  ptE b { t with mem := (ptMems b (num (takeL b at_ e 2)) (takeAt b at_ e 2) (takeE b at_ e 2) []).1 } (ptMems b (num (takeL b at_ e 2)) (takeAt b at_ e 2) (takeE b at_ e 2) []).2.1 (ptMems b (num (takeL b at_ e 2)) (takeAt b at_ e 2) (takeE b at_ e 2) []).2.2
def ptC (b : List UInt8) (t : TxD) (at_ : Nat) (e : Int) : TxD × Int :=
  if t.hasSeq then ptD b { t with seq := (rseqP b at_ e).1 } (rseqP b at_ e).2.1 (note (rseqP b at_ e).2.2.1 (decide (((rseqP b at_ e).2.2.2 : Int) ≤ 1)) 16) else ptD b t at_ e
def ptB (b : List UInt8) (t : TxD) (at_ : Nat) (e : Int) : TxD × Int :=
  ptC b { t with moves := (ptMoves b (num (takeL b at_ e 2)) (takeAt b at_ e 2) (takeE b at_ e 2) []).1 } (ptMoves b (num (takeL b at_ e 2)) (takeAt b at_ e 2) (takeE b at_ e 2) []).2.1 (ptMoves b (num (takeL b at_ e 2)) (takeAt b at_ e 2) (takeE b at_ e 2) []).2.2
def ptA (b : List UInt8) (t : TxD) (at_ : Nat) (e : Int) : TxD × Int := if t.hasHead then ptB b { t with head := str (textL b at_ e 1) } (textAt b at_ e 1) (textE b at_ e 1) else ptB b t at_ e
def bit1 (n : Nat) : Bool := ((n % 2 : Nat) : Int) != 0
def bit2 (n : Nat) : Bool := ((n / 2 % 2 * 2 : Nat) : Int) != 0
def parseTx (b : List UInt8) : TxD × Int :=
  ptA b { tx0 with hasHead := bit1 (num (takeL b 0 0 1)), hasSeq := bit2 (num (takeL b 0 0 1)) } (takeAt b 0 0 1) (note (takeE b 0 0 1) (decide ((num (takeL b 0 0 1) : Int) ≤ 3)) 16)

/-- A memory without the place of its bytes. -/
def forM (m : MemD) : MemD := ⟨m.key, m.data, none, 0⟩
def forT (t : TxD) : TxD := { t with mem := t.mem.map forM }

theorem and1 (n : Nat) (h : n < 256) : bits .and .u64 (n : Int) 1 = ((n % 2 : Nat) : Int) := by
  have := u64_and_nat n 1 (by omega) (by omega)
  rw [show ((1 : Nat) : Int) = 1 from rfl] at this
  rw [this, Nat.and_one_is_mod]
theorem and2_fin : ∀ n : Fin 256, n.val &&& 2 = n.val / 2 % 2 * 2 := by decide +kernel
theorem and2 (n : Nat) (h : n < 256) : bits .and .u64 (n : Int) 2 = ((n / 2 % 2 * 2 : Nat) : Int) := by
  have := u64_and_nat n 2 (by omega) (by omega)
  rw [show ((2 : Nat) : Int) = 2 from rfl] at this
  rw [this, and2_fin ⟨n, h⟩]

/-! ### Cells turned -/
theorem txC_set (t : TxD) (mv tv ev : Value) : (∀ s, (txC t mv tv ev).setIfInBounds 1 (.string s) = txC { t with head := s } mv tv ev) ∧ (∀ v, (txC t mv tv ev).setIfInBounds 2 v = txC t v tv ev) ∧ (∀ v, (txC t mv tv ev).setIfInBounds 74 v = txC t mv tv v) := by
  have h := seqL_len t.seq tv
  refine ⟨fun _ => ?_, fun _ => ?_, fun _ => ?_⟩ <;> (apply Array.ext'; simp [txC, txL, h])
theorem txC_splSeq (t : TxD) (mv tv ev : Value) (q : SeqD) (tv' : Value) : spl (txC t mv tv ev) 4 (seqC q tv').toList = txC { t with seq := q } mv tv' ev := by
  have h := seqL_len t.seq tv
  have h2 := seqL_len q tv'
  apply Array.ext'
  simp [spl, txC, txL, seqC, h, h2]
theorem moveC_spl (m : MoveD) (i : Id) : spl (moveC m) 1 (idC i).toList = moveC { m with old := i } ∧ spl (moveC m) 33 (idC i).toList = moveC { m with new_ := i } := by
  have h1 := idL_len m.old
  have h2 := idL_len m.new_
  have h3 := idL_len i
  constructor
  · apply Array.ext'
    simp [spl, moveC, moveL, idC, h1, h3]
  · apply Array.ext'
    simp [spl, moveC, moveL, idC, h1, h2, h3, List.drop_append, List.drop_of_length_le]
theorem moveC_set (m : MoveD) (s : ByteArray) : (moveC m).setIfInBounds 65 (.string s) = moveC { m with why := s } := by
  have h1 := idL_len m.old
  have h2 := idL_len m.new_
  apply Array.ext'
  simp [moveC, moveL, List.set_append_right, h1, h2]
theorem memC_set (m : MemD) (d : List UInt8) (A : Option Addr) (c : Nat) : (memC m).setIfInBounds 32 (.slice A d.length c) = memC { m with data := d, adr := A, cap := c } := by
  have h1 := idL_len m.key
  apply Array.ext'
  simp [memC, memL, List.set_append_right, h1]
theorem zero_tx (w : World) : (zeroValue 34).run Tryz.prog w = .ok (.agg (txC tx0 nilS nilS nilS)) w := by kernel_rfl
theorem build_tx0 (w : World) : (Instr.build 34 #[]).run Tryz.prog w = .ok (.agg (txC tx0 nilS nilS nilS)) w := by kernel_rfl
theorem build_tx2 (h s : Bool) (w : World) : (Instr.build 34 #[(0, .bool h), (3, .bool s)]).run Tryz.prog w = .ok (.agg (txC { tx0 with hasHead := h, hasSeq := s } nilS nilS nilS)) w := by kernel_rfl
theorem build_move1 (s : ByteArray) (w : World) : (Instr.build 60 #[(0, .string s)]).run Tryz.prog w = .ok (.agg (moveC { noMove with name := s })) w := by kernel_rfl
theorem places_mem (w : World) : ((Tryz.prog.fieldsOf 62).mapM fun f => do pure (f.offset, ← sizeOf f.type) : Sem (Array (Nat × Nat))).run Tryz.prog w = .ok #[(0, 32), (32, 1)] w := by kernel_rfl
theorem fields_mem : Tryz.prog.underlying 62 = some (.struct (Tryz.prog.fieldsOf 62)) := by kernel_rfl
theorem build_mem1 (i : Id) (w : World) : (Instr.build 62 #[(0, idV i)]).run Tryz.prog w = .ok (.agg (memC { noMem with key := i })) w := by
  refine run_build_fill fields_mem w (zero_mem w) (places_mem w) ?_
  have h1 := idL_len i
  have h2 := idL_len noId
  rw [fill_one (off := 0) (by simp [Value.cells, idV, idC_size]) (by simp [Value.cells, idV, idC_size, memC_size]), Instr.fill]
  congr 1
  apply Array.ext'
  simp [spl, Value.cells, idV, idC, memC, memL, noMem, h1, h2]
theorem elemMove : Elem Tryz.prog 28 60 66 96 := by
  refine ⟨Tryz.underlying28, ?_, by decide⟩
  obtain ⟨i, hi, h1, h2, h3⟩ := info_parts (show (Tryz.prog.info? 60).map (fun i => (i.zero, i.size, i.bytes)) = some (some (.agg (moveC noMove)), 66, 96) by kernel_rfl)
  exact ⟨i, _, hi, h1, h2, h3, moveC_size _⟩
theorem elemMem : Elem Tryz.prog 32 62 33 56 := by
  refine ⟨Tryz.underlying32, ?_, by decide⟩
  obtain ⟨i, hi, h1, h2, h3⟩ := info_parts (show (Tryz.prog.info? 62).map (fun i => (i.zero, i.size, i.bytes)) = some (some (.agg (memC noMem)), 33, 56) by kernel_rfl)
  exact ⟨i, _, hi, h1, h2, h3, memC_size _⟩

/-! ### A reader beside a variable that a round made -/
structure RV (wr : World) (g B : Nat) (b : List UInt8) (z : Nat) (T : TypeId) (cs : Array Value) (at_ : Nat) (e : Int) (wn : World) : Prop where
  rd : Rd wn g B b at_ e
  blk : Blk wn z T cs
  keep : Keep (Only g) wr wn
  nz : wr.heap.size ≤ z
  bz : B ≤ wr.heap.size
  nt : T ≠ 115
section
variable {wr : World} {g B : Nat} {b : List UInt8} {z : Nat} {T : TypeId} {cs : Array Value} {at_ : Nat} {e : Int} {wn w' : World}
theorem RV.zg (h : RV wr g B b z T cs at_ e wn) : z ≠ g := by obtain ⟨A, c, hb, _⟩ := h.rd; exact h.blk.ne_ hb h.nt
theorem RV.size (h : RV wr g B b z T cs at_ e wn) : B ≤ wn.heap.size := Nat.le_trans h.bz h.keep.size
theorem RV.next {at' : Nat} {e' : Int} (h : RV wr g B b z T cs at_ e wn) (hr : Rd w' g B b at' e') (hk : Keep (Only g) wn w') : RV wr g B b z T cs at' e' w' :=
  ⟨hr, h.blk.keep hk h.zg, h.keep.trans hk, h.nz, h.bz, h.nt⟩
theorem RV.id (h : RV wr g B b z T cs at_ e wn) : Calls Tryz.prog 53 #[.pointer (some ⟨g, 0, none⟩)] wn fun r w' =>
    r = .returned (idV (idOf (takeL b at_ e 32))) ∧ RV wr g B b z T cs (takeAt b at_ e 32) (takeE b at_ e 32) w' :=
  (rid_any g B b at_ e wn h.rd h.size).mono fun _ _ ⟨h1, h2, h3⟩ => ⟨h1, h.next h2 h3⟩
theorem RV.text2 (h : RV wr g B b z T cs at_ e wn) : Calls Tryz.prog 52 #[.pointer (some ⟨g, 0, none⟩), .int .i64 2] wn fun r w' =>
    r = .returned (.string (str (textL b at_ e 2))) ∧ RV wr g B b z T cs (textAt b at_ e 2) (textE b at_ e 2) w' :=
  (rtext_any 2 (by omega) g B b at_ e wn h.rd h.size).mono fun _ _ ⟨h1, h2, h3⟩ => ⟨h1, h.next h2 h3⟩
theorem RV.text4 (h : RV wr g B b z T cs at_ e wn) : Calls Tryz.prog 52 #[.pointer (some ⟨g, 0, none⟩), .int .i64 4] wn fun r w' =>
    r = .returned (.string (str (textL b at_ e 4))) ∧ RV wr g B b z T cs (textAt b at_ e 4) (textE b at_ e 4) w' :=
  (rtext_any 4 (by omega) g B b at_ e wn h.rd h.size).mono fun _ _ ⟨h1, h2, h3⟩ => ⟨h1, h.next h2 h3⟩
theorem RV.keepN (h : RV wr g B b z T cs at_ e wn) (k : Keep Nothing wn w') : RV wr g B b z T cs at_ e w' :=
  ⟨h.rd.keep h.size k (fun _ q => q.elim), h.blk.keep k (fun q => q), h.keep.trans (k.mono (fun _ _ q => q.elim)), h.nz, h.bz, h.nt⟩
theorem RV.only {cs' : Array Value} (h : RV wr g B b z T cs at_ e wn) (hb : Blk w' z T cs') (k : Keep (Only z) wn w') : RV wr g B b z T cs' at_ e w' :=
  ⟨h.rd.keep h.size k (fun i q => by unfold Only at q; have := h.nz; have := h.bz; subst q; exact ⟨by omega, h.zg⟩), hb, h.keep.then_ k (fun i hi q => by unfold Only at q; have := h.nz; omega), h.nz, h.bz, h.nt⟩
theorem RV.set (h : RV wr g B b z T cs at_ e wn) (i : Nat) (v : Value) : RV wr g B b z T (cs.setIfInBounds i v) at_ e (wn.setCell ⟨z, i, none⟩ v) :=
  h.only (h.blk.set_ i v) ((Keep.refl (Only z) wn).setCell (p := ⟨z, i, none⟩) (.inl rfl) _)
end

/-! ### The rows of a transaction that is being read -/
def DatAt (w : World) (m : MemD) : Prop := ∃ k cs fz, m.adr = some ⟨k, 0, none⟩ ∧ w.heap[k]? = some (.cells cs 5 fz) ∧ ∀ (j : Nat) (u : Value), (m.data.map bv)[j]? = some u → cs[j]? = some u
theorem DatAt.reads {w : World} {m : MemD} (h : DatAt w m) : Reads w w.heap.size 1 m.adr m.data.length (m.data.map bv) := by
  obtain ⟨k, cs, fz, ha, hc, hd⟩ := h
  refine ⟨by simp, fun _ => ⟨_, ha, (Array.getElem?_eq_some_iff.1 hc).1, fun j u hu => ?_⟩⟩
  rw [add_at, cell_of_row w k (0 + j) cs _ fz hc, Nat.zero_add]
  exact hd j u hu
theorem DatAt.kept {w w' : World} {m : MemD} {b' : Nat} {E : List TypeId} {G : List Nat} (h : DatAt w m) (hk : Kept b' E G w w') (he : 5 ∉ E) (hG : ∀ g ∈ G, ∃ t cs, Blk w g t cs ∧ t ≠ 5) : DatAt w' m := by
  obtain ⟨k, cs, fz, ha, hc, hd⟩ := h
  refine ⟨k, cs, fz, ha, ?_, hd⟩
  rw [hk.block k (Array.getElem?_eq_some_iff.1 hc).1 (fun q => ?_)]
  · exact hc
  · rcases q with q | ⟨_, e', he', cs', fz', hc'⟩
    · obtain ⟨t, cs', hb, ht⟩ := hG k q
      unfold Blk at hb
      rw [hb] at hc
      injection hc with hc
      injection hc with _ hc
      exact ht hc
    · rw [hc] at hc'
      injection hc' with hc'
      injection hc' with _ hc'
      subst hc'
      exact he he'
structure TR (base : Nat) (t : TxD) (mv tv ev : Value) (wr : World) : Prop where
  mv : ∃ A c, mv = .slice A t.moves.length c ∧ Own wr base 60 66 A t.moves.length c (moveLs t.moves)
  tv : ∃ A c, tv = .slice A t.seq.todo.length c ∧ Own wr base 113 33 A t.seq.todo.length c (todoLs t.seq.todo)
  ev : ∃ A c, ev = .slice A t.mem.length c ∧ Own wr base 62 33 A t.mem.length c (memLs t.mem)
  dat : ∀ m ∈ t.mem, DatAt wr m ∧ m.data.length ≤ maxLen
def rowTypes : List TypeId := [60, 113, 62, 5]
section
variable {base : Nat} {t : TxD} {mv tv ev : Value} {wr w' : World}
theorem TR.kept {b' : Nat} {E : List TypeId} {G : List Nat} (h : TR base t mv tv ev wr) (hk : Kept b' E G wr w') (he : ∀ e ∈ E, e ∉ rowTypes) (hG : ∀ g ∈ G, ∃ t cs, Blk wr g t cs ∧ t ∉ rowTypes) : TR base t mv tv ev w' := by
  have hN : ∀ e, e ∈ rowTypes → e ∉ E := fun e h1 h2 => he e h2 h1
  have hB : ∀ e, e ∈ rowTypes → ∀ g ∈ G, ∃ t cs, Blk wr g t cs ∧ t ≠ e := fun e h1 g hg => by obtain ⟨t, cs, hb, ht⟩ := hG g hg; exact ⟨t, cs, hb, fun q => ht (q ▸ h1)⟩
  obtain ⟨⟨A, c, h1, h2⟩, ⟨A', c', h1', h2'⟩, ⟨A'', c'', h1'', h2''⟩, h4⟩ := h
  exact ⟨⟨A, c, h1, h2.kept hk (hN _ (by decide)) (hB _ (by decide))⟩, ⟨A', c', h1', h2'.kept hk (hN _ (by decide)) (hB _ (by decide))⟩, ⟨A'', c'', h1'', h2''.kept hk (hN _ (by decide)) (hB _ (by decide))⟩,
    fun m hm => ⟨(h4 m hm).1.kept hk (hN _ (by decide)) (hB _ (by decide)), (h4 m hm).2⟩⟩
theorem TR.only {g : Nat} {ty : TypeId} {cs : Array Value} (h : TR base t mv tv ev wr) (hk : Keep (Only g) wr w') (hb : Blk wr g ty cs) (ht : ty ∉ rowTypes) : TR base t mv tv ev w' :=
  h.kept (b' := 0) (E := []) (G := [g]) (Kept.ofKeep hk (by unfold Only; simp)) (by simp) (by intro g' hg; simp at hg; subst hg; exact ⟨ty, cs, hb, ht⟩)
theorem TR.txIn (h : TR base t mv tv ev wr) : TxIn wr wr.heap.size t mv tv ev := by
  obtain ⟨⟨A, c, h1, h2⟩, ⟨A', c', h1', h2'⟩, ⟨A'', c'', h1'', h2''⟩, h4⟩ := h
  exact ⟨⟨A, c, h1, h2.reads, h2.cap_le⟩, ⟨A', c', h1', h2'.reads, h2'.cap_le⟩, ⟨A'', c'', h1'', h2''.reads, h2''.cap_le⟩, fun m hm => ⟨(h4 m hm).1.reads, (h4 m hm).2⟩⟩
end
end Go.Proofs.YtppmolneklidfaaGreat
