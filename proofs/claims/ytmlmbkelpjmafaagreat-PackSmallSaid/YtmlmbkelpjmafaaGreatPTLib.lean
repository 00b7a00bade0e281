/- Words for memory: a block known whole (Blk), what a call leaves alone (Keep), a slice that reads as a list (Reads), loads, stores and comparisons of whole aggregates. No statement of the seat is proved here. -/
import Derived.WalkKit
import Derived.WalkSpells
import Derived.WalkLawsBesides
import Derived.Lib.Hide
import Derived.Deep.AppendLies
import Derived.Deep.Draws
import Derived.Maps.AppendAt
import Derived.Deep.RegionLaw
namespace Go.Proofs.YtmlmbkelpjmafaaGreat
open Go.RowKit
def Blk (w : World) (g : Nat) (t : TypeId) (cs : Array Value) : Prop := w.heap[g]? = some (.cells cs t (0, 0))
structure Keep (S : Nat → Prop) (w w' : World) : Prop where
 os : w'.os = w.os
 tape : w'.tape = w.tape
 output : w'.output = w.output
 size : w.heap.size ≤ w'.heap.size
 block : ∀ k, k < w.heap.size → ¬ S k → w'.heap[k]? = w.heap[k]?
def Nothing : Nat → Prop := fun _ => False
def Only (g : Nat) : Nat → Prop := fun k => k = g
section
variable {w w' : World} {g : Nat} {t : TypeId} {cs : Array Value}
theorem Blk.lt (h : Blk w g t cs) : g < w.heap.size := by
 rcases Nat.lt_or_ge g w.heap.size with hlt | hge
 · exact hlt
 · unfold Blk at h; rw [Array.getElem?_eq_none hge] at h; cases h
theorem Blk.cell (h : Blk w g t cs) (i : Nat) : w.cell? ⟨g, i, none⟩ = cs[i]? := cell_of_row w g i cs t (0, 0) h
theorem Blk.frozen (h : Blk w g t cs) (i : Nat) : w.frozen? ⟨g, i, none⟩ = false := by
 unfold Blk at h
 simp [World.frozen?, h]
theorem Blk.new (w : World) (t : TypeId) (cs : Array Value) : Blk (w.alloc (.cells cs t)) w.heap.size t cs := heap_alloc_new w _
theorem Blk.drew (h : Blk w g t cs) : Blk w.drew g t cs := h
theorem Blk.drewN (h : Blk w g t cs) (n : Nat) : Blk (w.drewN n) g t cs := h
theorem Blk.alloc (h : Blk w g t cs) (o : Obj) : Blk (w.alloc o) g t cs := (Below.heap_alloc w o g h.lt).trans h
theorem Blk.set_ (h : Blk w g t cs) (i : Nat) (u : Value) : Blk (w.setCell ⟨g, i, none⟩ u) g t (cs.setIfInBounds i u) := by
 unfold Blk at h ⊢
 simp [World.setCell, Array.getElem?_modify, h]
theorem Blk.far (h : Blk w g t cs) {p : Addr} (hp : g ≠ p.block) (u : Value) : Blk (w.setCell p u) g t cs := (Below.heap_setCell w p u g hp).trans h
theorem Blk.row (h : Blk w g t cs) (cs' : Array Value) : Blk (w.setRow g cs') g t cs' := setRow_heap w g cs cs' t (0, 0) h
theorem Blk.rowFar (h : Blk w g t cs) {g' : Nat} (hne : g ≠ g') (cs' : Array Value) : Blk (w.setRow g' cs') g t cs := (setRow_other w g' g cs' hne).trans h
theorem Blk.below {B : Nat} (h : Blk w g t cs) (hb : Below B w w') (hg : g < B) : Blk w' g t cs := (hb.block g hg).trans h
theorem Blk.keep {S : Nat → Prop} (h : Blk w g t cs) (hk : Keep S w w') (hg : ¬ S g) : Blk w' g t cs := (hk.block g h.lt hg).trans h
theorem Blk.ne_ {g' : Nat} {t' : TypeId} {cs' : Array Value} (h : Blk w g t cs) (h' : Blk w g' t' cs') (hne : t ≠ t') : g ≠ g' := by
 rintro rfl
 unfold Blk at h h'
 rw [h] at h'
 injection h' with h'
 injection h' with _ ht
 exact hne ht
end
section
variable {S S' : Nat → Prop} {a w w' b c : World}
theorem Keep.refl (S : Nat → Prop) (w : World) : Keep S w w := ⟨rfl, rfl, rfl, Nat.le_refl _, fun _ _ _ => rfl⟩
theorem Keep.trans (h : Keep S a b) (k : Keep S b c) : Keep S a c :=
 ⟨k.os.trans h.os, k.tape.trans h.tape, k.output.trans h.output, Nat.le_trans h.size k.size, fun i hi hn => (k.block i (Nat.lt_of_lt_of_le hi h.size) hn).trans (h.block i hi hn)⟩
theorem Keep.then_ (h : Keep S a b) (k : Keep S' b c) (hs : ∀ i, i < a.heap.size → S' i → S i) : Keep S a c :=
 ⟨k.os.trans h.os, k.tape.trans h.tape, k.output.trans h.output, Nat.le_trans h.size k.size, fun i hi hn => (k.block i (Nat.lt_of_lt_of_le hi h.size) (fun q => hn (hs i hi q))).trans (h.block i hi hn)⟩
theorem Keep.mono (h : Keep S a b) (hs : ∀ i, i < a.heap.size → S i → S' i) : Keep S' a b :=
 ⟨h.os, h.tape, h.output, h.size, fun i hi hn => h.block i hi (fun q => hn (hs i hi q))⟩
theorem Keep.drew (h : Keep S a w) : Keep S a w.drew := ⟨h.os, h.tape, h.output, h.size, h.block⟩
theorem Keep.drewN (h : Keep S a w) (n : Nat) : Keep S a (w.drewN n) := ⟨h.os, h.tape, h.output, h.size, h.block⟩
theorem Keep.ofDrewN {n : Nat} (h : Keep S (a.drewN n) w) : Keep S a w := ⟨h.os, h.tape, h.output, h.size, h.block⟩
theorem Keep.ofNew {o : Obj} (h : Keep (Only a.heap.size) (a.alloc o) w) : Keep S a w :=
 ⟨h.os, h.tape, h.output, Nat.le_trans (by simp) h.size, fun i hi _ => (h.block i (by simp; omega) (by unfold Only; omega)).trans (Below.heap_alloc a o i hi)⟩
theorem Keep.alloc (h : Keep S a w) (o : Obj) : Keep S a (w.alloc o) :=
 ⟨h.os, h.tape, h.output, Nat.le_trans h.size (by simp), fun i hi hn => (Below.heap_alloc w o i (Nat.lt_of_lt_of_le hi h.size)).trans (h.block i hi hn)⟩
theorem Keep.setCell (h : Keep S a w) {p : Addr} (hp : S p.block ∨ a.heap.size ≤ p.block) (u : Value) : Keep S a (w.setCell p u) :=
 ⟨h.os, h.tape, h.output, by simpa [World.setCell] using h.size, fun i hi hn => (Below.heap_setCell w p u i (by
  rintro rfl
  rcases hp with hp | hp
  · exact hn hp
  · omega)).trans (h.block i hi hn)⟩
theorem Keep.setRow (h : Keep S a w) {g : Nat} (hp : S g ∨ a.heap.size ≤ g) (cs : Array Value) : Keep S a (w.setRow g cs) :=
 ⟨h.os, h.tape, h.output, by simpa using h.size, fun i hi hn => (setRow_other w g i cs (by
  rintro rfl
  rcases hp with hp | hp
  · exact hn hp
  · omega)).trans (h.block i hi hn)⟩
theorem Keep.grown {row : Option Nat} (h : Keep S a w) (hg : w.grownBy w' row) (hr : ∀ g, row = some g → S g ∨ a.heap.size ≤ g) : Keep S a w' :=
 ⟨hg.os.trans h.os, hg.tape.trans h.tape, hg.output.trans h.output, Nat.le_trans h.size hg.size, fun i hi hn => (hg.block i (Nat.lt_of_lt_of_le hi h.size) (by
  intro e
  rcases hr i e.symm with q | q
  · exact hn q
  · omega)).trans (h.block i hi hn)⟩
theorem Keep.below {B : Nat} (h : Keep S a w) (hB : B ≤ a.heap.size) (hs : ∀ i, i < B → ¬ S i) : Below B a w :=
 ⟨h.os, h.tape, h.output, h.size, fun i hi => h.block i (Nat.lt_of_lt_of_le hi hB) (hs i hi)⟩
theorem Keep.all (h : Keep Nothing a w) : Below a.heap.size a w := h.below (Nat.le_refl _) (fun _ _ q => q)
theorem Keep.cell (h : Keep S a w) {p : Addr} (hp : p.block < a.heap.size) (hn : ¬ S p.block) : w.cell? p = a.cell? p := World.cell?_of_block (w := a) (h.block p.block hp hn)
theorem Below.keep_ (h : Below a.heap.size a w) (S : Nat → Prop) : Keep S a w := ⟨h.os, h.tape, h.output, h.size, fun i hi _ => h.block i hi⟩
end
theorem post_congr {R : Ending → World → Prop} {e e' : Ending} {w : World} (h : R e w) (he : e = e') : R e' w := he ▸ h
theorem block_of_add (a : Addr) (n : Nat) : (a.add n).block = a.block := by unfold Addr.add; split <;> rfl
theorem add_of_add (a : Addr) (i j : Nat) : (a.add i).add j = a.add (i + j) := by
 unfold Addr.add
 by_cases hi : i = 0 <;> by_cases hj : j = 0 <;> simp [hi, hj, Nat.add_assoc]
theorem add_at (g off j : Nat) : (⟨g, off, none⟩ : Addr).add j = ⟨g, off + j, none⟩ := by unfold Addr.add; split <;> simp_all
def Reads (w : World) (B size : Nat) (A : Option Addr) (n : Nat) (xs : List Value) : Prop :=
 xs.length = n * size ∧ (0 < n → ∃ ad, A = some ad ∧ ad.block < B ∧ ∀ j u, xs[j]? = some u → w.cell? (ad.add j) = some u)
section
variable {w w' : World} {B B' size n : Nat} {A : Option Addr} {xs : List Value}
theorem Reads.none_ : Reads w B size A 0 [] := ⟨by simp, fun h => absurd h (by omega)⟩
theorem Reads.at_ {k : Nat} (h : Reads w B 1 A n xs) (hk : k < n) : ∃ ad u, A = some ad ∧ ad.block < B ∧ xs[k]? = some u ∧ w.cell? (ad.add k) = some u := by
 obtain ⟨ad, e, hb, hc⟩ := h.2 (by omega)
 have hl : k < xs.length := by have := h.1; omega
 exact ⟨ad, xs[k], e, hb, List.getElem?_eq_getElem hl, hc k _ (List.getElem?_eq_getElem hl)⟩
theorem Reads.at0 (h : Reads w B size A n xs) (hn : 0 < n) (hs : 0 < size) : ∃ g off, A = some ⟨g, off, none⟩ ∧ g < B ∧ ∀ j u, xs[j]? = some u → w.cell? ⟨g, off + j, none⟩ = some u := by
 obtain ⟨ad, e, hb, hc⟩ := h.2 hn
 have hl : 0 < xs.length := by rw [h.1]; exact Nat.mul_pos hn hs
 have h0 := hc 0 _ (List.getElem?_eq_getElem hl)
 obtain ⟨g, off, sp⟩ := ad
 cases sp with
 | none =>
  refine ⟨g, off, e, hb, fun j u hj => ?_⟩
  rw [← add_at]
  exact hc j u hj
 | some q =>
  exfalso
  simp only [Addr.add, World.cell?] at h0
  split at h0
  · rename_i h5
    simp at h0
  · cases h0
theorem Reads.keep (h : Reads w B size A n xs) (hk : ∀ p : Addr, p.block < B → w'.cell? p = w.cell? p) : Reads w' B size A n xs :=
 ⟨h.1, fun hn => by
  obtain ⟨ad, e, hb, hc⟩ := h.2 hn
  exact ⟨ad, e, hb, fun j u hu => (hk _ (by rw [block_of_add]; exact hb)).trans (hc j u hu)⟩⟩
theorem Reads.more (h : Reads w B size A n xs) (hB : B ≤ B') : Reads w B' size A n xs :=
 ⟨h.1, fun hn => by
  obtain ⟨ad, e, hb, hc⟩ := h.2 hn
  exact ⟨ad, e, by omega, hc⟩⟩
theorem Reads.below (h : Reads w B size A n xs) (hb : Below B w w') : Reads w' B size A n xs := h.keep fun _ hp => hb.cell hp
theorem Reads.kept {S : Nat → Prop} (h : Reads w B size A n xs) (hk : Keep S w w') (hB : B ≤ w.heap.size) (hs : ∀ i, i < B → ¬ S i) : Reads w' B size A n xs := h.below (hk.below hB hs)
theorem Reads.drew (h : Reads w B size A n xs) : Reads w.drew B size A n xs := h
theorem Reads.drewN (h : Reads w B size A n xs) (k : Nat) : Reads (w.drewN k) B size A n xs := h
theorem Reads.alloc (h : Reads w B size A n xs) (hB : B ≤ w.heap.size) (o : Obj) : Reads (w.alloc o) B size A n xs := h.keep fun p hp => World.cell?_alloc_lt w o p (by omega)
theorem Reads.setCell (h : Reads w B size A n xs) {p : Addr} (hB : B ≤ p.block) (u : Value) : Reads (w.setCell p u) B size A n xs :=
 h.keep fun q hq => World.cell?_setCell_other w p q u (fun e => by subst e; omega)
theorem Reads.cut (h : Reads w B size A n xs) {k cap : Nat} (hk : k ≤ n) (hc : n ≤ cap) :
    Reads w B size (if cap = k then A else A.map (·.add (k * size))) (n - k) (xs.drop (k * size)) := by
 refine ⟨by rw [List.length_drop, h.1, Nat.sub_mul], fun hn => ?_⟩
 obtain ⟨ad, rfl, hb, hcell⟩ := h.2 (by omega)
 rw [if_neg (by omega)]
 refine ⟨ad.add (k * size), rfl, by rw [block_of_add]; exact hb, fun j u hu => ?_⟩
 rw [add_of_add]
 exact hcell _ u (by rw [← hu, List.getElem?_drop])
theorem Reads.front (h : Reads w B size A n xs) {k : Nat} (hk : k ≤ n) : Reads w B size A k (xs.take (k * size)) := by
 refine ⟨by rw [List.length_take, h.1]; exact Nat.min_eq_left (Nat.mul_le_mul_right _ hk), fun hn => ?_⟩
 obtain ⟨ad, rfl, hb, hcell⟩ := h.2 (by omega)
 refine ⟨ad, rfl, hb, fun j u hu => hcell j u ?_⟩
 rw [List.getElem?_take] at hu
 split at hu
 · exact hu
 · cases hu
theorem Reads.of_own {base : Nat} {e : TypeId} {c : Nat} (h : w.ownsRow base e size (.slice A n c) n xs) : Reads w w.heap.size size A n xs := by
 refine ⟨h.1, fun hn => ?_⟩
 obtain ⟨g, cap, hv, _, hlt⟩ := h.form hn
 have hA : A = some ⟨g, 0, none⟩ := by injection hv
 subst hA
 exact ⟨_, rfl, hlt, h.cells (g := g) rfl⟩
end
section
variable {P : Program}
theorem run_isAgg {ty : TypeId} {d : TypeDesc} (hu : P.underlying ty = some d) (hd : (match d with | .struct _ | .array _ _ => true | _ => false) = true) (w : World) : (isAgg ty).run P w = .ok true w := by
 unfold isAgg
 rw [Sem.run_bind, run_underlying hu w]
 cases d <;> simp_all
theorem run_loadVar_cells (w : World) (a : Addr) {ty : TypeId} {d : TypeDesc} (vs : Array Value) (hu : P.underlying ty = some d) (hd : (match d with | .struct _ | .array _ _ => true | _ => false) = true)
    (hi : (P.info? ty).map (·.size) = some vs.size) (hc : ∀ (j : Nat) v, vs.toList[j]? = some v → w.cell? (a.add j) = some v) : (loadVar ty a).run P w = .ok (.agg vs) w := by
 have hl := run_loadCells_list (P := P) w a vs.toList hc
 cases hq : P.info? ty with
 | none => simp [hq] at hi
 | some i =>
  have hs : i.size = vs.size := by simpa [hq] using hi
  simp only [Array.length_toList, Array.toArray_toList] at hl
  simp [loadVar, Sem.run_bind, run_isAgg hu hd, sizeOf, typeInfo, hq, hs, hl]
theorem run_loadAt_cells (w : World) (a : Addr) {ty : TypeId} {d : TypeDesc} (vs : Array Value) (hu : P.underlying ty = some d) (hd : (match d with | .struct _ | .array _ _ => true | _ => false) = true)
    (hi : (P.info? ty).map (·.size) = some vs.size) (hc : ∀ (j : Nat) v, vs.toList[j]? = some v → w.cell? (a.add j) = some v) : (Instr.loadAt ty (.pointer (some a))).run P w = .ok (.agg vs) w := by
 simp [Instr.loadAt, Instr.sureAddr, run_loadVar_cells w a vs hu hd hi hc]
theorem run_loadAt_blk {w : World} {g : Nat} {t ty : TypeId} {cs : Array Value} {d : TypeDesc} (h : Blk w g t cs) (off : Nat) (vs : Array Value) (hu : P.underlying ty = some d) (hd : (match d with | .struct _ | .array _ _ => true | _ => false) = true)
    (hi : (P.info? ty).map (·.size) = some vs.size) (hv : vs = cs.extract off (off + vs.size)) : (Instr.loadAt ty (.pointer (some ⟨g, off, none⟩))).run P w = .ok (.agg vs) w := by
 refine run_loadAt_cells w _ vs hu hd hi (fun j v hj => ?_)
 rw [add_at, h.cell, ← hj]
 simp only [Array.getElem?_toList]
 have hlt : j < vs.size := by
  rcases Nat.lt_or_ge j vs.size with q | q
  · exact q
  · rw [Array.getElem?_toList, Array.getElem?_eq_none q] at hj; cases hj
 conv => rhs; rw [hv]
 rw [Array.getElem?_extract]
 simp
 intro q
 have := congrArg Array.size hv
 simp at this
 omega
def spl (cs : Array Value) (off : Nat) (vs : List Value) : Array Value := (cs.toList.take off ++ vs ++ cs.toList.drop (off + vs.length)).toArray
theorem setRow_same {w : World} {g : Nat} {t : TypeId} {cs : Array Value} (hg : Blk w g t cs) : w.setRow g cs = w := by
 have hlt : g < w.heap.size := hg.lt
 have hv : w.heap[g] = .cells cs t (0, 0) := (Array.getElem?_eq_some_iff.1 hg).2
 unfold World.setRow
 cases w with
 | mk heap tape drawn os output =>
  congr 1
  apply Array.ext
  · simp
  · intro k h1 h2
    simp only [Array.getElem_modify]
    split
    · rename_i hk; subst hk; simp at hv; simp [hv]
    · rfl
theorem run_storeCells_mid (g off : Nat) (t : TypeId) : ∀ (vs : List Value) (i : Nat) (cur : Array Value) (w : World), Blk w g t cur → off + i + vs.length ≤ cur.size → (∀ v ∈ vs, v.oneCell' = true) →
    (storeCells ⟨g, off, none⟩ vs i).run P w = .ok () (w.setRow g (spl cur (off + i) vs))
 | [], i, cur, w, hg, hl, _ => by
  simp only [storeCells]
  show Result.ok () w = _
  rw [show spl cur (off + i) [] = cur from by simp [spl], setRow_same hg]
 | v :: rest, i, cur, w, hg, hl, h1 => by
  have hi : off + i < cur.size := by simp at hl; omega
  have hcell : w.cell? ⟨g, off + i, none⟩ = some cur[off + i] := by rw [hg.cell]; simp [hi]
  have hfro := hg.frozen (off + i)
  have hst : (store ((⟨g, off, none⟩ : Addr).add i) v).run P w = .ok () (w.setRow g (cur.setIfInBounds (off + i) v)) := by
   rw [add_at, run_store P w _ v _ (h1 v (by simp)), hcell]
   simp [hfro, setCell_eq_setRow w g (off + i) cur t (0, 0) v hg]
  have ih := run_storeCells_mid g off t rest (i + 1) (cur.setIfInBounds (off + i) v) (w.setRow g (cur.setIfInBounds (off + i) v)) (hg.row _) (by simp at hl ⊢; omega) (fun x hx => h1 x (by simp [hx]))
  simp only [storeCells, Sem.run_bind, hst, Result.andThen_ok, ih, setRow_setRow]
  congr 2
  unfold spl
  congr 1
  simp only [Array.toList_setIfInBounds, List.length_cons]
  rw [← Nat.add_assoc, List.take_add_one, List.take_set_of_le (Nat.le_refl _), List.getElem?_set_self (by simpa using hi), List.drop_set_of_lt (by omega)]
  simp [Nat.add_assoc, Nat.add_comm, Nat.add_left_comm]
theorem run_storeAt_blk {w : World} {g : Nat} {t ty : TypeId} {cs vs : Array Value} (h : Blk w g t cs) (off : Nat) (hi : (P.info? ty).map (·.size) = some vs.size) (hl : off + vs.size ≤ cs.size) (h1 : ∀ v ∈ vs.toList, v.oneCell' = true) :
    (Instr.storeAt ty (.pointer (some ⟨g, off, none⟩)) (.agg vs)).run P w = .ok () (w.setRow g (spl cs off vs.toList)) := by
 have := run_storeCells_mid (P := P) g off t vs.toList 0 cs w h (by simpa using hl) h1
 cases hq : P.info? ty with
 | none => simp [hq] at hi
 | some i =>
  have hs : vs.size = i.size := by simp [hq] at hi; omega
  simp [Instr.storeAt, Instr.sureAddr, storeVar, sizeOf, typeInfo, hq, Value.cells, hs, this]
theorem run_part_int (w : World) {e : TypeId} {k : IntKind} (he : P.underlying e = some (.int k)) (cs : Array Value) (i : Nat) (v : Value) (hv : cs[i]? = some v) : (part e cs i).run P w = .ok v w := by
 simp [part, isAgg, run_underlying he, hv]
theorem run_equalIn_row (w : World) (d : Nat) {t e : TypeId} {k : IntKind} {i : TypeInfo} {len : Nat} (ht : P.underlying t = some (.array len e)) (he : P.underlying e = some (.int k)) (hi : P.info? e = some i) (hs : i.size = 1) (xs ys : List Int) (hx : xs.length = len) (hy : ys.length = len) :
    (Op.equalIn (d + 2) t (.agg (xs.map (Value.int k)).toArray) (.agg (ys.map (Value.int k)).toArray)).run P w = .ok (xs == ys) w := by
 rw [show d + 2 = (d + 1) + 1 from rfl, Op.equalIn]
 simp only [Sem.run_bind, run_underlying ht, Result.andThen_ok, sizeOf, typeInfo, run_program, hi, Sem.run_pure, hs, Nat.mul_one, Std.Legacy.Range.forIn_eq_forIn_range', Std.Legacy.Range.size, Nat.sub_zero, Nat.add_sub_cancel, Nat.div_one]
 have H : ∀ (m j : Nat), j + m = len → (forIn (List.range' j m) ((none, ()) : Option Bool × Unit) (fun i _ => do
     let a ← part e (xs.map (Value.int k)).toArray i
     let b ← part e (ys.map (Value.int k)).toArray i
     let r ← Op.equalIn (d + 1) e a b
     if (!r) = true then pure (ForInStep.done (some false, ())) else pure (ForInStep.yield (none, ())))).run P w = .ok (if (xs.drop j == ys.drop j) = true then (none, ()) else (some false, ())) w := by
  intro m
  induction m with
  | zero =>
   intro j hj
   have h1 : xs.drop j = [] := List.drop_eq_nil_of_le (by omega)
   have h2 : ys.drop j = [] := List.drop_eq_nil_of_le (by omega)
   simp [h1, h2]
  | succ m ih =>
   intro j hj
   have ih' := ih (j + 1) (by omega)
   have jx : j < xs.length := by omega
   have jy : j < ys.length := by omega
   have px := run_part_int (P := P) w he (xs.map (Value.int k)).toArray j (.int k xs[j]) (by simp [jx])
   have py := run_part_int (P := P) w he (ys.map (Value.int k)).toArray j (.int k ys[j]) (by simp [jy])
   have dx : xs.drop j = xs[j] :: xs.drop (j + 1) := List.drop_eq_getElem_cons jx
   have dy : ys.drop j = ys[j] :: ys.drop (j + 1) := List.drop_eq_getElem_cons jy
   rw [List.range'_succ, List.forIn_cons]
   simp only [Sem.run_bind, px, py, Result.andThen_ok, run_equalIn_int w d e k k xs[j] ys[j] he]
   by_cases hq : xs[j] = ys[j]
   · have hb : (xs[j] == ys[j]) = true := by simpa using hq
     simp only [hb, Bool.not_true, Bool.false_eq_true, if_false, Sem.run_pure, Result.andThen_ok]
     rw [ih', dx, dy, List.cons_beq_cons, hb, Bool.true_and]
   · have hb : (xs[j] == ys[j]) = false := by simpa using hq
     simp only [hb, Bool.not_false, if_true, Sem.run_pure, Result.andThen_ok]
     rw [dx, dy, List.cons_beq_cons, hb, Bool.false_and, if_neg (by decide)]
 rw [H len 0 (by omega)]
 simp only [List.drop_zero, Result.andThen_ok]
 by_cases hq : xs = ys
 · subst hq; simp
 · have : (xs == ys) = false := by simpa using hq
   simp [this]
variable {ops : Array Oper} {rest : List Oper} {o : Oper} {a : Act} {w : World} {Q : Exit → Act → World → Prop}
theorem wpList_load (hgd : o.guard = none) {ty : TypeId} {x : Operand} (ho : o.op = .load ty x) {ad : Addr} {v : Value} (hx : a.eval x = .pointer (some ad)) (hrun : (Instr.loadAt ty (.pointer (some ad))).run P w = .ok v w)
    (h : wpList P ops Q rest (a.put o.dst v) w) : wpList P ops Q (o :: rest) a w :=
 wpList_plain hgd fun _ hK => by
  unfold Oper.wp execOp
  simp only [ho, hx, Sem.run_bind, hrun, Result.andThen_ok, Sem.run_pure]
  exact hK _ _ h
theorem wpList_store (hgd : o.guard = none) {ty : TypeId} {x y : Operand} (ho : o.op = .store ty x y) {ad : Addr} {v : Value} {w' : World} (hx : a.eval x = .pointer (some ad)) (hy : a.eval y = v) (hrun : (Instr.storeAt ty (.pointer (some ad)) v).run P w = .ok () w')
    (h : wpList P ops Q rest (a.put o.dst undef) w') : wpList P ops Q (o :: rest) a w :=
 wpList_plain hgd fun _ hK => by
  unfold Oper.wp execOp
  simp only [ho, hx, hy, Sem.run_bind, hrun, Result.andThen_ok, Sem.run_pure]
  exact hK _ _ h
theorem spl_all {cs : Array Value} {vs : Array Value} (h : cs.size = vs.size) : spl cs 0 vs.toList = vs := by
 apply Array.ext'
 simp [spl]
 omega
theorem wpList_storeBlk (hgd : o.guard = none) {ty : TypeId} {x y : Operand} (ho : o.op = .store ty x y) {q : Nat} {t : TypeId} {cs vs : Array Value} (hx : a.eval x = .pointer (some ⟨q, 0, none⟩)) (hy : a.eval y = .agg vs) (hb : Blk w q t cs) (hs : cs.size = vs.size)
    (hi : (P.info? ty).map (·.size) = some vs.size) (h1 : ∀ v ∈ vs.toList, v.oneCell' = true)
    (h : ∀ w', Blk w' q t vs → Keep (Only q) w w' → w'.heap.size = w.heap.size → wpList P ops Q rest (a.put o.dst undef) w') : wpList P ops Q (o :: rest) a w := by
 refine wpList_store hgd ho hx hy (run_storeAt_blk (P := P) hb 0 hi (by omega) h1) (h _ ?_ ?_ ?_)
 · rw [spl_all hs]; exact hb.row vs
 · exact Keep.setRow (Keep.refl (Only q) w) (.inl rfl) _
 · simp
theorem wpList_built (hgd : o.guard = none) {t : TypeId} {parts : Array (Nat × Operand)} (ho : o.op = .build t parts) {vs : Array (Nat × Value)} {v : Value} (hp : parts.toList.map (fun p => (p.1, a.eval p.2)) = vs.toList) (hrun : (Instr.build t vs).run P w = .ok v w)
    (h : wpList P ops Q rest (a.put o.dst v) w) : wpList P ops Q (o :: rest) a w :=
 wpList_plain hgd fun _ hK => by
  have hq : (parts.map fun (i, x) => (i, a.eval x)) = vs := by
   apply Array.ext'
   rw [← hp, Array.toList_map]
  unfold Oper.wp execOp
  simp only [ho, hq, Sem.run_bind, hrun, Result.andThen_ok, Sem.run_pure]
  exact hK _ _ h
theorem wpList_boxed (hgd : o.guard = none) {t : TypeId} {x : Operand} (ho : o.op = .box t x) {cs : Array Value} (hx : a.eval x = .agg cs)
    (h : wpList P ops Q rest (a.put o.dst (.pointer (some ⟨w.heap.size, 0, none⟩))) (w.alloc (.cells cs t))) : wpList P ops Q (o :: rest) a w :=
 wpList_plain hgd fun _ hK => by
  unfold Oper.wp execOp
  simp only [ho, hx, Instr.box, newVar, newRow, newObj, Value.cells, Sem.run_bind, Sem.run_pure]
  exact hK _ _ h
theorem wpList_allocAgg (hgd : o.guard = none) {t : TypeId} (ho : o.op = .alloc t) {cs : Array Value} (hz : (zeroValue t).run P w = .ok (.agg cs) w)
    (h : wpList P ops Q rest (a.put o.dst (.pointer (some ⟨w.heap.size, 0, none⟩))) (w.alloc (.cells cs t))) : wpList P ops Q (o :: rest) a w :=
 wpList_plain hgd fun _ hK => by
  unfold Oper.wp execOp
  simp only [ho, Instr.alloc, newVar, newRow, newObj, Value.cells, Sem.run_bind, Sem.run_pure, hz, Result.andThen_ok]
  exact hK _ _ h
theorem wpList_bin (hgd : o.guard = none) {op : BinOp} {t t' : TypeId} {x y : Operand} (ho : o.op = .binOp op t x y t') {u v r : Value} (hx : a.eval x = u) (hy : a.eval y = v) (hg : (eqGuard op t x y u v).run P w = .ok () w) (hrun : (binOp op t u v).run P w = .ok r w)
    (h : wpList P ops Q rest (a.put o.dst r) w) : wpList P ops Q (o :: rest) a w :=
 wpList_plain hgd fun _ hK => by
  unfold Oper.wp execOp
  simp only [ho, hx, hy, Sem.run_bind, hg, hrun, Result.andThen_ok, Sem.run_pure]
  exact hK _ _ h
end
end Go.Proofs.YtmlmbkelpjmafaaGreat
