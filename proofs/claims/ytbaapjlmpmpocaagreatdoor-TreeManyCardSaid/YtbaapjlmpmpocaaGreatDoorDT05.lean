/- A map from texts, each element as it stands. No statement of the seat is proved here. -/
import Derived.Test.YtbaapjlmpmpocaaGreatDoorDT02
import Derived.Test.YtbaapjlmpmpocaaGreatDoorProg
import Derived.OwnWalk
import Derived.Maps.RangeWalk
namespace Go.Proofs.YtbaapjlmpmpocaaGreatDoor
open Go.RowKit
theorem flatn_len {α : Type} {f : α → List Value} {C : Nat} (hf : ∀ a, (f a).length = C) (l : List α) : (l.flatMap f).length = l.length * C := by
 induction l with
 | nil => simp
 | cons x l ih => rw [List.flatMap_cons, List.length_append, hf, ih, List.length_cons, Nat.succ_mul, Nat.add_comm]
theorem flatn_at {α : Type} {f : α → List Value} {C : Nat} (hf : ∀ a, (f a).length = C) (l : List α) (k j : Nat) (x : α) (hk : l[k]? = some x) (u : Value) (hj : (f x)[j]? = some u) : (l.flatMap f)[k * C + j]? = some u := by
 induction l generalizing k with
 | nil => simp at hk
 | cons y l ih =>
  have hj' : j < C := by
   rcases Nat.lt_or_ge j C with q | q
   · exact q
   · rw [List.getElem?_eq_none (by rw [hf]; exact q)] at hj; cases hj
  cases k with
  | zero =>
   simp only [List.getElem?_cons_zero, Option.some.injEq] at hk
   subst hk
   rw [List.flatMap_cons, Nat.zero_mul, Nat.zero_add, List.getElem?_append_left (by rw [hf]; exact hj')]
   exact hj
  | succ k =>
   simp only [List.getElem?_cons_succ] at hk
   have e : (k + 1) * C = k * C + C := Nat.succ_mul k C
   rw [List.flatMap_cons, List.getElem?_append_right (by rw [hf]; omega), hf, show (k + 1) * C + j - C = k * C + j by omega]
   exact ih k hk
theorem Reads.of_blk {w : World} {g : Nat} {cs : Array Value} {t : TypeId} {fz : Nat × Nat} {size n : Nat} {xs : List Value} (h : w.heap[g]? = some (.cells cs t fz)) (hx : cs.toList = xs) (hl : xs.length = n * size) : Reads w (g + 1) size (some ⟨g, 0, none⟩) n xs := by
 refine ⟨hl, fun _ => ⟨_, rfl, Nat.lt_succ_self _, fun j u hj => ?_⟩⟩
 rw [add_at, cell_of_row w g (0 + j) cs t fz h, Nat.zero_add, ← hj, ← hx]
 simp
theorem Own.turn {w : World} {base g : Nat} {e : TypeId} {size n c : Nat} {xs ys : List Value} (h : Own w base e size (some ⟨g, 0, none⟩) n c xs) (j : Nat) (u : Value) (hy : xs.set j u = ys) :
    Own (w.setCell ⟨g, j, none⟩ u) base e size (some ⟨g, 0, none⟩) n c ys ∧ Kept base [e] [] w (w.setCell ⟨g, j, none⟩ u) := by
 have h1 := World.ownsRow.stored h j u
 exact ⟨hy ▸ h1.1, Kept.of_grown h h1.2 (by simp)⟩
theorem Own.adrn {w : World} {base : Nat} {e : TypeId} {A : Option Addr} {size n c : Nat} {xs : List Value} (h : Own w base e size A n c xs) (hn : 0 < n) : ∃ g, A = some ⟨g, 0, none⟩ ∧ base ≤ g := by
 rcases h.2 with ⟨_, h4⟩ | ⟨g, cap, cur, h3, h4, _⟩
 · omega
 · injection h3 with e1
   exact ⟨g, e1, h4⟩
end Go.Proofs.YtbaapjlmpmpocaaGreatDoor
namespace Go.Proofs.YtbaapjlmpmpocaaGreatDoor
open Go.RowKit Go.WideMaps Go.Maps
section
variable {P : Program}
end
def strL (l : List (List UInt8)) : List Value := l.map strC
theorem zero_int (w : World) : (zeroValue 3).run Tryz.prog w = .ok (.int .i64 0) w := by kernel_rfl
theorem keyedS : Keyed Tryz.prog 9 := string_keyed Tryz.underlying9
theorem keyOf_str {s : List UInt8} (hs : s.length ≤ maxLen) : keyOf Tryz.prog 9 (strC s) = some (keyS s) := by
 have := keyOf_string_mk (P := Tryz.prog) Tryz.underlying9 (s := ⟨s.toArray⟩) (show s.toArray.size ≤ maxLen by simpa using hs)
 simpa [strC, keyS] using this
theorem keep_grown {w w' : World} {b : Nat} (h : w.grownBy w' (some b)) : Keep (Only b) w w' := ⟨h.os, h.tape, h.output, h.size, fun k hk hn => h.block k hk (fun e => hn (by injection e))⟩
end Go.Proofs.YtbaapjlmpmpocaaGreatDoor
namespace Go.Proofs.YtbaapjlmpmpocaaGreatDoor
open Go.RowKit
structure FileD where
 p : List UInt8
 k : Int
 d : List UInt8
deriving DecidableEq
def fileC (f : FileD) (A : Option Addr) (c : Nat) : Array Value := #[strC f.p, .int .i64 f.k, .slice A f.d.length c]
def fileV (f : FileD) (v : Value) : List Value := [strC f.p, .int .i64 f.k, v]
def filesL (fs : List FileD) (tv : List Value) : List Value := (fs.zip tv).flatMap fun x => fileV x.1 x.2
def DataR (w : World) (B : Nat) (f : FileD) (v : Value) : Prop := ∃ A c, v = .slice A f.d.length c ∧ f.d.length ≤ c ∧ c ≤ maxLen ∧ Reads w B 1 A f.d.length (f.d.map byteV)
def FI (w : World) (B : Nat) (A : Option Addr) (fs : List FileD) : Prop := ∃ tv : List Value, tv.length = fs.length ∧ Reads w B 3 A fs.length (filesL fs tv) ∧ ∀ (k : Nat) x y, fs[k]? = some x → tv[k]? = some y → DataR w B x y
section
variable {w w' : World} {B B' : Nat} {A : Option Addr} {fs : List FileD}
theorem DataR.keep {f : FileD} {v : Value} (hr : DataR w B f v) (hk : ∀ p : Addr, p.block < B → w'.cell? p = w.cell? p) : DataR w' B f v := by
 obtain ⟨A, c, h1, h2, h3, h4⟩ := hr
 exact ⟨A, c, h1, h2, h3, h4.keep hk⟩
theorem DataR.below {f : FileD} {v : Value} (hr : DataR w B f v) (hb : Below B w w') : DataR w' B f v := hr.keep fun _ hp => hb.cell hp
theorem DataR.more {f : FileD} {v : Value} (hr : DataR w B f v) (hB : B ≤ B') : DataR w B' f v := by
 obtain ⟨A, c, h1, h2, h3, h4⟩ := hr
 exact ⟨A, c, h1, h2, h3, h4.more hB⟩
theorem FI.keep (h : FI w B A fs) (hk : ∀ p : Addr, p.block < B → w'.cell? p = w.cell? p) : FI w' B A fs := by
 obtain ⟨tv, h1, h2, h3⟩ := h
 exact ⟨tv, h1, h2.keep hk, fun k x y e1 e2 => (h3 k x y e1 e2).keep hk⟩
theorem FI.below (h : FI w B A fs) (hb : Below B w w') : FI w' B A fs := h.keep fun _ hp => hb.cell hp
theorem FI.drewN (h : FI w B A fs) (n : Nat) : FI (w.drewN n) B A fs := h.keep fun _ _ => rfl
theorem FI.more (h : FI w B A fs) (hB : B ≤ B') : FI w B' A fs := by
 obtain ⟨tv, h1, h2, h3⟩ := h
 exact ⟨tv, h1, h2.more hB, fun k x y e1 e2 => (h3 k x y e1 e2).more hB⟩
theorem FI.nil_ (w : World) (B : Nat) (A : Option Addr) : FI w B A [] := ⟨[], rfl, Reads.none_, fun _ _ _ h => by cases h⟩
theorem filesL_at {tv : List Value} {k : Nat} {f : FileD} {v : Value} (h1 : fs[k]? = some f) (h2 : tv[k]? = some v) (j : Nat) (u : Value) (hj : (fileV f v)[j]? = some u) : (filesL fs tv)[k * 3 + j]? = some u :=
 flatn_at (f := fun x : FileD × Value => fileV x.1 x.2) (C := 3) (fun _ => rfl) (fs.zip tv) k j (f, v) (by rw [List.getElem?_zip_eq_some]; exact ⟨h1, h2⟩) u hj
theorem filesL_len {tv : List Value} (h : tv.length = fs.length) : (filesL fs tv).length = fs.length * 3 := by
 unfold filesL
 rw [flatn_len (f := fun x : FileD × Value => fileV x.1 x.2) (C := 3) (fun _ => rfl), List.length_zip, h, Nat.min_self]
end
theorem info_file : (Tryz.prog.info? 27).map (·.size) = some 3 := by kernel_rfl
theorem FI.at_ {w : World} {B : Nat} {A : Option Addr} {fs : List FileD} (h : FI w B A fs) {k : Nat} {x : FileD} (hk : fs[k]? = some x) : ∃ g off DA dc, A = some ⟨g, off, none⟩ ∧ g < B ∧
    (Instr.loadAt 27 (.pointer (some ⟨g, off + k * 3, none⟩))).run Tryz.prog w = .ok (.agg (fileC x DA dc)) w ∧
    w.cell? ⟨g, off + k * 3, none⟩ = some (strC x.p) ∧ w.cell? ⟨g, off + k * 3 + 1, none⟩ = some (.int .i64 x.k) ∧ w.cell? ⟨g, off + k * 3 + 2, none⟩ = some (.slice DA x.d.length dc) ∧
    x.d.length ≤ dc ∧ dc ≤ maxLen ∧ Reads w B 1 DA x.d.length (x.d.map byteV) := by
 obtain ⟨tv, h1, h2, h3⟩ := h
 have hlt : k < fs.length := (List.getElem?_eq_some_iff.1 hk).1
 obtain ⟨y, hy⟩ : ∃ y, tv[k]? = some y := ⟨_, List.getElem?_eq_getElem (by omega)⟩
 obtain ⟨DA, dc, rfl, q3, q4, q5⟩ := h3 k x y hk hy
 obtain ⟨g, off, rfl, hg, hc⟩ := h2.at0 (by omega) (by omega)
 have e0 := hc _ _ (filesL_at hk hy 0 _ rfl)
 have e1 := hc _ _ (filesL_at hk hy 1 _ rfl)
 have e2 := hc _ _ (filesL_at hk hy 2 _ rfl)
 rw [← Nat.add_assoc] at e1 e2
 rw [Nat.add_zero] at e0
 refine ⟨g, off, DA, dc, rfl, hg, run_loadAt_cells w _ (fileC x DA dc) Tryz.underlying27 rfl info_file (fun j v hj => ?_), e0, e1, e2, q3, q4, q5⟩
 rw [add_at]
 have hj3 : j < 3 := by
  rcases Nat.lt_or_ge j 3 with q | q
  · exact q
  · rw [List.getElem?_eq_none (by simpa [fileC] using q)] at hj; cases hj
 rcases (by omega : j = 0 ∨ j = 1 ∨ j = 2) with rfl | rfl | rfl
 · simp [fileC] at hj
   subst hj
   simpa using e0
 · simp [fileC] at hj
   subst hj
   simpa [Nat.add_assoc] using e1
 · simp [fileC] at hj
   subst hj
   simpa [Nat.add_assoc] using e2
end Go.Proofs.YtbaapjlmpmpocaaGreatDoor
namespace Go.Proofs.YtbaapjlmpmpocaaGreatDoor
open Go.RowKit Go.WideMaps Go.Maps
def heldE (v : Value) : Option (DataW Value × List MemPlace) := some (.held v, [])
abbrev Mp := List UInt8 → Option Value
def mpNil : Mp := fun _ => none
def mput (f : Mp) (s : List UInt8) (v : Value) : Mp := fun t => if t = s then some v else f t
def DatM (D : DataW Value) (f : Mp) : Prop := Tidy D ∧ ∀ s, (f s = none → has D (keyS s) = false) ∧ ∀ v, f s = some v → has D (keyS s) = true ∧ ∀ z, D.atKey (keyS s) z = .held v
def VM (w : World) (b n : Nat) (f : Mp) : Prop := ∃ D, w.ownsMap Tryz.prog 9 heldE b n D ∧ Maps.size D = n ∧ DatM D f
def VR (w : World) (b r n : Nat) (f : Mp) (left : List UInt8 → Bool) (cnt : Nat) : Prop := ∃ D L, w.ranges Tryz.prog 9 heldE b r n D L cnt ∧ Maps.size D = n ∧ DatM D f ∧ (∀ s, L (keyS s) = left s) ∧ ∀ kl, L kl = true → ∃ s, kl = keyS s
section
variable {w w' : World} {b n : Nat} {f : Mp}
theorem DatM.has {D : DataW Value} (h : DatM D f) (s : List UInt8) : has D (keyS s) = (f s).isSome := by
 obtain ⟨h1, h2⟩ := h.2 s
 cases hf : f s with
 | none => rw [h1 hf]; rfl
 | some v => rw [(h2 v hf).1]; rfl
theorem DatM.at_ {D : DataW Value} (h : DatM D f) (s : List UInt8) (z : Value) : D.atKey (keyS s) (.held z) = .held ((f s).getD z) := by
 obtain ⟨h1, h2⟩ := h.2 s
 cases hf : f s with
 | none => rw [atKey_of_not_has (h1 hf)]; rfl
 | some v => rw [(h2 v hf).2]; rfl
theorem DatM.put {D : DataW Value} (h : DatM D f) (s : List UInt8) (v : Value) : DatM (D.put (keyS s) (.held v)) (mput f s v) := by
 refine ⟨h.1.put (keyS_is s) _, fun t => ?_⟩
 unfold mput
 by_cases e : t = s
 · subst e
   rw [if_pos rfl]
   refine ⟨fun q => by simp at q, fun u hu => ?_⟩
   have hu := Option.some.inj hu
   subst hu
   exact ⟨has_put_same h.1.isMap (keyS_is t) _, fun z => atKey_put_same h.1.isMap (keyS_is t) _ z⟩
 · rw [if_neg e]
   have hne : keyS t ≠ keyS s := fun q => e (keyS_inj q)
   obtain ⟨h1, h2⟩ := h.2 t
   exact ⟨fun q => by rw [has_put_other hne]; exact h1 q, fun u hu => ⟨by rw [has_put_other hne]; exact (h2 u hu).1, fun z => by rw [atKey_put_other hne]; exact (h2 u hu).2 z⟩⟩
theorem heldE_inv {v x : Value} {ps : List MemPlace} (h : heldE v = some (.held x, ps)) : v = x ∧ ps = [] := by
 unfold heldE at h
 injection h with h
 injection h with h1 h2
 injection h1 with h1
 exact ⟨h1, h2.symm⟩
theorem VM.made (w : World) : VM (w.alloc (.map #[] 0)) w.heap.size 0 mpNil :=
 ⟨.map [], World.ownsMap_made _ _ _ _, rfl, tidy_empty, fun s => ⟨fun _ => by simp [has_eq], fun v h => by cases h⟩⟩
theorem VM.lt (h : VM w b n f) : b < w.heap.size := by
 obtain ⟨D, h1, _⟩ := h
 exact h1.lt
theorem VM.block (h : VM w b n f) (hb : w'.heap[b]? = w.heap[b]?) : VM w' b n f := by
 obtain ⟨D, ⟨es, clock, q1, q2⟩, h2⟩ := h
 exact ⟨D, ⟨es, clock, hb.trans q1, q2⟩, h2⟩
theorem VM.keep {S : Nat → Prop} (h : VM w b n f) (hk : Keep S w w') (hb : ¬ S b) : VM w' b n f := h.block (hk.block b h.lt hb)
theorem VM.alloc (h : VM w b n f) (o : Obj) : VM (w.alloc o) b n f := h.block (Below.heap_alloc w o b h.lt)
theorem VM.setCell (h : VM w b n f) {p : Addr} (hp : b ≠ p.block) (u : Value) : VM (w.setCell p u) b n f := h.block (Below.heap_setCell w p u b hp)
theorem VM.drewN (h : VM w b n f) (k : Nat) : VM (w.drewN k) b n f := h
theorem VM.look {t e : TypeId} (h : VM w b n f) (ht : Tryz.prog.underlying t = some (.map 9 e)) {z : Value} (hz : (zeroValue e).run Tryz.prog w = .ok z w) {s : List UInt8} (hs : s.length ≤ maxLen) :
    (Instr.lookup t (.map (some b)) (strC s) false).run Tryz.prog w = .ok ((f s).getD z) w := by
 obtain ⟨D, h1, h2, h3⟩ := h
 obtain ⟨v, ps, hrun, hv⟩ := h1.lookup keyedS ht hz (zd := .held z) (zp := []) rfl (keyOf_str hs)
 rw [h3.at_] at hv
 rw [hrun, (heldE_inv hv).1]
theorem VM.look_ok {t e : TypeId} (h : VM w b n f) (ht : Tryz.prog.underlying t = some (.map 9 e)) {z : Value} (hz : (zeroValue e).run Tryz.prog w = .ok z w) {s : List UInt8} (hs : s.length ≤ maxLen) :
    (Instr.lookup t (.map (some b)) (strC s) true).run Tryz.prog w = .ok (.tuple #[(f s).getD z, .bool (f s).isSome]) w := by
 obtain ⟨D, h1, h2, h3⟩ := h
 obtain ⟨v, ps, hrun, hv⟩ := h1.look_ok keyedS ht hz (zd := .held z) (zp := []) rfl (keyOf_str hs)
 rw [h3.at_] at hv
 rw [hrun, (heldE_inv hv).1, h3.has]
theorem VM.len {t e : TypeId} (h : VM w b n f) (ht : Tryz.prog.underlying t = some (.map 9 e)) (ty : TypeId) : (Builtin.len_ #[t] ty #[.map (some b)]).run Tryz.prog w = .ok (.int .i64 (n : Nat)) w := by
 obtain ⟨D, h1, h2, h3⟩ := h
 rw [h1.len ht, h2]
theorem ownsMap_exact {D : DataW Value} {m : Nat} (h : w.ownsMap Tryz.prog 9 heldE b m D) : w.ownsMap Tryz.prog 9 heldE b (Maps.size D) D := by
 obtain ⟨es, clock, h1, h2, h3, h4⟩ := h
 refine ⟨es, clock, h1, h2, ?_, h4⟩
 subst h4
 simp [Maps.size, length_sorted]
theorem VM.store {t e : TypeId} (h : VM w b n f) (ht : Tryz.prog.underlying t = some (.map 9 e)) (hn : n < maxLen) {s : List UInt8} (hs : s.length ≤ maxLen) (v : Value) :
    ∃ w', (Instr.mapUpdate t (.map (some b)) (strC s) v).run Tryz.prog w = .ok () w' ∧ VM w' b (if (f s).isSome then n else n + 1) (mput f s v) ∧ Keep (Only b) w w' ∧ w'.heap.size = w.heap.size := by
 obtain ⟨D, h1, h2, h3⟩ := h
 obtain ⟨w', hrun, q1, q2⟩ := h1.store keyedS ht hn (keyOf_str hs) (d := .held v) (ps := []) rfl
 refine ⟨w', hrun, ⟨_, ?_, ?_, h3.put s v⟩, keep_grown q2.grown, ?_⟩
 · have hz : Maps.size (D.put (keyS s) (.held v)) = if (f s).isSome then n else n + 1 := by rw [size_put h3.1, h3.has, h2]
   rw [← hz]
   exact ownsMap_exact q1
 · rw [size_put h3.1, h3.has, h2]
 · obtain ⟨es, clock, es', clock', _, rfl⟩ := q2
   simp [ChangeMaps.setBlock]
theorem VR.owns {r : Nat} {left : List UInt8 → Bool} {cnt : Nat} (h : VR w b r n f left cnt) : VM w b n f := by
 obtain ⟨D, L, h1, h2, h3, _⟩ := h
 exact ⟨D, h1.owns, h2, h3⟩
theorem VR.lt {r : Nat} {left : List UInt8 → Bool} {cnt : Nat} (h : VR w b r n f left cnt) : r < w.heap.size := by
 obtain ⟨D, L, h1, _⟩ := h
 exact h1.lt
theorem VR.ne {r : Nat} {left : List UInt8 → Bool} {cnt : Nat} (h : VR w b r n f left cnt) : r ≠ b := by
 obtain ⟨D, L, h1, _⟩ := h
 exact h1.ne
theorem VR.left_eq {r : Nat} {left : List UInt8 → Bool} {cnt : Nat} (h : VR w b r n f left cnt) : w.rangeLeft b r = cnt := by
 obtain ⟨D, L, h1, _⟩ := h
 exact h1.left_eq
theorem VR.keep {S : Nat → Prop} {r : Nat} {left : List UInt8 → Bool} {cnt : Nat} (h : VR w b r n f left cnt) (hk : Keep S w w') (hb : ¬ S b) (hr : ¬ S r) : VR w' b r n f left cnt := by
 have h4 := h.owns.lt
 have h5 := h.lt
 obtain ⟨D, L, ⟨es, clock, since, seen, c0, q1, q2, q3, q4, q5, q6⟩, h2, h3⟩ := h
 exact ⟨D, L, ⟨es, clock, since, seen, c0, (hk.block b h4 hb).trans q1, q2, q3, q4, (hk.block r h5 hr).trans q5, q6⟩, h2, h3⟩
theorem key_text {v : Value} {kl : Lit} (h : keyOf Tryz.prog 9 v = some kl) : ∃ s, v = strC s ∧ kl = keyS s := by
 rw [keyOf_string Tryz.underlying9] at h
 unfold mapKey at h
 rw [Tryz.underlying9] at h
 split at h
 all_goals first | cases h; done | skip
 · rename_i q
   cases q
 · rename_i q
   cases q
 · rename_i s _
   split at h
   · injection h with h
     exact ⟨s.data.toList, by simp [strC], h.symm⟩
   · cases h
theorem VM.range {t e : TypeId} (h : VM w b n f) (ht : Tryz.prog.underlying t = some (.map 9 e)) :
    ∃ w', (Instr.range t (.map (some b))).run Tryz.prog w = .ok (.pointer (some ⟨w.heap.size, 0, none⟩)) w' ∧ VR w' b w.heap.size n f (fun s => (f s).isSome) n ∧ Keep Nothing w w' ∧ w'.heap.size = w.heap.size + 1 := by
 obtain ⟨D, h1, h2, h3⟩ := h
 obtain ⟨w', hrun, q1, q2, q3⟩ := h1.range keyedS ht
 refine ⟨w', hrun, ⟨D, _, by rw [← h2]; rw [h2] at q1 ⊢; exact q1, h2, h3, fun s => h3.has s, fun kl hk => ?_⟩, ⟨q2.os, q2.tape, q2.output, q2.size, fun k hk _ => q2.block k hk (by simp)⟩, q3⟩
 obtain ⟨es, clock, since, seen, c0, _, F, _, _, _, _, _, _, hx, _⟩ := q1
 obtain ⟨x, hx1, rfl⟩ := hx kl hk
 have hkk := fit_keys F _ (List.mem_map.2 ⟨x, hx1, rfl⟩)
 obtain ⟨v, hv⟩ := hkk
 obtain ⟨s, _, hs⟩ := key_text hv
 exact ⟨s, hs⟩
end
theorem keyS_same (s t : List UInt8) : (keyS s).sameKey (keyS t) = decide (s = t) := by
 by_cases h : s = t
 · subst h
   simp [keyS, Lit.sameKey]
 · rw [sameKey_ne (fun q => h (keyS_inj q)), decide_eq_false h]
theorem VR.next {w : World} {b r n : Nat} {f : Mp} {left : List UInt8 → Bool} {cnt : Nat} (h : VR w b r n f left cnt) (ty : TypeId) :
    (cnt = 0 ∧ (∀ s, left s = false) ∧ (Instr.next (.pointer (some ⟨r, 0, none⟩)) false ty).run Tryz.prog w = .ok (.tuple #[.bool false]) w) ∨
    ∃ s v w' cnt', left s = true ∧ f s = some v ∧ (Instr.next (.pointer (some ⟨r, 0, none⟩)) false ty).run Tryz.prog w = .ok (.tuple #[.bool true, strC s, v]) w' ∧
     VR w' b r n f (fun x => left x && !decide (x = s)) cnt' ∧ cnt' < cnt ∧ Keep (Only r) w w' ∧ w'.heap.size = w.heap.size ∧ (Instr.entry (.pointer (some ⟨r, 0, none⟩))).run Tryz.prog w' = .ok (.tuple #[strC s, v]) w' := by
 obtain ⟨D, L, h1, h2, h3, h4, h5⟩ := h
 rcases h1.next keyedS ty with ⟨q1, q2, q3⟩ | ⟨key, v, kl, y, w', cnt', q1, q2, q3, q4, q5, q6, q7, q8, q9, q10⟩
 · exact .inl ⟨q1, fun s => by rw [← h4]; exact q2 _, q3⟩
 · obtain ⟨s, rfl, rfl⟩ := key_text q1
   have hy : y = (.held v, []) := (Option.some.inj q3).symm
   subst hy
   have hh := has_true_of_atKey q4
   rw [h3.has] at hh
   obtain ⟨u, hu⟩ := Option.isSome_iff_exists.1 hh
   have := q4 (.held v)
   rw [((h3.2 s).2 u hu).2] at this
   injection this with this
   subst this
   refine .inr ⟨s, u, w', cnt', by rw [← h4]; exact q2, hu, q5, ⟨D, _, q6, h2, h3, fun t => by simp only [h4, keyS_same], fun kl hk => h5 kl (by simp only [Bool.and_eq_true] at hk; exact hk.1)⟩, q7, keep_grown q8, q9, q10⟩
end Go.Proofs.YtbaapjlmpmpocaaGreatDoor
