/-
  The map of objects; contract of (objects).put. No statement of the seat is proved here.
-/
import Derived.Test.YtbaapjlmpmpocaaGreatDoorDTDb
import Derived.Test.YtbaapjlmpmpocaaGreatDoorDT14
namespace Go.Proofs.YtbaapjlmpmpocaaGreatDoor
open Go.RowKit Go.Maps

/-- What a map of objects says: each Id's kind. -/
abbrev Gm := Id → Option Int
def gput (g : Gm) (i : Id) (k : Int) : Gm := fun j => if j = i then some k else g j
def objV (k : Int) (A : Option Addr) (l c : Nat) : Value := .agg #[.int .i64 k, .slice A l c]
def OMap (w : World) (m n : Nat) (g : Gm) : Prop := ∃ f, VI w m n f ∧ ∀ i, (g i = none → f i = none) ∧ ∀ k, g i = some k → ∃ A l c, f i = some (objV k A l c)
section
variable {w w' : World} {m n : Nat} {g : Gm}
theorem OMap.alloc (h : OMap w m n g) (o : Go.Obj) : OMap (w.alloc o) m n g := by
  obtain ⟨f, hv, hf⟩ := h
  exact ⟨f, hv.alloc o, hf⟩
theorem OMap.made (w : World) : OMap (w.alloc (.map #[] 0)) w.heap.size 0 (fun _ => none) := ⟨miNil, VI.made w, fun _ => ⟨fun _ => rfl, fun _ h => by cases h⟩⟩
theorem OMap.lt (h : OMap w m n g) : m < w.heap.size := by
  obtain ⟨f, hv, _⟩ := h
  exact hv.lt
theorem OMap.block (h : OMap w m n g) (hb : w'.heap[m]? = w.heap[m]?) : OMap w' m n g := by
  obtain ⟨f, hv, hf⟩ := h
  exact ⟨f, hv.block hb, hf⟩
theorem OMap.below {B : Nat} (h : OMap w m n g) (hb : Below B w w') (hm : m < B) : OMap w' m n g := h.block (hb.block _ hm)
theorem OMap.keep {S : Nat → Prop} (h : OMap w m n g) (hk : Keep S w w') (hm : ¬ S m) : OMap w' m n g := h.block (hk.block _ h.lt hm)
theorem OMap.ne (h : OMap w m n g) {b : Nat} {t : TypeId} {cs : Array Value} (hb : Blk w b t cs) : b ≠ m := by
  obtain ⟨f, ⟨D, ⟨es, clock, q, _⟩, _⟩, _⟩ := h
  rintro rfl
  rw [show w.heap[b]? = some (.cells cs t (0, 0)) from hb] at q
  cases q
theorem OMap.store {t e : TypeId} (h : OMap w m n g) (ht : Tryz.prog.underlying t = some (.map 30 e)) (hn : n < maxLen) (i : Id) (k : Int) (A : Option Addr) (l c : Nat) :
    ∃ w' n', (Instr.mapUpdate t (.map (some m)) (idV i) (objV k A l c)).run Tryz.prog w = .ok () w' ∧ n' ≤ n + 1 ∧ OMap w' m n' (gput g i k) ∧ Keep (Only m) w w' := by
  obtain ⟨f, hv, hf⟩ := h
  obtain ⟨w', hrun, hv', hk, _⟩ := hv.store ht hn (s := i) (objV k A l c)
  refine ⟨w', _, hrun, by split <;> omega, ⟨_, hv', fun j => ?_⟩, hk⟩
  unfold gput iput
  by_cases e : j = i
  · rw [if_pos e, if_pos e]
    exact ⟨fun q => by (cases q), fun k' q => by (injection q with q; subst q; exact ⟨A, l, c, rfl⟩)⟩
  · rw [if_neg e, if_neg e]
    exact hf j
end
theorem belowK {w w' : World} {S : Nat → Prop} (h : Below w.heap.size w w') : Keep S w w' := ⟨h.os, h.tape, h.output, h.size, fun i hi _ => h.block i hi⟩
set_option maxHeartbeats 2000000 in
set_option maxRecDepth 100000 in
theorem oput_any (k : Int) (b : List UInt8) (A : Option Addr) (c m n : Nat) (g : Gm) (w : World) (h : OMap w m n g) (hr : Reads w w.heap.size 1 A b.length (b.map bv)) (hl : b.length ≤ 1000000) (hc1 : b.length ≤ c) (hc2 : c ≤ maxLen) (hn : n ≤ 100000000) :
    Calls Tryz.prog 32 #[.map (some m), .agg #[.int .i64 k, .slice A b.length c]] w fun e w' => e = .returned (idV (idObj k b).1) ∧ (∃ n', n' ≤ n + 1 ∧ OMap w' m n' (gput g (idObj k b).1 k)) ∧ Keep (Only m) w w' := by
  have q1 : Blk ((w.alloc (.cells #[.int .i64 k, .slice A b.length c] 44)).alloc (.cells (idC noId) 30)) w.heap.size 44 #[.int .i64 k, .slice A b.length c] := (Blk.new _ _ _).alloc _
  have q2 : Blk ((w.alloc (.cells #[.int .i64 k, .slice A b.length c] 44)).alloc (.cells (idC noId) 30)) (w.heap.size + 1) 30 (idC noId) := by
    have := Blk.new (w.alloc (.cells #[.int .i64 k, .slice A b.length c] 44)) 30 (idC noId)
    simpa using this
  have k0 : Below w.heap.size w ((w.alloc (.cells #[.int .i64 k, .slice A b.length c] 44)).alloc (.cells (idC noId) 30)) := ((Below.refl _ _).alloc (Nat.le_refl _) _).alloc (by simp) _
  have z0 := k0.size
  have HI := Lib.hid (id_any k b A c _ ((hr.below k0).more z0) hl hc1 hc2)
  have h0 := h.below k0 h.lt
  have hml := h.lt
  have HM := Lib.hid h
  generalize idObj k b = r at *
  clear h hr
  go_enter Tryz.func32, Tryz.ntmps32
  go_wp2_with (first | (refine wpList_boxed rfl rfl (cs := #[.int .i64 k, .slice A b.length c]) rfl ?_) | (refine wpList_allocAgg rfl rfl (zero_noId _) ?_; generalize (w.alloc (.cells #[.int .i64 k, .slice A b.length c] 44)).alloc (.cells (idC noId) 30) = w0 at *) | (refine wpList_load rfl rfl rfl (load_obj q1) ?_))
  refine HI.out.mono ?_
  rintro _ w1 ⟨rfl, hb⟩
  have z1 := hb.size
  have p1 := q1.below hb q1.lt
  have p2 := q2.below hb q2.lt
  have m1 := h0.below hb h0.lt
  have k1 := k0.trans (hb.mono z0)
  have l1 := p1.lt
  have l2 := p2.lt
  clear q1 q2 k0 hb HI h0
  have p3 := p1.alloc (.cells (idC noId) 30)
  have p4 := p2.alloc (.cells (idC noId) 30)
  have p5 := Blk.new w1 30 (idC noId)
  have m3 := m1.alloc (.cells (idC noId) 30)
  have k3 := k1.alloc (by omega) (.cells (idC noId) 30)
  generalize hq : w.heap.size = q at *
  generalize hq1 : w1.heap.size = i1 at *
  obtain ⟨w3, hw3⟩ : ∃ w3, w1.alloc (.cells (idC noId) 30) = w3 := ⟨_, rfl⟩
  rw [hw3] at p3 p4 p5 m3 k3
  clear p1 p2 m1 k1
  go_wp2_with (first | (refine wpList_allocAgg rfl rfl (zero_noId _) ?_; rw [hw3, hq1]) | (refine wpList_storeBlk rfl rfl (vs := idC r.1) rfl rfl p5 (by rw [idC_size, idC_size]) (by rw [idC_size]; exact info42) (idL_one _) ?_; intro w9 hq9 hk9 hz9) | (refine wpList_load rfl rfl rfl (load_obj (p3.keep hk9 (by unfold Only; omega))) ?_) | (refine wpList_load rfl rfl rfl (load_id hq9) ?_))
  have m9 := m3.keep hk9 (by unfold Only; omega)
  obtain ⟨w4, n4, hst, hn4, hm4, hk4⟩ := m9.store (t := 46) Tryz.underlying46 (by unfold maxLen; omega) r.1 k A b.length c
  unfold objV at hst
  have p6 := hq9.keep hk4 (by unfold Only; omega)
  have p7 := (p4.keep hk9 (by unfold Only; omega)).keep hk4 (by unfold Only; omega)
  have kk : Keep (Only m) w w4 := (belowK (show Below w.heap.size w w3 from by rw [hq]; exact k3)).then_ hk9 (by unfold Only; omega) |>.then_ hk4 (by unfold Only; omega)
  go_simp
  go_wp2_with (first | (refine wpList_load rfl rfl rfl (load_id p6) ?_) | (refine wpList_storeBlk rfl rfl (vs := idC r.1) rfl rfl p7 (by rw [idC_size, idC_size]) (by rw [idC_size]; exact info42) (idL_one _) ?_; intro w8 hq8 hk8 hz8))
  refine bodyPost_ret (results_cell rfl _ _ rfl (run_loadVar_cells w8 _ (idC r.1) Tryz.underlying30 rfl (by rw [idC_size]; exact info42) (fun j v hj => by rw [add_at, hq8.cell, ← hj]; simp))) rfl ?_
  exact ⟨rfl, ⟨n4, hn4, hm4.keep hk8 (by unfold Only; omega)⟩, kk.then_ hk8 (by unfold Only; omega)⟩
end Go.Proofs.YtbaapjlmpmpocaaGreatDoor
