/-
  Contracts of slices.AppendSeq, Collect, SortedFunc on the keys of the map of objects. No statement of the seat is proved here.
-/
import Derived.Test.YtbaapjlmpmpocaaGreatDoorDf
import Derived.Test.YtbaapjlmpmpocaaGreatDoorDd
import Derived.Shelf.SlIter.Collect
import Derived.Lib.BytesEntry
namespace Go.Proofs.YtbaapjlmpmpocaaGreatDoor
open Go.RowKit Go.Maps Go.Sort Go.Shelf

theorem idLs_one (l : List Id) : ∀ v ∈ l.flatMap idL, v.oneCell' = true := by
  intro v hv
  obtain ⟨s, _, hs⟩ := List.mem_flatMap.1 hv
  exact idL_one s v hs
/-- What came so far of a map's keys. -/
structure ComeI (D0 : DataW Value) (left : Lit → Bool) (ss : List Id) : Prop where
  nd : ss.Nodup
  gone : ∀ s ∈ ss, left (keyI s) = false
  has_ : ∀ s ∈ ss, has D0 (keyI s) = true
  all : ∀ s, has D0 (keyI s) = true → left (keyI s) = false → s ∈ ss
theorem ComeI.start (D0 : DataW Value) : ComeI D0 (has D0) [] := ⟨List.nodup_nil, fun _ h => (by cases h), fun _ h => (by cases h), fun s h1 h2 => (by rw [h1] at h2; cases h2)⟩
theorem ComeI.step {D0 : DataW Value} {left : Lit → Bool} {ss : List Id} (h : ComeI D0 left ss) {s : Id} (hl : left (keyI s) = true) (hh : has D0 (keyI s) = true) : ComeI D0 (fun z => left z && !z.sameKey (keyI s)) (ss ++ [s]) where
  nd := by
    rw [List.nodup_append]
    refine ⟨h.nd, by simp, fun a ha b hb e => ?_⟩
    rw [List.mem_singleton] at hb
    subst hb e
    have := h.gone _ ha
    rw [hl] at this
    cases this
  gone t ht := by
    simp only [keyI_same]
    rcases List.mem_append.1 ht with q | q
    · rw [h.gone t q]; rfl
    · rw [List.mem_singleton] at q
      subst q
      simp
  has_ t ht := by
    rcases List.mem_append.1 ht with q | q
    · exact h.has_ t q
    · rw [List.mem_singleton] at q
      subst q
      exact hh
  all t h1 h2 := by
    simp only [keyI_same] at h2
    by_cases e : t = s
    · subst e; simp
    · rw [decide_eq_false e] at h2
      simp at h2
      exact List.mem_append.2 (.inl (h.all t h1 h2))

/-! ### A clash in a box -/
theorem infoId9 : (Tryz.prog.info? 30).map (fun i => (i.zero, i.size, i.bytes)) = some (some (.agg (idC noId)), 32, 32) := by kernel_rfl
theorem elemId9 : Elem Tryz.prog 48 30 32 32 := by
  refine ⟨Tryz.underlying48, ?_, by decide⟩
  obtain ⟨i, hi, h1, h2, h3⟩ := info_parts infoId9
  exact ⟨i, _, hi, h1, h2, h3, rfl⟩
theorem zero_id9 (w : World) : (zeroValue 30).run Tryz.prog w = .ok (.agg (idC noId)) w := by kernel_rfl
def SlId (n : Nat) (ps : Array (Nat × Value)) : Sem Value := Instr.buildSlice 48 n ps
theorem sl_id (n : Nat) (ps : Array (Nat × Value)) : Instr.buildSlice 48 n ps = SlId n ps := rfl
theorem run_buildId9 (s : Id) (w : World) : (SlId 1 #[(0, idV s)]).run Tryz.prog w = .ok (.slice (some ⟨w.heap.size, 0, none⟩) 1 1) (w.alloc (.cells (idL s).toArray 30)) :=
  run_buildSlice1 elemId9 zero_id9 (idC_size _) (idC_size _) (by omega) w
theorem cells_new (w : World) (xs : List Value) (t : TypeId) : ∀ j u, xs[j]? = some u → (w.alloc (.cells xs.toArray t)).cell? ((⟨w.heap.size, 0, none⟩ : Addr).add j) = some u := by
  intro j u h
  rw [add_at, Nat.zero_add]
  rw [(Blk.new w t xs.toArray).cell]
  simpa using h
def StIdW (p v : Value) : Sem Unit := Instr.storeAt 30 p v
theorem st_idw (p v : Value) : Instr.storeAt 30 p v = StIdW p v := rfl
def LdIdW (p : Value) : Sem Value := Instr.loadAt 30 p
theorem ld_idw (p : Value) : Instr.loadAt 30 p = LdIdW p := rfl
theorem idA_size (x : Id) : (idL x).toArray.size = 32 := by simp [idL_len]
theorem idL_one1 (x : Id) : ∀ v ∈ (idL x).toArray.toList, v.oneCell' = true := by
  intro v hv
  exact idLs_one [x] v (by simpa using hv)
theorem storeId9 {w : World} {g : Nat} {cs : Array Value} {x : Id} (h : Blk w g 30 cs) (hs : cs.size = 32) : ∃ w', (StIdW (.pointer (some ⟨g, 0, none⟩)) (idV x)).run Tryz.prog w = .ok () w' ∧ Blk w' g 30 (idL x).toArray ∧ Keep (Only g) w w' := by
  have h1 := run_storeAt_blk (P := Tryz.prog) (ty := 30) h 0 (vs := (idL x).toArray) (by rw [idA_size]; exact info42) (by rw [hs, idA_size]; omega) (idL_one1 x)
  rw [spl_all (by rw [hs, idA_size])] at h1
  exact ⟨_, h1, h.row _, Keep.setRow (Keep.refl (Only g) w) (.inl rfl) _⟩
theorem loadId9 {w : World} {g : Nat} {x : Id} (h : Blk w g 30 (idL x).toArray) : (LdIdW (.pointer (some ⟨g, 0, none⟩))).run Tryz.prog w = .ok (idV x) w :=
  run_loadAt_cells w _ (idL x).toArray Tryz.underlying30 rfl (by rw [idA_size]; exact info42) (fun j v hj => by rw [add_at, h.cell, ← hj]; simp)
theorem grown_of_keep {w w' : World} {g : Nat} (h : Keep (Only g) w w') : w.grownBy w' (some g) := ⟨h.os, h.tape, h.output, h.size, fun k hk hn => h.block k hk fun e => hn (by rw [show k = g from e])⟩
theorem boxed_new {w w' : World} {o : Obj} (hk : Keep (Only w.heap.size) (w.alloc o) w') : w.grownBy w' none := ⟨hk.os.trans rfl, hk.tape.trans rfl, hk.output.trans rfl, Nat.le_trans (by simp) hk.size, fun k hk' _ => (hk.block k (by simp; omega) (by simp only [Only]; omega)).trans (Below.heap_alloc _ _ k hk')⟩
attribute [local go_sem ↓] sl_id st_idw ld_idw
set_option maxRecDepth 100000 in
set_option maxHeartbeats 1000000 in
theorem keysI1_in (F : Fence) (n : Nat) (h10 : F.fn 40) (hro : F.round = none) (hn : 1 ≤ n) (l Bm b nn : Nat) (D0 : DataW Value) (J : List Id → World → Prop)
    (hY : ∀ pre x W, J pre W → pre.length < Maps.size D0 → YieldAt F (n - 1) Tryz.prog l #[idV x] W fun e W' => e = .returned (.bool true) ∧ J (pre ++ [x]) W' ∧ KeepsWalks W W')
    (W : World) (hJ : AbidesFrom W.heap.size J) (hm : W.cell? ⟨Bm, 0, none⟩ = some (.map (some b))) (hown : W.ownsMap Tryz.prog 30 heldE b nn D0) (h0 : J [] W) :
    CallsIn F n Tryz.prog 40 #[.func (.yield l) #[] #[], .pointer (some ⟨Bm, 0, none⟩)] W fun e W' => (∃ v, e = .returned v) ∧ ∃ ss : List Id, (ss.Nodup ∧ (∀ s, s ∈ ss ↔ has D0 (keyI s) = true) ∧ ss.length ≤ Maps.size D0) ∧ J ss W' := by
  refine callsIn_of_wp Tryz.func40 rfl h10 ?_ hro
  simp only [Tryz.ntmps40, List.size_toArray, List.length_cons, List.length_nil, Nat.reduceAdd, Nat.reduceSub, Array.replicate_succ, Array.replicate_zero, List.push_toArray, List.append_toArray, List.nil_append, List.cons_append]
  gi_wp2_with (first
    | (gi_at_range; refine wpListIn_range_own _ rfl _ 46 rfl 30 44 keyedI Tryz.underlying46 _ b nn _ rfl hown ?_; intro w0 hrg0 hg0 hs0)
    | gi_in)
  go_frame
  gi_loopw [3] (fun _ wr => ∃ (left : Lit → Bool) (cnt : Nat) (ss : List Id), wr.ranges Tryz.prog 30 heldE b W.heap.size nn D0 left cnt ∧ ss.length + cnt ≤ Maps.size D0 ∧ ComeI D0 left ss ∧ J ss wr)
    (fun _ wr => wr.rangeLeft b W.heap.size)
  case atStart =>
    exact ⟨_, _, [], hrg0, by simp, ComeI.start D0, hJ [] W w0 none h0 hg0 (fun r e => by cases e)⟩
  case round =>
    obtain ⟨left, cnt, ss, hrg, hcs, hC, hJs⟩ := hrel
    gi_wp2_with (first
      | (gi_at_next; refine wpListIn_next_ranges _ rfl _ rfl 30 keyedI heldE idV id (fun key kl hk => by obtain ⟨x, hx, _⟩ := key_id hk; exact ⟨x, hx⟩) (fun v _ _ => ⟨v, rfl⟩) b W.heap.size nn _ _ _ rfl hrg ?_ ?_)
      | gi_in)
    · intro hc0 hl0
      gi_wp2
      go_end0
      exact ⟨⟨_, rfl⟩, ss, ⟨hC.nd, fun s => ⟨hC.has_ s, fun h => hC.all s h (hl0 _)⟩, by omega⟩, hJs⟩
    · intro xl hx c kl yd yp w2 cnt2 hkey hlk hv hat hrg2 hlt hg2 hs2 hen
      generalize (⟨xl, hx⟩ : Id) = x at hkey hen ⊢
      obtain ⟨x', ex, rfl⟩ := key_id hkey
      obtain rfl : x = x' := keyI_inj (Option.some.inj ((keyOf_id x).symm.trans hkey))
      have hJ2 : J ss w2 := hJ ss wr w2 (some W.heap.size) hJs hg2 (fun r e => by cases e; exact ⟨Nat.le_refl _, hrg.iter_walk⟩)
      obtain ⟨w2b, hst, hx2b, hk2b⟩ := storeId9 (x := x) (Blk.new w2 30 #[.int .u8 0, .int .u8 0, .int .u8 0, .int .u8 0, .int .u8 0, .int .u8 0, .int .u8 0, .int .u8 0, .int .u8 0, .int .u8 0, .int .u8 0, .int .u8 0, .int .u8 0, .int .u8 0, .int .u8 0, .int .u8 0, .int .u8 0, .int .u8 0, .int .u8 0, .int .u8 0, .int .u8 0, .int .u8 0, .int .u8 0, .int .u8 0, .int .u8 0, .int .u8 0, .int .u8 0, .int .u8 0, .int .u8 0, .int .u8 0, .int .u8 0, .int .u8 0]) rfl
      have hg2b := boxed_new hk2b
      have hld := loadId9 hx2b
      have hJ2b : J ss w2b := hJ ss w2 w2b none hJ2 hg2b (fun r e => by cases e)
      have hrg2b := hrg2.of_walks (KeepsWalks.of_grownBy hg2b (fun j o e _ => by cases e))
      obtain ⟨fn, tmps, assign, body, hy, hR⟩ := hY ss x w2b hJ2b (by omega)
      clear hk2b hx2b
      clear hs2
      gi_wp2
      refine hR.mono ?_
      rintro e W3 ⟨rfl, hJ3, hk3⟩
      gi_wp2
      have hrg3 := hrg2b.of_walks hk3
      go_roundw
      case rel => exact ⟨_, cnt2, ss ++ [x], hrg3, by simp; omega, hC.step hlk (has_true_of_atKey hat), hJ3⟩
      case measure => rw [hrg3.left_eq, hrg.left_eq]; exact hlt

theorem keysI_gives (F : Fence) (n : Nat) (h10 : F.fn 40) (hro : F.round = none) (hn : 1 ≤ n) (Bm b nn : Nat) (D0 : DataW Value) (w : World) (hBm : Bm < w.heap.size)
    (hm : w.cell? ⟨Bm, 0, none⟩ = some (.map (some b))) (hown : w.ownsMap Tryz.prog 30 heldE b nn D0) :
    SeqGives F n Tryz.prog 40 #[.pointer (some ⟨Bm, 0, none⟩)] idV (fun ss => ss.Nodup ∧ (∀ s, s ∈ ss ↔ has D0 (keyI s) = true) ∧ ss.length ≤ Maps.size D0) (Maps.size D0) w := fun l J W hW hJ hY h0 => by
  have hown' : W.ownsMap Tryz.prog 30 heldE b nn D0 := by
    have hbl := hown.lt
    obtain ⟨es, clock, hb, Ft, hs, hD⟩ := hown
    exact ⟨es, clock, (hW.block b hbl).trans hb, Ft, hs, hD⟩
  exact keysI1_in F n h10 hro hn l Bm b nn D0 J hY W hJ ((hW.cell (p := ⟨Bm, 0, none⟩) hBm).trans hm) hown' h0

/-! ### slices.AppendSeq(nil, seq) -/
def apAssignI : Code := (Code.region 2 #[{ dst := some 5, op := Op.alloc 30, type := 0, pos := "iter.go:51", after := #[], guard := none }, { dst := none, op := Op.store 30 (Operand.tmp 5) (Operand.tmp 7), type := 0, pos := "iter.go:51", after := #[{ on := 0, ground := Ground.data }, { on := 0, ground := Ground.phase }], guard := none }] false)
def apBodyI : Code := (Code.block 1 (Code.region 3 #[{ dst := some 8, op := Op.load 48 (Operand.tmp 2), type := 48, pos := "iter.go:52", after := #[], guard := none }, { dst := some 9, op := Op.load 30 (Operand.tmp 5), type := 30, pos := "iter.go:52", after := #[], guard := none }, { dst := some 10, op := Op.buildSlice 48 1 #[(0, Operand.tmp 9)], type := 48, pos := "iter.go:52", after := #[{ on := 1, ground := Ground.data }], guard := none }, { dst := some 11, op := Op.call { callee := Callee.builtin Builtin.append, args := #[Operand.tmp 8, Operand.tmp 10], argTypes := #[48, 48] }, type := 48, pos := "iter.go:52", after := #[{ on := 0, ground := Ground.data }, { on := 2, ground := Ground.data }], guard := none }, { dst := none, op := Op.store 48 (Operand.tmp 2) (Operand.tmp 11), type := 0, pos := "iter.go:52", after := #[{ on := 3, ground := Ground.data }, { on := 3, ground := Ground.chain }, { on := 0, ground := Ground.phase }, { on := 1, ground := Ground.phase }, { on := 2, ground := Ground.phase }, { on := 3, ground := Ground.phase }], guard := none }] false))
def apRecI (fn : FuncId) (sv : Value) (Bs D : Nat) (st : LoopState) (pend : Option Code) : Loop :=
  { state := st, pending := pend, fn, tmps := #[.slice none 0 0, sv, .pointer (some ⟨Bs, 0, none⟩), undef, .slice none 0 0, undef, sv, undef, undef, undef, undef, undef, undef], params := #[7], assign := apAssignI, body := apBodyI, defers := D }
structure ApIs (w0 : World) (fn : FuncId) (sv : Value) (Bs l D : Nat) (ss : List Id) (W : World) : Prop where
  box : ∃ v, W.heap[Bs]? = some (.cells #[v] 48 (0, 0)) ∧ W.ownsRow w0.heap.size 30 32 v ss.length (ss.flatMap idL) ∧ (v = .slice none 0 0 ↔ ss = [])
  L : W.heap[l]? = some (.loop (apRecI fn sv Bs D .ready none))
  K : W.heap[D]? = some (.deferred (some []))
  below : Below w0.heap.size w0 W
theorem apI_abides (w0 : World) (fn : FuncId) (sv : Value) (Bs l D B : Nat) (hB : w0.heap.size ≤ B) : AbidesFrom B (ApIs w0 fn sv Bs l D) := fun s W W' row h hg hrow => by
  have hrow' : ∀ r, row = some r → ∃ o : Obj, W.heap[r]? = some o ∧ o.isWalk = true := fun r e => (hrow r e).2
  obtain ⟨v, hv, hr, hn⟩ := h.box
  exact ⟨⟨v, (grownBy_keeps hg hrow' hv rfl).trans hv, ownsRow_abides_a hr hg hrow', hn⟩, (grownBy_keeps hg hrow' h.L rfl).trans h.L, (grownBy_keeps hg hrow' h.K rfl).trans h.K,
    h.below.grown hg h.below.size (fun k e => Nat.le_trans hB (hrow k e).1)⟩
set_option maxRecDepth 100000 in
set_option maxHeartbeats 2000000 in
theorem apYieldI (F : Fence) (m : Nat) (w0 : World) (fn : FuncId) (hfn : F.fn fn) (sv : Value) (Bs l D : Nat) (hBl : Bs ≠ l) (hDl : D ≠ l) (hDB : D ≠ Bs) (h0B : w0.heap.size ≤ Bs) (h0l : w0.heap.size ≤ l)
    (N : Nat) (hN : N ≤ maxLen) (hNb : N * 32 ≤ 140737488355328) (ss : List Id) (x : Id) (W : World) (h : ApIs w0 fn sv Bs l D ss W) (hlen : ss.length < N) :
    YieldAt F m Tryz.prog l #[idV x] W fun e W' => e = .returned (.bool true) ∧ ApIs w0 fn sv Bs l D (ss ++ [x]) W' ∧ KeepsWalks W W' := by
  obtain ⟨i0, hi, hz0, hz1, hz2⟩ := info_parts infoId9
  refine ⟨fn, #[.slice none 0 0, sv, .pointer (some ⟨Bs, 0, none⟩), undef, .slice none 0 0, undef, sv, idV x, undef, undef, undef, undef, undef], apAssignI, apBodyI, by simpa [apRecI] using run_yield (P := Tryz.prog) (args := #[idV x]) h.L rfl, roundIn_of_wpIn hfn ?_⟩
  obtain ⟨Wb, hst, hxb, hkb⟩ := storeId9 (x := x) (Blk.new W 30 #[.int .u8 0, .int .u8 0, .int .u8 0, .int .u8 0, .int .u8 0, .int .u8 0, .int .u8 0, .int .u8 0, .int .u8 0, .int .u8 0, .int .u8 0, .int .u8 0, .int .u8 0, .int .u8 0, .int .u8 0, .int .u8 0, .int .u8 0, .int .u8 0, .int .u8 0, .int .u8 0, .int .u8 0, .int .u8 0, .int .u8 0, .int .u8 0, .int .u8 0, .int .u8 0, .int .u8 0, .int .u8 0, .int .u8 0, .int .u8 0, .int .u8 0, .int .u8 0]) rfl
  have hgb := boxed_new hkb
  have h' := apI_abides w0 fn sv Bs l D w0.heap.size (Nat.le_refl _) ss W Wb none h hgb (fun r e => by cases e)
  have hkw : KeepsWalks W Wb := KeepsWalks.of_grownBy hgb (fun j o e _ => by cases e)
  have hlW : l < W.heap.size := (Array.getElem?_eq_some_iff.1 h.L).1
  obtain ⟨v, hv, hrow, _⟩ := h'.box
  have hl : l < Wb.heap.size := (Array.getElem?_eq_some_iff.1 h'.L).1
  have hbr := run_beginRound (P := Tryz.prog) h'.L rfl
  obtain ⟨W2, hW2⟩ : ∃ W2, Wb.putObj l (.loop { apRecI fn sv Bs D .ready none with state := .busy }) = W2 := ⟨_, rfl⟩
  rw [hW2] at hbr
  have hg2 : Wb.grownBy W2 (some l) := by rw [← hW2]; exact grownBy_putObj_a _ _ _
  have hk2 : KeepsWalks W W2 := hkw.trans (by rw [← hW2]; exact KeepsWalks.putObj _ h'.L rfl)
  have hv2 : W2.heap[Bs]? = some (.cells #[v] 48 (0, 0)) := by rw [← hW2]; exact (World.putObj_heap_other hBl).trans hv
  have hK2 : W2.heap[D]? = some (.deferred (some [])) := by rw [← hW2]; exact (World.putObj_heap_other hDl).trans h'.K
  have hL2 : W2.heap[l]? = some (.loop { apRecI fn sv Bs D .ready none with state := .busy }) := by rw [← hW2]; exact World.putObj_heap_same hl
  have hx2 : Blk W2 W.heap.size 30 (idL x).toArray := by rw [← hW2]; exact (World.putObj_heap_other (by omega)).trans hxb
  have hld := loadId9 hx2
  have hrow2 : W2.ownsRow w0.heap.size 30 32 v ss.length (ss.flatMap idL) := hrow.kept hg2 (ownsRow_ne_a hrow h'.L (fun cur e => by cases e))
  have hb2 : Below w0.heap.size w0 W2 := h'.below.grown hg2 h'.below.size (fun k e => by cases e; exact h0l)
  obtain ⟨hc2, hf2⟩ := cell_of_box_a hv2
  have hBlt : Bs < W2.heap.size := (Array.getElem?_eq_some_iff.1 hv2).1
  have hl2 : l < W2.heap.size := (Array.getElem?_eq_some_iff.1 hL2).1
  have hDlt : D < W2.heap.size := (Array.getElem?_eq_some_iff.1 hK2).1
  have ne_of : ∀ {j : Nat} {o : Obj}, W2.heap[j]? = some o → (∀ cur, o ≠ .cells cur 30 (0, 0)) → some j ≠ v.ownBlock := fun hj hno => by
    rcases ownsRow_ne_a hrow2 hj hno with e | e
    · rw [e]; simp
    · exact fun e' => e e'.symm
  have hbs := run_buildId9 x
  clear hW2 hxb hkb hx2
  unfold apAssignI
  gi_wp2_with gi_round_op_a
  unfold apBodyI
  gi_wp2_with (first
    | (gi_at_builtin; refine wpListIn_append_own _ rfl _ _ 48 rfl w0.heap.size 30 i0 (.agg (idC noId)) 32 32 Tryz.underlying48 hi hz0 hz1 hz2 (idC_size noId) (by decide) _ _ _ rfl (hrow2.alloc _) ⟨W2.heap.size, 0, none⟩ 1 1 (idL x) rfl (by rw [idL_len]) (cells_new _ _ _) (fun u hu => by have := idLs_one [x] u (by simpa using hu); exact this) (by omega) (by omega) (by have := hb2.size; simp; omega) ?_; intro v' w3 hown' hg3 hnil3
       have hv3 : w3.heap[Bs]? = some (.cells #[v] 48 (0, 0)) := (hg3.block Bs (by simp; omega) (ne_of hv2 (fun cur e => by cases e))).trans ((Below.heap_alloc _ _ Bs hBlt).trans hv2)
       obtain ⟨hc3, hf3⟩ := cell_of_box_a hv3
       obtain ⟨g', cap', cur', rfl, hbase', hgb', hr1, hr2, hr3, hr4⟩ : ∃ g' cap' cur', v' = .slice (some ⟨g', 0, none⟩) (ss.length + 1) cap' ∧ w0.heap.size ≤ g' ∧ w3.heap[g']? = some (.cells cur' 30 (0, 0)) ∧ ss.length + 1 ≤ cap' ∧ cap' ≤ maxLen ∧ cur'.size = cap' * 32 ∧ cur'.toList.take ((ss.length + 1) * 32) = ss.flatMap idL ++ idL x := by
         rcases hown'.2 with ⟨_, h0⟩ | h'
         · exact absurd h0 (by omega)
         · exact h'
       go_frame)
    | gi_round_op_a)
  have hg3' : (W2.alloc (.cells (idL x).toArray 30)).grownBy w3 v.ownBlock := hg3
  have hL3 : w3.heap[l]? = some (.loop { apRecI fn sv Bs D .ready none with state := .busy }) := (hg3'.block l (by simp; omega) (ne_of hL2 (fun cur e => by cases e))).trans ((Below.heap_alloc _ _ l hl2).trans hL2)
  have hK3 : w3.heap[D]? = some (.deferred (some [])) := (hg3'.block D (by simp; omega) (ne_of hK2 (fun cur e => by cases e))).trans ((Below.heap_alloc _ _ D hDlt).trans hK2)
  obtain ⟨w4, hw4⟩ : ∃ w4, w3.setCell ⟨Bs, 0, none⟩ (.slice (some ⟨g', 0, none⟩) (ss.length + 1) cap') = w4 := ⟨_, rfl⟩
  rw [hw4]
  have hg4 : w3.grownBy w4 (some Bs) := by rw [← hw4]; exact grownBy_setCell0_a _ _ _
  have hv4 : w4.heap[Bs]? = some (.cells #[.slice (some ⟨g', 0, none⟩) (ss.length + 1) cap'] 48 (0, 0)) := by rw [← hw4]; exact heap_setCell_box_a _ hv3
  have hL4 : w4.heap[l]? = some (.loop { apRecI fn sv Bs D .ready none with state := .busy }) := (hg4.block l (Array.getElem?_eq_some_iff.1 hL3).1 (fun e => hBl (by cases e; rfl))).trans hL3
  have hK4 : w4.heap[D]? = some (.deferred (some [])) := (hg4.block D (Array.getElem?_eq_some_iff.1 hK3).1 (fun e => hDB (by cases e; rfl))).trans hK3
  have hrow4 := hown'.kept hg4 (ownsRow_ne_a hown' hv3 (fun cur e => by cases e))
  have hl4 : l < w4.heap.size := (Array.getElem?_eq_some_iff.1 hL4).1
  have hb3 : Below w0.heap.size w0 w3 := (hb2.alloc hb2.size _).grown hg3' (by have := hb2.size; simp; omega) (fun k e => (hrow2.lt k e).1)
  have hb4 : Below w0.heap.size w0 w4 := hb3.grown hg4 hb3.size (fun k e => by cases e; exact h0B)
  have hk4 : KeepsWalks W w4 := ((hk2.trans (KeepsWalks.alloc _ _)).trans (KeepsWalks.of_grownBy hg3' (ownsRow_not_walk_a (hrow2.alloc _)))).trans (by rw [← hw4]; exact KeepsWalks.setCell _ _ _)
  clear hw4
  refine ⟨_, _, run_endRound none hL4, rfl, ⟨⟨_, (World.putObj_heap_other hBl).trans hv4, ?_, by simp⟩, World.putObj_heap_same hl4, (World.putObj_heap_other hDl).trans hK4, hb4.grown (grownBy_putObj_a _ _ _) hb4.size (fun k e => by cases e; exact h0l)⟩, hk4.trans (KeepsWalks.putObj _ hL4 rfl)⟩
  have := hrow4.kept (grownBy_putObj_a w4 l (.loop { { apRecI fn sv Bs D .ready none with state := .busy } with state := if (none : Option Code).isNone then .ready else .done, pending := none })) (ownsRow_ne_a hrow4 hL4 (fun cur e => by cases e))
  simpa using this

set_option maxRecDepth 100000 in
set_option maxHeartbeats 2000000 in
theorem appendSeqI_in (F : Fence) (n : Nat) (h11 : F.fn 63) (hro : F.round = none) (hn : 2 ≤ n) (g : Nat) (lb : Array Value) (hFg : F.fn g) (eg : ∀ args w, (callFunc g args).run Tryz.prog w = .ok (.enter g args) w)
    (S : List Id → Prop) (N : Nat) (hN : N ≤ maxLen) (hNb : N * 32 ≤ 140737488355328) (w : World) (hseq : SeqGives F (n - 1) Tryz.prog g lb idV S N w) :
    CallsIn F n Tryz.prog 63 #[.slice none 0 0, .func (.func g) #[] lb] w fun e w' => ∃ (v : Value) (ss : List Id), e = .returned v ∧ S ss ∧ w'.ownsRow w.heap.size 30 32 v ss.length (ss.flatMap idL) ∧ (v = .slice none 0 0 ↔ ss = []) ∧ Below w.heap.size w w' := by
  have h1 : 1 ≤ n := by omega
  refine callsIn_of_wp_marks Tryz.func63 rfl h11 ?_ hro
  simp only [Tryz.ntmps63, List.size_toArray, List.length_cons, List.length_nil, Nat.reduceAdd, Nat.reduceSub, Array.replicate_succ, Array.replicate_zero, List.push_toArray, List.append_toArray, List.nil_append, List.cons_append]
  gi_wp2
  refine wpIn_rangeFunc ?_
  intro fn hfn
  rw [hro]
  obtain ⟨W0, hW0⟩ : ∃ W0, w.alloc (.cells #[.slice none 0 0] 48) = W0 := ⟨_, rfl⟩
  have hs0 : W0.heap.size = w.heap.size + 1 := by rw [← hW0]; simp
  have hv0 : W0.heap[w.heap.size]? = some (.cells #[.slice none 0 0] 48 (0, 0)) := by rw [← hW0]; exact World.alloc_heap_new w _
  have hb0 : Below w.heap.size w W0 := by rw [← hW0]; exact (Below.refl _ w).alloc (Nat.le_refl _) _
  rw [hW0]
  obtain ⟨W1, hW1⟩ : ∃ W1, (W0.alloc (.deferred (some []))).alloc (.loop (apRecI fn (.func (.func g) #[] lb) w.heap.size W0.heap.size .ready none)) = W1 := ⟨_, rfl⟩
  have hold : ∀ k, k < W0.heap.size → W1.heap[k]? = W0.heap[k]? := fun k hk => by
    rw [← hW1]; exact (Below.heap_alloc _ _ k (by simp; omega)).trans (Below.heap_alloc _ _ k hk)
  have hb1 : Below w.heap.size w W1 := by rw [← hW1]; exact (hb0.alloc hb0.size _).alloc (by have := hb0.size; simp; omega) _
  have hs1 : W1.heap.size = W0.heap.size + 2 := by rw [← hW1]; simp
  have hM : ApIs w fn (.func (.func g) #[] lb) w.heap.size (W0.heap.size + 1) W0.heap.size [] W1 :=
    ⟨⟨_, (hold w.heap.size (by omega)).trans hv0, ⟨rfl, .inl ⟨rfl, rfl⟩⟩, by simp⟩,
     by rw [← hW1]; have := World.alloc_heap_new (W0.alloc (.deferred (some []))) (.loop (apRecI fn (.func (.func g) #[] lb) w.heap.size W0.heap.size .ready none)); rwa [World.size_alloc] at this,
     by rw [← hW1]; exact (Below.heap_alloc _ _ _ (by simp)).trans (World.alloc_heap_new W0 _), hb1⟩
  refine ⟨W0.heap.size + 1, [{ target := .collected W0.heap.size, args := #[] }], W1, { target := .fn (.func g) lb, args := #[.func (.yield (W0.heap.size + 1)) #[] #[]] }, W1, g,
    #[.func (.yield (W0.heap.size + 1)) #[] #[]] ++ lb, W1, ?_, ?_, ?_, ?_, fun _ => h1, ?_⟩
  · rw [← hW1]; exact run_enterLoop_outer _ _ _ _ _
  · simp [resolve, go_sem]
  · intro f' hf'; simp [Target.leads] at hf'; subst hf'; exact hFg
  · simp [invoke, go_sem, eg]
  · refine (hseq (W0.heap.size + 1) (ApIs w fn (.func (.func g) #[] lb) w.heap.size (W0.heap.size + 1) W0.heap.size) W1 hb1 (apI_abides _ _ _ _ _ _ _ hb1.size)
      (fun pre x W hJ hl => apYieldI F (n - 1 - 1) w fn hfn _ w.heap.size (W0.heap.size + 1) W0.heap.size (by omega) (by omega) (by omega) (Nat.le_refl _) (by omega) N hN hNb pre x W hJ hl) hM).mono ?_
    rintro e W2 ⟨⟨v0, rfl⟩, ss, hS, h2⟩
    obtain ⟨v, hv, hrow, hnil⟩ := h2.box
    have hend := run_endLoop (P := Tryz.prog) h2.L (by simp [apRecI])
    obtain ⟨W3, hW3⟩ : ∃ W3, W2.putObj (W0.heap.size + 1) (.loop { apRecI fn (.func (.func g) #[] lb) w.heap.size W0.heap.size .ready none with state := .exhausted }) = W3 := ⟨_, rfl⟩
    rw [hW3] at hend
    have hg3 : W2.grownBy W3 (some (W0.heap.size + 1)) := by rw [← hW3]; exact grownBy_putObj_a _ _ _
    have hv3 : W3.heap[w.heap.size]? = some (.cells #[v] 48 (0, 0)) := by rw [← hW3]; exact (World.putObj_heap_other (by omega)).trans hv
    have hK3 : W3.heap[W0.heap.size]? = some (.deferred (some [])) := by rw [← hW3]; exact (World.putObj_heap_other (by omega)).trans h2.K
    have hrow3 := hrow.kept hg3 (ownsRow_ne_a hrow h2.L (fun cur e => by cases e))
    have hb3 : Below w.heap.size w W3 := h2.below.grown hg3 h2.below.size (fun k e => by cases e; omega)
    obtain ⟨hc3, hf3⟩ := cell_of_box_a hv3
    clear hW3
    refine ⟨none, W3, hend, ?_⟩
    gi_wp2
    rw [← hs0]
    refine ⟨by simp, .inl ⟨_, _, rfl, run_takeDeferred hK3, ?_⟩⟩
    exact ⟨_, results_tmp rfl _ _ _, v, ss, rfl, hS, hrow3.kept (grownBy_putObj_a _ _ _) (ownsRow_ne_a hrow3 hK3 (fun cur e => by cases e)), hnil, hb3.grown (grownBy_putObj_a _ _ _) hb3.size (fun k e => by cases e; omega)⟩
set_option maxHeartbeats 1000000 in
theorem collectI_in (F : Fence) (n : Nat) (h8 : F.fn 38) (h11 : F.fn 63) (hro : F.round = none) (hn : 3 ≤ n) (g : Nat) (lb : Array Value) (hFg : F.fn g) (eg : ∀ args w, (callFunc g args).run Tryz.prog w = .ok (.enter g args) w)
    (S : List Id → Prop) (N : Nat) (hN : N ≤ maxLen) (hNb : N * 32 ≤ 140737488355328) (w : World) (hseq : SeqGives F (n - 1 - 1) Tryz.prog g lb idV S N w) :
    CallsIn F n Tryz.prog 38 #[.func (.func g) #[] lb] w fun e w' => ∃ (v : Value) (ss : List Id), e = .returned v ∧ S ss ∧ w'.ownsRow w.heap.size 30 32 v ss.length (ss.flatMap idL) ∧ (v = .slice none 0 0 ↔ ss = []) ∧ Below w.heap.size w w' := by
  have h1 : 1 ≤ n := by omega
  refine callsIn_of_wp Tryz.func38 rfl h8 ?_ hro
  simp only [Tryz.ntmps38, List.size_toArray, List.length_cons, List.length_nil, Nat.reduceAdd, Nat.reduceSub, Array.replicate_succ, Array.replicate_zero, List.push_toArray, List.append_toArray, List.nil_append, List.cons_append]
  gi_wp2_with (gi_at_call 63; refine (appendSeqI_in F (n - 1) h11 hro (by omega) g lb hFg eg S N hN hNb _ hseq).mono ?_; rintro e w' ⟨v, ss, rfl, hS, hrow, hnil, hb⟩)
  go_ret
  exact ⟨v, ss, rfl, hS, hrow, hnil, hb⟩

/-! ### Sorting Ids -/
theorem bytesOf_nums (l : List UInt8) : Lib.bytesOf (l.map fun b => (b.toNat : Int)) = l := by
  unfold Lib.bytesOf
  rw [List.map_map]
  refine (List.map_congr_left fun b _ => ?_).trans (List.map_id l)
  simp
theorem run_cmpSl {P : Program} {w : World} {a b : Addr} {x y : List UInt8} {c d : Nat} (hx : ∀ j v, (x.map bv)[j]? = some v → w.cell? (a.add j) = some v) (hy : ∀ j v, (y.map bv)[j]? = some v → w.cell? (b.add j) = some v) :
    (Extern.BytealgCompare.compare #[.slice (some a) x.length c, .slice (some b) y.length d]).run P w = .ok (.int .i64 (cmpS x y)) w := by
  have key : ∀ (l : List UInt8) (p : Addr), (∀ j v, (l.map bv)[j]? = some v → w.cell? (p.add j) = some v) → (Extern.Bytes.loadBytes p l.length .empty).run P w = .ok ⟨l.toArray⟩ w := fun l p h => by
    have := Lib.run_loadBytesX (P := P) w (l.map fun b => (b.toNat : Int)) p .empty (fun j u hu => h j _ (by
      rw [List.getElem?_map] at hu ⊢
      cases q : l[j]? with
      | none => rw [q] at hu; cases hu
      | some z => rw [q] at hu; injection hu with hu; rw [← hu]; rfl))
    rw [List.length_map, bytesOf_nums] at this
    rw [this]
    congr 1
    apply ByteArray.ext
    show ByteArray.empty.data ++ l.toArray = l.toArray
    simp
  change Sem.run P (do pure (goInt (Extern.BytealgCompare.cmp (← Extern.Bytes.bytesOf (.slice (some a) x.length c)) (← Extern.Bytes.bytesOf (.slice (some b) y.length d))))) w = _
  simp only [Extern.Bytes.bytesOf, Sem.run_bind, Sem.run_pure, Result.andThen, key x a hx, key y b hy]
  rw [Lib.cmp_eq]
  show Result.ok (Value.int .i64 (Lib.compareBytes x y)) w = _
  rw [compare_cmpS]
set_option maxHeartbeats 1000000 in
set_option maxRecDepth 100000 in
theorem bcompare_any (a b : Addr) (x y : List UInt8) (c d : Nat) (w : World) (hx : ∀ j v, (x.map bv)[j]? = some v → w.cell? (a.add j) = some v) (hy : ∀ j v, (y.map bv)[j]? = some v → w.cell? (b.add j) = some v) :
    Calls Tryz.prog 19 #[.slice (some a) x.length c, .slice (some b) y.length d] w fun e w' => e = .returned (.int .i64 (cmpS x y)) ∧ w = w' := by
  have HC := Lib.hid (run_cmpSl (P := Tryz.prog) (c := c) (d := d) hx hy)
  clear hx hy
  go_enter Tryz.func19, Tryz.ntmps19
  go_wp2
  rw [run_callFunc_extern Tryz.func41 (by kernel_rfl) (by kernel_rfl) (by kernel_rfl) (e := Extern.BytealgCompare.compare) (by kernel_rfl), HC.out]
  simp only [Result.andThen]
  rw [Oper.upon_value]
  go_wp2
  go_ret
  exact ⟨rfl, rfl⟩
set_option maxHeartbeats 1000000 in
set_option maxRecDepth 100000 in
theorem objs1_any (W : World) (x y : Id) : Calls Tryz.prog 18 #[.agg (idL x).toArray, .agg (idL y).toArray] W fun e w' => e = .returned (.int .i64 (cmpS x.1 y.1)) ∧ ∃ q os', w' = grow (W.drewN q) os' := by
  have HG := Lib.hid (show ∃ q os', ((W.alloc (.cells (idL x).toArray 30)).alloc (.cells (idL y).toArray 30)).drew = grow (W.drewN q) os' from ⟨1, #[.cells (idL x).toArray 30, .cells (idL y).toArray 30], by show ((W.drewN 1).alloc _).alloc _ = _; rw [alloc_eq_grow, alloc_eq_grow, grow_grow]; rfl⟩)
  have hx := (Blk.new W 30 (idL x).toArray).alloc (.cells (idL y).toArray 30)
  have hy := Blk.new (W.alloc (.cells (idL x).toArray 30)) 30 (idL y).toArray
  rw [show (W.alloc (.cells (idL x).toArray 30)).heap.size = W.heap.size + 1 from by simp] at hy
  have hxd : ∀ k, (((W.alloc (.cells (idL x).toArray 30)).alloc (.cells (idL y).toArray 30)).drew).cell? ⟨W.heap.size, k, none⟩ = (idL x).toArray[k]? := fun k => hx.cell k
  have hyd : ∀ k, (((W.alloc (.cells (idL x).toArray 30)).alloc (.cells (idL y).toArray 30)).drew).cell? ⟨W.heap.size + 1, k, none⟩ = (idL y).toArray[k]? := fun k => hy.cell k
  have HC := Lib.hid (bcompare_any ⟨W.heap.size, 0, none⟩ ⟨W.heap.size + 1, 0, none⟩ x.1 y.1 32 32 ((W.alloc (.cells (idL x).toArray 30)).alloc (.cells (idL y).toArray 30)).drew (fun j v hj => by rw [add_at, hxd, Nat.zero_add, ← hj]; simp [idL]) (fun j v hj => by rw [add_at, hyd, Nat.zero_add, ← hj]; simp [idL]))
  rw [x.2, y.2] at HC
  clear hx hy hxd hyd
  go_enter Tryz.func18, Tryz.ntmps18
  go_wp2_with (first
    | (refine wpList_boxed rfl rfl (cs := (idL x).toArray) rfl ?_)
    | (refine wpList_boxed rfl rfl (cs := (idL y).toArray) rfl ?_; generalize (W.alloc (.cells (idL x).toArray 30)).alloc (.cells (idL y).toArray 30) = w1 at *))
  go_region_law (go_simp; go_at_call 19; (with_reducible refine HC.out.mono ?_); rintro _ w2 ⟨rfl, hw2⟩; have HW2 := Lib.hid hw2; clear hw2)
  all_goals
    go_wp2_with fail
    go_ret
    exact ⟨rfl, by rw [← HW2.out]; exact HG.out⟩
theorem ltOf_id : ltOf (fun x y : Id => cmpS x.1 y.1) = fun a b => decide (a.1 < b.1) := by
  funext a b
  exact cmpS_lt _ _
theorem sortId_any {base : Nat} {A : Option Addr} {n c : Nat} (d : List Id) (w : World) (hn : d.length = n) (hn2 : n ≤ 1000000000) (hown : Own w base 30 32 A n c (d.flatMap idL)) :
    Calls Tryz.prog 39 #[.slice A n c, .func (.func 18) #[] #[]] w fun e w' => e = .returned (.tuple #[]) ∧ ∃ d' : List Id, d'.Perm d ∧ Own w' base 30 32 A n c (d'.flatMap idL) ∧ Kept base [30] [] w w' := by
  haveI : Inhabited Id := ⟨noId⟩
  have := sort_own Tryz.sortFId (k := 32) (fun w => by kernel_rfl) (fun w => by kernel_rfl) idL idL_len idL_one (fun x y : Id => cmpS x.1 y.1) (by rw [ltOf_id]; exact (pth_ord (fun x : Id => x.1)).swo) 18 (enters_of Tryz.func18 (by kernel_rfl) rfl) objs1_any d w hn (by omega) hown
  refine this.mono ?_
  rintro e w' ⟨h1, d', hp, _, ho, hk⟩
  exact ⟨h1, d', hp, ho, hk⟩
set_option maxHeartbeats 1000000 in
/-- slices.SortedFunc of the keys of the map of objects. -/
theorem sortedI_any {w : World} {b n : Nat} {f : Mi} (h : VI w b n f) (hn : n ≤ 100000000) :
    Calls Tryz.prog 16 #[.func (.func 40) #[] #[.pointer (some ⟨w.heap.size, 0, none⟩)], .func (.func 18) #[] #[]] (w.alloc (.cells #[.map (some b)] 46)) fun e w' => ∃ (A : Option Addr) (c : Nat) (ks : List Id), e = .returned (.slice A ks.length c) ∧ (ks.Nodup ∧ (∀ s, s ∈ ks ↔ (f s).isSome = true) ∧ ks.length ≤ n) ∧ Own w' w.heap.size 30 32 A ks.length c (ks.flatMap idL) ∧ Below w.heap.size w w' := by
  obtain ⟨D, hown, hsz, hd⟩ := h
  have hbl := hown.lt
  have hmax : Maps.size D ≤ maxLen := by rw [hsz]; unfold maxLen; omega
  have hbytes : Maps.size D * 32 ≤ 140737488355328 := by rw [hsz]; omega
  have hseq : SeqGives Fence.wide 3 Tryz.prog 40 #[.pointer (some ⟨w.heap.size, 0, none⟩)] idV (fun ss => ss.Nodup ∧ (∀ s, s ∈ ss ↔ has D (keyI s) = true) ∧ ss.length ≤ Maps.size D) (Maps.size D) (w.alloc (.cells #[.map (some b)] 46)) :=
    keysI_gives Fence.wide _ trivial rfl (by omega) w.heap.size b n D _ (by simp) (by simp) (by
      obtain ⟨es, clock, hb, Ft, hs, hD⟩ := hown
      exact ⟨es, clock, (Below.heap_alloc _ _ b hbl).trans hb, Ft, hs, hD⟩)
  have HC := Lib.hid (callsIn_wide.1 (collectI_in Fence.wide 5 trivial trivial rfl (by omega) 40 #[.pointer (some ⟨w.heap.size, 0, none⟩)] trivial (enters_of Tryz.func40 (by kernel_rfl) rfl) _ _ hmax hbytes _ hseq))
  have hbw : Below w.heap.size w (w.alloc (.cells #[.map (some b)] 46)) := (Below.refl _ w).alloc (Nat.le_refl _) _
  have hsw : (w.alloc (.cells #[.map (some b)] 46)).heap.size = w.heap.size + 1 := by simp
  generalize w.alloc (.cells #[.map (some b)] 46) = W at *
  have HB := Lib.hid (And.intro hbw hsw)
  have HK := Lib.hid (fun (ss : List Id) (h : ss.Nodup ∧ (∀ s, s ∈ ss ↔ has D (keyI s) = true) ∧ ss.length ≤ Maps.size D) => show ss.Nodup ∧ (∀ s, s ∈ ss ↔ (f s).isSome = true) ∧ ss.length ≤ n from ⟨h.1, fun s => by rw [h.2.1, hd.has], by rw [← hsz]; exact h.2.2⟩)
  clear hseq hbw hsw hown hd hmax hbytes hbl hsz
  go_enter Tryz.func16, Tryz.ntmps16
  go_upto_region 2 with (go_at_call 38; refine HC.out.mono ?_)
  rintro _ w1 ⟨v, ss, rfl, hS, hrow, _, hb1⟩
  obtain ⟨A, c, rfl⟩ := slice_of_own hrow
  obtain ⟨k1, k2, k3⟩ := HK.out ss hS
  have HS := Lib.hid (sortId_any ss w1 rfl (by omega) (Own.mono hrow (show w.heap.size ≤ W.heap.size from HB.out.1.size)))
  have HB1 := Lib.hid hb1
  have HK5 := Lib.hid (And.intro k1 (And.intro k2 k3))
  clear hrow hb1 k1 k2 k3 hS HK HC
  go_wp2_with (go_at_call 39; refine HS.out.mono ?_)
  rintro _ w2 ⟨rfl, d', hp, ho, hk⟩
  have HO := Lib.hid ho
  have HK2 := Lib.hid hk
  have HP := Lib.hid hp
  clear ho hk hp
  go_wp2
  go_ret
  have h1 : Below w.heap.size w w1 := HB.out.1.trans (HB1.out.mono HB.out.1.size)
  have hl := HP.out.length_eq
  refine ⟨A, c, d', by rw [hl]; rfl, ⟨HP.out.nodup_iff.2 HK5.out.1, fun s => by rw [HP.out.mem_iff]; exact HK5.out.2.1 s, by rw [hl]; exact HK5.out.2.2⟩, by rw [hl]; exact HO.out, ?_⟩
  exact h1.trans (HK2.out.below (Nat.le_refl _) h1.size (by simp))
end Go.Proofs.YtbaapjlmpmpocaaGreatDoor
