/-
  TreeMany: its row, its card (first form).
-/
import Derived.Test.YtbaapjlmpmpocaaGreatDoorDr
import Derived.Test.YtbaapjlmpmpocaaGreatDoorRows
import Derived.ProofKit
import Derived.OpenShut
import Derived.Deep.Slices
import Derived.Test.YtbaapjlmpmpocaaGreatDoorTie
import Derived.Test.YtbaapjlmpmpocaaGreatDoorCards
import Derived.LaidMore
import Derived.LaidSub
import Derived.Lay
import Derived.Deep.DeepHandedRow
import Derived.SevenTiedAt
namespace Go.Proofs.YtbaapjlmpmpocaaGreatDoor
open Go.ChangeShapes Go.WideShapes Go.ChangeAt Go.RowKit Go.Deep

/-! ### Bulk -/
section
variable {H : Type}
theorem bulk_pos (d : DataW H) : 1 ≤ Rows.uptoBulk d := by
  cases d with
  | lit l => cases l <;> simp [Rows.uptoBulk]
  | nil => simp [Rows.uptoBulk]
  | ptr d => simp [Rows.uptoBulk]
  | slice elems spare => simp [Rows.uptoBulk]
  | agg parts => simp [Rows.uptoBulk]
  | iface t d => simp [Rows.uptoBulk]
  | map entries => simp [Rows.uptoBulk]
  | held h => simp [Rows.uptoBulk]
theorem bulk_part {d : DataW H} : ∀ {l : List (DataW H)}, d ∈ l → Rows.uptoBulk d ≤ Rows.uptoBulkAll l
  | [], h => by cases h
  | x :: r, h => by
    simp only [Rows.uptoBulkAll]
    rcases List.mem_cons.1 h with e | e
    · subst e; omega
    · have := bulk_part e; omega
theorem bulk_len : ∀ l : List (DataW H), l.length ≤ Rows.uptoBulkAll l
  | [] => by simp [Rows.uptoBulkAll]
  | x :: r => by have := bulk_pos x; have := bulk_len r; simp only [Rows.uptoBulkAll, List.length_cons]; omega
theorem bulk_bound {l : List (DataW H)} (hk : Rows.uptoSmall H l = true) : Rows.uptoBulkAll l ≤ 1048576 := of_decide_eq_true hk
theorem bulk_agg {xs : List (DataW H × List MemPlace)} {N i : Nat} {y : DataW H × List MemPlace} (h : Rows.uptoBulk (.agg (xs.map (·.1))) ≤ N) (hi : xs[i]? = some y) : Rows.uptoBulk y.1 ≤ N := by
  have : Rows.uptoBulk y.1 ≤ Rows.uptoBulkAll (xs.map (·.1)) := bulk_part (List.mem_map.2 ⟨y, List.mem_of_getElem? hi, rfl⟩)
  simp only [Rows.uptoBulk] at h
  omega
end

/-! ### A slice, its elements' bounds at hand -/
theorem open_listB {H : Type} {enc : TypeId × Value → H} {w : World} {base : Nat} {spare : Nat → Bool} {held : Bool} {α : Type} {f : α → List Value} {C N : Nat} {V : α → Prop} {t e : TypeId} {A : Option Addr} {len cap : Nat} {fuel : Nat} {x : DataW H × List MemPlace} (ht : Tryz.prog.underlying t = some (.slice e)) (hC : Tryz.prog.cellsOf e = C) (hpos : 0 < C) (hf : ∀ a, (f a).length = C)
    (hopen : ∀ (n : Nat) (cs : List Value) (y : DataW H × List MemPlace), DataW.trod enc Tryz.prog w base spare held n e cs = some y → Rows.uptoBulk y.1 ≤ N → ∃ a, cs = f a ∧ V a)
    (h : DataW.trod enc Tryz.prog w base spare held fuel t [.slice A len cap] = some x) (hb : Rows.uptoBulk x.1 ≤ N) : ∃ l : List α, l.length = len ∧ Reads w w.heap.size C A len (l.flatMap f) ∧ len ≤ cap ∧ cap ≤ maxLen ∧ len ≤ N ∧ ∀ a ∈ l, V a := by
  rcases open_slice ht h with ⟨hcs, hx⟩ | ⟨a, len', cap', m, n, D, Pl, hcs, _, hl, hm, hmm, hxx, hi⟩
  · simp at hcs
    obtain ⟨rfl, rfl, rfl⟩ := hcs
    exact ⟨[], rfl, Reads.none_, Nat.le_refl _, Nat.zero_le _, Nat.zero_le _, by simp⟩
  · simp at hcs
    obtain ⟨rfl, rfl, rfl⟩ := hcs
    rw [hC] at hi
    have hlm : len ≤ m := by rw [hmm]; split <;> omega
    have hbA : Rows.uptoBulkAll ((List.range len).map D) ≤ N := by
      rw [hxx] at hb
      simp only [Rows.uptoBulk] at hb
      omega
    have hlN : len ≤ N := by have := bulk_len ((List.range len).map D); simp at this; omega
    have hbD : ∀ i, i < len → Rows.uptoBulk (D i) ≤ N := fun i hi => Nat.le_trans (bulk_part (List.mem_map.2 ⟨i, List.mem_range.2 hi, rfl⟩)) hbA
    have key : ∀ k, k ≤ len → ∃ l : List α, l.length = k ∧ (∀ i b, l[i]? = some b → V b ∧ ∀ r u, (f b)[r]? = some u → w.cell? (a.add (i * C + r)) = some u) := by
      intro k
      induction k with
      | zero => exact fun _ => ⟨[], rfl, by simp⟩
      | succ k ih =>
        intro hk
        obtain ⟨l, hlen, hall⟩ := ih (by omega)
        obtain ⟨cs', hcells, htr⟩ := hi k (by omega)
        obtain ⟨b, rfl, hV⟩ := hopen n cs' _ htr (hbD k (by omega))
        obtain ⟨_, _, hat⟩ := World.cells?_some hcells
        refine ⟨l ++ [b], by simp [hlen], fun i b' hb' => ?_⟩
        rcases Nat.lt_or_ge i l.length with hlt | hge
        · rw [List.getElem?_append_left hlt] at hb'
          exact hall i b' hb'
        · rw [List.getElem?_append_right hge] at hb'
          have h0 : i - l.length = 0 := by
            rcases Nat.eq_zero_or_pos (i - l.length) with q | q
            · exact q
            · rw [List.getElem?_eq_none (by simp; omega)] at hb'; cases hb'
          rw [h0] at hb'
          simp at hb'
          subst hb'
          refine ⟨hV, fun r u hr => ?_⟩
          have hik : i = k := by omega
          subst hik
          have hrC : r < C := by
            rcases Nat.lt_or_ge r C with q | q
            · exact q
            · rw [List.getElem?_eq_none (by rw [hf]; exact q)] at hr; cases hr
          rw [← add_of_add, hat r hrC]
          exact hr
    obtain ⟨l, hlen, hall⟩ := key len (Nat.le_refl _)
    refine ⟨l, hlen, ⟨by rw [flatn_len hf, hlen], fun hn => ?_⟩, hl, hm, hlN, fun b hb => ?_⟩
    · have hcell : ∀ j u, (l.flatMap f)[j]? = some u → w.cell? (a.add j) = some u := by
        intro j u hj
        have hjl : j < l.length * C := by rw [← flatn_len hf]; exact (List.getElem?_eq_some_iff.1 hj).1
        have hd : j / C < l.length := Nat.div_lt_of_lt_mul (by rw [Nat.mul_comm]; exact hjl)
        have hfa := flatn_at hf l (j / C) (j % C) l[j / C] (List.getElem?_eq_getElem hd) ((f l[j / C])[j % C]'(by rw [hf]; exact Nat.mod_lt _ hpos)) (List.getElem?_eq_getElem _)
        rw [Nat.mul_comm, Nat.div_add_mod] at hfa
        have hu := hj.symm.trans hfa
        have := (hall _ _ (List.getElem?_eq_getElem hd)).2 (j % C) u (by rw [hu]; exact List.getElem?_eq_getElem _)
        rwa [Nat.mul_comm, Nat.div_add_mod] at this
      refine ⟨a, rfl, ?_, hcell⟩
      have h0 : 0 < (l.flatMap f).length := by rw [flatn_len hf, hlen]; exact Nat.mul_pos hn hpos
      have := World.block_lt_of_cell? w _ (hcell 0 _ (List.getElem?_eq_getElem h0))
      rwa [block_of_add] at this
    · obtain ⟨i, hi', rfl⟩ := List.mem_iff_getElem.1 hb
      exact (hall i _ (List.getElem?_eq_getElem hi')).1


theorem slice_is {H : Type} {enc : TypeId × Value → H} {w : World} {base : Nat} {spare : Nat → Bool} {held : Bool} {t e : TypeId} {fuel : Nat} {v : Value} {x : DataW H × List MemPlace} (ht : Tryz.prog.underlying t = some (.slice e)) (h : DataW.trod enc Tryz.prog w base spare held fuel t [v] = some x) : ∃ A len cap, v = .slice A len cap := by
  rcases open_slice ht h with ⟨hcs, _⟩ | ⟨a, len, cap, m, n, D, Pl, hcs, _⟩
  · simp at hcs; exact ⟨_, _, _, hcs⟩
  · simp at hcs; exact ⟨_, _, _, hcs⟩

section
variable {H : Type} {enc : TypeId × Value → H} {w : World} {base : Nat} {spare : Nat → Bool} {held : Bool}
theorem cells_str : Tryz.prog.cellsOf 9 = 1 := by kernel_rfl
theorem open_str {N n : Nat} {cs : List Value} {y : DataW H × List MemPlace} (h : DataW.trod enc Tryz.prog w base spare held n 9 cs = some y) (hb : Rows.uptoBulk y.1 ≤ N) : ∃ s : List UInt8, cs = [strC s] ∧ s.length ≤ N := by
  obtain ⟨a, f0, x0, _⟩ := DataW.trod_string Tryz.underlying9 h
  rw [x0] at hb
  refine ⟨a.data.toList, by rw [f0]; rfl, ?_⟩
  simp only [Rows.uptoBulk] at hb
  omega
theorem flat_strL (l : List (List UInt8)) : l.flatMap (fun s => [strC s]) = strL l := by
  unfold strL
  induction l with
  | nil => rfl
  | cons x l ih =>
    rw [List.flatMap_cons, ih]
    rfl
theorem one_at {cs : List Value} {i n : Nat} (hl : cs.length = n) (hi : i < n) : ∃ v, (cs.drop i).take 1 = [v] ∧ cs[i]? = some v := by
  have hlt : i < cs.length := by omega
  refine ⟨cs[i], ?_, List.getElem?_eq_getElem hlt⟩
  rw [List.drop_eq_getElem_cons hlt]
  rfl
theorem cut_at {cs : List Value} {i k : Nat} {l : List Value} (h : (cs.drop i).take k = l) : cs.drop i = l ++ cs.drop (i + k) := by
  rw [← h, ← List.drop_drop, List.take_append_drop]
theorem cells_byte : Tryz.prog.cellsOf 5 = 1 := by kernel_rfl
theorem cells_bytes : Tryz.prog.cellsOf 25 = 1 := by kernel_rfl
theorem cells_int : Tryz.prog.cellsOf 3 = 1 := by kernel_rfl
theorem cells_file : Tryz.prog.cellsOf 27 = 3 := by kernel_rfl
theorem flat_byte (l : List UInt8) : l.flatMap (fun a => [byteV a]) = l.map byteV := by
  induction l with
  | nil => rfl
  | cons a l ih => rw [List.flatMap_cons, ih]; rfl
theorem open_byte {n : Nat} {cs : List Value} {y : DataW H × List MemPlace} (h : DataW.trod enc Tryz.prog w base spare held n 5 cs = some y) : ∃ x : UInt8, cs = [byteV x] := by
  obtain ⟨a, e, a1, a2⟩ := DataW.trod_int Tryz.underlying5 h
  have hb : 0 ≤ a ∧ a ≤ 255 := by simpa [Lit.wf, IntKind.min, IntKind.max, IntKind.signed, IntKind.bits] using a2
  obtain ⟨k, rfl⟩ := Int.eq_ofNat_of_zero_le hb.1
  refine ⟨UInt8.ofNat k, ?_⟩
  unfold byteV
  rw [e, UInt8.toNat_ofNat', Nat.mod_eq_of_lt (by omega)]
set_option maxRecDepth 100000 in
theorem open_file {N n : Nat} {cs : List Value} {y : DataW H × List MemPlace} (h : DataW.trod enc Tryz.prog w base spare held n 27 cs = some y) (hb : Rows.uptoBulk y.1 ≤ N) : ∃ x : FileD × Value, cs = fileV x.1 x.2 ∧ DataR w w.heap.size x.1 x.2 ∧ x.1.p.length ≤ N ∧ x.1.d.length ≤ N := by
  obtain ⟨xs, m, _, hy, hlen, hxl, hx⟩ := DataW.trod_struct Tryz.underlying27 h
  rw [hy] at hb
  rw [cells_file] at hlen
  have h0 := hx 0 _ rfl
  have h1 := hx 1 _ rfl
  have h2 := hx 2 _ rfl
  have hxl' : xs.length = 3 := hxl
  have g0 := bulk_agg (i := 0) hb (List.getElem?_eq_getElem (by omega))
  have g2 := bulk_agg (i := 2) hb (List.getElem?_eq_getElem (by omega))
  rw [List.getElem?_eq_getElem (by omega)] at h0 h1 h2
  have h0 : DataW.trod enc Tryz.prog w base spare held m 9 ((cs.drop 0).take (Tryz.prog.cellsOf 9)) = _ := h0
  have h1 : DataW.trod enc Tryz.prog w base spare held m 3 ((cs.drop 1).take (Tryz.prog.cellsOf 3)) = _ := h1
  have h2 : DataW.trod enc Tryz.prog w base spare held m 25 ((cs.drop 2).take (Tryz.prog.cellsOf 25)) = _ := h2
  rw [cells_str] at h0
  rw [cells_int] at h1
  rw [cells_bytes] at h2
  obtain ⟨v0, e0, _⟩ := one_at (i := 0) hlen (by omega)
  obtain ⟨v1, e1, _⟩ := one_at (i := 1) hlen (by omega)
  obtain ⟨v2, e2, _⟩ := one_at (i := 2) hlen (by omega)
  rw [e0] at h0
  rw [e1] at h1
  rw [e2] at h2
  obtain ⟨p, f0, np⟩ := open_str h0 g0
  obtain ⟨k, f1, _, _⟩ := DataW.trod_int Tryz.underlying3 h1
  obtain ⟨DA, dl, dc, rfl⟩ := slice_is Tryz.underlying25 h2
  obtain ⟨d, rfl, hr, hc, hm, hN, _⟩ := open_listB (N := N) (f := fun a : UInt8 => [byteV a]) (V := fun _ => True) Tryz.underlying25 cells_byte (by decide) (fun _ => rfl) (fun _ _ _ h _ => by obtain ⟨x, hx⟩ := open_byte h; exact ⟨x, hx, trivial⟩) h2 g2
  rw [flat_byte] at hr
  simp only [List.cons.injEq, and_true] at f0 f1
  subst f0 f1
  refine ⟨(⟨p, k, d⟩, .slice DA d.length dc), ?_, ⟨DA, dc, rfl, hc, hm, hr⟩, np, hN⟩
  have d0 := cut_at e0
  have d1 := cut_at e1
  have d2 := cut_at e2
  rw [List.drop_of_length_le (show cs.length ≤ 2 + 1 by omega), List.append_nil] at d2
  have : cs = cs.drop 0 := rfl
  rw [this, d0, d1, d2]
  rfl
theorem opened_files {N : Nat} {A : Option Addr} {len cap : Nat} {d : DataW H} {p : List MemPlace} (h : DataW.Trod enc Tryz.prog w base spare held 24 (.slice A len cap) d p) (hb : Rows.uptoBulk d ≤ N) :
    ∃ l : List FileD, l.length = len ∧ FI w w.heap.size A l ∧ l.length ≤ cap ∧ cap ≤ maxLen ∧ l.length ≤ N ∧ ∀ x ∈ l, x.p.length ≤ N ∧ x.d.length ≤ N := by
  obtain ⟨fuel, hf⟩ := h
  obtain ⟨l, h1, h2, h3, h4, h5, h6⟩ := open_listB (N := N) (f := fun x : FileD × Value => fileV x.1 x.2) (V := fun x => DataR w w.heap.size x.1 x.2 ∧ x.1.p.length ≤ N ∧ x.1.d.length ≤ N) Tryz.underlying24 cells_file (by decide) (fun _ => rfl) (fun _ _ _ h hb => open_file h hb) (by simpa [Value.cells] using hf) hb
  subst h1
  have hz : (l.map (·.1)).zip (l.map (·.2)) = l := by
    clear h2 h3 h4 h5 h6 hf
    induction l with
    | nil => rfl
    | cons x l ih => simp [ih]
  refine ⟨l.map (·.1), by simp, ⟨l.map (·.2), by simp, ?_, fun k x y e1 e2 => ?_⟩, by simpa using h3, h4, by simpa using h5, fun x hx => ?_⟩
  · unfold filesL
    rw [hz, List.length_map]
    exact h2
  · rw [List.getElem?_map, Option.map_eq_some_iff] at e1 e2
    obtain ⟨u, e3, rfl⟩ := e1
    obtain ⟨v, e4, e5⟩ := e2
    rw [e3] at e4
    injection e4 with e4
    subst e4
    have := (h6 u (List.mem_of_getElem? e3)).1
    rw [e5] at this
    exact this
  · obtain ⟨u, hu, rfl⟩ := List.mem_map.1 hx
    exact (h6 u hu).2
end
def laidM : List (String × DataW Unit) := [("unicode/utf8.acceptRanges", Rows.laid_unicode_utf8_acceptRanges), ("unicode/utf8.first", Rows.laid_unicode_utf8_first)]
theorem own : ownKnob Tryz.prog.godebug = none := by kernel_rfl
theorem laidOut : laidOutB Tryz.prog = true := by kernel_rfl
theorem varM_of {W : World} (hS : W.ShapedOpen Tryz.prog) : VarM W :=
  cell_of_shapedOpen_int (t := 3) (zero := #[.int .i64 0]) hS (g := 0) (of_decide_eq_true (by kernel_rfl)) (by kernel_rfl) rfl (by kernel_rfl) (by kernel_rfl) Tryz.underlying3
theorem laid_metM (os : Os) (args : Array Value) : laidMet Tryz.prog laidM ((World.laidAll Tryz.prog os laidM).forCall (fun _ _ => 0) ⟨#[], args, []⟩).memory :=
  laidMet_laidAll _ (by kernel_rfl) (by kernel_rfl)
theorem laid_varsM (os : Os) (args : Array Value) : ((World.laidAll Tryz.prog os laidM).forCall (fun _ _ => 0) ⟨#[], args, []⟩).variablesB Tryz.prog = true := by kernel_rfl
theorem laid_restM (os : Os) (args : Array Value) : (((World.laidAll Tryz.prog os laidM).forCall (fun _ _ => 0) ⟨#[], args, []⟩).heap.toList.drop Tryz.prog.globals.size).take ((begin Tryz.prog (fun _ _ => 0) default).world.heap.size - Tryz.prog.globals.size) =
      (begin Tryz.prog (fun _ _ => 0) default).world.heap.toList.drop Tryz.prog.globals.size := by kernel_rfl
set_option maxRecDepth 100000 in
theorem treeMany_reads (os : Os) {H : Type} (enc : TypeId × Value → H) : DataW.whole enc Tryz.prog ((World.laidAll Tryz.prog os laidM).forCall (fun _ _ => 0) ⟨#[], #[.int .i64 0, .bool false, .int .i64 0], []⟩).memory Tryz.f3.params.toList Rows.treeManySpec.vars false (#[.int .i64 0, .bool false, .int .i64 0] : Array Value).toList 8 = some ([.lit (.int .i64 0), .lit (.bool false), .lit (.int .i64 0)], [], []) := by kernel_rfl
set_option maxRecDepth 100000 in
theorem treeMany_lifted (os : Os) (started : os.Started) (H : Type) (enc : TypeId × Value → H) (F : Stop.Interp) :
    ReturnsInHanded {} Tryz.checked os 3 .any ((OpenSpec.ofChange Rows.treeManySpec).preRow enc Tryz.prog Tryz.f3 Rows.treeManyRow.domain false Rows.treeManyRow.laid) (((OpenSpec.ofChange Rows.treeManySpec).at F).post enc Tryz.prog Tryz.f3 false true false false) := by
  refine returnsInHanded_of_row (C := Tryz.checked) (s := OpenSpec.ofChange Rows.treeManySpec) own started (by kernel_rfl) Tryz.func3
    (witness_row_at (enc := enc) (C := Tryz.checked) false (World.laidAll Tryz.prog os laidM) #[.int .i64 0, .bool false, .int .i64 0] (World.laidAll_os _ _ _) (laid_varsM os _) (laid_restM os _) (by kernel_rfl)
      (OpenSpec.preRow_of_cond 8 (treeMany_reads os enc) (by kernel_rfl) (fun k hk => by cases hk) (by kernel_rfl) (laid_metM os _))) ?_
  intro W base args ds gs before hval0 hW hx1 hcond hx3 hL hx4 hx5
  have hval : ∀ (j : Nat) t v, Tryz.f3.params[j]? = some t → args[j]? = some v → Value.okWide Tryz.prog W .any base t v := hval0
  have hW' := hW
  obtain ⟨p, q, hA0, hV, rfl, hfz, hnd⟩ := hW
  have hA : DataW.TrodAll enc Tryz.prog W 0 (fun _ => true) true Tryz.f3.params.toList args.toList ds p := hA0
  rw [Tryz.params3] at hA hval
  obtain ⟨v0, vs0, d0, ds0, p0, q0, hargs, rfl, rfl, h0, r0⟩ := trodAll_cons hA
  obtain ⟨v1, vs1, d1, ds1, p1, q1, rfl, rfl, rfl, h1, r1⟩ := trodAll_cons r0
  obtain ⟨v2, vs2, d2, ds2, p2, q2, rfl, rfl, rfl, h2, r2⟩ := trodAll_cons r1
  obtain ⟨rfl, rfl, rfl⟩ := trodAll_nil r2
  obtain rfl : args = #[v0, v1, v2] := by cases args; simp_all
  obtain ⟨rfl, rfl⟩ := trodVars_none hV
  have k0 := h0
  have lt0 : ∀ x ∈ p0, x.block < W.heap.size := by obtain ⟨m, hm⟩ := k0; exact DataW.trod_lt m _ _ _ hm
  have k1 := h1
  have lt1 : ∀ x ∈ p1, x.block < W.heap.size := by obtain ⟨m, hm⟩ := k1; exact DataW.trod_lt m _ _ _ hm
  have k2 := h2
  have lt2 : ∀ x ∈ p2, x.block < W.heap.size := by obtain ⟨m, hm⟩ := k2; exact DataW.trod_lt m _ _ _ hm
  obtain ⟨f0, rfl, _, _, w0⟩ := open_int Tryz.underlying3 (hval 0 3 v0 rfl rfl) h0
  obtain ⟨f1, rfl, _, _⟩ := open_bool Tryz.underlying4 (hval 1 4 v1 rfl rfl) h1
  obtain ⟨f2, rfl, _, _, w2⟩ := open_int Tryz.underlying3 (hval 2 3 v2 rfl rfl) h2
  clear hA0 hval0
  refine (many_law f0 f2 f1 W (varM_of hx4)).mono fun e W' ⟨he, bel⟩ => ?_
  subst he
  exact ⟨_, rfl, _, _, _, [], _, [], hW', trodAll_mk1 (shut_bool Tryz.underlying4 _), (trodAll_cons_mk (Below.trod laidOut (by kernel_rfl) (of_decide_eq_true (by kernel_rfl)) k0 bel lt0) (trodAll_cons_mk (Below.trod laidOut (by kernel_rfl) (of_decide_eq_true (by kernel_rfl)) k1 bel lt1) (trodAll_cons_mk (Below.trod laidOut (by kernel_rfl) (of_decide_eq_true (by kernel_rfl)) k2 bel lt2) trodAll_mk0))), rfl, bel.frame _, fun h => by cases h⟩
set_option maxHeartbeats 20000000 in
theorem treeMany_closed : joinedFacts Tryz.pinned.checked.prog 3 Tryz.f3 (OpenSpec.ofChange Rows.treeManySpec).bare Rows.treeManyRow = true := by
  unfold joinedFacts
  repeat (refine Bool.and_eq_true_iff.2 ⟨?_, ?_⟩)
  all_goals (as_aux_lemma => kernel_rfl)
theorem treeMany_said : Rows.TreeManySaid :=
  OpenClaim.holds_of_cond 3 Tryz.f3 rfl rfl rfl rfl rfl rfl rfl ⟨rfl, rfl, rfl, rfl, rfl⟩ rfl rfl rfl rfl rfl (by kernel_rfl) Tryz.func3 treeMany_closed
    (of_decide_eq_true (by kernel_rfl)) (by unfold Func.isWrapper; first | (rw [if_pos (by decide +kernel)]; kernel_rfl) | (rw [if_neg (by decide +kernel)]; exact ⟨rfl, rfl⟩))
    (fun os started H enc _ F => by rw [OpenClaim.pre_eq_preRow]; exact treeMany_lifted os started H enc F)
theorem treeMany_plain (f : FuncId) (fn : Func) (hf : Tryz.pinned.checked.prog.funcNamed "selvage/selvagelaw15.TreeMany" = some f) (hfn : Tryz.pinned.checked.prog.funcs[f]? = some fn) :
    false = Tryz.pinned.checked.prog.looks [] ∧ ∀ (j : Nat) t, fn.params[j]? = some t → Tryz.pinned.checked.prog.wantsStandIn t = false := by
  obtain rfl : f = 3 := Option.some.inj ((show Tryz.prog.funcNamed "selvage/selvagelaw15.TreeMany" = some 3 by kernel_rfl).symm.trans hf) |>.symm
  obtain rfl : fn = Tryz.f3 := (Option.some.inj (Tryz.func3.symm.trans hfn)).symm
  refine ⟨by kernel_rfl, fun j t ht => ?_⟩
  rw [Tryz.params3] at ht
  have hm := Array.mem_of_getElem? ht
  simp only [Array.mem_toList_iff.symm, List.mem_cons, List.not_mem_nil, or_false] at hm
  rcases hm with rfl | rfl | rfl
  · exact (show Tryz.prog.wantsStandIn 3 = false by kernel_rfl)
  · exact (show Tryz.prog.wantsStandIn 4 = false by kernel_rfl)
  · exact (show Tryz.prog.wantsStandIn 3 = false by kernel_rfl)
theorem treeMany_holds : Rows.TreeManyCardSaid :=
  Claim7.holds_tied_plain_at .later [] _ _ _ _ treeMany_said (fun _ h => by cases h) (by kernel_rfl) (fun _ h => by cases h) treeMany_row_tie rfl ⟨rfl, rfl⟩ (by kernel_rfl) rfl treeMany_plain (by kernel_rfl)
#print axioms treeMany_holds
end Go.Proofs.YtbaapjlmpmpocaaGreatDoor
