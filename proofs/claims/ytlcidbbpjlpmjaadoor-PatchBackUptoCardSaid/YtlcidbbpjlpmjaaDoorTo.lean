/-
  Arguments opened: slices of strings, with bounds out of their bulk. No statement of the seat is proved here.
-/
import Derived.Test.YtlcidbbpjlpmjaaDoorQw
import Derived.Test.YtlcidbbpjlpmjaaDoorRows
import Derived.ProofKit
import Derived.OpenShut
import Derived.Deep.Slices
namespace Go.Proofs.YtlcidbbpjlpmjaaDoor
open Go.ChangeShapes Go.WideShapes Go.ChangeAt Go.RowKit Go.Deep

/-! ### Bulk -/
section
variable {H : Type}
theorem bulk_pos (d : DataW H) : 1 ≤ Rows.uptoBulk d := by
  cases d with
  | lit l => cases l <;> simp [Rows.uptoBulk]
  | nil => simp [Rows.uptoBulk]
  | ptr d => simp [Rows.uptoBulk]
  | slice elems spare => simp [Rows.uptoBulk]
  | agg parts => simp [Rows.uptoBulk]
  | iface t d => simp [Rows.uptoBulk]
  | map entries => simp [Rows.uptoBulk]
  | held h => simp [Rows.uptoBulk]
theorem bulk_part {d : DataW H} : ∀ {l : List (DataW H)}, d ∈ l → Rows.uptoBulk d ≤ Rows.uptoBulkAll l
  | [], h => by cases h
  | x :: r, h => by
    simp only [Rows.uptoBulkAll]
    rcases List.mem_cons.1 h with e | e
    · subst e; omega
    · have := bulk_part e; omega
theorem bulk_len : ∀ l : List (DataW H), l.length ≤ Rows.uptoBulkAll l
  | [] => by simp [Rows.uptoBulkAll]
  | x :: r => by have := bulk_pos x; have := bulk_len r; simp only [Rows.uptoBulkAll, List.length_cons]; omega
theorem bulk_bound {l : List (DataW H)} (hk : Rows.uptoSmall H l = true) : Rows.uptoBulkAll l ≤ 1048576 := of_decide_eq_true hk
theorem bulk_agg {xs : List (DataW H × List MemPlace)} {N i : Nat} {y : DataW H × List MemPlace} (h : Rows.uptoBulk (.agg (xs.map (·.1))) ≤ N) (hi : xs[i]? = some y) : Rows.uptoBulk y.1 ≤ N := by
  have : Rows.uptoBulk y.1 ≤ Rows.uptoBulkAll (xs.map (·.1)) := bulk_part (List.mem_map.2 ⟨y, List.mem_of_getElem? hi, rfl⟩)
  simp only [Rows.uptoBulk] at h
  omega
end

/-! ### A slice, its elements' bounds at hand -/
theorem open_listB {H : Type} {enc : TypeId × Value → H} {w : World} {base : Nat} {spare : Nat → Bool} {held : Bool} {α : Type} {f : α → List Value} {C N : Nat} {V : α → Prop} {t e : TypeId} {A : Option Addr} {len cap : Nat} {fuel : Nat} {x : DataW H × List MemPlace} (ht : Tryd.prog.underlying t = some (.slice e)) (hC : Tryd.prog.cellsOf e = C) (hpos : 0 < C) (hf : ∀ a, (f a).length = C)
    (hopen : ∀ (n : Nat) (cs : List Value) (y : DataW H × List MemPlace), DataW.trod enc Tryd.prog w base spare held n e cs = some y → Rows.uptoBulk y.1 ≤ N → ∃ a, cs = f a ∧ V a)
    (h : DataW.trod enc Tryd.prog w base spare held fuel t [.slice A len cap] = some x) (hb : Rows.uptoBulk x.1 ≤ N) : ∃ l : List α, l.length = len ∧ Reads w w.heap.size C A len (l.flatMap f) ∧ len ≤ cap ∧ cap ≤ maxLen ∧ len ≤ N ∧ ∀ a ∈ l, V a := by
  rcases open_slice ht h with ⟨hcs, hx⟩ | ⟨a, len', cap', m, n, D, Pl, hcs, _, hl, hm, hmm, hxx, hi⟩
  · simp at hcs
    obtain ⟨rfl, rfl, rfl⟩ := hcs
    exact ⟨[], rfl, Reads.none_, Nat.le_refl _, Nat.zero_le _, Nat.zero_le _, by simp⟩
  · simp at hcs
    obtain ⟨rfl, rfl, rfl⟩ := hcs
    rw [hC] at hi
    have hlm : len ≤ m := by rw [hmm]; split <;> omega
    have hbA : Rows.uptoBulkAll ((List.range len).map D) ≤ N := by
      rw [hxx] at hb
      simp only [Rows.uptoBulk] at hb
      omega
    have hlN : len ≤ N := by have := bulk_len ((List.range len).map D); simp at this; omega
    have hbD : ∀ i, i < len → Rows.uptoBulk (D i) ≤ N := fun i hi => Nat.le_trans (bulk_part (List.mem_map.2 ⟨i, List.mem_range.2 hi, rfl⟩)) hbA
    have key : ∀ k, k ≤ len → ∃ l : List α, l.length = k ∧ (∀ i b, l[i]? = some b → V b ∧ ∀ r u, (f b)[r]? = some u → w.cell? (a.add (i * C + r)) = some u) := by
      intro k
      induction k with
      | zero => exact fun _ => ⟨[], rfl, by simp⟩
      | succ k ih =>
        intro hk
        obtain ⟨l, hlen, hall⟩ := ih (by omega)
        obtain ⟨cs', hcells, htr⟩ := hi k (by omega)
        obtain ⟨b, rfl, hV⟩ := hopen n cs' _ htr (hbD k (by omega))
        obtain ⟨_, _, hat⟩ := World.cells?_some hcells
        refine ⟨l ++ [b], by simp [hlen], fun i b' hb' => ?_⟩
        rcases Nat.lt_or_ge i l.length with hlt | hge
        · rw [List.getElem?_append_left hlt] at hb'
          exact hall i b' hb'
        · rw [List.getElem?_append_right hge] at hb'
          have h0 : i - l.length = 0 := by
            rcases Nat.eq_zero_or_pos (i - l.length) with q | q
            · exact q
            · rw [List.getElem?_eq_none (by simp; omega)] at hb'; cases hb'
          rw [h0] at hb'
          simp at hb'
          subst hb'
          refine ⟨hV, fun r u hr => ?_⟩
          have hik : i = k := by omega
          subst hik
          have hrC : r < C := by
            rcases Nat.lt_or_ge r C with q | q
            · exact q
            · rw [List.getElem?_eq_none (by rw [hf]; exact q)] at hr; cases hr
          rw [← add_of_add, hat r hrC]
          exact hr
    obtain ⟨l, hlen, hall⟩ := key len (Nat.le_refl _)
    refine ⟨l, hlen, ⟨by rw [flatn_len hf, hlen], fun hn => ?_⟩, hl, hm, hlN, fun b hb => ?_⟩
    · have hcell : ∀ j u, (l.flatMap f)[j]? = some u → w.cell? (a.add j) = some u := by
        intro j u hj
        have hjl : j < l.length * C := by rw [← flatn_len hf]; exact (List.getElem?_eq_some_iff.1 hj).1
        have hd : j / C < l.length := Nat.div_lt_of_lt_mul (by rw [Nat.mul_comm]; exact hjl)
        have hfa := flatn_at hf l (j / C) (j % C) l[j / C] (List.getElem?_eq_getElem hd) ((f l[j / C])[j % C]'(by rw [hf]; exact Nat.mod_lt _ hpos)) (List.getElem?_eq_getElem _)
        rw [Nat.mul_comm, Nat.div_add_mod] at hfa
        have hu := hj.symm.trans hfa
        have := (hall _ _ (List.getElem?_eq_getElem hd)).2 (j % C) u (by rw [hu]; exact List.getElem?_eq_getElem _)
        rwa [Nat.mul_comm, Nat.div_add_mod] at this
      refine ⟨a, rfl, ?_, hcell⟩
      have h0 : 0 < (l.flatMap f).length := by rw [flatn_len hf, hlen]; exact Nat.mul_pos hn hpos
      have := World.block_lt_of_cell? w _ (hcell 0 _ (List.getElem?_eq_getElem h0))
      rwa [block_of_add] at this
    · obtain ⟨i, hi', rfl⟩ := List.mem_iff_getElem.1 hb
      exact (hall i _ (List.getElem?_eq_getElem hi')).1


section
variable {H : Type} {enc : TypeId × Value → H} {w : World} {base : Nat} {spare : Nat → Bool} {held : Bool}
theorem cells_str : Tryd.prog.cellsOf 9 = 1 := by kernel_rfl
theorem open_str {N n : Nat} {cs : List Value} {y : DataW H × List MemPlace} (h : DataW.trod enc Tryd.prog w base spare held n 9 cs = some y) (hb : Rows.uptoBulk y.1 ≤ N) : ∃ s : List UInt8, cs = [strC s] ∧ s.length ≤ N := by
  obtain ⟨a, f0, x0, _⟩ := DataW.trod_string Tryd.underlying9 h
  rw [x0] at hb
  refine ⟨a.data.toList, by rw [f0]; rfl, ?_⟩
  simp only [Rows.uptoBulk] at hb
  omega
theorem flat_strL (l : List (List UInt8)) : l.flatMap (fun s => [strC s]) = strL l := by
  unfold strL
  induction l with
  | nil => rfl
  | cons x l ih =>
    rw [List.flatMap_cons, ih]
    rfl
theorem opened_strs {N : Nat} {A : Option Addr} {len cap : Nat} {d : DataW H} {p : List MemPlace} (h : DataW.Trod enc Tryd.prog w base spare held 22 (.slice A len cap) d p) (hb : Rows.uptoBulk d ≤ N) :
    ∃ l : List (List UInt8), l.length = len ∧ Reads w w.heap.size 1 A l.length (strL l) ∧ l.length ≤ cap ∧ cap ≤ maxLen ∧ l.length ≤ N ∧ ∀ s ∈ l, s.length ≤ N := by
  obtain ⟨fuel, hf⟩ := h
  obtain ⟨l, h1, h2, h3, h4, h5, h6⟩ := open_listB (N := N) (f := fun s : List UInt8 => [strC s]) (V := fun s => s.length ≤ N) Tryd.underlying22 cells_str (by decide) (fun _ => rfl) (fun _ _ _ h hb => open_str h hb) (by simpa [Value.cells] using hf) hb
  subst h1
  rw [flat_strL] at h2
  exact ⟨l, rfl, h2, h3, h4, h5, h6⟩
end
end Go.Proofs.YtlcidbbpjlpmjaaDoor
