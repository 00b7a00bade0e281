/-
  Arguments opened: slices of whatever elements, bytes, Ids, entries. No statement of the seat is proved here.
-/
import Derived.Test.YtppmolneklidfaaSame
import Derived.ProofKit
import Derived.OpenShut
import Derived.Deep.Slices
namespace Go.Proofs.Ytppmolneklidfaa
open Go.ChangeShapes Go.WideShapes Go.ChangeAt Go.RowKit Go.Deep

section
variable {α : Type} {f : α → List Value} {C : Nat}
theorem flat_len (hf : ∀ a, (f a).length = C) : ∀ l : List α, (l.flatMap f).length = l.length * C
  | [] => by simp
  | a :: l => by rw [List.flatMap_cons, List.length_append, hf, flat_len hf l, List.length_cons, Nat.succ_mul, Nat.add_comm]
theorem flat_get (hf : ∀ a, (f a).length = C) (hC : 0 < C) : ∀ (l : List α) (j : Nat), (l.flatMap f)[j]? = (l[j / C]?).bind fun a => (f a)[j % C]?
  | [], j => by simp
  | a :: l, j => by
    rw [List.flatMap_cons]
    rcases Nat.lt_or_ge j C with h | h
    · rw [List.getElem?_append_left (by rw [hf]; exact h), Nat.div_eq_of_lt h, Nat.mod_eq_of_lt h]
      rfl
    · rw [List.getElem?_append_right (by rw [hf]; exact h), hf, flat_get hf hC l (j - C)]
      obtain ⟨k, rfl⟩ := Nat.exists_eq_add_of_le h
      rw [Nat.add_sub_cancel_left, Nat.add_div_left _ hC, Nat.add_mod_left]
      rfl
end

section
variable {H : Type} {enc : TypeId × Value → H} {P : Program} {w : World} {base : Nat} {spare : Nat → Bool} {held : Bool}
/-- A slice that came in, its elements opened one by one. -/
theorem open_list {α : Type} {f : α → List Value} {C : Nat} {V : α → Prop} {t e : TypeId} {A : Option Addr} {len cap : Nat} {fuel : Nat} {x : DataW H × List MemPlace} (ht : P.underlying t = some (.slice e)) (hC : P.cellsOf e = C) (hpos : 0 < C) (hf : ∀ a, (f a).length = C)
    (hopen : ∀ (n : Nat) (cs : List Value) (y : DataW H × List MemPlace), DataW.trod enc P w base spare held n e cs = some y → ∃ a, cs = f a ∧ V a)
    (h : DataW.trod enc P w base spare held fuel t [.slice A len cap] = some x) : ∃ l : List α, l.length = len ∧ Reads w w.heap.size C A len (l.flatMap f) ∧ len ≤ cap ∧ cap ≤ maxLen ∧ ∀ a ∈ l, V a := by
  rcases open_slice ht h with ⟨hcs, _⟩ | ⟨a, len', cap', m, n, D, Pl, hcs, _, hl, hm, hmm, _, hi⟩
  · simp at hcs
    obtain ⟨rfl, rfl, rfl⟩ := hcs
    exact ⟨[], rfl, Reads.none_, Nat.le_refl _, Nat.zero_le _, by simp⟩
  · simp at hcs
    obtain ⟨rfl, rfl, rfl⟩ := hcs
    rw [hC] at hi
    have hlm : len ≤ m := by rw [hmm]; split <;> omega
    have key : ∀ k, k ≤ len → ∃ l : List α, l.length = k ∧ (∀ i b, l[i]? = some b → V b ∧ ∀ r u, (f b)[r]? = some u → w.cell? (a.add (i * C + r)) = some u) := by
      intro k
      induction k with
      | zero => exact fun _ => ⟨[], rfl, by simp⟩
      | succ k ih =>
        intro hk
        obtain ⟨l, hlen, hall⟩ := ih (by omega)
        obtain ⟨cs', hcells, htr⟩ := hi k (by omega)
        obtain ⟨b, rfl, hV⟩ := hopen n cs' _ htr
        obtain ⟨_, _, hat⟩ := World.cells?_some hcells
        refine ⟨l ++ [b], by simp [hlen], fun i b' hb' => ?_⟩
        rcases Nat.lt_or_ge i l.length with hlt | hge
        · rw [List.getElem?_append_left hlt] at hb'
          exact hall i b' hb'
        · rw [List.getElem?_append_right hge] at hb'
          have h0 : i - l.length = 0 := by
            rcases Nat.eq_zero_or_pos (i - l.length) with q | q
            · exact q
            · rw [List.getElem?_eq_none (by simp; omega)] at hb'; cases hb'
          rw [h0] at hb'
          simp at hb'
          subst hb'
          refine ⟨hV, fun r u hr => ?_⟩
          have hik : i = k := by omega
          subst hik
          have hrC : r < C := by
            rcases Nat.lt_or_ge r C with q | q
            · exact q
            · rw [List.getElem?_eq_none (by rw [hf]; exact q)] at hr; cases hr
          rw [← add_of_add, hat r hrC]
          exact hr
    obtain ⟨l, hlen, hall⟩ := key len (Nat.le_refl _)
    refine ⟨l, hlen, ⟨by rw [flat_len hf, hlen], fun hn => ?_⟩, hl, hm, fun b hb => ?_⟩
    · have hcell : ∀ j u, (l.flatMap f)[j]? = some u → w.cell? (a.add j) = some u := by
        intro j u hj
        rw [flat_get hf hpos] at hj
        cases hb : l[j / C]? with
        | none => rw [hb] at hj; cases hj
        | some b =>
          rw [hb] at hj
          have := (hall _ b hb).2 _ u hj
          rwa [Nat.mul_comm, Nat.div_add_mod] at this
      refine ⟨a, rfl, ?_, hcell⟩
      have h0 : 0 < (l.flatMap f).length := by rw [flat_len hf, hlen]; exact Nat.mul_pos hn hpos
      have := World.block_lt_of_cell? w _ (hcell 0 _ (List.getElem?_eq_getElem h0))
      rwa [block_of_add] at this
    · obtain ⟨i, hi', rfl⟩ := List.mem_iff_getElem.1 hb
      exact (hall i _ (List.getElem?_eq_getElem hi')).1
end

/-! ### Bytes, Ids, entries -/
section
variable {H : Type} {enc : TypeId × Value → H} {w : World} {base : Nat} {spare : Nat → Bool} {held : Bool}
theorem open_byte {n : Nat} {cs : List Value} {y : DataW H × List MemPlace} (h : DataW.trod enc Try.prog w base spare held n 5 cs = some y) : ∃ a : UInt8, cs = [bv a] ∧ True := by
  obtain ⟨v, rfl, _, hw⟩ := DataW.trod_int Try.underlying5 h
  have hb : 0 ≤ v ∧ v ≤ 255 := by simpa [Lit.wf, IntKind.min, IntKind.max, IntKind.signed, IntKind.bits] using hw
  obtain ⟨k, rfl⟩ := Int.eq_ofNat_of_zero_le hb.1
  refine ⟨UInt8.ofNat k, ?_, trivial⟩
  unfold bv
  rw [UInt8.toNat_ofNat', Nat.mod_eq_of_lt (by omega)]
theorem flat_bv (l : List UInt8) : l.flatMap (fun a => [bv a]) = l.map bv := by
  induction l with
  | nil => rfl
  | cons a l ih => rw [List.flatMap_cons, ih]; rfl
theorem cells_u8 : Try.prog.cellsOf 5 = 1 := by kernel_rfl
theorem cells_id : Try.prog.cellsOf 42 = 32 := by kernel_rfl
theorem cells_ent : Try.prog.cellsOf 87 = 34 := by kernel_rfl
theorem open_bytes {A : Option Addr} {len cap : Nat} {fuel : Nat} {x : DataW H × List MemPlace} (h : DataW.trod enc Try.prog w base spare held fuel 23 [.slice A len cap] = some x) :
    ∃ l : List UInt8, l.length = len ∧ Reads w w.heap.size 1 A l.length (l.map bv) ∧ l.length ≤ cap ∧ cap ≤ maxLen := by
  obtain ⟨l, h1, h2, h3, h4, _⟩ := open_list (f := fun a : UInt8 => [bv a]) (V := fun _ => True) Try.underlying23 cells_u8 (by decide) (fun _ => rfl) (fun _ _ _ h => open_byte h) h
  subst h1
  rw [flat_bv] at h2
  exact ⟨l, rfl, h2, h3, h4⟩
theorem open_id {n : Nat} {cs : List Value} {y : DataW H × List MemPlace} (h : DataW.trod enc Try.prog w base spare held n 42 cs = some y) : ∃ i : Id, cs = idL i := by
  obtain ⟨xs, m, _, _, hlen, hxl, hx⟩ := DataW.trod_array Try.underlying42 h
  rw [cells_id] at hlen
  rw [cells_u8] at hx
  have key : ∀ k, k ≤ 32 → ∃ l : List UInt8, l.length = k ∧ cs.take k = l.map bv := by
    intro k
    induction k with
    | zero => exact fun _ => ⟨[], rfl, by simp⟩
    | succ k ih =>
      intro hk
      obtain ⟨l, h1, h2⟩ := ih (by omega)
      have h3 := hx k (by omega)
      rw [List.getElem?_eq_getElem (by omega)] at h3
      obtain ⟨a, h4, _⟩ := open_byte h3
      refine ⟨l ++ [a], by simp [h1], ?_⟩
      rw [List.take_succ_eq_append_getElem (by omega), h2, List.map_append]
      congr 1
      rw [Nat.mul_one, List.drop_eq_getElem_cons (by omega)] at h4
      simp only [List.take_succ_cons, List.take_zero] at h4
      exact h4
  obtain ⟨l, h1, h2⟩ := key 32 (Nat.le_refl _)
  rw [List.take_of_length_le (by omega)] at h2
  exact ⟨⟨l, h1⟩, h2⟩
theorem open_ent {n : Nat} {cs : List Value} {y : DataW H × List MemPlace} (h : DataW.trod enc Try.prog w base spare held n 87 cs = some y) : ∃ x : Ent, cs = entL x ∧ x.name.size ≤ maxLen ∧ (Lit.int .i64 x.kind).wf = true := by
  obtain ⟨xs, m, _, _, hlen, hxl, hx⟩ := DataW.trod_struct Try.underlying87 h
  rw [cells_ent] at hlen
  have h0 := hx 0 _ rfl
  have h1 := hx 1 _ rfl
  have h2 := hx 2 _ rfl
  have hxl' : xs.length = 3 := hxl
  rw [List.getElem?_eq_getElem (by omega)] at h0 h1 h2
  obtain ⟨s, e0, _, hs⟩ := DataW.trod_string Try.underlying9 h0
  obtain ⟨k, e1, _, hk⟩ := DataW.trod_int Try.underlying3 h1
  obtain ⟨i, e2⟩ := open_id h2
  refine ⟨⟨s, k, i⟩, ?_, hs, hk⟩
  have hc1 : Try.prog.cellsOf 9 = 1 := by kernel_rfl
  have hc2 : Try.prog.cellsOf 3 = 1 := by kernel_rfl
  have e0 : (cs.drop 0).take (Try.prog.cellsOf 9) = [.string s] := e0
  have e1 : (cs.drop 1).take (Try.prog.cellsOf 3) = [.int .i64 k] := e1
  have e2 : (cs.drop 2).take (Try.prog.cellsOf 42) = idL i := e2
  rw [hc1] at e0
  rw [hc2] at e1
  rw [cells_id] at e2
  unfold entL
  rcases cs with _ | ⟨c0, _ | ⟨c1, rest⟩⟩
  · simp at hlen
  · simp at hlen
  · simp only [List.drop_zero, List.take_succ_cons, List.take_zero, List.cons.injEq, and_true] at e0
    simp only [List.drop_succ_cons, List.drop_zero, List.take_succ_cons, List.take_zero, List.cons.injEq, and_true] at e1
    simp only [List.drop_succ_cons, List.drop_zero] at e2
    rw [List.take_of_length_le (by simp only [List.length_cons] at hlen; omega)] at e2
    rw [e0, e1, e2]
theorem open_ents {A : Option Addr} {len cap : Nat} {fuel : Nat} {x : DataW H × List MemPlace} (h : DataW.trod enc Try.prog w base spare held fuel 22 [.slice A len cap] = some x) :
    ∃ l : List Ent, l.length = len ∧ Reads w w.heap.size 34 A l.length (entLs l) ∧ l.length ≤ cap ∧ cap ≤ maxLen ∧ ∀ x ∈ l, x.name.size ≤ maxLen ∧ (Lit.int .i64 x.kind).wf = true := by
  obtain ⟨l, h1, h2, h3, h4, h5⟩ := open_list (f := entL) (V := fun x => x.name.size ≤ maxLen ∧ (Lit.int .i64 x.kind).wf = true) Try.underlying22 cells_ent (by decide) entL_len (fun _ _ _ h => open_ent h) h
  subst h1
  exact ⟨l, rfl, h2, h3, h4, h5⟩
end
end Go.Proofs.Ytppmolneklidfaa
