/-
  PatchTexts: the walk of the law, its row, its card (second form).
  Joined of: Pj, Nw, By, Bs, Laid, Laid5, Tf, Rk, LawPx.
-/
import Derived.Test.YtlcidbbpjlpmjaaDoorPb
import Derived.Test.YtlcidbbpjlpmjaaDoorRg
import Derived.Test.YtlcidbbpjlpmjaaDoorRm
import Derived.Test.YtlcidbbpjlpmjaaDoorRl
import Derived.Test.YtlcidbbpjlpmjaaDoorOwn
import Derived.Lib.SmallJoins
import Derived.Lib.AtoiErrMem
import Derived.Test.YtlcidbbpjlpmjaaDoorPi
import Derived.Test.YtlcidbbpjlpmjaaDoorRows
import Derived.LaidMore
import Derived.LaidSub
import Derived.Lib.LaidTab
import Derived.Lib.ItoaNum
import Derived.ProofKit
import Derived.OpenShut
import Derived.Deep.DeepHandedRow
import Derived.Test.YtlcidbbpjlpmjaaDoorPd
import Derived.Stop.LaidErr
import Derived.Shelf.Vars
import Derived.Test.YtlcidbbpjlpmjaaDoorTd
import Derived.Test.YtlcidbbpjlpmjaaDoorQl
import Derived.Test.YtlcidbbpjlpmjaaDoorTe
import Derived.Test.YtlcidbbpjlpmjaaDoorPg
import Derived.Test.YtlcidbbpjlpmjaaDoorRj
import Derived.Test.YtlcidbbpjlpmjaaDoorCards
import Derived.Test.YtlcidbbpjlpmjaaDoorTie
import Derived.SevenTiedAt
import Derived.BigRegion
namespace Go.Proofs.YtlcidbbpjlpmjaaDoor
open Go.RowKit

theorem sumN_ge : ∀ {l : List EdI}, (∀ e ∈ l, 1 ≤ e.n) → l.length ≤ sumN (l.map EdI.toD)
  | [], _ => by simp
  | e :: l, h => by
    have h1 := h e (by simp)
    have h2 := sumN_ge (l := l) fun x hx => h x (List.mem_cons_of_mem _ hx)
    have e1 : sumN ((e :: l).map EdI.toD) = e.n.toNat + sumN (l.map EdI.toD) := by simp [sumN, EdI.toD]
    rw [e1, List.length_cons]
    omega
theorem okH_len {h : HkI} (ok : okH h = true) : h.eds.length ≤ h.ls.length := by
  obtain ⟨t, ht⟩ := Option.isSome_iff_exists.1 (show (mayP h).isSome = true from ok)
  unfold mayP at ht
  split at ht
  · split at ht
    · cases ht
    · rename_i c hc
      split at ht
      · rename_i hq
        simp only [Bool.and_eq_true, decide_eq_true_eq] at hq
        have h0 : cnt0.all = 0 := rfl
        obtain ⟨h1, h2⟩ := edsP_ok hc (by rw [h0]; omega)
        have := sumN_ge fun e he => (h1 e he).2.2
        omega
      · cases ht
  · cases ht
theorem hkT_pos {h : HkI} (ok : okH h = true) : 1 ≤ (hkT h).length := by
  obtain ⟨t, ht⟩ := Option.isSome_iff_exists.1 (show (mayP h).isSome = true from ok)
  unfold hkT
  rw [ht]
  simp [headT]
theorem hksT_ge : ∀ {l : List HkI}, (∀ h ∈ l, okH h = true) → l.length ≤ (hksT l).length
  | [], _ => by simp
  | h :: l, ok => by
    have h1 := hkT_pos (ok h (by simp))
    have h2 := hksT_ge (l := l) fun x hx => ok x (List.mem_cons_of_mem _ hx)
    have e : hksT (h :: l) = hkT h ++ hksT l := by simp [hksT]
    rw [e, List.length_append, List.length_cons]
    omega
theorem resQ_small {r : Option (List HkQ)} {s : List UInt8} {l : List HkI} (h : resQ r s = some l) : l.length ≤ s.length ∧ ∀ h ∈ l, okH h = true := by
  unfold resQ at h
  split at h
  · cases h
  · split at h
    · rename_i q
      injection h with h
      subst h
      have ok := List.all_eq_true.1 q.1
      refine ⟨?_, ok⟩
      have := hksT_ge ok
      rwa [q.2] at this
    · cases h
theorem HII.small {w : World} {B : Nat} {A : Option Addr} {l : List HkI} (h : HII w B A l) (ok : ∀ h ∈ l, okH h = true) : ∀ h ∈ l, h.eds.length ≤ 9223372036854775807 ∧ h.ls.length ≤ 9223372036854775807 := by
  intro x hx
  obtain ⟨k, hk⟩ := List.getElem?_of_mem hx
  have h1 := okH_len (ok x hx)
  obtain ⟨tv, t1, _, t3⟩ := h
  obtain ⟨y, hy⟩ : ∃ y, tv[k]? = some y := by
    refine ⟨_, List.getElem?_eq_getElem (l := tv) (i := k) ?_⟩
    rcases Nat.lt_or_ge k l.length with q | q
    · omega
    · rw [List.getElem?_eq_none q] at hk; cases hk
  obtain ⟨_, _, _, _, _, _, _, h4, h5, _⟩ := t3 k x y.1 y.2 hk hy
  unfold maxLen at h5
  omega
theorem HII.nil_ (w : World) (B : Nat) (A : Option Addr) : HII w B A [] := ⟨[], rfl, Reads.none_, fun _ _ _ _ h => by cases h⟩
end Go.Proofs.YtlcidbbpjlpmjaaDoor
namespace Go.Proofs.YtlcidbbpjlpmjaaDoor
open Go.RowKit

def wiN (x : Int) (n : Nat) : Nat := (x % (n : Int)).toNat
theorem wiN_lt {x : Int} {n : Nat} (h : 0 < n) : wiN x n < n := by
  have h1 := Int.emod_nonneg x (b := (n : Int)) (by omega)
  have h2 := Int.emod_lt_of_pos x (b := (n : Int)) (by omega)
  unfold wiN
  omega
theorem tmod_wi {x : Int} {n : Nat} (h : 0 < n) : (0 ≤ x.tmod (n : Int) ∧ x.tmod (n : Int) = (wiN x n : Int)) ∨ (x.tmod (n : Int) < 0 ∧ x.tmod (n : Int) + (n : Int) = (wiN x n : Int) ∧ -(n : Int) < x.tmod (n : Int)) := by
  have h1 := Int.emod_nonneg x (b := (n : Int)) (by omega)
  have h2 := Int.emod_lt_of_pos x (b := (n : Int)) (by omega)
  have hw : (wiN x n : Int) = x % (n : Int) := by unfold wiN; omega
  rw [hw, Int.tmod_eq_emod]
  split
  · exact .inl ⟨by omega, by omega⟩
  · by_cases hz : x % (n : Int) = 0
    · rename_i q
      exact absurd (.inr (Int.dvd_of_emod_eq_zero hz)) q
    · exact .inr ⟨by omega, by omega, by omega⟩
set_option maxRecDepth 100000 in
theorem within_any (x : Int) (n : Nat) (hn : 0 < n) (hn2 : n ≤ 1000000) (w : World) :
    Calls Tryd.prog 24 #[.int .i64 x, .int .i64 (n : Int)] w fun r w' => r = .returned (.int .i64 (wiN x n : Int)) ∧ w' = w := by
  have hnz : ¬ ((n : Int) = 0) := by omega
  have hlt := wiN_lt (x := x) hn
  have HT := Lib.hid (tmod_wi (x := x) hn)
  generalize wiN x n = k at *
  go_enter Tryd.func24, Tryd.ntmps24
  go_upto_region 2 with fail
  generalize x.tmod (n : Int) = t at *
  rcases HT.out with ⟨h1, h2⟩ | ⟨h1, h2, h3⟩
  · subst h2
    have d1 : decide ((k : Int) < 0) = false := decide_eq_false (by omega)
    have h4 : ¬ (k : Int) < 0 := by omega
    go_wp2_with fail
    go_ret
    exact ⟨rfl, rfl⟩
  · have d1 : decide (t < 0) = true := decide_eq_true h1
    have w1 : IntKind.i64.wrap (t + (n : Int)) = t + (n : Int) := IntWalk.i64_in _ (by omega)
    have H2 := Lib.hid h2
    clear h2
    go_wp2_with fail
    go_ret
    exact ⟨by rw [← H2.out]; rfl, rfl⟩
section
variable {H : Type} {enc : TypeId × Value → H} {w : World} {base : Nat} {spare : Nat → Bool} {held : Bool}
theorem flat_int (l : List Int) : l.flatMap (fun a => [Value.int .i64 a]) = l.map (Value.int .i64) := by
  induction l with
  | nil => rfl
  | cons a l ih => rw [List.flatMap_cons, ih]; rfl
theorem opened_ints {A : Option Addr} {len cap : Nat} {d : DataW H} {p : List MemPlace} (h : DataW.Trod enc Tryd.prog w base spare held 52 (.slice A len cap) d p) :
    ∃ l : List Int, l.length = len ∧ Reads w w.heap.size 1 A l.length (l.map (Value.int .i64)) ∧ l.length ≤ cap ∧ cap ≤ maxLen := by
  obtain ⟨fuel, hf⟩ := h
  have hf : DataW.trod enc Tryd.prog w base spare held fuel 52 [.slice A len cap] = some (d, p) := by simpa [Value.cells] using hf
  obtain ⟨l, h1, h2, h3, h4, _⟩ := open_listB (N := Rows.uptoBulk d) (f := fun a : Int => [Value.int .i64 a]) (V := fun _ => True) Tryd.underlying52 cells_int (by decide) (fun _ => rfl) (fun _ _ _ h _ => by obtain ⟨a, e, _, _⟩ := DataW.trod_int Tryd.underlying3 h; exact ⟨a, e, trivial⟩) hf (Nat.le_refl _)
  subst h1
  rw [flat_int] at h2
  exact ⟨l, rfl, h2, h3, h4⟩
theorem flat_bool (l : List Bool) : l.flatMap (fun a => [Value.bool a]) = l.map Value.bool := by
  induction l with
  | nil => rfl
  | cons a l ih => rw [List.flatMap_cons, ih]; rfl
theorem cells_bool : Tryd.prog.cellsOf 4 = 1 := by kernel_rfl
theorem opened_bools {A : Option Addr} {len cap : Nat} {d : DataW H} {p : List MemPlace} (h : DataW.Trod enc Tryd.prog w base spare held 47 (.slice A len cap) d p) :
    ∃ l : List Bool, l.length = len ∧ Reads w w.heap.size 1 A l.length (l.map Value.bool) ∧ l.length ≤ cap ∧ cap ≤ maxLen := by
  obtain ⟨fuel, hf⟩ := h
  have hf : DataW.trod enc Tryd.prog w base spare held fuel 47 [.slice A len cap] = some (d, p) := by simpa [Value.cells] using hf
  obtain ⟨l, h1, h2, h3, h4, _⟩ := open_listB (N := Rows.uptoBulk d) (f := fun a : Bool => [Value.bool a]) (V := fun _ => True) Tryd.underlying47 cells_bool (by decide) (fun _ => rfl) (fun _ _ _ h _ => by obtain ⟨a, e, _⟩ := DataW.trod_bool Tryd.underlying4 h; exact ⟨a, e, trivial⟩) hf (Nat.le_refl _)
  subst h1
  rw [flat_bool] at h2
  exact ⟨l, rfl, h2, h3, h4⟩
end
end Go.Proofs.YtlcidbbpjlpmjaaDoor
namespace Go.Proofs.YtlcidbbpjlpmjaaDoor
open Go.RowKit
open Go.ChangeShapes Go.WideShapes Go.ChangeAt

/-- Block g holds the bytes l ahead of its mark. -/
def BRow (w : World) (g : Nat) (l : List UInt8) : Prop := ∃ cs lo hi, w.heap[g]? = some (.cells cs 5 (lo, hi)) ∧ l.length ≤ lo ∧ l.length ≤ cs.size ∧ ∀ (j : Nat) (u : UInt8), l[j]? = some u → cs[j]? = some (byteV u)
theorem BRow.cell {w : World} {g : Nat} {l : List UInt8} (h : BRow w g l) {j : Nat} {u : UInt8} (hj : l[j]? = some u) : w.cell? ⟨g, j, none⟩ = some (.int .u8 (u.toNat : Int)) := by
  obtain ⟨cs, lo, hi, h1, _, _, h4⟩ := h
  rw [Joins.cell_of_block h1]
  exact h4 j u hj
theorem BRow.unfrozen {w : World} {g : Nat} {l : List UInt8} (h : BRow w g l) {j : Nat} (hj : j < l.length) : w.frozen? ⟨g, j, none⟩ = false := by
  obtain ⟨cs, lo, hi, h1, h2, _, _⟩ := h
  have : decide (lo ≤ j) = false := decide_eq_false (by omega)
  simp only [World.frozen?, h1, this, Bool.false_and]
theorem BRow.put {w : World} {g : Nat} {l : List UInt8} (h : BRow w g l) (k : Nat) (x : UInt8) {v : Value} (hv : v = byteV x) : BRow (w.setCell ⟨g, k, none⟩ v) g (l.set k x) := by
  subst hv
  obtain ⟨cs, lo, hi, h1, h2, h3, h4⟩ := h
  refine ⟨_, lo, hi, Joins.block_setCell h1 _, by simpa using h2, by simpa using h3, fun j u hj => ?_⟩
  rw [List.getElem?_set] at hj
  rw [Array.getElem?_setIfInBounds]
  split at hj
  next q =>
    subst q
    rw [if_pos rfl, if_pos (by
      rcases Nat.lt_or_ge k l.length with p | p
      · omega
      · rw [if_neg (by omega)] at hj; cases hj)]
    split at hj
    · injection hj with hj; rw [hj]
    · cases hj
  next q =>
    rw [if_neg q]
    exact h4 j u hj
theorem BRow.lt {w : World} {g : Nat} {l : List UInt8} (h : BRow w g l) : g < w.heap.size := by
  obtain ⟨cs, lo, hi, h1, _⟩ := h
  rcases Nat.lt_or_ge g w.heap.size with q | q
  · exact q
  · rw [Array.getElem?_eq_none q] at h1; cases h1
theorem BRow.drew {w : World} {g : Nat} {l : List UInt8} (h : BRow w g l) : BRow w.drew g l := h
theorem BRow.reads {w : World} {g : Nat} {l : List UInt8} (h : BRow w g l) {m : Nat} (hm : m ≤ l.length) : Reads w w.heap.size 1 (some ⟨g, 0, none⟩) m ((l.take m).map byteV) := by
  refine ⟨by simp [Nat.min_eq_left hm], fun _ => ⟨_, rfl, h.lt, fun j u hj => ?_⟩⟩
  rw [add_at, Nat.zero_add]
  rw [List.getElem?_map] at hj
  rcases Nat.lt_or_ge j m with q | q
  · rw [List.getElem?_take_of_lt q] at hj
    obtain ⟨x, hx⟩ : ∃ x, l[j]? = some x := ⟨_, List.getElem?_eq_getElem (by omega)⟩
    rw [hx] at hj
    simp only [Option.map_some, Option.some.injEq] at hj
    subst hj
    exact h.cell hx
  · rw [List.getElem?_eq_none (by rw [List.length_take]; omega)] at hj
    cases hj
theorem wpList_convR {P : Program} {ops : Array Oper} {rest : List Oper} {o : Oper} {a : Act} {w w' : World} {Q : Exit → Act → World → Prop} (hgd : o.guard = none) {src dst : TypeId} {x : Operand} (ho : o.op = .convert src dst x) {u v : Value} (hx : a.eval x = u) (hrun : (convert src dst u).run P w = .ok v w')
    (h : wpList P ops Q rest (a.put o.dst v) w') : wpList P ops Q (o :: rest) a w :=
  wpList_plain hgd fun _ hK => by
    unfold Oper.wp execOp
    simp only [ho, hx, Sem.run_bind, hrun, Result.andThen_ok, Sem.run_pure]
    exact hK _ _ h
theorem run_convR (l : List UInt8) (w : World) : ∃ c w', (convert 9 53 (.string ⟨l.toArray⟩)).run Tryd.prog w = .ok (.slice (some ⟨w.heap.size, 0, none⟩) l.length c) w' ∧ Below w.heap.size w w' ∧ l.length ≤ c ∧ BRow w' w.heap.size l := by
  have hz : (⟨l.toArray⟩ : ByteArray).size = l.length := by simp [ByteArray.size]
  have hcs : l.length ≤ (Lib.bytesCells w 5 ⟨l.toArray⟩).size := by simp [Lib.bytesCells]
  refine ⟨grownCap w l.length 0 5, Lib.bytesWorld w 5 ⟨l.toArray⟩, by have := Lib.run_convert_string_bytes (P := Tryd.prog) w 9 53 5 ⟨l.toArray⟩ Tryd.underlying9 Tryd.underlying53 Tryd.underlying5; rw [hz] at this; exact this, Lib.bytesWorld_below _ _ _, grownCap_ge _ _ _ _, _, _, _, Lib.bytesWorld_at_new w 5 ⟨l.toArray⟩, hcs, hcs, fun j u hj => ?_⟩
  have hlt : j < l.length := by
    rcases Nat.lt_or_ge j l.length with q | q
    · exact q
    · rw [List.getElem?_eq_none q] at hj; cases hj
  have e : l[j] = u := by rw [List.getElem?_eq_getElem hlt] at hj; exact Option.some.inj hj
  simp [Lib.bytesCells, Array.getElem?_append, hlt, byteV, e]
theorem u8_sum (a b : UInt8) : ((a.toNat : Int) + (b.toNat : Int)) % 256 = ((a + b).toNat : Int) := by
  rw [UInt8.toNat_add]
  simp
section
variable {H : Type} {enc : TypeId × Value → H} {w : World} {base : Nat} {spare : Nat → Bool} {held : Bool}
theorem cells_byte : Tryd.prog.cellsOf 5 = 1 := by kernel_rfl
theorem flat_byte (l : List UInt8) : l.flatMap (fun a => [byteV a]) = l.map byteV := by
  induction l with
  | nil => rfl
  | cons a l ih => rw [List.flatMap_cons, ih]; rfl
theorem opened_bytes {A : Option Addr} {len cap : Nat} {d : DataW H} {p : List MemPlace} (h : DataW.Trod enc Tryd.prog w base spare held 53 (.slice A len cap) d p) :
    ∃ l : List UInt8, l.length = len ∧ Reads w w.heap.size 1 A l.length (l.map byteV) ∧ l.length ≤ cap ∧ cap ≤ maxLen := by
  obtain ⟨fuel, hf⟩ := h
  have hf : DataW.trod enc Tryd.prog w base spare held fuel 53 [.slice A len cap] = some (d, p) := by simpa [Value.cells] using hf
  obtain ⟨l, h1, h2, h3, h4, _⟩ := open_listB (N := Rows.uptoBulk d) (f := fun a : UInt8 => [byteV a]) (V := fun _ => True) Tryd.underlying53 cells_byte (by decide) (fun _ => rfl) (fun x y cs h _ => by
    obtain ⟨a, e, a1, a2⟩ := DataW.trod_int Tryd.underlying5 h
    have hb : 0 ≤ a ∧ a ≤ 255 := by simpa [Lit.wf, IntKind.min, IntKind.max, IntKind.signed, IntKind.bits] using a2
    obtain ⟨k, rfl⟩ := Int.eq_ofNat_of_zero_le hb.1
    refine ⟨UInt8.ofNat k, ?_, trivial⟩
    unfold byteV
    rw [e, UInt8.toNat_ofNat', Nat.mod_eq_of_lt (by omega)]) hf (Nat.le_refl _)
  subst h1
  rw [flat_byte] at h2
  exact ⟨l, rfl, h2, h3, h4⟩
set_option maxRecDepth 100000 in
theorem opened_string {r : Reach} {b0 : Nat} {v : Value} {d : DataW H} {p : List MemPlace} {N : Nat} (hval : Value.okWide Tryd.prog w r b0 9 v) (h : DataW.Trod enc Tryd.prog w base spare held 9 v d p) (hb : Rows.uptoBulk d ≤ N) : ∃ s : List UInt8, v = .string ⟨s.toArray⟩ ∧ s.length ≤ N := by
  obtain ⟨a, rfl, rfl, _⟩ := ChangeMaps.open_string Tryd.underlying9 hval h
  refine ⟨a.data.toList, rfl, ?_⟩
  simp only [Rows.uptoBulk] at hb
  omega
end
end Go.Proofs.YtlcidbbpjlpmjaaDoor
namespace Go.Proofs.YtlcidbbpjlpmjaaDoor
open Go.ChangeShapes Go.WideShapes Go.ChangeAt Go.RowKit Go.Deep

/-- As open_listB, with each element's own bulk at hand. -/
theorem open_listS {H : Type} {enc : TypeId × Value → H} {w : World} {base : Nat} {spare : Nat → Bool} {held : Bool} {α : Type} {f : α → List Value} {C : Nat} {V : α → Nat → Prop} {t e : TypeId} {A : Option Addr} {len cap : Nat} {fuel : Nat} {x : DataW H × List MemPlace} (ht : Tryd.prog.underlying t = some (.slice e)) (hC : Tryd.prog.cellsOf e = C) (hpos : 0 < C) (hf : ∀ a, (f a).length = C)
    (hopen : ∀ (n : Nat) (cs : List Value) (y : DataW H × List MemPlace), DataW.trod enc Tryd.prog w base spare held n e cs = some y → ∃ a, cs = f a ∧ V a (Rows.uptoBulk y.1))
    (h : DataW.trod enc Tryd.prog w base spare held fuel t [.slice A len cap] = some x) : ∃ (l : List α) (bs : List Nat), l.length = len ∧ bs.length = len ∧ bs.sum ≤ Rows.uptoBulk x.1 ∧ Reads w w.heap.size C A len (l.flatMap f) ∧ len ≤ cap ∧ cap ≤ maxLen ∧ ∀ (i : Nat) a, l[i]? = some a → ∃ b, bs[i]? = some b ∧ V a b := by
  rcases open_slice ht h with ⟨hcs, hx⟩ | ⟨a, len', cap', m, n, D, Pl, hcs, _, hl, hm, hmm, hxx, hi⟩
  · simp at hcs
    obtain ⟨rfl, rfl, rfl⟩ := hcs
    exact ⟨[], [], rfl, rfl, Nat.zero_le _, Reads.none_, Nat.le_refl _, Nat.zero_le _, fun _ _ h => by cases h⟩
  · simp at hcs
    obtain ⟨rfl, rfl, rfl⟩ := hcs
    rw [hC] at hi
    have hlm : len ≤ m := by rw [hmm]; split <;> omega
    have hbA : Rows.uptoBulkAll ((List.range len).map D) ≤ Rows.uptoBulk x.1 := by
      rw [hxx]
      simp only [Rows.uptoBulk]
      omega
    have hsum : ∀ l : List (DataW H), (l.map Rows.uptoBulk).sum = Rows.uptoBulkAll l := by
      intro l
      induction l with
      | nil => simp [Rows.uptoBulkAll]
      | cons d l ih => simp only [List.map_cons, List.sum_cons, Rows.uptoBulkAll, ih]
    have key : ∀ k, k ≤ len → ∃ l : List α, l.length = k ∧ (∀ i b, l[i]? = some b → V b (Rows.uptoBulk (D i)) ∧ ∀ r u, (f b)[r]? = some u → w.cell? (a.add (i * C + r)) = some u) := by
      intro k
      induction k with
      | zero => exact fun _ => ⟨[], rfl, by simp⟩
      | succ k ih =>
        intro hk
        obtain ⟨l, hlen, hall⟩ := ih (by omega)
        obtain ⟨cs', hcells, htr⟩ := hi k (by omega)
        obtain ⟨b, rfl, hV⟩ := hopen n cs' _ htr
        obtain ⟨_, _, hat⟩ := World.cells?_some hcells
        refine ⟨l ++ [b], by simp [hlen], fun i b' hb' => ?_⟩
        rcases Nat.lt_or_ge i l.length with hlt | hge
        · rw [List.getElem?_append_left hlt] at hb'
          exact hall i b' hb'
        · rw [List.getElem?_append_right hge] at hb'
          have h0 : i - l.length = 0 := by
            rcases Nat.eq_zero_or_pos (i - l.length) with q | q
            · exact q
            · rw [List.getElem?_eq_none (by simp; omega)] at hb'; cases hb'
          rw [h0] at hb'
          simp at hb'
          subst hb'
          have hik : i = k := by omega
          subst hik
          refine ⟨hV, fun r u hr => ?_⟩
          have hrC : r < C := by
            rcases Nat.lt_or_ge r C with q | q
            · exact q
            · rw [List.getElem?_eq_none (by rw [hf]; exact q)] at hr; cases hr
          rw [← add_of_add, hat r hrC]
          exact hr
    obtain ⟨l, hlen, hall⟩ := key len (Nat.le_refl _)
    refine ⟨l, (List.range len).map fun i => Rows.uptoBulk (D i), hlen, by simp, ?_, ⟨by rw [flatn_len hf, hlen], fun hn => ?_⟩, hl, hm, fun i b hb => ⟨_, ?_, (hall i b hb).1⟩⟩
    · have := hsum ((List.range len).map D)
      rw [List.map_map] at this
      exact Nat.le_trans (Nat.le_of_eq this) hbA
    · have hcell : ∀ j u, (l.flatMap f)[j]? = some u → w.cell? (a.add j) = some u := by
        intro j u hj
        have hjl : j < l.length * C := by rw [← flatn_len hf]; exact (List.getElem?_eq_some_iff.1 hj).1
        have hd : j / C < l.length := Nat.div_lt_of_lt_mul (by rw [Nat.mul_comm]; exact hjl)
        have hfa := flatn_at hf l (j / C) (j % C) l[j / C] (List.getElem?_eq_getElem hd) ((f l[j / C])[j % C]'(by rw [hf]; exact Nat.mod_lt _ hpos)) (List.getElem?_eq_getElem _)
        rw [Nat.mul_comm, Nat.div_add_mod] at hfa
        have hu := hj.symm.trans hfa
        have := (hall _ _ (List.getElem?_eq_getElem hd)).2 (j % C) u (by rw [hu]; exact List.getElem?_eq_getElem _)
        rwa [Nat.mul_comm, Nat.div_add_mod] at this
      refine ⟨a, rfl, ?_, hcell⟩
      have h0 : 0 < (l.flatMap f).length := by rw [flatn_len hf, hlen]; exact Nat.mul_pos hn hpos
      have := World.block_lt_of_cell? w _ (hcell 0 _ (List.getElem?_eq_getElem h0))
      rwa [block_of_add] at this
    · have hi' : i < len := by
        rcases Nat.lt_or_ge i l.length with q | q
        · omega
        · rw [List.getElem?_eq_none q] at hb; cases hb
      rw [List.getElem?_map, List.getElem?_range hi']
      rfl
theorem sum_mem {x : Nat} : ∀ {l : List Nat}, x ∈ l → x ≤ l.sum
  | y :: l, h => by
    rw [List.sum_cons]
    rcases List.mem_cons.1 h with rfl | h
    · omega
    · have := sum_mem h; omega
theorem wl_bulk {b : Nat} {l : List (List UInt8)} (h : ∀ s ∈ l, s.length ≤ b) : wl l ≤ l.length * (b + 4) := by
  induction l with
  | nil => simp [wl]
  | cons s l ih =>
    have h1 := ih fun s hs => h s (List.mem_cons_of_mem _ hs)
    have h2 := h s (by simp)
    have e : wl (s :: l) = (s.length + 4) + wl l := by simp [wl]
    rw [e, List.length_cons, Nat.succ_mul]
    omega
theorem text_bulk {M : Nat} : ∀ {l : List HkI} {bs : List Nat}, l.length = bs.length → (∀ (i : Nat) a, l[i]? = some a → ∃ b, bs[i]? = some b ∧ HkSmall b a) → (∀ b ∈ bs, b ≤ M) → M ≤ 1000000000 → (hksT l).length ≤ 200 * l.length + bs.sum * (M + 4)
  | [], _, _, _, _, _ => by simp [hksT]
  | h :: l, [], e, _, _, _ => by simp at e
  | h :: l, b :: bs, e, ha, hM, hM9 => by
    have ih := text_bulk (l := l) (bs := bs) (by simpa using e) (fun i a hi => by simpa using ha (i + 1) a (by simpa using hi)) (fun b hb => hM b (List.mem_cons_of_mem _ hb)) hM9
    obtain ⟨b', e1, s1, s2, s3⟩ := ha 0 h rfl
    obtain rfl : b = b' := by simpa using e1
    have hbM := hM b (by simp)
    have h1 := hkT_wl (h := h) (by omega)
    have h2 := wl_bulk (l := h.ls) (b := M) fun s hs => Nat.le_trans (s3 s hs) hbM
    have h3 : h.ls.length * (M + 4) ≤ b * (M + 4) := Nat.mul_le_mul_right _ s2
    have e2 : hksT (h :: l) = hkT h ++ hksT l := by simp [hksT]
    rw [e2, List.length_append, List.length_cons, List.sum_cons, Nat.add_mul]
    omega
theorem len_sum : ∀ {bs : List Nat}, (∀ b ∈ bs, 1 ≤ b) → bs.length ≤ bs.sum
  | [], _ => by simp
  | b :: bs, h => by
    have h1 := len_sum (bs := bs) fun b hb => h b (List.mem_cons_of_mem _ hb)
    have h2 := h b (by simp)
    rw [List.length_cons, List.sum_cons]
    omega
theorem zip_back {α β : Type} : ∀ l : List (α × β), (l.map (·.1)).zip (l.map (·.2)) = l
  | [] => rfl
  | x :: l => by rw [List.map_cons, List.map_cons, List.zip_cons_cons, zip_back l]
section
variable {H : Type} {enc : TypeId × Value → H} {w : World} {base : Nat} {spare : Nat → Bool} {held : Bool}
theorem opened_hunksT {A : Option Addr} {len cap : Nat} {d : DataW H} {p : List MemPlace} (h : DataW.Trod enc Tryd.prog w base spare held 25 (.slice A len cap) d p) (hb : Rows.uptoBulk d ≤ 1048576) :
    ∃ l : List HkI, l.length = len ∧ HII w w.heap.size A l ∧ l.length ≤ cap ∧ cap ≤ maxLen ∧ l.length ≤ 1048576 ∧ (∀ x ∈ l, HkSmall 1048576 x) ∧ (hksT l).length ≤ 140737488355328 := by
  obtain ⟨fuel, hf⟩ := h
  have hf : DataW.trod enc Tryd.prog w base spare held fuel 25 [.slice A len cap] = some (d, p) := by simpa [Value.cells] using hf
  obtain ⟨l, bs, h1, h1', h1s, h2, h3, h4, h6⟩ := open_listS (f := fun x : HkI × Value × Value => hkI x.1 x.2.1 x.2.2) (V := fun x b => (RowsI w w.heap.size x.1 x.2.1 x.2.2 ∧ HkSmall b x.1) ∧ 1 ≤ b) Tryd.underlying25 cells_hunk (by decide) (fun _ => rfl) (fun _ _ y h => by
    obtain ⟨a, ha, hr⟩ := open_hunk (N := Rows.uptoBulk y.1) h (Nat.le_refl _)
    exact ⟨a, ha, hr, bulk_pos _⟩) hf
  subst h1
  have h1s : bs.sum ≤ 1048576 := Nat.le_trans h1s hb
  have hbM : ∀ b ∈ bs, b ≤ 1048576 := fun b hb => Nat.le_trans (sum_mem hb) h1s
  have hlb : l.length ≤ bs.sum := by
    have hall : ∀ b ∈ bs, 1 ≤ b := fun b hb => by
      obtain ⟨i, hi, rfl⟩ := List.mem_iff_getElem.1 hb
      obtain ⟨b', q1, _, q2⟩ := h6 i l[i] (List.getElem?_eq_getElem (by omega))
      rw [List.getElem?_eq_getElem hi] at q1
      injection q1 with q1
      omega
    rw [← h1']
    exact len_sum hall
  have hz : (l.map (·.1)).zip (l.map (·.2)) = l := zip_back l
  refine ⟨l.map (·.1), by simp, ⟨l.map (·.2), by simp, ?_, fun k x y z e1 e2 => ?_⟩, by simpa using h3, h4, by rw [List.length_map]; omega, fun x hx => ?_, ?_⟩
  · unfold hkIs
    rw [hz, List.length_map]
    exact h2
  · rw [List.getElem?_map, Option.map_eq_some_iff] at e1 e2
    obtain ⟨u, e3, rfl⟩ := e1
    obtain ⟨v, e4, e5⟩ := e2
    rw [e3] at e4
    injection e4 with e4
    subst e4
    obtain ⟨b, _, q, _⟩ := h6 k u e3
    have := q.1
    rw [e5] at this
    exact this
  · obtain ⟨u, hu, rfl⟩ := List.mem_map.1 hx
    obtain ⟨i, hi⟩ := List.getElem?_of_mem hu
    obtain ⟨b, q1, ⟨_, q2⟩, _⟩ := h6 i u hi
    have := hbM b (List.mem_of_getElem? q1)
    exact ⟨Nat.le_trans q2.n1 this, Nat.le_trans q2.n2 this, fun s hs => Nat.le_trans (q2.n3 s hs) this⟩
  · have := text_bulk (l := l.map (·.1)) (bs := bs) (M := 1048576) (by simp [h1']) (fun i a hi => by
      rw [List.getElem?_map, Option.map_eq_some_iff] at hi
      obtain ⟨u, e3, rfl⟩ := hi
      obtain ⟨b, q1, ⟨_, q2⟩, _⟩ := h6 i u e3
      exact ⟨b, q1, q2⟩) hbM (by decide)
    have h9 : bs.sum * (1048576 + 4) ≤ 1048576 * (1048576 + 4) := Nat.mul_le_mul_right _ h1s
    rw [List.length_map] at this
    omega
end
end Go.Proofs.YtlcidbbpjlpmjaaDoor
namespace Go.Proofs.YtlcidbbpjlpmjaaDoor
open Go.ChangeShapes Go.WideShapes Go.ChangeAt Go.RowKit
def laid3 : List (String × DataW Unit) := [("math/bits.deBruijn32tab", Rows.laid_math_bits_deBruijn32tab), ("math/bits.deBruijn64tab", Rows.laid_math_bits_deBruijn64tab), ("internal/strconv.uint64pow10", Rows.laid_internal_strconv_uint64pow10)]
theorem own : ownKnob Tryd.prog.godebug = none := by kernel_rfl
theorem laidOut : laidOutB Tryd.prog = true := by kernel_rfl
theorem tab_of_laid {W : World} (h : laidMetH Tryd.prog laid3 W) : Lib.TabIs Tryd.prog W "internal/strconv.uint64pow10" .u64 Lib.pow10Tab := by
  have h3 := h.filter (fun x => x.1 == "internal/strconv.uint64pow10")
  exact Lib.tabIs_of_head (rest := []) (k := .u64) (zs := Lib.pow10Tab) (P := Tryd.prog) (W := W) (name := "internal/strconv.uint64pow10") (g := 1) (t := 135) (e := 121) (n := 20) (by kernel_rfl) (by kernel_rfl) Tryd.underlying135 Tryd.underlying121 (by kernel_rfl) (by kernel_rfl) h3
theorem door_met3 (os : Os) (args : Array Value) : laidMet Tryd.prog laid3 ((World.doorLaid Tryd.prog 400 os).forCall (fun _ _ => 0) ⟨#[], args, []⟩).memory :=
  laidMet_of_run' 8 (by kernel_rfl) (by kernel_rfl)
end Go.Proofs.YtlcidbbpjlpmjaaDoor
namespace Go.Proofs.YtlcidbbpjlpmjaaDoor
open Go.ChangeShapes Go.WideShapes Go.ChangeAt Go.RowKit
def laid5 : List (String × DataW Unit) := [("math/bits.deBruijn32tab", Rows.laid_math_bits_deBruijn32tab), ("math/bits.deBruijn64tab", Rows.laid_math_bits_deBruijn64tab), ("internal/strconv.uint64pow10", Rows.laid_internal_strconv_uint64pow10), ("strconv.ErrRange", Rows.laid_strconv_ErrRange), ("strconv.ErrSyntax", Rows.laid_strconv_ErrSyntax)]
theorem tab_of_laid5 {W : World} (h : laidMetH Tryd.prog laid5 W) : Lib.TabIs Tryd.prog W "internal/strconv.uint64pow10" .u64 Lib.pow10Tab := by
  have h3 := h.filter (fun x => x.1 == "internal/strconv.uint64pow10")
  exact Lib.tabIs_of_head (rest := []) (k := .u64) (zs := Lib.pow10Tab) (P := Tryd.prog) (W := W) (name := "internal/strconv.uint64pow10") (g := 1) (t := 135) (e := 121) (n := 20) (by kernel_rfl) (by kernel_rfl) Tryd.underlying135 Tryd.underlying121 (by kernel_rfl) (by kernel_rfl) h3
theorem star_err : "*" ++ "errors.errorString" = "*errors.errorString" := by decide
theorem row_err (u : TypeId) (h : Tryd.prog.typeName? 3 u = some "*errors.errorString") : u = 150 :=
  typeName_ptr_named (nm := "errors.errorString") (by rw [star_err]; kernel_rfl) (by kernel_rfl) (by decide) u (by rw [star_err]; exact h)
theorem vars_of_laid5 {W : World} (h : laidMetH Tryd.prog laid5 W) (hS : W.ShapedOpen Tryd.prog) : VarsOK W := by
  have h3 := h.filter (fun x => x.1 == "strconv.ErrRange")
  have h2 := h.filter (fun x => x.1 == "strconv.ErrSyntax")
  obtain ⟨a3, s3, hv3, _⟩ := laid_sentinel (r := []) h3 (g := 3) (ti := 84) (tp := 150) (te := 152) (ts := 9) (by kernel_rfl) (by kernel_rfl) Tryd.underlying84 row_err Tryd.underlying150 Tryd.underlying152 rfl rfl Tryd.underlying9 (by kernel_rfl) (by kernel_rfl)
  obtain ⟨a2, s2, hv2, _⟩ := laid_sentinel (r := []) h2 (g := 2) (ti := 84) (tp := 150) (te := 152) (ts := 9) (by kernel_rfl) (by kernel_rfl) Tryd.underlying84 row_err Tryd.underlying150 Tryd.underlying152 rfl rfl Tryd.underlying9 (by kernel_rfl) (by kernel_rfl)
  have c3 := World.var?_cell (P := Tryd.prog) (n := "strconv.ErrRange") (show Tryd.prog.globalNamed "strconv.ErrRange" = some 3 by kernel_rfl) hv3 0
  have c2 := World.var?_cell (P := Tryd.prog) (n := "strconv.ErrSyntax") (show Tryd.prog.globalNamed "strconv.ErrSyntax" = some 2 by kernel_rfl) hv2 0
  refine ⟨cell_of_shapedOpen_int (t := 3) (zero := #[.int .i64 0]) hS (g := 0) (of_decide_eq_true (by kernel_rfl)) (by kernel_rfl) rfl (by kernel_rfl) (by kernel_rfl) Tryd.underlying3, ⟨_, _, by simpa using c2⟩, ⟨_, _, by simpa using c3⟩⟩
theorem door_met5 (os : Os) (args : Array Value) : laidMet Tryd.prog laid5 ((World.doorLaid Tryd.prog 400 os).forCall (fun _ _ => 0) ⟨#[], args, []⟩).memory :=
  laidMet_of_run' 8 (by kernel_rfl) (by kernel_rfl)
end Go.Proofs.YtlcidbbpjlpmjaaDoor
namespace Go.Proofs.YtlcidbbpjlpmjaaDoor
open Go.RowKit

def exA : List (List UInt8) := [[97, 10], [98, 10], [99, 10]]
def exB : List (List UInt8) := [[97, 10], [120, 10], [99, 10]]
def exH : HkI := ⟨0, 0, [⟨0, 1⟩, ⟨1, 1⟩, ⟨2, 1⟩, ⟨0, 1⟩], [[97, 10], [98, 10], [120, 10], [99, 10]]⟩
def exT : List UInt8 := [64, 64, 32, 45, 48, 44, 51, 32, 43, 48, 44, 51, 32, 64, 64, 10, 32, 97, 10, 45, 98, 10, 43, 120, 10, 32, 99, 10]
theorem ex_steps : steps exA exB = [0, 1, 2, 0] := by simp [exA, exB, steps, lcs_cons, lcs_nil_left, lcs_nil_right]
theorem ex_hunks0 : hunksP exA exB 1 = [⟨0, 0, [⟨0, 1⟩, ⟨1, 1⟩, ⟨2, 1⟩, ⟨0, 1⟩], [[97, 10], [98, 10], [120, 10], [99, 10]]⟩] := by
  unfold hunksP diffP
  rw [ex_steps]
  rfl
theorem ex_hunks : (hunksP exA exB 1).map HkD.toI = [exH] := by rw [ex_hunks0]; rfl
theorem size_alloc (w : World) (o : Obj) : (w.alloc o).heap.size = w.heap.size + 1 := by simp
theorem ex_text : hksT [exH] = exT := by
  have h0 : Lib.itoa 0 = [48] := by simp [Lib.itoa, Lib.decDigits]
  have h3 : Lib.itoa 3 = [51] := by simp [Lib.itoa, Lib.decDigits]
  have hm : mayP exH = some ⟨2, 1, 1⟩ := rfl
  have hb : bodyT exH.eds exH.ls = [32, 97, 10, 45, 98, 10, 43, 120, 10, 32, 99, 10] := rfl
  have hh : headT exH ⟨2, 1, 1⟩ = [64, 64, 32, 45, 48, 44, 51, 32, 43, 48, 44, 51, 32, 64, 64, 10] := by
    show [64, 64, 32, 45] ++ (Lib.itoa 0 ++ ([44] ++ (Lib.itoa 3 ++ ([32, 43] ++ (Lib.itoa 0 ++ ([44] ++ (Lib.itoa 3 ++ [32, 64, 64, 10]))))))) = _
    rw [h0, h3]
    rfl
  show hkT exH ++ [] = _
  unfold hkT
  rw [hm]
  show headT exH ⟨2, 1, 1⟩ ++ bodyT exH.eds exH.ls ++ [] = _
  rw [hh, hb]
  rfl
theorem ex_ok : [exH].all okH = true := by decide
set_option maxHeartbeats 1000000 in
set_option maxRecDepth 100000 in
theorem hunks_err (Aa Ab : Option Addr) (n m ca cb : Nat) (ar : Int) (har : ar < 0 ∨ 10 < ar) (w : World) :
    Calls Tryd.prog 13 #[.slice Aa n ca, .slice Ab m cb, .int .i64 ar] w fun r w' => r = .returned (.tuple #[.slice none 0 0, .int .i64 1]) ∧ w' = w := by
  rcases har with h | h
  · go_enter Tryd.func13, Tryd.ntmps13
    go_wp2_with fail
    go_ret2
    exact ⟨rfl, rfl⟩
  · have h2 : ¬ ar < 0 := by omega
    go_enter Tryd.func13, Tryd.ntmps13
    go_wp2_with fail
    go_ret2
    exact ⟨rfl, rfl⟩
set_option maxHeartbeats 1000000 in
set_option maxRecDepth 100000 in
theorem rhunks_err (Aa Ab : Option Addr) (n m ca cb : Nat) (ar : Int) (har : ar < 0 ∨ 10 < ar) (w : World) :
    Calls Tryd.prog 14 #[.slice Aa n ca, .slice Ab m cb, .int .i64 ar] w fun r w' => r = .returned (.tuple #[.slice none 0 0, .int .i64 1]) ∧ w' = w := by
  rcases har with h | h
  · go_enter Tryd.func14, Tryd.ntmps14
    go_wp2_with fail
    go_ret2
    exact ⟨rfl, rfl⟩
  · have h2 : ¬ ar < 0 := by omega
    go_enter Tryd.func14, Tryd.ntmps14
    go_wp2_with fail
    go_ret2
    exact ⟨rfl, rfl⟩
set_option maxHeartbeats 1000000 in
set_option maxRecDepth 100000 in
theorem known_any (w : World) (htab : Lib.TabIs Tryd.prog w "internal/strconv.uint64pow10" .u64 Lib.pow10Tab) :
    Calls Tryd.prog 11 #[] w fun r w' => r = .returned (.bool true) ∧ Below w.heap.size w w' := by
  have HTAB := Lib.hid (show ∀ W, Below w.heap.size w W → Lib.TabIs Tryd.prog W "internal/strconv.uint64pow10" .u64 Lib.pow10Tab from fun W k => Lib.tabBelow_of_tabIs htab W k)
  clear htab
  go_enter Tryd.func11, Tryd.ntmps11
  go_wp2_with fail
  have hsz : (w.alloc (.cells #[.string ⟨#[97, 10]⟩, .string ⟨#[98, 10]⟩, .string ⟨#[99, 10]⟩] 9)).heap.size = w.heap.size + 1 := size_alloc _ _
  have b1 := (Blk.new w 9 #[.string ⟨#[97, 10]⟩, .string ⟨#[98, 10]⟩, .string ⟨#[99, 10]⟩]).alloc (.cells #[.string ⟨#[97, 10]⟩, .string ⟨#[120, 10]⟩, .string ⟨#[99, 10]⟩] 9)
  have b2 := Blk.new (w.alloc (.cells #[.string ⟨#[97, 10]⟩, .string ⟨#[98, 10]⟩, .string ⟨#[99, 10]⟩] 9)) 9 #[.string ⟨#[97, 10]⟩, .string ⟨#[120, 10]⟩, .string ⟨#[99, 10]⟩]
  rw [hsz] at b2
  have hk0 : Keep Nothing w ((w.alloc (.cells #[.string ⟨#[97, 10]⟩, .string ⟨#[98, 10]⟩, .string ⟨#[99, 10]⟩] 9)).alloc (.cells #[.string ⟨#[97, 10]⟩, .string ⟨#[120, 10]⟩, .string ⟨#[99, 10]⟩] 9)) := ((Keep.refl _ w).alloc _).alloc _
  generalize (w.alloc (.cells #[.string ⟨#[97, 10]⟩, .string ⟨#[98, 10]⟩, .string ⟨#[99, 10]⟩] 9)).alloc (.cells #[.string ⟨#[97, 10]⟩, .string ⟨#[120, 10]⟩, .string ⟨#[99, 10]⟩] 9) = w2 at *
  have r1 : Reads w2 (w.heap.size + 2) 1 (some ⟨w.heap.size, 0, none⟩) exA.length (strL exA) := (Reads.of_blk (size := 1) (n := 3) b1 rfl rfl).more (by omega)
  have r2 : Reads w2 (w.heap.size + 2) 1 (some ⟨w.heap.size + 1, 0, none⟩) exB.length (strL exB) := Reads.of_blk (size := 1) (n := 3) b2 rfl rfl
  have hw2 := b2.lt
  refine (hunks_any exA exB (some ⟨w.heap.size, 0, none⟩) (some ⟨w.heap.size + 1, 0, none⟩) 3 3 (w.heap.size + 2) 1 w2 r1 r2 (by omega) (by decide) (by decide) (by decide) (by decide) (by decide) (by decide) (by decide)).mono ?_
  rintro r w3 ⟨A, cp, rfl, hcp1, hcp2, hin, bel⟩
  have hI := hin.toI
  have hln : (hunksP exA exB 1).length = 1 := by rw [ex_hunks0]; rfl
  rw [ex_hunks] at hI
  rw [hln]
  clear hin hln
  have b3 : Below w.heap.size w w3 := hk0.all.trans (bel.mono (by omega))
  have ht : textR [exH] = .tuple #[.string ⟨#[64, 64, 32, 45, 48, 44, 51, 32, 43, 48, 44, 51, 32, 64, 64, 10, 32, 97, 10, 45, 98, 10, 43, 120, 10, 32, 99, 10]⟩, .int .i64 0] := by
    unfold textR
    rw [if_pos ex_ok, ex_text]
    rfl
  have HQ := text_any [exH] A cp w3.heap.size w3 (Nat.le_refl _) hI (by decide) (by intro h hh; simp at hh; subst hh; exact ⟨by decide, by decide, by decide⟩) (by rw [ex_text]; decide) (HTAB.out _ b3)
  rw [ht] at HQ
  have HQ := Lib.hid HQ
  clear ht hI r1 r2 b1 b2
  go_wp2_with (go_at_call 25; refine HQ.out.mono ?_)
  rintro _ w4 ⟨rfl, b4⟩
  go_wp2_with fail
  go_ret
  exact ⟨rfl, b3.trans (b4.mono b3.size)⟩
end Go.Proofs.YtlcidbbpjlpmjaaDoor
namespace Go.Proofs.YtlcidbbpjlpmjaaDoor
open Go.RowKit

/-- How much hunks are, as the law counts it. -/
def sumH (l : List HkI) : Nat := (l.map fun h => h.eds.length + h.ls.length).sum
def fewH (l : List HkI) : Bool := (l.take 50).all (fun h => decide (fewN h.ls < 120)) && decide (l.length + sumH (l.take 50) < 300)
theorem sumH_next {l : List HkI} {k : Nat} {h : HkI} (hx : l[k]? = some h) : sumH (l.take (k + 1)) = sumH (l.take k) + (h.eds.length + h.ls.length) := by
  unfold sumH
  rw [List.take_add_one, hx]
  simp
theorem sumH_le {l : List HkI} {M : Nat} (h : ∀ s ∈ l, s.eds.length ≤ M ∧ s.ls.length ≤ M) : sumH l ≤ l.length * (2 * M) := by
  induction l with
  | nil => simp [sumH]
  | cons s l ih =>
    have h1 := ih fun t ht => h t (List.mem_cons_of_mem _ ht)
    have h2 := h s List.mem_cons_self
    unfold sumH at h1 ⊢
    rw [List.map_cons, List.sum_cons, List.length_cons, Nat.succ_mul]
    omega
set_option maxHeartbeats 4000000 in
set_option maxRecDepth 100000 in
theorem fewh_any (l : List HkI) (A : Option Addr) (c B : Nat) (w : World) (hr : HII w B A l) (hl : l.length ≤ 1048576) (hls : ∀ h ∈ l, h.eds.length ≤ 1048576 ∧ h.ls.length ≤ 1048576 ∧ ∀ s ∈ h.ls, s.length ≤ 1048576) :
    Calls Tryd.prog 16 #[.slice A l.length c] w fun r w' => r = .returned (.bool (fewH l)) ∧ ∃ n, w' = w.drewN n := by
  have HR := Lib.hid hr
  have HLS := Lib.hid hls
  clear hr hls
  go_enter Tryd.func16, Tryd.ntmps16
  go_wp2_with fail
  go_loopw [3, 4] (fun s3 s4 wr => ∃ k n : Nat, k ≤ l.length ∧ k ≤ 50 ∧ s3 = .int .i64 (l.length + sumH (l.take k) : Nat) ∧ s4 = .int .i64 (k : Nat) ∧ wr = w.drewN n ∧ (l.take k).all (fun h => decide (fewN h.ls < 120)) = true) (fun _ s4 _ => l.length - (intOf s4).toNat)
  case atStart => exact ⟨0, 0, Nat.zero_le _, Nat.zero_le _, by simp [sumH], rfl, rfl, rfl⟩
  case round =>
    obtain ⟨k, n, hk, hk2, rfl, rfl, rfl, hall⟩ := hrel
    have hs := sumH_le (l := l.take k) (M := 1048576) (fun s hs => ⟨(HLS.out s (List.mem_of_mem_take hs)).1, (HLS.out s (List.mem_of_mem_take hs)).2.1⟩)
    have hs2 : (l.take k).length ≤ 50 := by rw [List.length_take]; omega
    have hs3 : sumH (l.take k) ≤ 209715200 := by
      have := Nat.mul_le_mul_right (2 * 1048576) hs2
      omega
    have HALL := Lib.hid hall
    clear hs hs2 hall
    by_cases hlt : k < l.length
    · have hi1 : (k : Int) < (l.length : Int) := by omega
      by_cases h2 : k < 50
      · obtain ⟨x, hx⟩ : ∃ x, l[k]? = some x := ⟨_, List.getElem?_eq_getElem hlt⟩
        obtain ⟨g1, o1, EA, ec, LA, lc, rfl, _, _, _, a2, a3, _, hlc, _, _, a5⟩ := HR.out.at_ hx
        obtain ⟨b1, b2, b3⟩ := HLS.out x (List.mem_of_getElem? hx)
        have HN := Lib.hid (sumH_next hx)
        have HT := Lib.hid (show l.take (k + 1) = l.take k ++ [x] from by rw [List.take_add_one, hx]; rfl)
        have hi0 : (0 : Int) ≤ (k : Int) := Int.natCast_nonneg _
        have hi2 : (k : Int) < 50 := by omega
        have HF := Lib.hid (fun W (hW : ∃ q, W = w.drewN q) => few_any x.ls LA lc B W (by obtain ⟨q, rfl⟩ := hW; exact a5.drewN q) b2 b3)
        have HX := Lib.hid hx
        clear hx a5
        generalize sumH (l.take k) = S at *
        have w1 : IntKind.i64.wrap (((l.length : Int) + (S : Int)) + (x.eds.length : Int)) = ((l.length : Int) + (S : Int)) + (x.eds.length : Int) := IntWalk.i64_in _ (by omega)
        have w2 : IntKind.i64.wrap (((l.length : Int) + (S : Int)) + (x.eds.length : Int) + (x.ls.length : Int)) = ((l.length : Int) + (S : Int)) + (x.eds.length : Int) + (x.ls.length : Int) := IntWalk.i64_in _ (by omega)
        go_upto_region 5 with fail
        go_quiet (fail)
        have a3' : w.cell? ⟨g1, o1 + k * 4 + 3, none⟩ = some (.slice LA x.ls.length lc) := a3
        cases hf : decide (fewN x.ls < 120)
        case true =>
          rw [hf] at HF
          go_wp2_with (go_at_call 12; refine (HF.out _ ⟨n + nq, rfl⟩).mono ?_)
          rintro _ _ ⟨rfl, m, rfl⟩
          go_wp2_with fail
          go_roundw
          case rel => exact ⟨k + 1, n + nq + m, by omega, by omega, by rw [HN.out]; go_num, by go_num, rfl, by rw [HT.out, List.all_append, HALL.out]; simp; exact of_decide_eq_true hf⟩
          case measure => simp [intOf]; omega
        case false =>
          rw [hf] at HF
          have HFF := Lib.hid (show fewH l = false from by
            unfold fewH
            rw [show (l.take 50).all (fun h => decide (fewN h.ls < 120)) = false from by
              rw [List.all_eq_false]
              exact ⟨x, List.mem_of_getElem? (by rw [List.getElem?_take, if_pos h2]; exact HX.out), by rw [hf]; simp⟩]
            rfl)
          go_wp2_with (go_at_call 12; refine (HF.out _ ⟨n + nq, rfl⟩).mono ?_)
          rintro _ _ ⟨rfl, m, rfl⟩
          go_wp2_with fail
          go_ret
          exact ⟨by rw [HFF.out]; rfl, n + nq + m, rfl⟩
      · obtain rfl : k = 50 := by omega
        have HF := Lib.hid (show fewH l = decide (l.length + sumH (l.take 50) < 300) from by unfold fewH; rw [HALL.out]; rfl)
        generalize sumH (l.take 50) = S at *
        go_wp2_with fail
        go_ret
        exact ⟨by rw [HF.out, show decide (l.length + S < 300) = decide ((l.length : Int) + (S : Int) < 300) from decide_eq_decide.2 (by omega)]; rfl, n, rfl⟩
    · obtain rfl : k = l.length := by omega
      have HF := Lib.hid (show fewH l = decide (l.length + sumH (l.take l.length) < 300) from by unfold fewH; rw [List.take_of_length_le (by omega : l.length ≤ 50), show l.all _ = true from by have := HALL.out; rwa [List.take_length] at this, List.take_length]; rfl)
      generalize sumH (l.take l.length) = S at *
      go_wp2_with fail
      go_ret
      exact ⟨by rw [HF.out, show decide (l.length + S < 300) = decide ((l.length : Int) + (S : Int) < 300) from decide_eq_decide.2 (by omega)]; rfl, n, rfl⟩
end Go.Proofs.YtlcidbbpjlpmjaaDoor
namespace Go.Proofs.YtlcidbbpjlpmjaaDoor
open Go.ChangeShapes Go.WideShapes Go.ChangeAt Go.RowKit

theorem bdrew {B : Nat} {w w1 : World} (h : Below B w w1) (hB : B ≤ w1.heap.size) (n : Nat) : Below B w (w1.drewN n) := h.trans (((Keep.refl Nothing w1).drewN n).all.mono hB)
theorem textR_eq (l : List HkI) : ∃ (T : List UInt8) (e : Int), textR l = .tuple #[.string ⟨T.toArray⟩, .int .i64 e] := by
  unfold textR
  split
  · exact ⟨_, _, rfl⟩
  · exact ⟨[], _, rfl⟩
set_option maxHeartbeats 8000000 in
set_option maxRecDepth 100000 in
theorem texts_law (l : List HkI) (A : Option Addr) (c : Nat) (s : List UInt8) (w : World) (hr : HII w w.heap.size A l) (hl : l.length ≤ 1048576) (hls : ∀ h ∈ l, HkSmall 1048576 h) (hT : (hksT l).length ≤ 140737488355328) (hsl : s.length ≤ 1048576) (hvo : VarsOK w) (htab : Lib.TabIs Tryd.prog w "internal/strconv.uint64pow10" .u64 Lib.pow10Tab) :
    Calls Tryd.prog 8 #[.slice A l.length c, .string ⟨s.toArray⟩] w fun r w' => r = .returned (.bool true) ∧ Below w.heap.size w w' := by
  have HK := Lib.hid (known_any w htab)
  have HV := Lib.hid (show ∀ W, Below w.heap.size w W → VarsOK W from fun W k => hvo.below k)
  have HTAB := Lib.hid (show ∀ W, Below w.heap.size w W → Lib.TabIs Tryd.prog W "internal/strconv.uint64pow10" .u64 Lib.pow10Tab from fun W k => Lib.tabBelow_of_tabIs htab W k)
  have HR := Lib.hid (show ∀ W, Below w.heap.size w W → HII W w.heap.size A l from fun W k => hr.below k)
  have HF := Lib.hid (fun W (k : Below w.heap.size w W) => fewh_any l A c w.heap.size W (HR.out W k) hl (fun h hh => ⟨(hls h hh).n1, (hls h hh).n2, (hls h hh).n3⟩))
  have HT1 := Lib.hid (show ∀ W, Below w.heap.size w W → Calls Tryd.prog 25 #[.slice A l.length c] W fun r w' => r = .returned (textR l) ∧ Below W.heap.size W w' from fun W k =>
    text_any l A c w.heap.size W k.size (HR.out W k) (by omega) (fun h hh => ⟨by have := (hls h hh).n1; omega, by have := (hls h hh).n2; omega, fun s hs => by have := (hls h hh).n3 s hs; omega⟩) hT (HTAB.out W k))
  have HT2 := Lib.hid (show ∀ W, Below w.heap.size w W → Calls Tryd.prog 17 #[.slice A l.length c] W fun r w' => r = .returned (textR l) ∧ Keep Nothing W w' from fun W k =>
    rtext_any l A c w.heap.size W k.size (HR.out W k) (by omega) (fun h hh => ⟨by have := (hls h hh).n1; omega, by have := (hls h hh).n2; omega, fun s hs => by have := (hls h hh).n3 s hs; omega⟩) (by omega))
  obtain ⟨T, e, hTe⟩ := textR_eq l
  rw [hTe] at HT1 HT2
  clear hr hls htab hvo hT hTe HR
  go_enter Tryd.func8, Tryd.ntmps8
  go_wp2_with (go_at_call 11; refine HK.out.mono ?_)
  rintro _ w1 ⟨rfl, b1⟩
  cases hf : fewH l
  case false =>
    rw [hf] at HF
    go_wp2_with (go_at_call 16; refine (HF.out _ b1).mono ?_)
    rintro _ _ ⟨rfl, n, rfl⟩
    go_wp2_with fail
    go_ret
    exact ⟨rfl, bdrew b1 b1.size n⟩
  rw [hf] at HF
  have hsi : (s.length : Int) ≤ 1048576 := by omega
  by_cases hm : s.length ≤ 3000
  case neg =>
    have hm0 : decide (3000 < s.length) = true := decide_eq_true (by omega)
    have hm1 : decide ((3000 : Int) < (s.length : Int)) = true := decide_eq_true (by omega)
    go_wp2_with (go_at_call 16; refine (HF.out _ b1).mono ?_)
    rintro _ _ ⟨rfl, n, rfl⟩
    go_wp2_with fail
    go_ret
    exact ⟨rfl, bdrew b1 b1.size n⟩
  have hm0 : decide (3000 < s.length) = false := decide_eq_false (by omega)
  have hm1 : decide ((3000 : Int) < (s.length : Int)) = false := decide_eq_false (by omega)
  go_upto_region 5 with (go_at_call 16; refine (HF.out _ b1).mono ?_)
  rintro _ _ ⟨rfl, n, rfl⟩
  go_upto_region 5 with fail
  have b2 := bdrew b1 b1.size n
  clear HF b1 hf
  generalize w1.drewN n = w2 at *
  have hz2 := b2.size
  go_upto_region 6 with (go_at_call 25; refine (HT1.out _ b2).mono ?_)
  rintro _ w3 ⟨rfl, b3⟩
  have b23 := b2.trans (b3.mono hz2)
  have hz3 := b23.size
  go_upto_region 6 with fail
  clear b2 b3 HT1
  go_upto_region 7 with (go_at_call 17; refine (HT2.out _ b23).mono ?_)
  rintro _ w4 ⟨rfl, k4⟩
  have b24 := b23.trans (k4.below hz3 (fun _ _ h => h))
  have hz4 := b24.size
  go_upto_region 7 with fail
  clear b23 k4 HT2
  have HP := Lib.hid (parse_any s w4 (by omega) (HV.out _ b24) (HTAB.out _ b24))
  have HRS := Lib.hid (read_same s (by omega))
  have HQ := Lib.hid (show ∀ W, Calls Tryd.prog 27 #[.string ⟨s.toArray⟩] W (ParseR (resQ (readQ s []) s) W) from fun W => by
    have := rparse_any s W (by omega)
    rwa [HRS.out] at this)
  have HRM := Lib.hid (fun (l : List HkI) (h : resQ (readQ s []) s = some l) => resQ_small h)
  have HB4 := Lib.hid b24
  clear b24
  generalize resQ (readQ s []) s = R at *
  have hTT : (T == T) = true := beq_self_eq_true _
  cases R with
  | none =>
    go_upto_region 8 with (go_at_call 26; refine HP.out.mono ?_)
    rintro _ w5 ⟨b5, rfl⟩
    go_upto_region 8 with fail
    go_upto_region 9 with (go_at_call 27; refine (HQ.out _).mono ?_)
    rintro _ w6 ⟨b6, rfl⟩
    have HB6 := Lib.hid (HB4.out.trans ((b5.trans (b6.mono b5.size)).mono hz4))
    have HS := Lib.hid (sameHunks_refl [] none none 0 0 w6.heap.size w6 (HII.nil_ _ _ _) (HII.nil_ _ _ _) (by decide) (fun _ h => by cases h))
    go_upto_region 9 with fail
    go_wp2_with (go_at_call 15; refine HS.out.mono ?_)
    rintro _ _ ⟨rfl, k, rfl⟩
    go_wp2_with fail
    go_ret
    exact ⟨rfl, bdrew HB6.out HB6.out.size k⟩
  | some q =>
    obtain ⟨q1, q2⟩ := HRM.out q rfl
    go_upto_region 8 with (go_at_call 26; refine HP.out.mono ?_)
    rintro _ w5 ⟨b5, A5, c5, rfl, i5⟩
    go_upto_region 8 with fail
    go_upto_region 9 with (go_at_call 27; refine (HQ.out _).mono ?_)
    rintro _ w6 ⟨b6, A6, c6, rfl, i6⟩
    have HB6 := Lib.hid (HB4.out.trans ((b5.trans (b6.mono b5.size)).mono hz4))
    have HS := Lib.hid (sameHunks_refl q A5 A6 c5 c6 w6.heap.size w6 ((i5.below b6).more b6.size) i6 (by omega) (i6.small q2))
    clear i5 i6
    go_upto_region 9 with fail
    go_wp2_with (go_at_call 15; refine HS.out.mono ?_)
    rintro _ _ ⟨rfl, k, rfl⟩
    go_wp2_with fail
    go_ret
    exact ⟨rfl, bdrew HB6.out HB6.out.size k⟩
set_option maxRecDepth 100000 in
theorem patchTexts_reads (os : Os) {H : Type} (enc : TypeId × Value → H) : DataW.whole enc Tryd.prog ((World.doorLaid Tryd.prog 400 os).forCall (fun _ _ => 0) ⟨#[], #[.slice none 0 0, .string ⟨#[]⟩], []⟩).memory Tryd.f8.params.toList Rows.patchTextsSpec.vars false (#[.slice none 0 0, .string ⟨#[]⟩] : Array Value).toList 8 = some ([.nil, .lit (.string [])], [], []) := by kernel_rfl
set_option maxRecDepth 100000 in
theorem patchTexts_lifted (os : Os) (started : os.Started) (H : Type) (enc : TypeId × Value → H) (F : Stop.Interp) :
    ReturnsInHanded {} Tryd.checked os 8 .any ((Rows.OpenSpec.upto Rows.patchTextsSpec).preRow enc Tryd.prog Tryd.f8 Rows.patchTextsUptoRow.domain false Rows.patchTextsUptoRow.laid) (((Rows.OpenSpec.upto Rows.patchTextsSpec).at F).post enc Tryd.prog Tryd.f8 false true false false) := by
  refine returnsInHanded_of_row (C := Tryd.checked) (s := Rows.OpenSpec.upto Rows.patchTextsSpec) own started (by kernel_rfl) Tryd.func8
    (witness_row_at (enc := enc) (C := Tryd.checked) false (World.doorLaid Tryd.prog 400 os) #[.slice none 0 0, .string ⟨#[]⟩] rfl (by kernel_rfl) (by kernel_rfl) (by kernel_rfl)
      (OpenSpec.preRow_of_cond 8 (patchTexts_reads os enc) (by kernel_rfl) (fun k hk => by cases hk; kernel_rfl) (by kernel_rfl) (door_met5 os _))) ?_
  intro W base args ds gs before hval0 hW hx1 hcond hx3 hL hx4 hx5
  have hval : ∀ (j : Nat) t v, Tryd.f8.params[j]? = some t → args[j]? = some v → Value.okWide Tryd.prog W .any base t v := hval0
  have hW' := hW
  obtain ⟨p, q, hA0, hV, rfl, hfz, hnd⟩ := hW
  have hA : DataW.TrodAll enc Tryd.prog W 0 (fun _ => true) true Tryd.f8.params.toList args.toList ds p := hA0
  rw [Tryd.params8] at hA hval
  obtain ⟨v0, vs0, d0, ds0, p0, q0, hargs, rfl, rfl, h0, r0⟩ := trodAll_cons hA
  obtain ⟨v1, vs1, d1, ds1, p1, q1, rfl, rfl, rfl, h1, r1⟩ := trodAll_cons r0
  obtain ⟨rfl, rfl, rfl⟩ := trodAll_nil r1
  obtain rfl : args = #[v0, v1] := by cases args; simp_all
  obtain ⟨rfl, rfl⟩ := trodVars_none hV
  have k0 := h0
  have lt0 : ∀ x ∈ p0, x.block < W.heap.size := by obtain ⟨m, hm⟩ := k0; exact DataW.trod_lt m _ _ _ hm
  have k1 := h1
  have lt1 : ∀ x ∈ p1, x.block < W.heap.size := by obtain ⟨m, hm⟩ := k1; exact DataW.trod_lt m _ _ _ hm
  have hbd := Nat.le_trans (Nat.le_refl _) (of_decide_eq_true (hcond _ rfl))
  simp only [Rows.uptoBulkAll, List.append_nil] at hbd
  obtain ⟨a0, len0, cap0, rfl⟩ := okWide_slice Tryd.underlying25 (hval 0 25 v0 rfl rfl)
  obtain ⟨l0, hl0, hr0, hc0, hm0, hn0, hs0, ht0⟩ := opened_hunksT h0 (by omega)
  subst hl0
  obtain ⟨l1, rfl, hn1⟩ := opened_string (N := 1048576) (hval 1 9 v1 rfl rfl) h1 (by omega)
  clear hA0 hval0
  refine (texts_law l0 a0 cap0 l1 W hr0 hn0 hs0 ht0 hn1 (vars_of_laid5 hL hx4) (tab_of_laid5 hL)).mono fun e W' ⟨he, bel⟩ => ?_
  subst he
  exact ⟨_, rfl, _, _, _, [], _, [], hW', trodAll_mk1 (shut_bool Tryd.underlying4 _), (trodAll_cons_mk (Below.trod laidOut (by kernel_rfl) (of_decide_eq_true (by kernel_rfl)) k0 bel lt0) (trodAll_cons_mk (Below.trod laidOut (by kernel_rfl) (of_decide_eq_true (by kernel_rfl)) k1 bel lt1) trodAll_mk0)), rfl, bel.frame _, fun h => by cases h⟩
theorem patchTexts_said : Rows.PatchTextsUptoSaid :=
  OpenClaim.holds_of_cond 8 Tryd.f8 rfl rfl rfl rfl rfl rfl rfl ⟨rfl, rfl, rfl, rfl, rfl⟩ rfl rfl rfl rfl rfl (by kernel_rfl) Tryd.func8 (by kernel_rfl)
    (of_decide_eq_true (by kernel_rfl)) (by unfold Func.isWrapper; first | (rw [if_pos (by decide +kernel)]; kernel_rfl) | (rw [if_neg (by decide +kernel)]; exact ⟨rfl, rfl⟩))
    (fun os started H enc _ F => by rw [OpenClaim.pre_eq_preRow]; exact patchTexts_lifted os started H enc F)
theorem patchTexts_plain (f : FuncId) (fn : Func) (hf : Tryd.pinned.checked.prog.funcNamed "selvage/selvagelaw13.PatchTexts" = some f) (hfn : Tryd.pinned.checked.prog.funcs[f]? = some fn) :
    true = Tryd.pinned.checked.prog.looks [] ∧ ∀ (j : Nat) t, fn.params[j]? = some t → Tryd.pinned.checked.prog.wantsStandIn t = false := by
  obtain rfl : f = 8 := Option.some.inj ((show Tryd.prog.funcNamed "selvage/selvagelaw13.PatchTexts" = some 8 by kernel_rfl).symm.trans hf) |>.symm
  obtain rfl : fn = Tryd.f8 := (Option.some.inj (Tryd.func8.symm.trans hfn)).symm
  refine ⟨by kernel_rfl, fun j t ht => ?_⟩
  rw [Tryd.params8] at ht
  have hm := Array.mem_of_getElem? ht
  simp only [Array.mem_toList_iff.symm, List.mem_cons, List.not_mem_nil, or_false] at hm
  rcases hm with rfl | rfl
  · exact (show Tryd.prog.wantsStandIn 25 = false by kernel_rfl)
  · exact (show Tryd.prog.wantsStandIn 9 = false by kernel_rfl)
theorem patchTexts_holds : Rows.PatchTextsUptoCardSaid :=
  Claim7.holds_tied_plain_at .later [] _ _ _ _ patchTexts_said (fun _ h => by cases h) (by kernel_rfl) (fun _ h => by cases h) patchTextsUpto_row_tie rfl ⟨rfl, rfl⟩ (by kernel_rfl) rfl patchTexts_plain (by kernel_rfl)
#print axioms patchTexts_holds
end Go.Proofs.YtlcidbbpjlpmjaaDoor
