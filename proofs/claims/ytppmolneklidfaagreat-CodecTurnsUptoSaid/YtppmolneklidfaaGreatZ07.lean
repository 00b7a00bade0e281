/-
  Texts of the codec joined (Open, Row0, LawTrees, Com, OpenCom, Grd). No statement of the seat is proved here.
-/
import Derived.Test.YtppmolneklidfaaGreatZ06
import Derived.ProofKit
import Derived.OpenShut
import Derived.Deep.Slices
import Derived.ShutString
import Derived.ChangeOld
import Derived.Below
import Derived.Deep.LoopGhost
namespace Go.Proofs.YtppmolneklidfaaGreat
open Go.ChangeShapes Go.WideShapes Go.ChangeAt Go.RowKit Go.Deep

section
variable {α : Type} {f : α → List Value} {C : Nat}
theorem flat_len (hf : ∀ a, (f a).length = C) : ∀ l : List α, (l.flatMap f).length = l.length * C
  | [] => by simp
  | a :: l => by rw [List.flatMap_cons, List.length_append, hf, flat_len hf l, List.length_cons, Nat.succ_mul, Nat.add_comm]
theorem flat_get (hf : ∀ a, (f a).length = C) (hC : 0 < C) : ∀ (l : List α) (j : Nat), (l.flatMap f)[j]? = (l[j / C]?).bind fun a => (f a)[j % C]?
  | [], j => by simp
  | a :: l, j => by
    rw [List.flatMap_cons]
    rcases Nat.lt_or_ge j C with h | h
    · rw [List.getElem?_append_left (by rw [hf]; exact h), Nat.div_eq_of_lt h, Nat.mod_eq_of_lt h]
      rfl
    · rw [List.getElem?_append_right (by rw [hf]; exact h), hf, flat_get hf hC l (j - C)]
      obtain ⟨k, rfl⟩ := Nat.exists_eq_add_of_le h
      rw [Nat.add_sub_cancel_left, Nat.add_div_left _ hC, Nat.add_mod_left]
      rfl
end

section
variable {H : Type} {enc : TypeId × Value → H} {P : Program} {w : World} {base : Nat} {spare : Nat → Bool} {held : Bool}
/-- A slice that came in, its elements opened one by one. -/
theorem open_list {α : Type} {f : α → List Value} {C : Nat} {V : α → Prop} {t e : TypeId} {A : Option Addr} {len cap : Nat} {fuel : Nat} {x : DataW H × List MemPlace} (ht : P.underlying t = some (.slice e)) (hC : P.cellsOf e = C) (hpos : 0 < C) (hf : ∀ a, (f a).length = C)
    (hopen : ∀ (n : Nat) (cs : List Value) (y : DataW H × List MemPlace), DataW.trod enc P w base spare held n e cs = some y → ∃ a, cs = f a ∧ V a)
    (h : DataW.trod enc P w base spare held fuel t [.slice A len cap] = some x) : ∃ l : List α, l.length = len ∧ Reads w w.heap.size C A len (l.flatMap f) ∧ len ≤ cap ∧ cap ≤ maxLen ∧ ∀ a ∈ l, V a := by
  rcases open_slice ht h with ⟨hcs, _⟩ | ⟨a, len', cap', m, n, D, Pl, hcs, _, hl, hm, hmm, _, hi⟩
  · simp at hcs
    obtain ⟨rfl, rfl, rfl⟩ := hcs
    exact ⟨[], rfl, Reads.none_, Nat.le_refl _, Nat.zero_le _, by simp⟩
  · simp at hcs
    obtain ⟨rfl, rfl, rfl⟩ := hcs
    rw [hC] at hi
    have hlm : len ≤ m := by rw [hmm]; split <;> omega
    have key : ∀ k, k ≤ len → ∃ l : List α, l.length = k ∧ (∀ i b, l[i]? = some b → V b ∧ ∀ r u, (f b)[r]? = some u → w.cell? (a.add (i * C + r)) = some u) := by
      intro k
      induction k with
      | zero => exact fun _ => ⟨[], rfl, by simp⟩
      | succ k ih =>
        intro hk
        obtain ⟨l, hlen, hall⟩ := ih (by omega)
        obtain ⟨cs', hcells, htr⟩ := hi k (by omega)
        obtain ⟨b, rfl, hV⟩ := hopen n cs' _ htr
        obtain ⟨_, _, hat⟩ := World.cells?_some hcells
        refine ⟨l ++ [b], by simp [hlen], fun i b' hb' => ?_⟩
        rcases Nat.lt_or_ge i l.length with hlt | hge
        · rw [List.getElem?_append_left hlt] at hb'
          exact hall i b' hb'
        · rw [List.getElem?_append_right hge] at hb'
          have h0 : i - l.length = 0 := by
            rcases Nat.eq_zero_or_pos (i - l.length) with q | q
            · exact q
            · rw [List.getElem?_eq_none (by simp; omega)] at hb'; cases hb'
          rw [h0] at hb'
          simp at hb'
          subst hb'
          refine ⟨hV, fun r u hr => ?_⟩
          have hik : i = k := by omega
          subst hik
          have hrC : r < C := by
            rcases Nat.lt_or_ge r C with q | q
            · exact q
            · rw [List.getElem?_eq_none (by rw [hf]; exact q)] at hr; cases hr
          rw [← add_of_add, hat r hrC]
          exact hr
    obtain ⟨l, hlen, hall⟩ := key len (Nat.le_refl _)
    refine ⟨l, hlen, ⟨by rw [flat_len hf, hlen], fun hn => ?_⟩, hl, hm, fun b hb => ?_⟩
    · have hcell : ∀ j u, (l.flatMap f)[j]? = some u → w.cell? (a.add j) = some u := by
        intro j u hj
        rw [flat_get hf hpos] at hj
        cases hb : l[j / C]? with
        | none => rw [hb] at hj; cases hj
        | some b =>
          rw [hb] at hj
          have := (hall _ b hb).2 _ u hj
          rwa [Nat.mul_comm, Nat.div_add_mod] at this
      refine ⟨a, rfl, ?_, hcell⟩
      have h0 : 0 < (l.flatMap f).length := by rw [flat_len hf, hlen]; exact Nat.mul_pos hn hpos
      have := World.block_lt_of_cell? w _ (hcell 0 _ (List.getElem?_eq_getElem h0))
      rwa [block_of_add] at this
    · obtain ⟨i, hi', rfl⟩ := List.mem_iff_getElem.1 hb
      exact (hall i _ (List.getElem?_eq_getElem hi')).1
end

/-! ### Bytes, Ids, entries -/
section
variable {H : Type} {enc : TypeId × Value → H} {w : World} {base : Nat} {spare : Nat → Bool} {held : Bool}
theorem open_byte {n : Nat} {cs : List Value} {y : DataW H × List MemPlace} (h : DataW.trod enc Tryz.prog w base spare held n 5 cs = some y) : ∃ a : UInt8, cs = [bv a] ∧ True := by
  obtain ⟨v, rfl, _, hw⟩ := DataW.trod_int Tryz.underlying5 h
  have hb : 0 ≤ v ∧ v ≤ 255 := by simpa [Lit.wf, IntKind.min, IntKind.max, IntKind.signed, IntKind.bits] using hw
  obtain ⟨k, rfl⟩ := Int.eq_ofNat_of_zero_le hb.1
  refine ⟨UInt8.ofNat k, ?_, trivial⟩
  unfold bv
  rw [UInt8.toNat_ofNat', Nat.mod_eq_of_lt (by omega)]
theorem flat_bv (l : List UInt8) : l.flatMap (fun a => [bv a]) = l.map bv := by
  induction l with
  | nil => rfl
  | cons a l ih => rw [List.flatMap_cons, ih]; rfl
theorem cells_u8 : Tryz.prog.cellsOf 5 = 1 := by kernel_rfl
theorem cells_id : Tryz.prog.cellsOf 24 = 32 := by kernel_rfl
theorem cells_ent : Tryz.prog.cellsOf 58 = 34 := by kernel_rfl
theorem open_bytes {A : Option Addr} {len cap : Nat} {fuel : Nat} {x : DataW H × List MemPlace} (h : DataW.trod enc Tryz.prog w base spare held fuel 36 [.slice A len cap] = some x) :
    ∃ l : List UInt8, l.length = len ∧ Reads w w.heap.size 1 A l.length (l.map bv) ∧ l.length ≤ cap ∧ cap ≤ maxLen := by
  obtain ⟨l, h1, h2, h3, h4, _⟩ := open_list (f := fun a : UInt8 => [bv a]) (V := fun _ => True) Tryz.underlying36 cells_u8 (by decide) (fun _ => rfl) (fun _ _ _ h => open_byte h) h
  subst h1
  rw [flat_bv] at h2
  exact ⟨l, rfl, h2, h3, h4⟩
theorem open_id {n : Nat} {cs : List Value} {y : DataW H × List MemPlace} (h : DataW.trod enc Tryz.prog w base spare held n 24 cs = some y) : ∃ i : Id, cs = idL i := by
  obtain ⟨xs, m, _, _, hlen, hxl, hx⟩ := DataW.trod_array Tryz.underlying24 h
  rw [cells_id] at hlen
  rw [cells_u8] at hx
  have key : ∀ k, k ≤ 32 → ∃ l : List UInt8, l.length = k ∧ cs.take k = l.map bv := by
    intro k
    induction k with
    | zero => exact fun _ => ⟨[], rfl, by simp⟩
    | succ k ih =>
      intro hk
      obtain ⟨l, h1, h2⟩ := ih (by omega)
      have h3 := hx k (by omega)
      rw [List.getElem?_eq_getElem (by omega)] at h3
      obtain ⟨a, h4, _⟩ := open_byte h3
      refine ⟨l ++ [a], by simp [h1], ?_⟩
      rw [List.take_succ_eq_append_getElem (by omega), h2, List.map_append]
      congr 1
      rw [Nat.mul_one, List.drop_eq_getElem_cons (by omega)] at h4
      simp only [List.take_succ_cons, List.take_zero] at h4
      exact h4
  obtain ⟨l, h1, h2⟩ := key 32 (Nat.le_refl _)
  rw [List.take_of_length_le (by omega)] at h2
  exact ⟨⟨l, h1⟩, h2⟩
theorem open_ent {n : Nat} {cs : List Value} {y : DataW H × List MemPlace} (h : DataW.trod enc Tryz.prog w base spare held n 58 cs = some y) : ∃ x : Ent, cs = entL x ∧ x.name.size ≤ maxLen ∧ (Lit.int .i64 x.kind).wf = true := by
  obtain ⟨xs, m, _, _, hlen, hxl, hx⟩ := DataW.trod_struct Tryz.underlying58 h
  rw [cells_ent] at hlen
  have h0 := hx 0 _ rfl
  have h1 := hx 1 _ rfl
  have h2 := hx 2 _ rfl
  have hxl' : xs.length = 3 := hxl
  rw [List.getElem?_eq_getElem (by omega)] at h0 h1 h2
  obtain ⟨s, e0, _, hs⟩ := DataW.trod_string Tryz.underlying9 h0
  obtain ⟨k, e1, _, hk⟩ := DataW.trod_int Tryz.underlying3 h1
  obtain ⟨i, e2⟩ := open_id h2
  refine ⟨⟨s, k, i⟩, ?_, hs, hk⟩
  have hc1 : Tryz.prog.cellsOf 9 = 1 := by kernel_rfl
  have hc2 : Tryz.prog.cellsOf 3 = 1 := by kernel_rfl
  have e0 : (cs.drop 0).take (Tryz.prog.cellsOf 9) = [.string s] := e0
  have e1 : (cs.drop 1).take (Tryz.prog.cellsOf 3) = [.int .i64 k] := e1
  have e2 : (cs.drop 2).take (Tryz.prog.cellsOf 24) = idL i := e2
  rw [hc1] at e0
  rw [hc2] at e1
  rw [cells_id] at e2
  unfold entL
  rcases cs with _ | ⟨c0, _ | ⟨c1, rest⟩⟩
  · simp at hlen
  · simp at hlen
  · simp only [List.drop_zero, List.take_succ_cons, List.take_zero, List.cons.injEq, and_true] at e0
    simp only [List.drop_succ_cons, List.drop_zero, List.take_succ_cons, List.take_zero, List.cons.injEq, and_true] at e1
    simp only [List.drop_succ_cons, List.drop_zero] at e2
    rw [List.take_of_length_le (by simp only [List.length_cons] at hlen; omega)] at e2
    rw [e0, e1, e2]
theorem open_ents {A : Option Addr} {len cap : Nat} {fuel : Nat} {x : DataW H × List MemPlace} (h : DataW.trod enc Tryz.prog w base spare held fuel 22 [.slice A len cap] = some x) :
    ∃ l : List Ent, l.length = len ∧ Reads w w.heap.size 34 A l.length (entLs l) ∧ l.length ≤ cap ∧ cap ≤ maxLen ∧ ∀ x ∈ l, x.name.size ≤ maxLen ∧ (Lit.int .i64 x.kind).wf = true := by
  obtain ⟨l, h1, h2, h3, h4, h5⟩ := open_list (f := entL) (V := fun x => x.name.size ≤ maxLen ∧ (Lit.int .i64 x.kind).wf = true) Tryz.underlying22 cells_ent (by decide) entL_len (fun _ _ _ h => open_ent h) h
  subst h1
  exact ⟨l, rfl, h2, h3, h4, h5⟩
end
end Go.Proofs.YtppmolneklidfaaGreat

namespace Go.Proofs.YtppmolneklidfaaGreat
open Go.ChangeShapes Go.WideShapes Go.ChangeAt Go.RowKit Go.Deep
theorem own : ownKnob Tryz.prog.godebug = none := by kernel_rfl
theorem laidOut : laidOutB Tryz.prog = true := by kernel_rfl
theorem opened_bytes {H : Type} {enc : TypeId × Value → H} {w : World} {base : Nat} {spare : Nat → Bool} {held : Bool} {A : Option Addr} {len cap : Nat} {d : DataW H} {p : List MemPlace} (h : DataW.Trod enc Tryz.prog w base spare held 36 (.slice A len cap) d p) :
    ∃ l : List UInt8, l.length = len ∧ Reads w w.heap.size 1 A l.length (l.map bv) ∧ l.length ≤ cap ∧ cap ≤ maxLen := by
  obtain ⟨fuel, hf⟩ := h
  exact open_bytes (by simpa [Value.cells] using hf)
theorem opened_ents {H : Type} {enc : TypeId × Value → H} {w : World} {base : Nat} {spare : Nat → Bool} {held : Bool} {A : Option Addr} {len cap : Nat} {d : DataW H} {p : List MemPlace} (h : DataW.Trod enc Tryz.prog w base spare held 22 (.slice A len cap) d p) :
    ∃ l : List Ent, l.length = len ∧ Reads w w.heap.size 34 A l.length (entLs l) ∧ l.length ≤ cap ∧ cap ≤ maxLen ∧ ∀ x ∈ l, x.name.size ≤ maxLen ∧ (Lit.int .i64 x.kind).wf = true := by
  obtain ⟨fuel, hf⟩ := h
  exact open_ents (by simpa [Value.cells] using hf)
def TruePost (w : World) (r : Ending) (w' : World) : Prop := r = .returned (.bool true) ∧ Below w.heap.size w w'
end Go.Proofs.YtppmolneklidfaaGreat

namespace Go.Proofs.YtppmolneklidfaaGreat
open Go.ChangeShapes Go.WideShapes Go.ChangeAt Go.RowKit

theorem entLs_one (l : List Ent) : ∀ v ∈ entLs l, v.oneCell' = true := by
  intro v hv
  obtain ⟨x, _, h⟩ := List.mem_flatMap.1 hv
  exact entL_one x v h

set_option maxHeartbeats 4000000 in
set_option maxRecDepth 100000 in
theorem trees_walk (l : List Ent) (b : List UInt8) (A A' : Option Addr) (c c' : Nat) (w : World) (hr : Reads w w.heap.size 34 A l.length (entLs l)) (hb : Reads w w.heap.size 1 A' b.length (b.map bv)) (hl : l.length ≤ maxLen) (hbl : b.length ≤ c') (hc' : c' ≤ maxLen) :
    Calls Tryz.prog 11 #[.slice A l.length c, .slice A' b.length c'] w (TruePost w) := by
  have hl' := hl
  have hc'' := hc'
  unfold maxLen at hl' hc''
  by_cases h1 : 700 < l.length
  · have d1 : decide ((700 : Int) < (l.length : Int)) = true := decide_eq_true (by omega)
    go_enter Tryz.func11, Tryz.ntmps11
    go_wp2_with fail
    refine (known_any _).mono ?_
    rintro r w1 ⟨rfl, hb1⟩
    go_wp2_with fail
    go_ret
    exact ⟨rfl, hb1⟩
  · have d1 : decide ((700 : Int) < (l.length : Int)) = false := decide_eq_false (by omega)
    by_cases h2 : 32768 < b.length
    · have d2 : decide ((32768 : Int) < (b.length : Int)) = true := decide_eq_true (by omega)
      go_enter Tryz.func11, Tryz.ntmps11
      go_wp2_with fail
      refine (known_any _).mono ?_
      rintro r w1 ⟨rfl, hb1⟩
      go_wp2_with fail
      go_ret
      exact ⟨rfl, hb1⟩
    · have d2 : decide ((32768 : Int) < (b.length : Int)) = false := decide_eq_false (by omega)
      go_enter Tryz.func11, Tryz.ntmps11
      go_wp2_with fail
      refine (known_any _).mono ?_
      rintro r w1 ⟨rfl, hbe1⟩
      have hr1 := hr.below hbe1
      have hb1 := hb.below hbe1
      have hz1 := hbe1.size
      go_wp2_with (first | (at_builtin; refine wpList_append_sl rfl elemEnt rfl rfl (Own.fresh0 (heap_alloc_new _ _) hz1) rfl (hr1.alloc hz1 _) (entLs_one l) (by unfold maxLen; omega) (by omega) (by simp; omega) ?_; intro A2 c2 w2 ho2 hk2))
      simp only [Nat.zero_add, List.nil_append] at ho2 ⊢
      have hbe2 : Below w.heap.size w w2 := (hbe1.alloc hz1 _).trans (hk2.below (Nat.le_refl _) (by simp; omega) (by simp))
      have hr2 := hr.below hbe2
      have hb2 := hb.below hbe2
      have hz2 := hbe2.size
      clear hr1 hb1 hk2 hz1 hbe1
      refine (encodeTree_any l A2 c2 _ ho2.reads (by omega)).mono ?_
      rintro r w3 ⟨A3, c3, rfl, ho3, hbe3⟩
      have hz3 := hbe3.size
      have hbw3 : Below w.heap.size w w3 := hbe2.trans (hbe3.mono hz2)
      have om3 : Own w3 w.heap.size 58 34 A2 l.length c2 (entLs l) := ho2.kept (b' := 0) (E := []) (G := []) (Kept.ofBelow hbe3) (by simp) (by simp)
      clear hbe2 hr2 hb2 ho2 hbe3
      go_wp2_with fail
      refine (rencodeTree_any l A c _ ((hr.below hbw3).more (by omega)) (by omega)).mono ?_
      rintro r w4 ⟨A4, c4, rfl, ho4, hbe4⟩
      have hz4 := hbe4.size
      have hbw4 : Below w.heap.size w w4 := hbw3.trans (hbe4.mono (by omega))
      have om4 : Own w4 w.heap.size 58 34 A2 l.length c2 (entLs l) := om3.kept (b' := 0) (E := []) (G := []) (Kept.ofBelow hbe4) (by simp) (by simp)
      have o34 : Own w4 w2.heap.size 5 1 A3 (encTree l).1.length c3 ((encTree l).1.map bv) := ho3.kept (b' := 0) (E := []) (G := []) (Kept.ofBelow hbe4) (by simp) (by simp)
      clear om3 ho3 hbw3 hbe4
      generalize (encTree l).1 = t at *
      generalize (encTree l).2 = e at *
      have hb4 := hb.below hbw4
      have hzz : w.heap.size ≤ w4.heap.size := by omega
      go_wp2_with (first | (at_builtin; refine wpList_append_sl rfl elemU8 rfl rfl (Own.fresh0 (heap_alloc_new _ _) (Nat.le_refl _)) rfl (hb4.alloc hzz _) (bvs_one b) (by unfold maxLen; omega) (by omega) (by simp) ?_; intro A5 c5 w5 ho5 hk5))
      simp only [Nat.zero_add, List.nil_append] at ho5 ⊢
      have hbe5 : Below w4.heap.size w4 w5 := ((Below.refl _ _).alloc (Nat.le_refl _) _).trans (hk5.below (Nat.le_refl _) (by simp) (by simp))
      have hz5 := hbe5.size
      have hcap5 := ho5.cap_le
      refine (parseTree_any b A5 c5 _ ho5.reads (by omega) hcap5.1 hcap5.2).mono ?_
      rintro r w6 ⟨A6, c6, rfl, ho6, hbe6⟩
      have hz6 := hbe6.size
      have hbe46 : Below w4.heap.size w4 w6 := hbe5.trans (hbe6.mono hz5)
      have hbw6 : Below w.heap.size w w6 := hbw4.trans (hbe46.mono (by omega))
      clear hcap5 ho5 hbe5 hbe6 hk5 hb4
      go_wp2_with fail
      refine (rparseTree_any b A' c' _ ((hb.below hbw6).more (by omega)) (by omega) hbl hc').mono ?_
      rintro r w7 ⟨A7, c7, rfl, ho7, hbe7⟩
      have hz7 := hbe7.size
      have hbe47 : Below w4.heap.size w4 w7 := hbe46.trans (hbe7.mono (by omega))
      have hbw7 : Below w.heap.size w w7 := hbw4.trans (hbe47.mono (by omega))
      have om7 : Own w7 w.heap.size 58 34 A2 l.length c2 (entLs l) := om4.kept (b' := 0) (E := []) (G := []) (Kept.ofBelow hbe47) (by simp) (by simp)
      have o37 := (o34.kept (b' := 0) (E := []) (G := []) (Kept.ofBelow hbe47) (by simp) (by simp)).reads
      have o47 := (ho4.kept (b' := 0) (E := []) (G := []) (Kept.ofBelow hbe47) (by simp) (by simp)).reads
      have o67 := (ho6.kept (b' := 0) (E := []) (G := []) (Kept.ofBelow hbe7) (by simp) (by simp)).reads
      have o77 := ho7.reads
      have hpl : (parseTree b).1.length ≤ 9223372036854775807 := by have := ho7.cap_le; unfold maxLen at this; omega
      clear om4 o34 ho4 ho6 ho7 hbe46 hbe7 hbe47
      generalize (parseTree b).1 = pt at *
      generalize (parseTree b).2 = pe at *
      go_wp2_with (first | (refine wpList_convStr rfl rfl Tryz.underlying36 Tryz.underlying5 Tryz.underlying9 (l := t) rfl o37 ?_) | (refine wpList_convStr rfl rfl Tryz.underlying36 Tryz.underlying5 Tryz.underlying9 (l := t) rfl o47 ?_))
      refine (sameEntries_refl pt A6 A7 c6 c7 _ _ o67 o77 hpl).mono ?_
      rintro r w8 ⟨rfl, hk8⟩
      have hbw8 : Below w.heap.size w w8 := hbw7.trans (hk8.all.mono (by omega))
      have om8 := om7.kept (b' := 0) (E := []) (G := []) (Kept.ofKeep hk8 (by unfold Nothing; simp)) (by simp) (by simp)
      have hz8 := hk8.size
      go_wp2_with fail
      refine (sameEntries_refl l A2 A c2 c _ _ om8.reads ((hr.below hbw8).more (by omega)) (by omega)).mono ?_
      rintro r w9 ⟨rfl, hk9⟩
      have hbw9 : Below w.heap.size w w9 := hbw8.trans (hk9.all.mono (by omega))
      go_wp2_with fail
      go_ret
      exact ⟨rfl, hbw9⟩
end Go.Proofs.YtppmolneklidfaaGreat

namespace Go.Proofs.YtppmolneklidfaaGreat
open Go.RowKit

/-! ### Loads of whole Ids that the walk takes by hypotheses -/
def LdId (v : Value) : Sem Value := Instr.loadAt 24 v
theorem ld_id (v : Value) : Instr.loadAt 24 v = LdId v := rfl
theorem LdId.blk {w : World} {g : Nat} {t : TypeId} {i : Id} (h : Blk w g t (idC i)) : (LdId (.pointer (some ⟨g, 0, none⟩))).run Tryz.prog w = .ok (idV i) w := load_id h

def idLs (l : List Id) : List Value := l.flatMap idL
theorem idLs_len (l : List Id) : (idLs l).length = l.length * 32 := by
  induction l with
  | nil => rfl
  | cons x l ih => simp only [idLs, List.flatMap_cons, List.length_append, idL_len, List.length_cons] at *; omega
theorem idLs_at (l : List Id) (k j : Nat) (x : Id) (hk : l[k]? = some x) (u : Value) (hj : (idL x)[j]? = some u) : (idLs l)[k * 32 + j]? = some u := by
  induction l generalizing k with
  | nil => simp at hk
  | cons y l ih =>
    have hj' : j < 32 := by
      rcases Nat.lt_or_ge j 32 with q | q
      · exact q
      · rw [List.getElem?_eq_none (by rw [idL_len]; exact q)] at hj; cases hj
    cases k with
    | zero =>
      simp only [List.getElem?_cons_zero, Option.some.injEq] at hk
      subst hk
      simp only [idLs, List.flatMap_cons, Nat.zero_mul, Nat.zero_add]
      rw [List.getElem?_append_left (by rw [idL_len]; exact hj')]
      exact hj
    | succ k =>
      simp only [List.getElem?_cons_succ] at hk
      have := ih k hk
      simp only [idLs, List.flatMap_cons]
      rw [List.getElem?_append_right (by rw [idL_len]; omega), idL_len]
      rw [show (k + 1) * 32 + j - 32 = k * 32 + j by omega]
      exact this
theorem ldId_at {w : World} {l : List Id} {k : Nat} {x : Id} {g off : Nat} (hc : ∀ j u, (idLs l)[j]? = some u → w.cell? ⟨g, off + j, none⟩ = some u) (hk : l[k]? = some x) :
    (LdId (.pointer (some ⟨g, off + k * 32, none⟩))).run Tryz.prog w = .ok (idV x) w :=
  run_loadAt_cells (P := Tryz.prog) w _ (idC x) Tryz.underlying24 rfl (by rw [idC_size]; exact info42) (fun j v hj => by rw [add_at, Nat.add_assoc]; exact hc _ _ (idLs_at l k j x hk v hj))

def EqId (u v : Value) : Sem Value := binOp .eql 24 u v
theorem eq_id (u v : Value) : binOp .eql 24 u v = EqId u v := rfl
theorem run_EqId (w : World) (i j : Id) : (EqId (idV i) (idV j)).run Tryz.prog w = .ok (.bool (i == j)) w := run_eql_id w i j

attribute [local go_sem ↓] ld_id eq_id

set_option maxHeartbeats 1000000 in
set_option maxRecDepth 100000 in
theorem index_any (l : List Id) (x : Id) (A : Option Addr) (c : Nat) (B : Nat) (w : World) (hr : Reads w B 32 A l.length (idLs l)) (hB : B ≤ w.heap.size) (hl : l.length ≤ 9223372036854775807) :
    Calls Tryz.prog 83 #[.slice A l.length c, idV x] w fun r w' => ∃ n : Int, r = .returned (.int .i64 n) ∧ decide (0 ≤ n) = l.contains x ∧ Keep Nothing w w' := by
  go_enter Tryz.func83, Tryz.ntmps83
  go_wp2_with (first | (refine wpList_boxed rfl rfl (cs := idC x) rfl ?_))
  have hb0 : Blk (w.alloc (.cells (idC x) 24)) w.heap.size 24 (idC x) := Blk.new _ _ _
  have hk0 : Keep Nothing w (w.alloc (.cells (idC x) 24)) := (Keep.refl _ _).alloc _
  have hrk : ∀ W, Keep Nothing w W → Reads W B 32 A l.length (idLs l) := fun W h => hr.kept h hB (fun _ _ q => q)
  have HR := Lib.hid hrk
  clear hrk
  generalize w.alloc (.cells (idC x) 24) = w0 at *
  generalize w.heap.size = q at *
  go_loopw [8] (fun i wr => ∃ k : Nat, k ≤ l.length ∧ i = .int .i64 k ∧ (l.take k).contains x = false ∧ Keep Nothing w wr ∧ Blk wr q 24 (idC x)) (fun i _ => l.length - (intOf i).toNat)
  case atStart => exact ⟨0, Nat.zero_le _, rfl, rfl, hk0, hb0⟩
  case round =>
    obtain ⟨k, hk, rfl, hno, hkw, hbx⟩ := hrel
    have HN := Lib.hid hno
    clear hno
    by_cases hlt : k < l.length
    · obtain ⟨y, hy⟩ : ∃ y, l[k]? = some y := ⟨_, List.getElem?_eq_getElem hlt⟩
      have hts : l.take (k + 1) = l.take k ++ [y] := by rw [List.take_succ_eq_append_getElem hlt]; congr 2; rw [List.getElem?_eq_getElem hlt] at hy; simpa using hy
      obtain ⟨g1, o1, rfl, _, hc1⟩ := (HR.out _ hkw).at0 (by omega) (by omega)
      have L1 := fun n => LdId.blk (hbx.drewN n)
      have L2 := fun n => ldId_at (w := wr.drewN n) (fun j u hj => hc1 j u hj) hy
      have G1 := fun (a b : Operand) (W : World) => guard_id .eql a b x y W
      have HT := Lib.hid hts
      have HY := Lib.hid hy
      have hi0 : (0 : Int) ≤ (k : Int) := Int.natCast_nonneg _
      have hi1 : (k : Int) < (l.length : Int) := by omega
      clear hc1 hts hy
      cases hxy : (x == y) with
      | true =>
        have E1 := fun W => run_EqId W x y
        rw [hxy] at E1
        have HF := Lib.hid hxy
        clear hxy
        go_wp2_with fail
        go_quiet (fail)
        go_wp2_with fail
        go_ret
        refine ⟨k, rfl, ?_, hkw.drewN _⟩
        have e1 : x = y := eq_of_beq HF.out
        subst e1
        rw [show l.contains x = true from List.contains_iff_mem.2 (List.mem_of_getElem? HY.out)]
        simp
      | false =>
        have E1 := fun W => run_EqId W x y
        rw [hxy] at E1
        have HF := Lib.hid hxy
        clear hxy
        go_wp2_with fail
        go_quiet (fail)
        go_wp2_with fail
        go_roundw
        case rel =>
          refine ⟨k + 1, by omega, by go_num, ?_, hkw.drewN _, hbx.drewN _⟩
          rw [HT.out, List.contains_eq_any_beq, List.any_append, ← List.contains_eq_any_beq, HN.out]
          simpa using HF.out
        case measure => simp [intOf]; omega
    · obtain rfl : k = l.length := by omega
      go_wp2_with fail
      go_ret
      refine ⟨-1, rfl, ?_, hkw⟩
      have := HN.out
      rw [List.take_length] at this
      rw [this]
      rfl

def hasId (l : List Id) (x : Id) : Bool := l.contains x
set_option maxHeartbeats 1000000 in
theorem contains_any (l : List Id) (x : Id) (A : Option Addr) (c : Nat) (B : Nat) (w : World) (hr : Reads w B 32 A l.length (idLs l)) (hB : B ≤ w.heap.size) (hl : l.length ≤ 9223372036854775807) :
    Calls Tryz.prog 58 #[.slice A l.length c, idV x] w fun r w' => r = .returned (.bool (hasId l x)) ∧ Keep Nothing w w' := by
  go_enter Tryz.func58, Tryz.ntmps58
  have hb0 : Blk (w.alloc (.cells (idC x) 24)) w.heap.size 24 (idC x) := Blk.new _ _ _
  have hk0 : Keep Nothing w (w.alloc (.cells (idC x) 24)) := (Keep.refl _ _).alloc _
  have hr0 := hr.alloc hB (.cells (idC x) 24)
  have hB0 : B ≤ (w.alloc (.cells (idC x) 24)).heap.size := by simp; omega
  have L1 := LdId.blk hb0
  go_wp2_with (first | (refine wpList_boxed rfl rfl (cs := idC x) rfl ?_; generalize w.alloc (.cells (idC x) 24) = w0 at *; generalize w.heap.size = q at *))
  refine (index_any l x A c B _ hr0 hB0 hl).mono ?_
  rintro r w1 ⟨n, rfl, hn, hk1⟩
  have HN := Lib.hid hn
  clear hn
  go_wp2_with fail
  go_ret
  exact ⟨by unfold hasId; rw [← HN.out]; rfl, hk0.trans hk1⟩

/-! ### Commits -/
structure ComD where
  tree : Id
  parents : List Id
  author : ByteArray
  time : Int
  msg : ByteArray
/-- A commit's cells, its parents' slice given. -/
def comL (tree : Id) (pv : Value) (author : ByteArray) (time : Int) (msg : ByteArray) : List Value := idL tree ++ [pv, .string author, .int .i64 time, .string msg]
def comC (tree : Id) (pv : Value) (author : ByteArray) (time : Int) (msg : ByteArray) : Array Value := (comL tree pv author time msg).toArray
theorem comL_len (t : Id) (p : Value) (a : ByteArray) (n : Int) (m : ByteArray) : (comL t p a n m).length = 36 := by simp [comL, idL_len]
theorem comC_size (t : Id) (p : Value) (a : ByteArray) (n : Int) (m : ByteArray) : (comC t p a n m).size = 36 := by simp [comC, comL_len]
theorem comC_at {t : Id} {p : Value} {a : ByteArray} {n : Int} {m : ByteArray} : (comC t p a n m)[32]? = some p ∧ (comC t p a n m)[33]? = some (.string a) ∧ (comC t p a n m)[34]? = some (.int .i64 n) ∧ (comC t p a n m)[35]? = some (.string m) := by
  have h := idL_len t
  simp [comC, comL, h]
theorem comC_id (t : Id) (p : Value) (a : ByteArray) (n : Int) (m : ByteArray) : idC t = (comC t p a n m).extract 0 (0 + (idC t).size) := by
  apply Array.ext'
  have h := idL_len t
  simp [comC, comL, idC, h]
theorem comC_set (t : Id) (p : Value) (a : ByteArray) (n : Int) (m : ByteArray) : (∀ p', (comC t p a n m).setIfInBounds 32 p' = comC t p' a n m) ∧ (∀ a', (comC t p a n m).setIfInBounds 33 (.string a') = comC t p a' n m) ∧
    (∀ n', (comC t p a n m).setIfInBounds 34 (.int .i64 n') = comC t p a n' m) ∧ (∀ m', (comC t p a n m).setIfInBounds 35 (.string m') = comC t p a n m') := by
  have h := idL_len t
  refine ⟨fun _ => ?_, fun _ => ?_, fun _ => ?_, fun _ => ?_⟩ <;> (apply Array.ext'; simp [comC, comL, List.set_append_right, h])
theorem info_com : (Tryz.prog.info? 27).map (·.size) = some 36 := by kernel_rfl
theorem ldId_com {w : World} {g : Nat} {tt : TypeId} {t : Id} {p : Value} {a : ByteArray} {n : Int} {m : ByteArray} (h : Blk w g tt (comC t p a n m)) : (LdId (.pointer (some ⟨g, 0, none⟩))).run Tryz.prog w = .ok (idV t) w :=
  run_loadAt_blk (P := Tryz.prog) h 0 (idC t) Tryz.underlying24 rfl (by rw [idC_size]; exact info42) (comC_id t p a n m)
theorem load_com {w : World} {g : Nat} {tt : TypeId} {t : Id} {p : Value} {a : ByteArray} {n : Int} {m : ByteArray} (h : Blk w g tt (comC t p a n m)) : (Instr.loadAt 27 (.pointer (some ⟨g, 0, none⟩))).run Tryz.prog w = .ok (.agg (comC t p a n m)) w :=
  run_loadAt_blk (P := Tryz.prog) h 0 (comC t p a n m) Tryz.underlying27 rfl (by rw [comC_size]; exact info_com) (by simp)
def nilS : Value := .slice none 0 0
theorem zero_com (w : World) : (zeroValue 27).run Tryz.prog w = .ok (.agg (comC noId nilS ByteArray.empty 0 ByteArray.empty)) w := by kernel_rfl
theorem build_com0 (w : World) : (Instr.build 27 #[]).run Tryz.prog w = .ok (.agg (comC noId nilS ByteArray.empty 0 ByteArray.empty)) w := by kernel_rfl
theorem elemId : Elem Tryz.prog 25 24 32 32 := by
  refine ⟨Tryz.underlying25, ?_, by decide⟩
  obtain ⟨i, hi, h1, h2, h3⟩ := info_parts (show (Tryz.prog.info? 24).map (fun i => (i.zero, i.size, i.bytes)) = some (some (idV noId), 32, 32) by kernel_rfl)
  exact ⟨i, _, hi, h1, h2, h3, idC_size _⟩
end Go.Proofs.YtppmolneklidfaaGreat

namespace Go.Proofs.YtppmolneklidfaaGreat
open Go.ChangeShapes Go.WideShapes Go.ChangeAt Go.RowKit Go.Deep

theorem slice_is {H : Type} {enc : TypeId × Value → H} {w : World} {base : Nat} {spare : Nat → Bool} {held : Bool} {t e : TypeId} {fuel : Nat} {v : Value} {x : DataW H × List MemPlace} (ht : Tryz.prog.underlying t = some (.slice e)) (h : DataW.trod enc Tryz.prog w base spare held fuel t [v] = some x) : ∃ A len cap, v = .slice A len cap := by
  rcases open_slice ht h with ⟨hcs, _⟩ | ⟨a, len, cap, m, n, D, Pl, hcs, _⟩
  · simp at hcs; exact ⟨_, _, _, hcs⟩
  · simp at hcs; exact ⟨_, _, _, hcs⟩
section
variable {H : Type} {enc : TypeId × Value → H} {w : World} {base : Nat} {spare : Nat → Bool} {held : Bool}
theorem open_ids {A : Option Addr} {len cap : Nat} {fuel : Nat} {x : DataW H × List MemPlace} (h : DataW.trod enc Tryz.prog w base spare held fuel 25 [.slice A len cap] = some x) :
    ∃ l : List Id, l.length = len ∧ Reads w w.heap.size 32 A l.length (idLs l) ∧ l.length ≤ cap ∧ cap ≤ maxLen := by
  obtain ⟨l, h1, h2, h3, h4, _⟩ := open_list (f := idL) (V := fun _ => True) Tryz.underlying25 cells_id (by decide) idL_len (fun _ _ _ h => by obtain ⟨i, hi⟩ := open_id h; exact ⟨i, hi, trivial⟩) h
  subst h1
  exact ⟨l, rfl, h2, h3, h4⟩
theorem cells_com : Tryz.prog.cellsOf 27 = 36 := by kernel_rfl
theorem cells_str : Tryz.prog.cellsOf 9 = 1 := by kernel_rfl
theorem cells_int : Tryz.prog.cellsOf 3 = 1 := by kernel_rfl
theorem cells_i64 : Tryz.prog.cellsOf 2 = 1 := by kernel_rfl
theorem cells_ids : Tryz.prog.cellsOf 25 = 1 := by kernel_rfl
theorem cells_bytes : Tryz.prog.cellsOf 36 = 1 := by kernel_rfl
theorem split_at (cs : List Value) (n : Nat) (c : List Value) (h : cs.drop n = c) : cs = cs.take n ++ c := by rw [← h, List.take_append_drop]
set_option maxRecDepth 100000 in
theorem open_com {n : Nat} {cs : List Value} {y : DataW H × List MemPlace} (h : DataW.trod enc Tryz.prog w base spare held n 27 cs = some y) :
    ∃ (d : ComD) (A : Option Addr) (c : Nat), cs = comL d.tree (.slice A d.parents.length c) d.author d.time d.msg ∧ Reads w w.heap.size 32 A d.parents.length (idLs d.parents) ∧ d.parents.length ≤ c ∧ c ≤ maxLen ∧ d.author.size ≤ maxLen ∧ d.msg.size ≤ maxLen ∧ (Lit.int .i64 d.time).wf = true := by
  obtain ⟨xs, m, _, _, hlen, hxl, hx⟩ := DataW.trod_struct Tryz.underlying27 h
  rw [cells_com] at hlen
  have h0 := hx 0 _ rfl
  have h1 := hx 1 _ rfl
  have h2 := hx 2 _ rfl
  have h3 := hx 3 _ rfl
  have h4 := hx 4 _ rfl
  have hxl' : xs.length = 5 := hxl
  rw [List.getElem?_eq_getElem (by omega)] at h0 h1 h2 h3 h4
  obtain ⟨c0, c1, c2, c3, e⟩ : ∃ c0 c1 c2 c3, cs.drop 32 = [c0, c1, c2, c3] := by
    have hl : (cs.drop 32).length = 4 := by simp [hlen]
    match cs.drop 32, hl with
    | [c0, c1, c2, c3], _ => exact ⟨c0, c1, c2, c3, rfl⟩
  have hcs := split_at cs 32 _ e
  have hl0 : (cs.take 32).length = 32 := by simp [hlen]
  have d1 : cs.drop 33 = [c1, c2, c3] := by rw [show 33 = 32 + 1 from rfl, ← List.drop_drop, e]; rfl
  have d2 : cs.drop 34 = [c2, c3] := by rw [show 34 = 32 + 2 from rfl, ← List.drop_drop, e]; rfl
  have d3 : cs.drop 35 = [c3] := by rw [show 35 = 32 + 3 from rfl, ← List.drop_drop, e]; rfl
  have h0 : DataW.trod enc Tryz.prog w base spare held m 24 ((cs.drop 0).take (Tryz.prog.cellsOf 24)) = _ := h0
  have h1 : DataW.trod enc Tryz.prog w base spare held m 25 ((cs.drop 32).take (Tryz.prog.cellsOf 25)) = _ := h1
  have h2 : DataW.trod enc Tryz.prog w base spare held m 9 ((cs.drop 33).take (Tryz.prog.cellsOf 9)) = _ := h2
  have h3 : DataW.trod enc Tryz.prog w base spare held m 2 ((cs.drop 34).take (Tryz.prog.cellsOf 2)) = _ := h3
  have h4 : DataW.trod enc Tryz.prog w base spare held m 9 ((cs.drop 35).take (Tryz.prog.cellsOf 9)) = _ := h4
  rw [cells_id] at h0
  rw [cells_ids, e] at h1
  rw [cells_str, d1] at h2
  rw [cells_i64, d2] at h3
  rw [cells_str, d3] at h4
  simp only [List.take_succ_cons, List.take_zero, List.drop_zero] at h0 h1 h2 h3 h4
  obtain ⟨i, e0⟩ := open_id h0
  obtain ⟨A, len, cap, rfl⟩ := slice_is Tryz.underlying25 h1
  obtain ⟨l, rfl, hr, hc, hm⟩ := open_ids h1
  obtain ⟨au, e2, _, ha⟩ := DataW.trod_string Tryz.underlying9 h2
  obtain ⟨tm, e3, _, ht⟩ := DataW.trod_int Tryz.underlying2 h3
  obtain ⟨ms, e4, _, hms⟩ := DataW.trod_string Tryz.underlying9 h4
  simp only [List.cons.injEq, and_true] at e2 e3 e4
  subst e2 e3 e4
  refine ⟨⟨i, l, au, tm, ms⟩, A, cap, ?_, hr, hc, hm, ha, hms, ht⟩
  rw [hcs, e0]
  rfl
set_option maxRecDepth 100000 in
theorem opened_com {b0 : Nat} {r : Reach} {v : Value} {d : DataW H} {p : List MemPlace} (hv : Value.okWide Tryz.prog w r b0 27 v) (h : DataW.Trod enc Tryz.prog w base spare held 27 v d p) :
    ∃ (d : ComD) (A : Option Addr) (c : Nat), v = .agg (comC d.tree (.slice A d.parents.length c) d.author d.time d.msg) ∧ Reads w w.heap.size 32 A d.parents.length (idLs d.parents) ∧ d.parents.length ≤ c ∧ c ≤ maxLen ∧ d.author.size ≤ maxLen ∧ d.msg.size ≤ maxLen ∧ (Lit.int .i64 d.time).wf = true := by
  obtain ⟨cs, rfl, _⟩ := okWide_struct Tryz.underlying27 hv
  obtain ⟨fuel, hf⟩ := h
  obtain ⟨d, A, c, h1, h2⟩ := open_com hf
  refine ⟨d, A, c, ?_, h2⟩
  have h1 : cs.toList = _ := h1
  unfold comC
  rw [← h1]
end
end Go.Proofs.YtppmolneklidfaaGreat

namespace Go.Proofs.YtppmolneklidfaaGreat
open Go.RowKit

section
variable {P : Program}
theorem wpList_bin_g {ops : Array Oper} {rest : List Oper} {o : Oper} {a : Act} {w : World} {Q : Exit → Act → World → Prop} (hw : Region.wanted o (yielded ops a.tmps) = true) {op : BinOp} {t t' : TypeId} {x y : Operand} (ho : o.op = .binOp op t x y t') {u v r : Value} (hx : a.eval x = u) (hy : a.eval y = v) (hg : (eqGuard op t x y u v).run P w = .ok () w) (hrun : (binOp op t u v).run P w = .ok r w)
    (h : wpList P ops Q rest (a.put o.dst r) w) : wpList P ops Q (o :: rest) a w :=
  BigFrame.wpList_want hw fun _ hK => by
    unfold Oper.wp execOp
    simp only [ho, hx, hy, Sem.run_bind, hg, hrun, Result.andThen_ok, Sem.run_pure]
    exact hK _ _ h
theorem wpList_load_g {ops : Array Oper} {rest : List Oper} {o : Oper} {a : Act} {w : World} {Q : Exit → Act → World → Prop} (hw : Region.wanted o (yielded ops a.tmps) = true) {ty : TypeId} {x : Operand} (ho : o.op = .load ty x) {ad : Addr} {v : Value} (hx : a.eval x = .pointer (some ad)) (hrun : (Instr.loadAt ty (.pointer (some ad))).run P w = .ok v w)
    (h : wpList P ops Q rest (a.put o.dst v) w) : wpList P ops Q (o :: rest) a w :=
  BigFrame.wpList_want hw fun _ hK => by
    unfold Oper.wp execOp
    simp only [ho, hx, Sem.run_bind, hrun, Result.andThen_ok, Sem.run_pure]
    exact hK _ _ h
end
theorem add_int (w : World) (a b : Int) : (binOp .add 3 (.int .i64 a) (.int .i64 b)).run Tryz.prog w = .ok (.int .i64 (IntKind.i64.wrap (a + b))) w := by kernel_rfl
theorem guard_add (w : World) (x y : Operand) (a b : Int) : (eqGuard .add 3 x y (.int .i64 a) (.int .i64 b)).run Tryz.prog w = .ok () w := rfl

end Go.Proofs.YtppmolneklidfaaGreat
