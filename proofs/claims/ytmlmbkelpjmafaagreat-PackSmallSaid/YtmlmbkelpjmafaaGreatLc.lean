/-
  PackSmall: packs of bodies that differ in the last byte alone are read back, and are small. No condition.
-/
import Derived.Test.YtmlmbkelpjmafaaGreatLb
import Derived.ProofKit
import Derived.OpenShut
import Derived.Deep.Slices
import Derived.ShutString
import Derived.ChangeOld
import Derived.Below
namespace Go.Proofs.YtmlmbkelpjmafaaGreat
open Go.ChangeShapes Go.WideShapes Go.ChangeAt Go.RowKit Go.Deep
section
variable {α : Type} {f : α → List Value} {C : Nat}
theorem flat_len (hf : ∀ a, (f a).length = C) : ∀ l : List α, (l.flatMap f).length = l.length * C
  | [] => by simp
  | a :: l => by rw [List.flatMap_cons, List.length_append, hf, flat_len hf l, List.length_cons, Nat.succ_mul, Nat.add_comm]
theorem flat_get (hf : ∀ a, (f a).length = C) (hC : 0 < C) : ∀ (l : List α) (j : Nat), (l.flatMap f)[j]? = (l[j / C]?).bind fun a => (f a)[j % C]?
  | [], j => by simp
  | a :: l, j => by
    rw [List.flatMap_cons]
    rcases Nat.lt_or_ge j C with h | h
    · rw [List.getElem?_append_left (by rw [hf]; exact h), Nat.div_eq_of_lt h, Nat.mod_eq_of_lt h]
      rfl
    · rw [List.getElem?_append_right (by rw [hf]; exact h), hf, flat_get hf hC l (j - C)]
      obtain ⟨k, rfl⟩ := Nat.exists_eq_add_of_le h
      rw [Nat.add_sub_cancel_left, Nat.add_div_left _ hC, Nat.add_mod_left]
      rfl
end

section
variable {H : Type} {enc : TypeId × Value → H} {P : Program} {w : World} {base : Nat} {spare : Nat → Bool} {held : Bool}
/-- A slice that came in, its elements opened one by one. -/
theorem open_list {α : Type} {f : α → List Value} {C : Nat} {V : α → Prop} {t e : TypeId} {A : Option Addr} {len cap : Nat} {fuel : Nat} {x : DataW H × List MemPlace} (ht : P.underlying t = some (.slice e)) (hC : P.cellsOf e = C) (hpos : 0 < C) (hf : ∀ a, (f a).length = C)
    (hopen : ∀ (n : Nat) (cs : List Value) (y : DataW H × List MemPlace), DataW.trod enc P w base spare held n e cs = some y → ∃ a, cs = f a ∧ V a)
    (h : DataW.trod enc P w base spare held fuel t [.slice A len cap] = some x) : ∃ l : List α, l.length = len ∧ Reads w w.heap.size C A len (l.flatMap f) ∧ len ≤ cap ∧ cap ≤ maxLen ∧ ∀ a ∈ l, V a := by
  rcases open_slice ht h with ⟨hcs, _⟩ | ⟨a, len', cap', m, n, D, Pl, hcs, _, hl, hm, hmm, _, hi⟩
  · simp at hcs
    obtain ⟨rfl, rfl, rfl⟩ := hcs
    exact ⟨[], rfl, Reads.none_, Nat.le_refl _, Nat.zero_le _, by simp⟩
  · simp at hcs
    obtain ⟨rfl, rfl, rfl⟩ := hcs
    rw [hC] at hi
    have hlm : len ≤ m := by rw [hmm]; split <;> omega
    have key : ∀ k, k ≤ len → ∃ l : List α, l.length = k ∧ (∀ i b, l[i]? = some b → V b ∧ ∀ r u, (f b)[r]? = some u → w.cell? (a.add (i * C + r)) = some u) := by
      intro k
      induction k with
      | zero => exact fun _ => ⟨[], rfl, by simp⟩
      | succ k ih =>
        intro hk
        obtain ⟨l, hlen, hall⟩ := ih (by omega)
        obtain ⟨cs', hcells, htr⟩ := hi k (by omega)
        obtain ⟨b, rfl, hV⟩ := hopen n cs' _ htr
        obtain ⟨_, _, hat⟩ := World.cells?_some hcells
        refine ⟨l ++ [b], by simp [hlen], fun i b' hb' => ?_⟩
        rcases Nat.lt_or_ge i l.length with hlt | hge
        · rw [List.getElem?_append_left hlt] at hb'
          exact hall i b' hb'
        · rw [List.getElem?_append_right hge] at hb'
          have h0 : i - l.length = 0 := by
            rcases Nat.eq_zero_or_pos (i - l.length) with q | q
            · exact q
            · rw [List.getElem?_eq_none (by simp; omega)] at hb'; cases hb'
          rw [h0] at hb'
          simp at hb'
          subst hb'
          refine ⟨hV, fun r u hr => ?_⟩
          have hik : i = k := by omega
          subst hik
          have hrC : r < C := by
            rcases Nat.lt_or_ge r C with q | q
            · exact q
            · rw [List.getElem?_eq_none (by rw [hf]; exact q)] at hr; cases hr
          rw [← add_of_add, hat r hrC]
          exact hr
    obtain ⟨l, hlen, hall⟩ := key len (Nat.le_refl _)
    refine ⟨l, hlen, ⟨by rw [flat_len hf, hlen], fun hn => ?_⟩, hl, hm, fun b hb => ?_⟩
    · have hcell : ∀ j u, (l.flatMap f)[j]? = some u → w.cell? (a.add j) = some u := by
        intro j u hj
        rw [flat_get hf hpos] at hj
        cases hb : l[j / C]? with
        | none => rw [hb] at hj; cases hj
        | some b =>
          rw [hb] at hj
          have := (hall _ b hb).2 _ u hj
          rwa [Nat.mul_comm, Nat.div_add_mod] at this
      refine ⟨a, rfl, ?_, hcell⟩
      have h0 : 0 < (l.flatMap f).length := by rw [flat_len hf, hlen]; exact Nat.mul_pos hn hpos
      have := World.block_lt_of_cell? w _ (hcell 0 _ (List.getElem?_eq_getElem h0))
      rwa [block_of_add] at this
    · obtain ⟨i, hi', rfl⟩ := List.mem_iff_getElem.1 hb
      exact (hall i _ (List.getElem?_eq_getElem hi')).1
end

/-! ### Bytes, Ids, entries -/
section
variable {H : Type} {enc : TypeId × Value → H} {w : World} {base : Nat} {spare : Nat → Bool} {held : Bool}
theorem open_byte {n : Nat} {cs : List Value} {y : DataW H × List MemPlace} (h : DataW.trod enc Tryz.prog w base spare held n 5 cs = some y) : ∃ a : UInt8, cs = [bv a] ∧ True := by
  obtain ⟨v, rfl, _, hw⟩ := DataW.trod_int Tryz.underlying5 h
  have hb : 0 ≤ v ∧ v ≤ 255 := by simpa [Lit.wf, IntKind.min, IntKind.max, IntKind.signed, IntKind.bits] using hw
  obtain ⟨k, rfl⟩ := Int.eq_ofNat_of_zero_le hb.1
  refine ⟨UInt8.ofNat k, ?_, trivial⟩
  unfold bv
  rw [UInt8.toNat_ofNat', Nat.mod_eq_of_lt (by omega)]
theorem flat_bv (l : List UInt8) : l.flatMap (fun a => [bv a]) = l.map bv := by
  induction l with
  | nil => rfl
  | cons a l ih => rw [List.flatMap_cons, ih]; rfl
theorem cells_u8 : Tryz.prog.cellsOf 5 = 1 := by kernel_rfl
theorem open_bytes {A : Option Addr} {len cap : Nat} {fuel : Nat} {x : DataW H × List MemPlace} (h : DataW.trod enc Tryz.prog w base spare held fuel 22 [.slice A len cap] = some x) :
    ∃ l : List UInt8, l.length = len ∧ Reads w w.heap.size 1 A l.length (l.map bv) ∧ l.length ≤ cap ∧ cap ≤ maxLen := by
  obtain ⟨l, h1, h2, h3, h4, _⟩ := open_list (f := fun a : UInt8 => [bv a]) (V := fun _ => True) Tryz.underlying22 cells_u8 (by decide) (fun _ => rfl) (fun _ _ _ h => open_byte h) h
  subst h1
  rw [flat_bv] at h2
  exact ⟨l, rfl, h2, h3, h4⟩
theorem opened_bytes {A : Option Addr} {len cap : Nat} {d : DataW H} {p : List MemPlace} (h : DataW.Trod enc Tryz.prog w base spare held 22 (.slice A len cap) d p) :
    ∃ l : List UInt8, l.length = len ∧ Reads w w.heap.size 1 A l.length (l.map bv) ∧ l.length ≤ cap ∧ cap ≤ maxLen := by
  obtain ⟨fuel, hf⟩ := h
  exact open_bytes (by simpa [Value.cells] using hf)
end
theorem own : ownKnob Tryz.prog.godebug = none := by kernel_rfl
theorem laidOut : laidOutB Tryz.prog = true := by kernel_rfl
set_option maxRecDepth 100000 in
theorem packSmall_lifted (os : Os) (started : os.Started) (H : Type) (enc : TypeId × Value → H) :
    ReturnsInHanded {} Tryz.checked os 3 .any (Rows.packSmallSpec.pre6 enc Tryz.prog Tryz.f3 Rows.packSmallRow.domain false) (Rows.packSmallSpec.post enc Tryz.prog Tryz.f3 false true false false) := by
  refine returnsInHanded_of_change (C := Tryz.checked) own started (by kernel_rfl) Tryz.func3
    (ChangeSpec.witness6 (enc := enc) (C := Tryz.checked) false ⟨#[], #[(.slice none 0 0), (.int .i64 0)], []⟩ 8 (by kernel_rfl) (by kernel_rfl) (by kernel_rfl) (by kernel_rfl)) ?_
  intro W base args ds gs before hval0 hW hcnd _
  have hval : ∀ (j : Nat) t v, Tryz.f3.params[j]? = some t → args[j]? = some v → Value.okWide Tryz.prog W .any base t v := hval0
  have hW' := hW
  obtain ⟨p, q, hA0, hV, rfl, hfz, hnd⟩ := hW
  have hA : DataW.TrodAll enc Tryz.prog W 0 (fun _ => true) true Tryz.f3.params.toList args.toList ds p := hA0
  rw [Tryz.params3] at hA hval
  obtain ⟨v0, vs0, d0, ds0, p0, q0, hargs, rfl, rfl, h0, r0⟩ := trodAll_cons hA
  obtain ⟨v1, vs1, d1, ds1, p1, q1, rfl, rfl, rfl, h1, r1⟩ := trodAll_cons r0
  obtain ⟨rfl, rfl, rfl⟩ := trodAll_nil r1
  obtain rfl : args = #[v0, v1] := by cases args; simp_all
  obtain ⟨rfl, rfl⟩ := trodVars_none hV
  have k0 := h0
  have lt0 : ∀ x ∈ p0, x.block < W.heap.size := by obtain ⟨m, hm⟩ := k0; exact DataW.trod_lt m _ _ _ hm
  have k1 := h1
  have lt1 : ∀ x ∈ p1, x.block < W.heap.size := by obtain ⟨m, hm⟩ := k1; exact DataW.trod_lt m _ _ _ hm
  obtain ⟨a0, len0, cap0, rfl⟩ := okWide_slice Tryz.underlying22 (hval 0 22 v0 rfl rfl)
  obtain ⟨l0, hl0, hr0, hc0, hm0⟩ := opened_bytes h0
  subst hl0
  obtain ⟨n1, rfl⟩ := okWide_int Tryz.underlying3 (hval 1 3 v1 rfl rfl)
  clear hA0 hval0
  refine (small_walk l0 n1 a0 l0.length cap0 rfl W hr0 hc0 hm0).mono fun e W' ⟨he, bel⟩ => ?_
  subst he
  exact ⟨_, rfl, _, _, _, [], _, [], hW', trodAll_mk1 (shut_bool Tryz.underlying4 _), (trodAll_cons_mk (Below.trod laidOut (by kernel_rfl) (of_decide_eq_true (by kernel_rfl)) k0 bel lt0) (trodAll_cons_mk (Below.trod laidOut (by kernel_rfl) (of_decide_eq_true (by kernel_rfl)) k1 bel lt1) trodAll_mk0)), rfl, bel.frame _, fun h => by cases h⟩

theorem packSmall_over : Rows.packSmallRow.holds Tryz.pinned (OpenSpec.ofChange Rows.packSmallSpec) :=
  OpenClaim.holds_of_wide 3 Tryz.f3 rfl rfl rfl rfl rfl rfl rfl ⟨rfl, rfl, rfl, rfl, rfl⟩ rfl rfl rfl rfl rfl (by kernel_rfl) Tryz.func3 (by kernel_rfl)
    (of_decide_eq_true (by kernel_rfl)) (by unfold Func.isWrapper; first | (rw [if_pos (by decide +kernel)]; kernel_rfl) | (rw [if_neg (by decide +kernel)]; exact ⟨rfl, rfl⟩))
    (fun os started H enc _ => packSmall_lifted os started H enc)

theorem packSmall_holds : Rows.PackSmallSaid := packSmall_over
#print axioms packSmall_holds
end Go.Proofs.YtmlmbkelpjmafaaGreat
