/- Contracts of cmp.Compare on texts, cmp.Or on numbers, rename.Detect's function literal, rename.order. No statement of the seat is proved here. -/
import Derived.Test.YtbaapjlmpmpocaaGreatDoorShelf2
import Derived.Shelf.SlSortCmp.WholeK
import Derived.Shelf.SlSortCmp.NoneTotal
import Derived.Test.YtbaapjlmpmpocaaGreatDoorDTVl
import Derived.Test.YtbaapjlmpmpocaaGreatDoorDT18
namespace Go.Proofs.YtbaapjlmpmpocaaGreatDoor
open Go.RowKit Go.Sort Go.Shelf
theorem flatK_eq {α : Type} [Inhabited α] (enc : α → List Value) (k : Nat) (hk : ∀ x, (enc x).length = k) (d : List α) : (flatK enc k d.toArray).toList = d.flatMap enc := by
 apply List.ext_getElem?
 intro i
 have hl : (d.flatMap enc).length = d.length * k := flatn_len (f := enc) (C := k) hk d
 by_cases h : i < d.length * k
 · have h1 : i < (flatK enc k d.toArray).size := by simpa using h
   have hk0 : 0 < k := by
    rcases Nat.eq_zero_or_pos k with q | q
    · rw [q, Nat.mul_zero] at h; omega
    · exact q
   have hq : i / k < d.length := (Nat.div_lt_iff_lt_mul hk0).2 h
   have hr : i % k < k := Nat.mod_lt _ hk0
   obtain ⟨x, hx⟩ : ∃ x, d[i / k]? = some x := ⟨_, List.getElem?_eq_getElem hq⟩
   obtain ⟨u, hu⟩ : ∃ u, (enc x)[i % k]? = some u := ⟨_, List.getElem?_eq_getElem (by rw [hk]; exact hr)⟩
   have e1 := flatn_at (f := enc) (C := k) hk d (i / k) (i % k) x hx u hu
   rw [Nat.div_add_mod' i k] at e1
   rw [e1]
   have e2 := get_flatK enc k d.toArray i (by simpa using h)
   have e3 : d.toArray[i / k]! = x := by
    rw [getElem!_pos _ _ (by simpa using hq)]
    rw [List.getElem?_eq_getElem hq] at hx
    simpa using hx
   rw [e3] at e2
   have e4 : (enc x)[i % k]! = u := by
    rw [getElem!_pos _ _ (by rw [hk]; exact hr)]
    rw [List.getElem?_eq_getElem (by rw [hk]; exact hr)] at hu
    simpa using hu
   rw [e4] at e2
   rw [Array.getElem?_toList, Array.getElem?_eq_getElem h1, ← e2, getElem!_pos (flatK enc k d.toArray) i h1]
 · rw [List.getElem?_eq_none (by simp; omega), List.getElem?_eq_none (by omega)]
theorem sortW_block {α : Type} [Inhabited α] (enc : α → List Value) (k : Nat) (w : World) (g m : Nat) (d : Array α) (os : Array Obj) {i : Nat} (hi : i < w.heap.size) : (sortWorldK enc k w g 0 m d os).heap[i]? = if i = g then (w.heap[i]?).map (onCells (putCells id 0 (flatK enc k d))) else w.heap[i]? := by
 unfold sortWorldK grow putRowK putRow mapBlock Sort.ahead
 simp only
 rw [Array.getElem?_append_left (by simpa using hi), Array.getElem?_modify]
 by_cases e : g = i
 · rw [if_pos e, if_pos e.symm]
 · rw [if_neg e, if_neg (fun q => e q.symm)]
theorem sort_own {α : Type} [Inhabited α] {ρ : Ren} (L : SlLaysF0.n6 Tryz.prog ρ) {k : Nat} (aE : ∀ w, (isAgg (ρ.t 24)).run Tryz.prog w = .ok true w) (zE : ∀ w, (Go.sizeOf (ρ.t 24)).run Tryz.prog w = .ok k w) (enc : α → List Value) (hk : ∀ x, (enc x).length = k) (h1 : ∀ x, ∀ v ∈ enc x, v.oneCell' = true)
    (cf : α → α → Int) (hO : SWO (Go.Proofs.ltOf cf)) (g : Nat) (eg : ∀ args w, (callFunc g args).run Tryz.prog w = .ok (.enter g args) w) (hcmp : ∀ (W : World) (x y : α), Calls Tryz.prog g #[.agg (enc x).toArray, .agg (enc y).toArray] W fun e w' => e = .returned (.int .i64 (cf x y)) ∧ ∃ q os', w' = grow (W.drewN q) os')
    {base : Nat} {A : Option Addr} {n c : Nat} (d : List α) (w : World) (hn : d.length = n) (hn2 : n < 4611686018427387904) (hown : Own w base (ρ.t 24) k A n c (d.flatMap enc)) :
    Calls Tryz.prog (ρ.f 6) #[.slice A n c, .func (.func g) #[] #[]] w fun e w' => e = .returned (.tuple #[]) ∧ ∃ d' : List α, d'.Perm d ∧ (d'.Pairwise fun a b => Go.Proofs.ltOf cf b a = false) ∧ Own w' base (ρ.t 24) k A n c (d'.flatMap enc) ∧ Kept base [ρ.t 24] [] w w' := by
 obtain ⟨hl, ⟨hv, h0⟩ | ⟨gg, cap, cur, hv, hb, hh, hncap, hcap, hcs, htake⟩⟩ := id hown
 · injection hv with e1 e2 e3
   subst e1 e2 e3
   have hd : d = [] := List.eq_nil_of_length_eq_zero hn
   subst hd
   exact (AnyF.slices_SortFunc_none L none 0 _ w).mono fun e w' h => ⟨h.1, [], List.Perm.refl _, List.Pairwise.nil, by rw [h.2]; exact hown, by rw [h.2]; exact Kept.refl _ _ _ _⟩
 · injection hv with e1 e2 e3
   subst e1 e3 hn
   have hgl : gg < w.heap.size := by
    rcases Nat.lt_or_ge gg w.heap.size with q | q
    · exact q
    · rw [Array.getElem?_eq_none q] at hh; cases hh
   have hkl : d.length * k ≤ cur.size := by rw [hcs]; exact Nat.mul_le_mul_right k hncap
   have hH : HoldsK enc k w gg 0 d.toArray := by
    intro j hj
    have hj' : j < d.length * k := by simpa using hj
    refine ⟨?_, frozen_of_row w gg (0 + j) cur (ρ.t 24) hh⟩
    rw [cell_of_row w gg (0 + j) cur (ρ.t 24) (0, 0) hh, Nat.zero_add]
    have e1 : (flatK enc k d.toArray).toList[j]? = some (flatK enc k d.toArray)[j]! := by
     rw [Array.getElem?_toList, Array.getElem?_eq_getElem hj, getElem!_pos (flatK enc k d.toArray) j hj]
    rw [flatK_eq enc k hk, ← htake, List.getElem?_take_of_lt hj', Array.getElem?_toList] at e1
    exact e1
   refine (AnyQ.slices_SortFunc L k aE zE enc hk h1 cf hO g #[] gg 0 c d.toArray w eg (fun m os dk _ x y => hcmp _ x y) hH hgl (by simpa using hn2)).mono ?_
   rintro e w' ⟨rfl, d', m, os, hp, hs, rfl⟩
   have hsz : d'.size = d.length := by simpa using hp.1
   refine ⟨rfl, d'.toList, ?_, ?_, ?_, ?_⟩
   · have := hp.2.2
     rw [show d.toArray.size = d'.size by simpa using hsz.symm, Array.extract_size] at this
     simpa [hsz] using this
   · rw [List.pairwise_iff_getElem]
     intro i j hi hj hij
     have hj2 : j < d'.size := by simpa using hj
     have hi2 : i < d'.size := by simpa using hi
     have := hs i j (Nat.zero_le _) hij (by simpa [← hsz] using hj2)
     rw [getElem!_pos d' j hj2, getElem!_pos d' i hi2] at this
     simpa using this
   · have hblk : (sortWorldK enc k w gg 0 m d' os).heap[gg]? = some (.cells (putCells id 0 (flatK enc k d') cur) (ρ.t 24) (0, 0)) := by
      rw [sortW_block enc k w gg m d' os hgl, if_pos rfl, hh]
      rfl
     have hfl : (flatK enc k d').toList = d'.toList.flatMap enc := by
      have := flatK_eq enc k hk d'.toList
      simpa using this
     refine ⟨by rw [flatn_len (f := enc) (C := k) hk, Array.length_toList, hsz], .inr ⟨gg, c, _, rfl, hb, hblk, hncap, hcap, by simp [putCells, hcs], ?_⟩⟩
     rw [← hfl]
     apply List.ext_getElem?
     intro i
     by_cases h : i < d.length * k
     · have h2 : i < (flatK enc k d').size := by simpa [hsz] using h
       rw [List.getElem?_take_of_lt h, Array.getElem?_toList, Array.getElem?_toList, Array.getElem?_eq_getElem h2]
       have h3 : i < cur.size := by omega
       simp [putCells, h3]
       rw [if_pos (by rw [hsz]; exact h), getElem!_pos (flatK enc k d') i h2]
     · rw [List.getElem?_eq_none (by simp; omega), List.getElem?_eq_none (by simp [hsz]; omega)]
   · refine ⟨rfl, rfl, rfl, ?_, fun i hi hS => ?_⟩
     · simp [sortWorldK, grow, putRowK, putRow, mapBlock, Sort.ahead]
     · rw [sortW_block enc k w gg m d' os hi, if_neg]
       intro e
       subst e
       exact hS (.inr ⟨hb, ρ.t 24, by simp, cur, (0, 0), hh⟩)
end Go.Proofs.YtbaapjlmpmpocaaGreatDoor
namespace Go.Proofs.YtbaapjlmpmpocaaGreatDoor
open Go.RowKit Go.Sort Go.Shelf
def cmpS (a b : Pth) : Int := if a < b then -1 else if b < a then 1 else 0
def orP : List Int → Int
 | [] => 0
 | x :: l => if x = 0 then orP l else x
end Go.Proofs.YtbaapjlmpmpocaaGreatDoor
