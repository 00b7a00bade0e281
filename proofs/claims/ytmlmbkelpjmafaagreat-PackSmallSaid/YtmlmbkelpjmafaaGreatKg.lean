/-
  Contract of slices.SortStableFunc at pack's rows that the call owns (fewer than 40 elements, ids unlike). No statement of the seat is proved here.
-/
import Derived.Test.YtmlmbkelpjmafaaGreatKf
import Derived.Test.YtmlmbkelpjmafaaGreatGen
import Derived.Test.YtmlmbkelpjmafaaGreatPT16
import Derived.Test.YtmlmbkelpjmafaaGreatPT12
import Derived.Lib.BytesEntry
namespace Go.Proofs.YtmlmbkelpjmafaaGreat
open Go.RowKit Go.Lib Go.Sort Go.Shelf
def cmpS (a b : List UInt8) : Int := if a < b then -1 else if b < a then 1 else 0
theorem compare_cmpS : ∀ a b : List UInt8, Lib.compareBytes a b = cmpS a b
  | [], [] => by simp [Lib.compareBytes, cmpS]
  | [], _ :: _ => by simp [Lib.compareBytes, cmpS]
  | _ :: _, [] => by simp [Lib.compareBytes, cmpS]
  | a :: la, b :: lb => by
    rw [Lib.compareBytes, compare_cmpS la lb]
    unfold cmpS
    simp only [List.cons_lt_cons_iff]
    by_cases h1 : a < b
    · simp [h1]
    · by_cases h2 : b < a
      · have h3 : ¬ a = b := fun e => by subst e; exact h1 h2
        simp [h1, h2, h3]
      · have h3 : a = b := by
          apply UInt8.toNat_inj.1
          have q1 : ¬ a.toNat < b.toNat := h1
          have q2 : ¬ b.toNat < a.toNat := h2
          omega
        subst h3
        simp [h1]
theorem cmpS_lt {a b : List UInt8} : cmpS a b < 0 ↔ a < b := by
  unfold cmpS
  constructor
  · intro h
    by_cases q : a < b
    · exact q
    · rw [if_neg q] at h
      split at h <;> omega
  · intro q
    rw [if_pos q]
    omega
theorem bs_tri (a b : List UInt8) : a < b ∨ a = b ∨ b < a := by
  by_cases h1 : a < b
  · exact .inl h1
  · by_cases h2 : b < a
    · exact .inr (.inr h2)
    · exact .inr (.inl (List.le_antisymm (List.not_lt.1 h2) (List.not_lt.1 h1)))
theorem bytesOf_nums (l : List UInt8) : Lib.bytesOf (l.map fun b => (b.toNat : Int)) = l := by
  unfold Lib.bytesOf
  rw [List.map_map]
  refine (List.map_congr_left fun b _ => ?_).trans (List.map_id l)
  simp
theorem run_cmpSl {P : Program} {w : World} {a b : Addr} {x y : List UInt8} {c d : Nat} (hx : ∀ j v, (x.map bv)[j]? = some v → w.cell? (a.add j) = some v) (hy : ∀ j v, (y.map bv)[j]? = some v → w.cell? (b.add j) = some v) :
    (Extern.BytealgCompare.compare #[.slice (some a) x.length c, .slice (some b) y.length d]).run P w = .ok (.int .i64 (cmpS x y)) w := by
  have key : ∀ (l : List UInt8) (p : Addr), (∀ j v, (l.map bv)[j]? = some v → w.cell? (p.add j) = some v) → (Extern.Bytes.loadBytes p l.length .empty).run P w = .ok ⟨l.toArray⟩ w := fun l p h => by
    have := Lib.run_loadBytesX (P := P) w (l.map fun b => (b.toNat : Int)) p .empty (fun j u hu => h j _ (by
      rw [List.getElem?_map] at hu ⊢
      cases q : l[j]? with
      | none => rw [q] at hu; cases hu
      | some z => rw [q] at hu; injection hu with hu; rw [← hu]; rfl))
    rw [List.length_map, bytesOf_nums] at this
    rw [this]
    congr 1
    apply ByteArray.ext
    show ByteArray.empty.data ++ l.toArray = l.toArray
    simp
  change Sem.run P (do pure (goInt (Extern.BytealgCompare.cmp (← Extern.Bytes.bytesOf (.slice (some a) x.length c)) (← Extern.Bytes.bytesOf (.slice (some b) y.length d))))) w = _
  simp only [Extern.Bytes.bytesOf, Sem.run_bind, Sem.run_pure, Result.andThen, key x a hx, key y b hy]
  rw [Lib.cmp_eq]
  show Result.ok (Value.int .i64 (Lib.compareBytes x y)) w = _
  rw [compare_cmpS]
set_option maxHeartbeats 1000000 in
set_option maxRecDepth 100000 in
theorem bcompare_any (a b : Addr) (x y : List UInt8) (c d : Nat) (w : World) (hx : ∀ j v, (x.map bv)[j]? = some v → w.cell? (a.add j) = some v) (hy : ∀ j v, (y.map bv)[j]? = some v → w.cell? (b.add j) = some v) :
    Calls Tryz.prog 22 #[.slice (some a) x.length c, .slice (some b) y.length d] w fun e w' => e = .returned (.int .i64 (cmpS x y)) ∧ w = w' := by
  have HC := Lib.hid (run_cmpSl (P := Tryz.prog) (c := c) (d := d) hx hy)
  clear hx hy
  go_enter Tryz.func22, Tryz.ntmps22
  go_wp2
  rw [run_callFunc_extern Tryz.func35 (by kernel_rfl) (by kernel_rfl) (by kernel_rfl) (e := Extern.BytealgCompare.compare) (by kernel_rfl), HC.out]
  simp only [Result.andThen]
  rw [Oper.upon_value]
  go_wp2
  go_ret
  exact ⟨rfl, rfl⟩
theorem flatK_eq {α : Type} [Inhabited α] (enc : α → List Value) (k : Nat) (hk : ∀ x, (enc x).length = k) (d : List α) : (flatK enc k d.toArray).toList = d.flatMap enc := by
  apply List.ext_getElem?
  intro i
  have hl : (d.flatMap enc).length = d.length * k := flatn_len (f := enc) (C := k) hk d
  by_cases h : i < d.length * k
  · have h1 : i < (flatK enc k d.toArray).size := by simpa using h
    have hk0 : 0 < k := by
      rcases Nat.eq_zero_or_pos k with q | q
      · rw [q, Nat.mul_zero] at h; omega
      · exact q
    have hq : i / k < d.length := (Nat.div_lt_iff_lt_mul hk0).2 h
    have hr : i % k < k := Nat.mod_lt _ hk0
    obtain ⟨x, hx⟩ : ∃ x, d[i / k]? = some x := ⟨_, List.getElem?_eq_getElem hq⟩
    obtain ⟨u, hu⟩ : ∃ u, (enc x)[i % k]? = some u := ⟨_, List.getElem?_eq_getElem (by rw [hk]; exact hr)⟩
    have e1 := flatn_at (f := enc) (C := k) hk d (i / k) (i % k) x hx u hu
    rw [Nat.div_add_mod' i k] at e1
    rw [e1]
    have e2 := get_flatK enc k d.toArray i (by simpa using h)
    have e3 : d.toArray[i / k]! = x := by
      rw [getElem!_pos _ _ (by simpa using hq)]
      rw [List.getElem?_eq_getElem hq] at hx
      simpa using hx
    rw [e3] at e2
    have e4 : (enc x)[i % k]! = u := by
      rw [getElem!_pos _ _ (by rw [hk]; exact hr)]
      rw [List.getElem?_eq_getElem (by rw [hk]; exact hr)] at hu
      simpa using hu
    rw [e4] at e2
    rw [Array.getElem?_toList, Array.getElem?_eq_getElem h1, ← e2, getElem!_pos (flatK enc k d.toArray) i h1]
  · rw [List.getElem?_eq_none (by simp; omega), List.getElem?_eq_none (by omega)]
theorem sortW_block {α : Type} [Inhabited α] (enc : α → List Value) (k : Nat) (w : World) (g m : Nat) (d : Array α) (os : Array Obj) {i : Nat} (hi : i < w.heap.size) : (sortWorldK enc k w g 0 m d os).heap[i]? = if i = g then (w.heap[i]?).map (onCells (putCells id 0 (flatK enc k d))) else w.heap[i]? := by
  unfold sortWorldK grow putRowK putRow mapBlock Sort.ahead
  simp only
  rw [Array.getElem?_append_left (by simpa using hi), Array.getElem?_modify]
  by_cases e : g = i
  · rw [if_pos e, if_pos e.symm]
  · rw [if_neg e, if_neg (fun q => e q.symm)]
/-- An object and its Id, as pack keeps them: a blob of n bytes. -/
structure Kn where
  id : Id
  x : UInt8
  A : Option Addr
  c : Nat
instance : Inhabited Kn := ⟨⟨noId, 0, none, 0⟩⟩
def knL (n : Nat) (k : Kn) : List Value := idL k.id ++ [.int .i64 1, .slice k.A n k.c]
theorem knL_len (n : Nat) (k : Kn) : (knL n k).length = 34 := by simp [knL, idL_len]
theorem knL_one (n : Nat) (k : Kn) : ∀ v ∈ knL n k, v.oneCell' = true := by
  intro v hv
  rcases List.mem_append.1 hv with h | h
  · exact idL_one _ v h
  · simp only [List.mem_cons, List.not_mem_nil, or_false] at h
    rcases h with rfl | rfl <;> rfl
def cfK (a b : Kn) : Int := cmpS a.id.1 b.id.1
set_option maxHeartbeats 1000000 in
set_option maxRecDepth 100000 in
theorem sorted1_any (n : Nat) (W : World) (x y : Kn) : Calls Tryz.prog 21 #[.agg (knL n x).toArray, .agg (knL n y).toArray] W fun e w' => e = .returned (.int .i64 (cfK x y)) ∧ ∃ q os', w' = grow (W.drewN q) os' := by
  have HG := Lib.hid (show ∃ q os', ((W.alloc (.cells (knL n x).toArray 47)).alloc (.cells (knL n y).toArray 47)).drew = grow (W.drewN q) os' from ⟨1, #[.cells (knL n x).toArray 47, .cells (knL n y).toArray 47], by show ((W.drewN 1).alloc _).alloc _ = _; rw [alloc_eq_grow, alloc_eq_grow, grow_grow]; rfl⟩)
  have hx := (Blk.new W 47 (knL n x).toArray).alloc (.cells (knL n y).toArray 47)
  have hy := Blk.new (W.alloc (.cells (knL n x).toArray 47)) 47 (knL n y).toArray
  rw [show (W.alloc (.cells (knL n x).toArray 47)).heap.size = W.heap.size + 1 from by simp] at hy
  have hxd : ∀ k, (((W.alloc (.cells (knL n x).toArray 47)).alloc (.cells (knL n y).toArray 47)).drew).cell? ⟨W.heap.size, k, none⟩ = (knL n x).toArray[k]? := fun k => hx.cell k
  have hyd : ∀ k, (((W.alloc (.cells (knL n x).toArray 47)).alloc (.cells (knL n y).toArray 47)).drew).cell? ⟨W.heap.size + 1, k, none⟩ = (knL n y).toArray[k]? := fun k => hy.cell k
  have at9 : ∀ (z : Kn) j v, (z.id.1.map bv)[j]? = some v → (knL n z).toArray[0 + j]? = some v := fun z j v hj => by
    rw [Nat.zero_add, List.getElem?_toArray]
    unfold knL idL
    rw [List.getElem?_append_left ?_]
    · exact hj
    · rcases Nat.lt_or_ge j (z.id.1.map bv).length with q | q
      · exact q
      · rw [List.getElem?_eq_none q] at hj; cases hj
  have HC := Lib.hid (bcompare_any ⟨W.heap.size, 0, none⟩ ⟨W.heap.size + 1, 0, none⟩ x.id.1 y.id.1 32 32 ((W.alloc (.cells (knL n x).toArray 47)).alloc (.cells (knL n y).toArray 47)).drew (fun j v hj => by rw [add_at, hxd]; exact at9 x j v hj) (fun j v hj => by rw [add_at, hyd]; exact at9 y j v hj))
  rw [x.id.2, y.id.2] at HC
  clear hx hy hxd hyd at9
  go_enter Tryz.func21, Tryz.ntmps21
  go_wp2_with (first
    | (refine wpList_boxed rfl rfl (cs := (knL n x).toArray) rfl ?_)
    | (refine wpList_boxed rfl rfl (cs := (knL n y).toArray) rfl ?_; generalize (W.alloc (.cells (knL n x).toArray 47)).alloc (.cells (knL n y).toArray 47) = w1 at *))
  go_region_law (go_simp; go_at_call 22; (with_reducible refine HC.out.mono ?_); rintro _ w2 ⟨rfl, hw2⟩; have HW2 := Lib.hid hw2; clear hw2)
  all_goals
    go_wp2_with fail
    go_ret
    exact ⟨rfl, by rw [← HW2.out]; exact HG.out⟩
theorem knF_len (n : Nat) (l : List Kn) : (l.flatMap (knL n)).length = l.length * 34 := flatn_len (f := knL n) (C := 34) (knL_len n) l
set_option maxHeartbeats 8000000 in
set_option maxRecDepth 1000000 in
theorem stable_none (A : Option Addr) (cap : Nat) (f : Value) (w : World) :
    Calls Tryz.prog 34 #[.slice A 0 cap, .int .i64 0, f] w fun e w' => e = .returned (.tuple #[]) ∧ w = w' := by
  have HC := Lib.hid (insert_none A 0 cap 0 0 f w (by omega) (Nat.le_refl _))
  rw [show ((0 : Nat) : Int) = 0 from rfl] at HC
  go_enter Tryz.func34, Tryz.ntmps34
  go_wp2_with fail
  go_loopg [7, 8] 0 (fun _ s7 s8 wr => s7 = .int .i64 0 ∧ s8 = .int .i64 20 ∧ w = wr)
  case atStart => exact ⟨rfl, rfl, rfl⟩
  case round =>
    obtain ⟨rfl, rfl, rfl⟩ := hrel
    go_wp2_with (go_at_call 55; (with_reducible refine HC.out.mono ?_); rintro _ w2 ⟨rfl, rfl⟩)
    go_loopg [6] 0 (fun _ s6 w9 => s6 = .int .i64 20 ∧ w = w9)
    case atStart => exact ⟨rfl, rfl⟩
    case round =>
      obtain ⟨rfl, rfl⟩ := hrel
      go_wp2_with fail
      go_end0
      exact ⟨rfl, rfl⟩
theorem rowF_all (d : Array Kn) : rowF (AtF d) 0 d.size = d.toList := by
  apply List.ext_getElem
  · simp [rowF]
  · intro i h1 h2
    have h3 : i < d.size := by simpa using h2
    simp [rowF, AtF, h3]
def RiseK (l : List Kn) : Prop := l.Pairwise fun a b => a.id.1 < b.id.1
theorem sortStable_any (m : Nat) {base : Nat} {A : Option Addr} {n c : Nat} (d : List Kn) (w : World) (hn : d.length = n) (hn2 : n < 40) (hnd : (d.map Kn.id).Nodup) (hown : Own w base 47 34 A n c (d.flatMap (knL m))) :
    Calls Tryz.prog 20 #[.slice A n c, .func (.func 21) #[] #[]] w fun e w' => e = .returned (.tuple #[]) ∧ ∃ d' : List Kn, d'.Perm d ∧ RiseK d' ∧ Own w' base 47 34 A n c (d'.flatMap (knL m)) ∧ Kept base [47] [] w w' := by
  obtain ⟨hl, ⟨hv, h0⟩ | ⟨gg, cap, cur, hv, hb, hh, hncap, hcap, hcs, htake⟩⟩ := id hown
  · injection hv with e1 e2 e3
    subst e1 e2 e3
    have hd : d = [] := List.eq_nil_of_length_eq_zero hn
    subst hd
    have HC := Lib.hid (stable_none none 0 (.func (.func 21) #[] #[]) w)
    have HO := Lib.hid hown
    clear hown hl h0 hn hn2 hnd
    go_enter Tryz.func20, Tryz.ntmps20
    go_wp2_with (go_at_call 34; (with_reducible refine HC.out.mono ?_); rintro _ w2 ⟨rfl, rfl⟩)
    go_end0
    exact ⟨rfl, [], List.Perm.refl _, List.Pairwise.nil, HO.out, Kept.refl _ _ _ _⟩
  · injection hv with e1 e2 e3
    subst e1 e3 hn
    have hgl : gg < w.heap.size := by
      rcases Nat.lt_or_ge gg w.heap.size with q | q
      · exact q
      · rw [Array.getElem?_eq_none q] at hh; cases hh
    have hkl : d.length * 34 ≤ cur.size := by rw [hcs]; exact Nat.mul_le_mul_right 34 hncap
    have hH : HoldsK (knL m) 34 w gg 0 d.toArray := by
      intro j hj
      have hj' : j < d.length * 34 := by simpa using hj
      refine ⟨?_, frozen_of_row w gg (0 + j) cur 47 hh⟩
      rw [cell_of_row w gg (0 + j) cur 47 (0, 0) hh, Nat.zero_add]
      have e1 : (flatK (knL m) 34 d.toArray).toList[j]? = some (flatK (knL m) 34 d.toArray)[j]! := by
        rw [Array.getElem?_toList, Array.getElem?_eq_getElem hj, getElem!_pos (flatK (knL m) 34 d.toArray) j hj]
      rw [flatK_eq (knL m) 34 (knL_len m), ← htake, List.getElem?_take_of_lt hj', Array.getElem?_toList] at e1
      exact e1
    have R : RowK (knL m) 34 w gg 0 d.toArray := ⟨knL_len m, knL_one m, hH, hgl⟩
    have ht : Tri9 cfK (AtF d.toArray) 0 d.toArray.size := by
      rw [tri_pair, rowF_all]
      have h9 : d.Pairwise fun a b => a.id ≠ b.id := List.pairwise_map.1 hnd
      refine h9.imp fun {a b} hne => ?_
      rcases bs_tri a.id.1 b.id.1 with q | q | q
      · exact .inl (cmpS_lt.2 q)
      · exact absurd (Subtype.ext q) hne
      · exact .inr (cmpS_lt.2 q)
    have hpos : 0 < d.toArray.size ∨ d = [] := by
      cases d with
      | nil => exact .inr rfl
      | cons x l => exact .inl (by simp)
    have hfin : ∀ (d' : Array Kn) (W : World), d'.size = d.length → SWK (knL m) 34 w gg 0 d' W → (Own W base 47 34 (some ⟨gg, 0, none⟩) d.length c (d'.toList.flatMap (knL m)) ∧ Kept base [47] [] w W) := by
      intro d' W hsz hS
      obtain ⟨q, os, rfl⟩ := hS
      constructor
      · have hblk : (sortWorldK (knL m) 34 w gg 0 q d' os).heap[gg]? = some (.cells (putCells id 0 (flatK (knL m) 34 d') cur) 47 (0, 0)) := by
          rw [sortW_block (knL m) 34 w gg q d' os hgl, if_pos rfl, hh]
          rfl
        have hfl : (flatK (knL m) 34 d').toList = d'.toList.flatMap (knL m) := by
          have := flatK_eq (knL m) 34 (knL_len m) d'.toList
          simpa using this
        refine ⟨by rw [flatn_len (f := knL m) (C := 34) (knL_len m), Array.length_toList, hsz], .inr ⟨gg, c, _, rfl, hb, hblk, hncap, hcap, by simp [putCells, hcs], ?_⟩⟩
        rw [← hfl]
        apply List.ext_getElem?
        intro i
        by_cases h : i < d.length * 34
        · have h2 : i < (flatK (knL m) 34 d').size := by simpa [hsz] using h
          rw [List.getElem?_take_of_lt h, Array.getElem?_toList, Array.getElem?_toList, Array.getElem?_eq_getElem h2]
          have h3 : i < cur.size := by omega
          simp [putCells, h3]
          rw [if_pos (by rw [hsz]; exact h), getElem!_pos (flatK (knL m) 34 d') i h2]
        · rw [List.getElem?_eq_none (by simp; omega), List.getElem?_eq_none (by simp [hsz]; omega)]
      · refine ⟨rfl, rfl, rfl, ?_, fun i hi hS => ?_⟩
        · simp [sortWorldK, grow, putRowK, putRow, mapBlock, Sort.ahead]
        · rw [sortW_block (knL m) 34 w gg q d' os hi, if_neg]
          intro e
          subst e
          exact hS (.inr ⟨hb, 47, by simp, cur, (0, 0), hh⟩)
    have HF := Lib.hid hfin
    have HO := Lib.hid hown
    clear hfin hown hcs htake hH hh hkl hnd
    rcases hpos with hpos | rfl
    · have HC := Lib.hid (stable_any R (g := 21) (cb := #[]) (enters_of Tryz.func21 (by kernel_rfl) rfl) (fun _ _ _ _ x y => sorted1_any m _ x y) (fun x y z h1 h2 => cmpS_lt.2 (List.lt_trans (cmpS_lt.1 h1) (cmpS_lt.1 h2))) rfl (SWK.start R.hH) c hpos (by simpa using hn2) ht)
      have hsz : d.toArray.size = d.length := by simp
      rw [hsz] at HC
      clear R ht hsz hpos
      go_enter Tryz.func20, Tryz.ntmps20
      go_wp2_with (go_at_call 34; (with_reducible refine HC.out.mono ?_); rintro _ w2 ⟨rfl, d2, hd2, hf2, S2'⟩; have HD2 := Lib.hid hd2; have S2 := Lib.hid S2'; have HF2 := Lib.hid hf2; clear S2' hf2 hd2)
      go_end0
      obtain ⟨r1, r2⟩ := HF.out d2 w2 HD2.out S2.out
      have hp := HF2.out.perm
      have hs2 : d.length = d2.size := HD2.out.symm
      have e9 : rowF (AtF d.toArray) 0 d.length = d := by simpa using rowF_all d.toArray
      have e8 : rowF (AtF d2) 0 d.length = d2.toList := by rw [hs2]; exact rowF_all d2
      rw [e8, e9] at hp
      refine ⟨rfl, d2.toList, hp, ?_, r1, r2⟩
      unfold RiseK
      rw [List.pairwise_iff_getElem]
      intro i j hi hj hij
      have hj2 : j < d2.size := by simpa using hj
      have hi2 : i < d2.size := by simpa using hi
      have := HF2.out.up i j (Nat.zero_le _) hij (by omega)
      unfold AtF at this
      rw [getElem!_pos d2 j hj2, getElem!_pos d2 i hi2] at this
      simpa using cmpS_lt.1 this
    · have HC := Lib.hid (stable_none (some ⟨gg, 0, none⟩) c (.func (.func 21) #[] #[]) w)
      clear R ht
      go_enter Tryz.func20, Tryz.ntmps20
      go_wp2_with (go_at_call 34; (with_reducible refine HC.out.mono ?_); rintro _ w2 ⟨rfl, rfl⟩)
      go_end0
      exact ⟨rfl, [], List.Perm.refl _, List.Pairwise.nil, HO.out, Kept.refl _ _ _ _⟩
end Go.Proofs.YtmlmbkelpjmafaaGreat
