/-
  Contract of pack.parse at a pack whose bodies are alike but for the last byte. No statement of the seat is proved here.
-/
import Derived.Test.YtmlmbkelpjmafaaGreatKq
namespace Go.Proofs.YtmlmbkelpjmafaaGreat
open Go.RowKit Go.Shelf
theorem pack_split (u xs : List UInt8) : ∃ F G S : List UInt8, packB u xs = wordB ++ (be 4 xs.length ++ (F ++ (G ++ (entsTo u xs xs.length ++ S)))) ∧ F.length = 1024 ∧ G.length = xs.length * 36 ∧ S.length = 32 := by
  refine ⟨(cumL (fanL (xs.map (idU u))) 256).flatMap (be 4), (xs.map (idU u)).flatMap (·.1) ++ (placesB u xs).flatMap (be 4), (sha (bodyB u xs)).1, ?_, ?_, ?_, (sha (bodyB u xs)).2⟩
  · unfold packB
    generalize (sha (bodyB u xs)).1 = S
    unfold bodyB headB
    rw [List.length_map]
    simp only [List.append_assoc, List.flatMap_cons, List.flatMap_nil, List.append_nil]
  · rw [nums_len, cumL_len]
  · rw [List.length_append, idsB_len, nums_len, List.length_map]
    unfold placesB
    rw [List.length_map, atsTo_len]
    omega
theorem ents_pre (u xs : List UInt8) (k : Nat) : ∀ d, ∃ r, entsTo u xs (k + d) = entsTo u xs k ++ r
  | 0 => ⟨[], by simp⟩
  | d + 1 => by
    obtain ⟨r, hr⟩ := ents_pre u xs k d
    exact ⟨r ++ entB u (k + d) (xs.getD (k + d) 0), by rw [← Nat.add_assoc, entsTo_succ, hr, List.append_assoc]⟩
/-- What is left of the entries behind the first k. -/
def leftE (u xs : List UInt8) (k : Nat) (S : List UInt8) : List UInt8 := (entsTo u xs xs.length ++ S).drop (entsTo u xs k).length
theorem leftE_zero (u xs S : List UInt8) : leftE u xs 0 S = entsTo u xs xs.length ++ S := rfl
theorem leftE_succ (u xs S : List UInt8) {k : Nat} (h : k < xs.length) : leftE u xs k S = entB u k (xs.getD k 0) ++ leftE u xs (k + 1) S := by
  obtain ⟨r, hr⟩ := ents_pre u xs (k + 1) (xs.length - (k + 1))
  rw [show k + 1 + (xs.length - (k + 1)) = xs.length by omega] at hr
  unfold leftE
  rw [hr, List.append_assoc, List.drop_left, entsTo_succ, List.append_assoc, List.drop_left]
theorem rise_eq {lt : UInt8 → UInt8 → Prop} (hi : ∀ a, ¬ lt a a) (ht : ∀ a b, lt a b → ¬ lt b a) : ∀ (l m : List UInt8), l.Pairwise lt → m.Pairwise lt → l.Perm m → l = m
  | [], m, _, _, hp => (List.nil_perm.1 hp).symm
  | a :: l, [], _, _, hp => by have := hp.length_eq; simp at this
  | a :: l, b :: m, h1, h2, hp => by
    rw [List.pairwise_cons] at h1 h2
    have e : a = b := by
      have h3 : a ∈ b :: m := hp.mem_iff.1 (by simp)
      have h4 : b ∈ a :: l := hp.mem_iff.2 (by simp)
      rcases List.mem_cons.1 h3 with q | q
      · exact q
      · rcases List.mem_cons.1 h4 with r | r
        · exact r.symm
        · exact absurd (h1.1 b r) (ht _ _ (h2.1 a q))
    subst e
    rw [rise_eq hi ht l m h1.2 h2.2 (List.Perm.cons_inv hp)]
theorem build_pc (A : Option Addr) (n c : Nat) (w : World) : (Instr.build 107 #[(0, .slice A n c)]).run Tryz.prog w = .ok (.agg #[.slice A n c, .bool false]) w := by kernel_rfl
theorem info_ob9 : (Tryz.prog.info? 27).map (fun i => (i.zero, i.size, i.bytes)) = some (some (.agg #[.int .i64 0, .slice none 0 0]), 2, 32) := by kernel_rfl
theorem elemOb : Elem Tryz.prog 25 27 2 32 := by
  refine ⟨Tryz.underlying25, ?_, by decide⟩
  have h := info_ob9
  cases hq : Tryz.prog.info? 27 with
  | none => rw [hq] at h; cases h
  | some i =>
    rw [hq] at h
    simp only [Option.map_some, Option.some.injEq, Prod.mk.injEq] at h
    exact ⟨i, _, rfl, h.1, h.2.1, h.2.2, rfl⟩
theorem ptakeA_any (k B g : Nat) (A : Option Addr) (X Y : List UInt8) (c : Nat) (w : World) (h : CurI w B g 107 A (X ++ Y) c) (hk : X.length = k) (hl : (X ++ Y).length ≤ 1000000) (hB : B ≤ w.heap.size) :
    Calls Tryz.prog 43 #[.pointer (some ⟨g, 0, none⟩), .int .i64 k] w fun e w' => ∃ c1 A' c', e = .returned (.slice A k c1) ∧ Reads w' B 1 A k (X.map bv) ∧ CurI w' B g 107 A' Y c' ∧ Keep (Only g) w w' := by
  subst hk
  have hr := h.2.1.front (k := X.length) (by simp)
  have hg := h.2.2.2.2
  rw [Nat.mul_one, ← List.map_take, List.take_left' rfl] at hr
  refine (ptake_any X.length B g A _ c w h (by simp) hl).mono ?_
  rintro e w' ⟨c1, A', c', rfl, h1, h2, h3, h4⟩
  exact ⟨c1, A', c', rfl, hr.kept h4 hB (fun i hi q => by unfold Only at q; omega), by simpa using h3, h4⟩
def ParsePost (u xs : List UInt8) (w : World) (e : Ending) (w' : World) : Prop := ∃ A c os, e = .returned (.tuple #[.slice A xs.length c, .bool true]) ∧ os.map Ob.x = xs ∧ ObI w' w'.heap.size u A os ∧ Below w.heap.size w w'
set_option maxHeartbeats 8000000 in
set_option maxRecDepth 1000000 in
theorem parse_any (u xs : List UInt8) (N : Nat) (hN : xs.length = N) (hu : u.length ≤ 2000) (hu2 : N ≤ 1 ∨ 100 ≤ u.length) (hk : N < 40) (hrise : xs.Pairwise (fun a b => (idU u a).1 < (idU u b).1)) (A : Option Addr) (c M : Nat) (hM : (packB u xs).length = M) (w : World) (hr : Reads w w.heap.size 1 A M ((packB u xs).map bv)) (hc : M ≤ c) (hc2 : c ≤ maxLen) :
    Calls Tryz.prog 30 #[.slice A M c] w (ParsePost u xs w) := by
  obtain ⟨z, hz⟩ : ∃ z, w.heap.size = z := ⟨_, rfl⟩
  have HPP := Lib.hid (show ParsePost u xs w = fun e w' => ∃ A c os, e = .returned (.tuple #[.slice A N c, .bool true]) ∧ os.map Ob.x = xs ∧ ObI w' w'.heap.size u A os ∧ Below z w w' from by rw [← hN, ← hz]; rfl)
  rw [HPP.out]
  obtain ⟨F, G, S, hsp, hF, hG, hS⟩ := pack_split u xs
  have hE := entsTo_len u xs xs.length
  have hE2 : (entsTo u xs xs.length).length ≤ 90000 := by
    have : xs.length * (u.length + 33) ≤ 40 * 2033 := Nat.mul_le_mul (by omega) (by omega)
    omega
  have hMl : M ≤ 100000 := by
    rw [← hM, hsp]
    simp [wordB, be_len]
    omega
  have hcu0 : CurI (w.alloc (.cells #[.slice A M c, .bool false] 107)) z z 107 A (packB u xs) c := by
    refine ⟨?_, ?_, by omega, hc2, Nat.le_refl _⟩
    · rw [hM, ← hz]
      exact Blk.new _ _ _
    · rw [hM, ← hz]
      exact hr.alloc (Nat.le_refl _) _
  have HBW := Lib.hid ((Below.refl z w).alloc (by omega) (.cells #[.slice A M c, .bool false] 107))
  have HR := Lib.hid (show Reads w z 1 A M ((packB u xs).map bv) by rw [← hz]; exact hr)
  have HZ := Lib.hid hz
  have hz1 : z ≤ (w.alloc (.cells #[.slice A M c, .bool false] 107)).heap.size := by simp; omega
  rw [hsp] at hcu0
  have HCU := Lib.hid hcu0
  have HN := Lib.hid hN
  have HRI := Lib.hid hrise
  have HU2 := Lib.hid hu2
  have HM := Lib.hid hM
  have HFG := Lib.hid (And.intro hF (And.intro hG hS))
  rw [hN] at hE2 hG
  clear hcu0 hr hsp hrise hu2 hE hM HPP hz
  go_enter Tryz.func30, Tryz.ntmps30
  go_upto_region 2 with (first | (refine wpList_built rfl rfl (vs := #[(0, .slice A M c)]) rfl (build_pc _ _ _ _) ?_) | (refine wpList_boxed rfl rfl (cs := #[.slice A M c, .bool false]) rfl ?_))
  rw [HZ.out]
  generalize w.alloc (.cells #[.slice A M c, .bool false] 107) = w1 at *
  rw [hN] at HCU
  obtain ⟨E, hEE⟩ : ∃ E, entsTo u xs N ++ S = E := ⟨_, rfl⟩
  have hEl : E.length ≤ 90032 ∧ 32 ≤ E.length := by rw [← hEE, List.length_append, hS]; omega
  rw [hEE] at HCU
  have HEE := Lib.hid hEE
  have HNN := Lib.hid hN
  clear hEE hN
  have H1 := Lib.hid (ptakeA_any 8 z z A wordB _ c w1 HCU.out rfl (by simp [wordB, be_len]; omega) hz1)
  rw [show ((8 : Nat) : Int) = 8 from rfl] at H1
  go_upto_region 4 with (go_at_call 43; (with_reducible refine H1.out.mono ?_); rintro _ w2 ⟨ct, A2, c2, rfl, hr2, hq2, hk2⟩; have hcv := bconv w2 (c := ct) hr2; have HQ2 := Lib.hid hq2; have HK2 := Lib.hid hk2; rw [show (⟨wordB.toArray⟩ : ByteArray) = ⟨#[83, 76, 86, 71, 80, 65, 75, 49]⟩ from rfl] at hcv; clear hr2 hq2 hk2 H1)
  have hz2 : z ≤ w2.heap.size := Nat.le_trans hz1 HK2.out.size
  have HBW2 := Lib.hid (HBW.out.trans (below_only HK2.out hz1))
  have H2 := Lib.hid (pbe_any z z N A2 _ c2 w2 HQ2.out (by omega) (by simp; omega) hz2)
  clear hcv HBW HK2 HQ2 HCU hz1
  go_upto_region 5 with (go_at_call 44; (with_reducible refine H2.out.mono ?_); rintro _ w3 ⟨A3, c3, rfl, hq3, hk3⟩; have HQ3 := Lib.hid hq3; have HK3 := Lib.hid hk3; clear hq3 hk3 H2)
  have hz3 : z ≤ w3.heap.size := Nat.le_trans hz2 HK3.out.size
  have HBW3 := Lib.hid (HBW2.out.trans (below_only HK3.out hz2))
  have H3 := Lib.hid (ptakeA_any 1024 z z A3 F _ c3 w3 HQ3.out hF (by simp; omega) hz3)
  rw [show ((1024 : Nat) : Int) = 1024 from rfl] at H3
  clear HBW2 HK3 HQ3 hz2
  go_upto_region 6 with (go_at_call 43; (with_reducible refine H3.out.mono ?_); rintro _ w4 ⟨ct4, A4, c4, rfl, _, hq4, hk4⟩; have HQ4 := Lib.hid hq4; have HK4 := Lib.hid hk4; clear hq4 hk4 H3)
  have hz4 : z ≤ w4.heap.size := Nat.le_trans hz3 HK4.out.size
  have HBW4 := Lib.hid (HBW3.out.trans (below_only HK4.out hz3))
  have H4 := Lib.hid (ptakeA_any (N * 36) z z A4 G _ c4 w4 HQ4.out hG (by simp; omega) hz4)
  rw [show ((N * 36 : Nat) : Int) = (N : Int) * 36 by omega] at H4
  have cc0 := HQ4.out.1.cell 0
  have cc1 := HQ4.out.1.cell 1
  simp at cc0 cc1
  obtain ⟨R, hR⟩ : ∃ R, G.length + E.length = R := ⟨_, rfl⟩
  rw [hR] at cc0
  obtain ⟨q, hq⟩ : ∃ q, R / 36 = q := ⟨_, rfl⟩
  have e0 : (R : Int) / 36 = (q : Int) := by omega
  have e1 : ¬ (q : Int) < (N : Int) := by omega
  have e2 : wrap64 (q : Int) = (q : Int) := IntWalk.wrap64_in _ (by omega)
  clear HBW3 HK4 HQ4 hz3 hR hq
  go_upto_region 9 with (go_at_call 43; (with_reducible refine H4.out.mono ?_); rintro _ w5 ⟨ct5, A5, c5, rfl, _, hq5, hk5⟩; have HQ5 := Lib.hid hq5; have HK5 := Lib.hid hk5; clear hq5 hk5 H4)
  have hz5 : z ≤ w5.heap.size := Nat.le_trans hz4 HK5.out.size
  have HBW5 := Lib.hid (HBW4.out.trans (below_only HK5.out hz4))
  have HCU := Lib.hid (show CurI w5 z z 107 A5 (leftE u xs 0 S) c5 by rw [leftE_zero, HNN.out, HEE.out]; exact HQ5.out)
  clear HBW4 HK5 HQ5 hz4 cc0 cc1 e0 e1 e2 hEl HFG
  go_wp2_with fail
  go_loopg [6, 41] N (fun kx s6 s41 wr => ∃ (k : Nat) (A6 : Option Addr) (c6 : Nat) (Ac : Option Addr) (cc : Nat) (os : List Ob), s41 = .int .i64 k ∧ s6 = .slice A6 k c6 ∧ k ≤ N ∧ N - k ≤ kx ∧ Hid (os.map Ob.x = xs.take k) ∧ Hid (Own wr z 27 2 A6 k c6 (os.flatMap (obL (u.length + 1)))) ∧ Hid (∀ o ∈ os, Reads wr wr.heap.size 1 o.A (u.length + 1) ((u ++ [o.x]).map bv) ∧ u.length + 1 ≤ o.c ∧ o.c ≤ maxLen ∧ ∀ a, o.A = some a → z < a.block ∧ NotB A6 k c6 a.block) ∧ Hid (CurI wr z z 107 Ac (leftE u xs k S) cc) ∧ Hid (Below z w wr))
  case atStart => exact ⟨0, none, 0, A5, c5, [], rfl, rfl, Nat.zero_le _, Nat.le_refl _, Lib.hid rfl, Lib.hid (Own.nil _ _ _ _), Lib.hid (by simp), HCU, HBW5⟩
  case round =>
    clear HCU HBW5 hz5
    obtain ⟨k, A6, c6, Ac, cc, os, rfl, rfl, hkN, hkx, HOS, HO, HBD, HCU, HBW⟩ := hrel
    have hzr : z ≤ wr.heap.size := by rw [← HZ.out]; exact HBW.out.size
    have hol : os.length = k := by
      have := congrArg List.length HOS.out
      rw [List.length_map, List.length_take, HN.out] at this
      omega
    have hOB : ObI wr wr.heap.size u A6 os := ⟨by rw [hol]; exact HO.out.reads, fun o ho => (HBD.out o ho).1, fun o ho => ⟨(HBD.out o ho).2.1, (HBD.out o ho).2.2.1⟩⟩
    have HOB := Lib.hid hOB
    have HOL := Lib.hid hol
    by_cases hlt : k < N
    · have hltz : (k : Int) < (N : Int) := by omega
      obtain ⟨x, hx⟩ : ∃ x, xs[k]? = some x := ⟨_, List.getElem?_eq_getElem (by rw [HN.out]; exact hlt)⟩
      have hgd : xs.getD k 0 = x := by rw [List.getD_eq_getElem?_getD, hx]; rfl
      have hcu := HCU.out
      rw [leftE_succ u xs S (by rw [HN.out]; exact hlt), hgd] at hcu
      have hrl : (leftE u xs (k + 1) S).length ≤ 800000 := by
        unfold leftE
        rw [List.length_drop, List.length_append, HN.out]
        omega
      have HE := Lib.hid (pentry_any z z u k x (leftE u xs (k + 1) S) Ac cc os A6 c6 wr hcu hzr hol hOB hu (by rcases HU2.out with q | q <;> omega) (by omega) hrl)
      obtain ⟨n, hn⟩ : ∃ n, u.length + 1 = n := ⟨_, rfl⟩
      have HEP := Lib.hid (show EntryPost z z u x (leftE u xs (k + 1) S) wr = fun e w' => ∃ A c A' c', e = .returned (.tuple #[.agg #[.int .i64 1, .slice A n c], .bool true]) ∧ (Reads w' w'.heap.size 1 A n ((u ++ [x]).map bv) ∧ n ≤ c ∧ c ≤ maxLen ∧ ∀ a, A = some a → wr.heap.size ≤ a.block) ∧ CurI w' z z 107 A' (leftE u xs (k + 1) S) c' ∧ Keep (Only z) wr w' from by rw [← hn]; rfl)
      rw [HEP.out] at HE
      have HCB := Lib.hid hcu.1
      have Hn := Lib.hid hn
      have hzl : z < wr.heap.size := hcu.1.lt
      rw [hn] at HBD HO
      have hxt : xs.take (k + 1) = xs.take k ++ [x] := by rw [List.take_add_one, hx]; rfl
      have HXT := Lib.hid hxt
      have hm1 : k + 1 ≤ maxLen := by unfold maxLen; omega
      have hm2 : (k + 1) * 32 ≤ 140737488355328 := by omega
      clear hcu hrl hgd hx HEP hn HCU HOB hOB hxt
      go_upto_region 13 with (first | (go_at_call 45; (with_reducible refine HE.out.mono ?_); rintro _ w2 ⟨A9, c9, A2, c2, rfl, hb2, hq2, hk2⟩; have HB2 := Lib.hid hb2; have HQ2 := Lib.hid hq2; have HK2 := Lib.hid hk2; clear hb2 hq2 hk2 HE) | (refine wpList_allocAgg rfl rfl (zero_ob _) ?_) | (refine wpList_storeBlk rfl rfl (vs := #[.int .i64 1, .slice A9 n c9]) rfl rfl (Blk.new _ _ _) rfl info_ob (ob_one _ _ _) ?_; intro w4 hb4 hk4 hs4))
      have z2 : wr.heap.size ≤ w2.heap.size := HK2.out.size
      have z4 : w2.heap.size < w4.heap.size := by rw [hs4]; simp
      have fr : ∀ p, p < w2.heap.size → w4.heap[p]? = w2.heap[p]? := fun p hp => (hk4.block p (by simp; omega) (by unfold Only; omega)).trans (Below.heap_alloc w2 _ p hp)
      have HF := Lib.hid fr
      have O4 := Lib.hid (show Own w4 z 27 2 A6 k c6 (os.flatMap (obL n)) from (HO.out.keepOnly HK2.out HCB.out (by decide)).same (fun q _ hq _ => fr q hq))
      have BW4 := Lib.hid (show Below z w w4 from ((HBW.out.trans (below_only HK2.out hzr)).alloc (by omega) (.cells #[.int .i64 0, .slice none 0 0] 27)).trans (hk4.below (by simp; omega) (by unfold Only; intro i hi h; omega)))
      have CU4 := Lib.hid (HQ2.out.keepIn (show Below (z + 1) w2 w4 from ((Below.refl (z + 1) w2).alloc (by omega) _).trans (hk4.below (by simp; omega) (by unfold Only; intro i hi h; omega))))
      have BD4 := Lib.hid (show ∀ o ∈ os ++ [⟨x, A9, c9⟩], Reads w4 w2.heap.size 1 o.A n ((u ++ [o.x]).map bv) ∧ n ≤ o.c ∧ o.c ≤ maxLen ∧ ∀ a, o.A = some a → z < a.block ∧ NotB A6 k c6 a.block from fun o ho => by
        rcases List.mem_append.1 ho with q | q
        · obtain ⟨r1, r2, r3, r4⟩ := HBD.out o q
          refine ⟨?_, r2, r3, r4⟩
          exact (r1.keptB fun a ha hb => (fr a.block (by omega)).trans (HK2.out.block a.block hb (by unfold Only; have := (r4 a ha).1; omega))).more z2
        · rw [List.mem_singleton] at q
          subst q
          obtain ⟨r1, r2, r3, r4⟩ := HB2.out
          exact ⟨r1.keptB fun a ha hb => fr a.block hb, r2, r3, fun a ha => ⟨by have := r4 a ha; omega, HO.out.notB (.inr (r4 a ha))⟩⟩)
      clear hk4 hs4 fr HQ2 HB2 HK2 HBD HO HBW
      go_upto_region 16 with (first | (refine wpList_load rfl rfl rfl (load_obj hb4) ?_) | (refine wpList_buildSlice1 rfl elemOb rfl (vs := #[.int .i64 1, .slice A9 n c9]) (z := #[.int .i64 0, .slice none 0 0]) zero_ob rfl rfl (by omega) rfl ?_) | (refine wpList_append_slf rfl elemOb rfl rfl (O4.out.alloc _) (by omega) rfl (Reads.of_cells (xs := [.int .i64 1, .slice A9 n c9]) (heap_alloc_new _ _) rfl rfl) (ob_one _ _ _) hm1 hm2 (by simp; omega) ?_; intro A5 c5 w9 ho9 hk9 hn9))
      have HOS9 := Lib.hid (show (os ++ [(⟨x, A9, c9⟩ : Ob)]).map Ob.x = xs.take (k + 1) by rw [List.map_append, HOS.out, HXT.out]; rfl)
      have HO9 := Lib.hid (show Own w9 z 27 2 A5 (k + 1) c5 ((os ++ [(⟨x, A9, c9⟩ : Ob)]).flatMap (obL (u.length + 1))) by
        rw [Hn.out, List.flatMap_append]
        simpa [obL] using ho9)
      have fr9 : ∀ p, p < w4.heap.size → NotB A6 k c6 p → w9.heap[p]? = w4.heap[p]? ∧ NotB A5 (k + 1) c5 p := fun p hp hn => by
        obtain ⟨q1, q2⟩ := hn9 p (by simp; omega) hn
        exact ⟨q1.trans (Below.heap_alloc w4 _ p hp), q2⟩
      have z9 : w4.heap.size ≤ w9.heap.size := by have := hk9.size; simp at this; omega
      have BD9 := Lib.hid (show ∀ o ∈ os ++ [(⟨x, A9, c9⟩ : Ob)], Reads w9 w9.heap.size 1 o.A (u.length + 1) ((u ++ [o.x]).map bv) ∧ u.length + 1 ≤ o.c ∧ o.c ≤ maxLen ∧ ∀ a, o.A = some a → z < a.block ∧ NotB A5 (k + 1) c5 a.block from fun o ho => by
        rw [Hn.out]
        obtain ⟨r1, r2, r3, r4⟩ := BD4.out o ho
        have hlt9 : ∀ a, o.A = some a → a.block < w2.heap.size := fun a ha => by
          obtain ⟨a', e', hb', _⟩ := r1.2 (by have := Hn.out; omega)
          rw [ha] at e'
          injection e' with e'
          subst e'
          exact hb'
        refine ⟨(r1.keptB fun a ha hb => (fr9 a.block (by omega) (r4 a ha).2).1).more (by omega), r2, r3, fun a ha => ⟨(r4 a ha).1, (fr9 a.block (by have := hlt9 a ha; omega) (r4 a ha).2).2⟩⟩)
      have hkb := ((Kept.refl z [27] [] w4).alloc (.cells #[.int .i64 1, .slice A9 n c9] 27)).trans hk9
      have CU9 := Lib.hid (show CurI w9 z z 107 A2 (leftE u xs (k + 1) S) c2 from ⟨hkb.blk CU4.out.1 (by simp) (by decide), CU4.out.2.1.below (hkb.below (Nat.le_refl _) (by omega) (by simp)), CU4.out.2.2⟩)
      have BW9 := Lib.hid (BW4.out.trans (hkb.below (Nat.le_refl _) (by omega) (by simp)))
      clear ho9 hk9 hn9 fr9 hkb hb4
      go_wp2_with fail
      go_roundg (N - (k + 1))
      case measure => omega
      case rel => exact ⟨k + 1, A5, c5, A2, c2, _, by go_num, rfl, by omega, Nat.le_refl _, HOS9, HO9, BD9, CU9, BW9⟩
    · obtain rfl : k = N := by omega
      clear hlt
      have hox : os.map Ob.x = xs := by rw [HOS.out, List.take_of_length_le (by rw [HN.out]; exact Nat.le_refl _)]
      have hnd : (os.map fun o => idU u o.x).Nodup := by
        have h1 : xs.Pairwise (fun a b => idU u a ≠ idU u b) := HRI.out.imp fun h e => by rw [e] at h; exact List.lt_irrefl _ h
        rw [← hox] at h1
        exact List.pairwise_map.2 ((List.pairwise_map (f := Ob.x) (R := fun a b => idU u a ≠ idU u b)).1 h1)
      have HBU := Lib.hid (build_any u os A6 c6 wr hOB hnd hu (by rw [hol]; exact HU2.out) (by rw [hol]; exact hk))
      have HBP := Lib.hid (show BuildPost u os wr = fun r w' => ∃ A c, r = .returned (.tuple #[.slice A M c, .int .i64 0]) ∧ Own w' wr.heap.size 5 1 A M c ((packB u xs).map bv) ∧ Below wr.heap.size wr w' from by
        funext r w'
        rw [← HM.out]
        unfold BuildPost
        apply propext
        constructor
        · rintro ⟨A, c, ys, h1, h2, h3, h4, h5⟩
          have e : ys = xs := rise_eq (lt := fun a b => (idU u a).1 < (idU u b).1) (fun a h => List.lt_irrefl _ h) (fun a b h => List.lt_asymm h) ys xs h3 HRI.out (by rw [← hox]; exact h2)
          subst e
          exact ⟨A, c, h1, h4, h5⟩
        · rintro ⟨A, c, h1, h2, h3⟩
          exact ⟨A, c, xs, h1, by rw [hox], HRI.out, h2, h3⟩)
      rw [HBP.out, hol] at HBU
      have HOX := Lib.hid hox
      clear hox hnd HBP hol hOB
      go_upto_region 18 with (go_at_call 7; (with_reducible refine HBU.out.mono ?_); rintro _ w2 ⟨A9, c9, rfl, ho2, hb2⟩; have HO2 := Lib.hid ho2; have HB2 := Lib.hid hb2; clear ho2 hb2 HBU)
      have hz2 : wr.heap.size ≤ w2.heap.size := HB2.out.size
      have HEQ := Lib.hid (bequal_any (packB u xs) A9 A M c9 c w2 HO2.out.reads (HR.out.below (HBW.out.trans (HB2.out.mono hzr))))
      clear HO2
      go_wp2_with (go_at_call 23; (with_reducible refine HEQ.out.mono ?_); rintro _ w3 ⟨rfl, rfl⟩)
      go_ret2
      refine ⟨A6, c6, os, rfl, HOX.out, ⟨(HOB.out.row.below HB2.out).more hz2, fun o ho => ((HOB.out.body o ho).below HB2.out).more hz2, HOB.out.cap⟩, HBW.out.trans (HB2.out.mono hzr)⟩
end Go.Proofs.YtmlmbkelpjmafaaGreat
