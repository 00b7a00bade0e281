/-
  Contract of lines.table: of each place in both rows of numbers how many can be kept behind it. No statement of the seat is proved here.
-/
import Derived.Test.YtlcidbbpjlpmjaaDoorQn
import Derived.Test.YtlcidbbpjlpmjaaDoorQd2
namespace Go.Proofs.YtlcidbbpjlpmjaaDoor
open Go.RowKit

def natL (x : List Nat) : List Value := x.map fun (n : Nat) => Value.int .i64 (n : Int)
theorem natL_len (x : List Nat) : (natL x).length = x.length := by simp [natL]
theorem Reads.natAt {w : World} {B n k : Nat} {A : Option Addr} {x : List Nat} {s : Nat} (h : Reads w B 1 A n (natL x)) (hs : x[k]? = some s) (hn : x.length = n) : ∃ g off, A = some ⟨g, off, none⟩ ∧ g < B ∧ w.cell? ⟨g, off + k, none⟩ = some (.int .i64 (s : Int)) := by
  have hk : k < x.length := by
    rcases Nat.lt_or_ge k x.length with q | q
    · exact q
    · rw [List.getElem?_eq_none q] at hs; cases hs
  obtain ⟨g, off, e, hb, hc⟩ := h.at0 (by omega) (by omega)
  exact ⟨g, off, e, hb, hc _ _ (by simp [natL, hs])⟩
def u16V (n : Nat) : Value := .int .u16 (n : Int)
/-- A row of the table. -/
def rowL (l : List Nat) : List Nat → List Value
  | [] => [u16V 0]
  | y :: m => u16V (lcs l (y :: m)) :: rowL l m
theorem rowL_len (l m : List Nat) : (rowL l m).length = m.length + 1 := by
  induction m with
  | nil => rfl
  | cons y m ih => simp [rowL, ih]
theorem rowL_at (l m : List Nat) (j : Nat) (h : j ≤ m.length) : (rowL l m)[j]? = some (u16V (lcs l (m.drop j))) := by
  induction m generalizing j with
  | nil =>
    have : j = 0 := by simpa using h
    subst this
    simp [rowL, lcs_nil_right]
  | cons y m ih =>
    cases j with
    | zero => simp [rowL]
    | succ j =>
      simp only [rowL, List.getElem?_cons_succ, List.drop_succ_cons]
      exact ih j (by simpa using h)
theorem rowL_at' (l m : List Nat) (j : Nat) (h : j ≤ m.length) : (rowL l m).toArray[j]? = some (u16V (lcs l (m.drop j))) := by rw [List.getElem?_toArray]; exact rowL_at l m j h
theorem rowL_nil (m : List Nat) : rowL [] m = List.replicate (m.length + 1) (u16V 0) := by
  induction m with
  | nil => rfl
  | cons y m ih => rw [rowL, ih, lcs_nil_left, List.length_cons, List.replicate_succ (n := m.length + 1)]
theorem part_at (l m : List Nat) (j k : Nat) (h : k ≤ m.length) : (List.replicate j (u16V 0) ++ rowL l m).toArray[j + k]? = some (u16V (lcs l (m.drop k))) := by
  simp only [List.getElem?_toArray]
  rw [List.getElem?_append_right (by simp), List.length_replicate, Nat.add_sub_cancel_left]
  exact rowL_at l m k h
theorem part_set (l m : List Nat) (j : Nat) (y : Nat) (v : Nat) (hv : lcs l (y :: m) = v) : ((List.replicate (j + 1) (u16V 0) ++ rowL l m).toArray).setIfInBounds j (u16V v) = (List.replicate j (u16V 0) ++ rowL l (y :: m)).toArray := by
  apply Array.ext'
  rw [Array.toList_setIfInBounds, List.replicate_succ', List.append_assoc, List.set_append_right _ _ (by simp)]
  simp [rowL, hv]
def slV (g m : Nat) : Value := .slice (some ⟨g, 0, none⟩) m m
def nilV : Value := .slice none 0 0
/-- The table from the row of a place on: rows gs. -/
def RowsAt (w : World) (lo : Nat) (x y : List Nat) (gs : List Nat) : Prop := ∀ k g, gs[k]? = some g → lo ≤ g ∧ Blk w g 103 (rowL (x.drop k) y).toArray
def Tab (w : World) (lo G : Nat) (x y : List Nat) : Prop := lo ≤ G ∧ ∃ gs : List Nat, gs.length = x.length + 1 ∧ Blk w G 104 (gs.map fun g => slV g (y.length + 1)).toArray ∧ RowsAt w lo x y gs
theorem Tab.row {w : World} {lo G : Nat} {x y : List Nat} (h : Tab w lo G x y) (i : Nat) (hi : i ≤ x.length) : ∃ g, w.cell? ⟨G, i, none⟩ = some (slV g (y.length + 1)) ∧ Blk w g 103 (rowL (x.drop i) y).toArray := by
  obtain ⟨_, gs, h1, h2, h3⟩ := h
  have hg : gs[i]? = some (gs[i]'(by omega)) := List.getElem?_eq_getElem (by omega)
  refine ⟨gs[i]'(by omega), ?_, (h3 i _ hg).2⟩
  rw [h2.cell]
  simp [hg]
theorem Tab.keep {w w' : World} {lo G : Nat} {x y : List Nat} {S : Nat → Prop} (h : Tab w lo G x y) (hk : Keep S w w') (hs : ∀ i, lo ≤ i → ¬ S i) : Tab w' lo G x y := by
  obtain ⟨h0, gs, h1, h2, h3⟩ := h
  refine ⟨h0, gs, h1, h2.keep hk (hs _ h0), fun k g hg => ?_⟩
  obtain ⟨q1, q2⟩ := h3 k g hg
  exact ⟨q1, q2.keep hk (hs _ q1)⟩
theorem info_sl16 : (Tryd.prog.info? 104).map (fun i => (i.zero, i.size, i.bytes)) = some (some nilV, 1, 24) := by kernel_rfl
theorem info_u16 : (Tryd.prog.info? 103).map (fun i => (i.zero, i.size, i.bytes)) = some (some (u16V 0), 1, 2) := by kernel_rfl
theorem rep_set (k : Nat) (z v : Value) (l : List Value) : ((List.replicate (k + 1) z ++ l).toArray).setIfInBounds k v = (List.replicate k z ++ (v :: l)).toArray := by
  apply Array.ext'
  rw [Array.toList_setIfInBounds, List.replicate_succ', List.append_assoc, List.set_append_right _ _ (by simp)]
  simp
theorem rep_at (k : Nat) (z : Value) (l : List Value) : (List.replicate (k + 1) z ++ l).toArray[k]? = some z := by
  rw [List.replicate_succ', List.append_assoc]
  simp
def TabPost (x y : List Nat) (w : World) (r : Ending) (w' : World) : Prop := ∃ G, r = .returned (slV G (x.length + 1)) ∧ Tab w' w.heap.size G x y ∧ Keep Nothing w w'
set_option maxHeartbeats 4000000 in
set_option maxRecDepth 100000 in
theorem table_any (x y : List Nat) (A C : Option Addr) (c d B : Nat) (w : World) (hx : Reads w B 1 A x.length (natL x)) (hy : Reads w B 1 C y.length (natL y)) (hB : B ≤ w.heap.size) (hxl : x.length ≤ 4000) (hyl : y.length ≤ 4000) :
    Calls Tryd.prog 53 #[.slice A x.length c, .slice C y.length d] w (TabPost x y w) := by
  have HP := Lib.hid (show TabPost x y w = fun r w' => ∃ G, r = .returned (slV G (x.length + 1)) ∧ Tab w' w.heap.size G x y ∧ Keep Nothing w w' from rfl)
  rw [HP.out]
  clear HP
  go_enter Tryd.func53, Tryd.ntmps53
  go_wp2_with (first | (refine wpList_make_one rfl rfl Tryd.underlying101 info_sl16 rfl (by omega) (x.length + 1) (by omega) rfl rfl (by omega) (by omega) ?_))
  have q0 : Blk (w.alloc (.cells (Array.replicate (x.length + 1) nilV) 104)) w.heap.size 104 (Array.replicate (x.length + 1) nilV) := Blk.new _ _ _
  have k0 : Keep Nothing w (w.alloc (.cells (Array.replicate (x.length + 1) nilV) 104)) := (Keep.refl _ _).alloc _
  generalize hG : w.heap.size = G at *
  generalize w.alloc (.cells (Array.replicate (x.length + 1) nilV) 104) = w0 at *
  go_loopw [6] (fun i wr => ∃ k gs, k ≤ x.length + 1 ∧ i = .int .i64 ((k : Int) - 1) ∧ gs.length = x.length + 1 - k ∧ Blk wr G 104 (List.replicate k nilV ++ gs.map fun g => slV g (y.length + 1)).toArray ∧ RowsAt wr (G + 1) (x.drop k) y gs ∧ Keep Nothing w wr) (fun i _ => (intOf i + 1).toNat)
  case atStart => exact ⟨x.length + 1, [], Nat.le_refl _, by simp, by simp, by simpa using q0, fun k g hg => by simp at hg, k0⟩
  case round =>
    obtain ⟨k, gs, hk, rfl, hgs, hq, hrows, hkp⟩ := hrel
    have hz := hkp.size
    cases k with
    | zero =>
      go_wp2
      go_ret
      refine ⟨G, rfl, ⟨by omega, gs, by omega, by simpa using hq, fun k g hg => ?_⟩, hkp⟩
      obtain ⟨q1, q2⟩ := hrows k g hg
      exact ⟨by omega, by simpa using q2⟩
    | succ k =>
      rw [show ((k + 1 : Nat) : Int) - 1 = (k : Int) from by omega]
      obtain ⟨g0, hg0⟩ : ∃ g0, wr.heap.size = g0 := ⟨_, rfl⟩
      have hGlt : G < wr.heap.size := hq.lt
      have hne : G ≠ g0 := by omega
      have HMK := Lib.hid (show ∀ W, W = wr.alloc (.cells (Array.replicate (y.length + 1) (u16V 0)) 103) → W.cell? ⟨G, k, none⟩ = some (.slice none 0 0) ∧ W.frozen? ⟨G, k, none⟩ = false ∧ Hid (Blk (W.setCell ⟨G, k, none⟩ (slV g0 (y.length + 1))) G 104 (List.replicate k nilV ++ (g0 :: gs).map fun g => slV g (y.length + 1)).toArray) ∧ Hid (Keep Nothing w (W.setCell ⟨G, k, none⟩ (slV g0 (y.length + 1)))) ∧ Hid (Blk (W.setCell ⟨G, k, none⟩ (slV g0 (y.length + 1))) g0 103 (Array.replicate (y.length + 1) (u16V 0))) ∧ Hid (RowsAt (W.setCell ⟨G, k, none⟩ (slV g0 (y.length + 1))) (G + 1) (x.drop (k + 1)) y gs) from by
        rintro W rfl
        have q1 := hq.alloc (.cells (Array.replicate (y.length + 1) (u16V 0)) 103)
        have q2 := q1.set_ k (slV g0 (y.length + 1))
        rw [rep_set] at q2
        have n1 : Blk (wr.alloc (.cells (Array.replicate (y.length + 1) (u16V 0)) 103)) g0 103 (Array.replicate (y.length + 1) (u16V 0)) := by rw [← hg0]; exact Blk.new _ _ _
        refine ⟨(q1.cell k).trans (rep_at k _ _), q1.frozen k, Lib.hid q2, Lib.hid ((hkp.alloc _).setCell (.inr (by show w.heap.size ≤ G; omega)) _), Lib.hid (n1.far (p := ⟨G, k, none⟩) (fun e => hne e.symm) _), Lib.hid (fun j g hg => ?_)⟩
        obtain ⟨p1, p2⟩ := hrows j g hg
        exact ⟨p1, (p2.alloc _).far (p := ⟨G, k, none⟩) (by show g ≠ G; omega) _⟩)
      have HLT := Lib.hid (show ∀ j g, gs[j]? = some g → g < g0 from fun j g hg => by have := (hrows j g hg).2.lt; omega)
      by_cases hkn : k = x.length
      · have hb0 : ((k : Int) == (x.length : Int)) = true := beq_iff_eq.2 (by omega)
        have HGN := Lib.hid (show gs = [] from List.eq_nil_of_length_eq_zero (by omega))
        have HKN := Lib.hid hkn
        clear hkn
        go_wp2_with (first | (refine wpList_make_one rfl rfl Tryd.underlying104 info_u16 rfl (by omega) (y.length + 1) (by omega) rfl rfl (by omega) (by omega) ?_; rw [hg0]; obtain ⟨c0, f0, HQ, HK, HN, HR⟩ := HMK.out _ rfl; generalize wr.alloc (.cells (Array.replicate (y.length + 1) (u16V 0)) 103) = w1 at *))
        go_roundw
        case rel =>
          have hkn := HKN.out
          have hgn := HGN.out
          refine ⟨k, [g0], by omega, by go_num, by simp; omega, ?_, fun j g hg => ?_, HK.out⟩
          · simpa [hgn, slV] using HQ.out
          · cases j with
            | succ j => simp at hg
            | zero =>
              simp only [List.getElem?_cons_zero, Option.some.injEq] at hg
              subst hg
              refine ⟨by omega, ?_⟩
              have hN := HN.out
              rw [hkn] at hN ⊢
              rw [List.drop_length, List.drop_nil, rowL_nil]
              simpa [slV] using hN
        case measure => simp [intOf]
      · have hlt : k < x.length := by omega
        have hb0 : ((k : Int) == (x.length : Int)) = false := beq_eq_false_iff_ne.2 (by omega)
        obtain ⟨xi, hxi⟩ : ∃ s, x[k]? = some s := ⟨x[k], List.getElem?_eq_getElem hlt⟩
        have HDX := Lib.hid (show x.drop k = xi :: x.drop (k + 1) from List.drop_eq_getElem?_toList_append.trans (by rw [hxi]; rfl))
        obtain ⟨g1, gs', hgs'⟩ : ∃ g1 gs', gs = g1 :: gs' := by
          cases gs with
          | nil => simp at hgs; omega
          | cons g1 gs' => exact ⟨g1, gs', rfl⟩
        have HGS := Lib.hid hgs'
        clear hgs' hkn
        obtain ⟨ga, oa, rfl, hgaB, hcx⟩ := hx.natAt hxi rfl
        go_wp2_with (first | (refine wpList_make_one rfl rfl Tryd.underlying104 info_u16 rfl (by omega) (y.length + 1) (by omega) rfl rfl (by omega) (by omega) ?_; rw [hg0]; obtain ⟨c0, f0, HQ, HK, HN, HR⟩ := HMK.out _ rfl; generalize wr.alloc (.cells (Array.replicate (y.length + 1) (u16V 0)) 103) = w1 at *))
        have hq2 := HQ.out
        have hn2 := HN.out
        have hr2 := HR.out
        have hk2 := HK.out
        rw [show slV g0 (y.length + 1) = .slice (some ⟨g0, 0, none⟩) (y.length + 1) (y.length + 1) from rfl] at hq2 hn2 hr2 hk2
        have hGG : w.heap.size ≤ G := by omega
        have hGE : G ≤ w.heap.size := by omega
        clear HQ HN HR HK c0 f0 HMK hq hrows hkp hG q0 k0
        generalize w1.setCell ⟨G, k, none⟩ (.slice (some ⟨g0, 0, none⟩) (y.length + 1) (y.length + 1)) = w2 at *
        have hg1 : G < g1 ∧ Blk w2 g1 103 (rowL (x.drop (k + 1)) y).toArray := by
          have := hr2 0 g1 (by rw [HGS.out]; rfl)
          exact ⟨by omega, by simpa using this.2⟩
        have hne1 : g1 ≠ g0 := by
          have := HLT.out 0 g1 (by rw [HGS.out]; rfl)
          omega
        have c1 : w2.cell? ⟨G, k, none⟩ = some (.slice (some ⟨g0, 0, none⟩) (y.length + 1) (y.length + 1)) := by
          rw [hq2.cell]
          simp [slV]
        have c2 : w2.cell? ⟨G, k + 1, none⟩ = some (.slice (some ⟨g1, 0, none⟩) (y.length + 1) (y.length + 1)) := by
          rw [hq2.cell, HGS.out]
          simp [slV]
        have hq3 := hq2.drew
        have hr3 : RowsAt w2.drew (G + 1) (x.drop (k + 1)) y gs := hr2
        have hk3 := hk2.drew
        have hn3 := hn2.drew
        have hg3 := hg1.2.drew
        have hz3 := hk2.size
        have hg0G : w.heap.size ≤ g0 := by omega
        have hg0lt := hn3.lt
        go_region
        go_wp2
        clear c1 c2 hq2 hr2 hk2 hn2
        have hg1G := hg1.1
        clear hg1
        generalize w2.drew = w3 at *
        go_loopw [9] (fun i wr => ∃ j : Nat, j ≤ y.length ∧ i = .int .i64 ((j : Int) - 1) ∧ Blk wr g0 103 (List.replicate j (u16V 0) ++ rowL (xi :: x.drop (k + 1)) (y.drop j)).toArray ∧ Keep (Only g0) w3 wr) (fun i _ => (intOf i + 1).toNat)
        case atStart =>
          refine ⟨y.length, Nat.le_refl _, rfl, ?_, Keep.refl _ _⟩
          have e : rowL (xi :: x.drop (k + 1)) [] = [u16V 0] := by simp [rowL]
          rw [List.drop_length, e, ← List.replicate_succ']
          simpa using hn3
        case round =>
          obtain ⟨j, hj, rfl, hrow, hkq⟩ := hrel
          cases j with
          | zero =>
            go_wp2
            go_roundw
            case rel =>
              refine ⟨k, g0 :: gs, by omega, by go_num, by simp; omega, hq3.keep hkq (by unfold Only; omega), fun j g hg => ?_, hk3.then_ hkq (by unfold Only; omega)⟩
              cases j with
              | zero =>
                simp only [List.getElem?_cons_zero, Option.some.injEq] at hg
                subst hg
                refine ⟨by omega, ?_⟩
                rw [List.drop_zero, HDX.out]
                simpa using hrow
              | succ j =>
                rw [List.getElem?_cons_succ] at hg
                obtain ⟨p1, p2⟩ := hr3 j g hg
                have p3 := HLT.out j g hg
                refine ⟨p1, ?_⟩
                rw [HDX.out, List.drop_succ_cons]
                exact p2.keep hkq (by unfold Only; omega)
            case measure => simp [intOf]
          | succ j =>
            rw [show ((j + 1 : Nat) : Int) - 1 = (j : Int) from by omega]
            have hjlt : j < y.length := by omega
            obtain ⟨yj, hyj⟩ : ∃ s, y[j]? = some s := ⟨y[j], List.getElem?_eq_getElem hjlt⟩
            have HDY := Lib.hid (show y.drop j = yj :: y.drop (j + 1) from List.drop_eq_getElem?_toList_append.trans (by rw [hyj]; rfl))
            obtain ⟨gc, oc, rfl, hgcB, hcy⟩ := hy.natAt hyj rfl
            have hkT : Keep Nothing w wr := hk3.then_ hkq (by unfold Only; omega)
            have e1 := (hkT.drew.cell (p := ⟨ga, oa + k, none⟩) (by show ga < w.heap.size; omega) (fun h => h)).trans hcx
            have e2 := (hkT.drew.cell (p := ⟨gc, oc + j, none⟩) (by show gc < w.heap.size; omega) (fun h => h)).trans hcy
            have e1' := (hkT.cell (p := ⟨ga, oa + k, none⟩) (by show ga < w.heap.size; omega) (fun h => h)).trans hcx
            have e2' := (hkT.cell (p := ⟨gc, oc + j, none⟩) (by show gc < w.heap.size; omega) (fun h => h)).trans hcy
            have hgq := hg3.keep hkq (by unfold Only; exact hne1)
            have s1 := (hgq.drew.cell (j + 1)).trans (rowL_at' (x.drop (k + 1)) y (j + 1) hjlt)
            have s2 := (hgq.drew.cell j).trans (rowL_at' (x.drop (k + 1)) y j (by omega))
            have s3 := (hrow.drew.cell (j + 1)).trans (part_at (xi :: x.drop (k + 1)) (y.drop (j + 1)) (j + 1) 0 (by omega))
            have s4 := (hrow.drew.cell j).trans (rep_at j _ _)
            have f4 := hrow.drew.frozen j
            rw [HDY.out] at s2
            rw [List.drop_zero] at s3
            have v1 := lcs_le (x.drop (k + 1)) (y.drop (j + 1))
            have v2 := lcs_le (x.drop (k + 1)) (yj :: y.drop (j + 1))
            have v3 := lcs_le (xi :: x.drop (k + 1)) (y.drop (j + 1))
            have HV := lcs_cons xi yj (x.drop (k + 1)) (y.drop (j + 1))
            have HSET := Lib.hid (show ∀ v, lcs (xi :: x.drop (k + 1)) (yj :: y.drop (j + 1)) = v → Blk (wr.drew.setCell ⟨g0, j, none⟩ (u16V v)) g0 103 (List.replicate j (u16V 0) ++ rowL (xi :: x.drop (k + 1)) (y.drop j)).toArray from fun v hv => by
              have := hrow.drew.set_ j (u16V v)
              rw [part_set _ _ _ yj v hv] at this
              rw [HDY.out]
              exact this)
            rw [List.length_cons] at v3
            rw [List.length_drop] at v1 v2 v3
            generalize lcs (x.drop (k + 1)) (y.drop (j + 1)) = z11 at *
            generalize lcs (x.drop (k + 1)) (yj :: y.drop (j + 1)) = z10 at *
            generalize lcs (xi :: x.drop (k + 1)) (y.drop (j + 1)) = z01 at *
            unfold u16V at s1 s2 s3 s4
            by_cases hxy : xi = yj
            · have hb1 : ((xi : Int) == (yj : Int)) = true := beq_iff_eq.2 (by omega)
              rw [if_pos hxy] at HV
              have HS1 := Lib.hid (HSET.out _ HV)
              clear HV HSET hxy
              go_wp2_with fail
              go_region
              go_wp2
              go_roundw
              case rel =>
                have h1 := HS1.out
                rw [show u16V (z11 + 1) = .int .u16 ((z11 : Int) + 1) from rfl] at h1
                exact ⟨j, by omega, by go_num, h1, (hkq.setCell (p := ⟨g0, j, none⟩) (.inl rfl) _).drew⟩
              case measure => simp [intOf]
            · have hb1 : ((xi : Int) == (yj : Int)) = false := beq_eq_false_iff_ne.2 (by omega)
              rw [if_neg hxy] at HV
              have HS1 := Lib.hid (HSET.out _ HV)
              clear HV HSET hxy
              go_wp2_with fail
              go_region
              go_wp2_with fail
              go_region
              go_wp2
              go_roundw
              case rel =>
                have h1 := HS1.out
                rw [show u16V (max z10 z01) = .int .u16 (if z10 < z01 then (z01 : Int) else (z10 : Int)) from by unfold u16V; congr 1; split <;> omega] at h1
                exact ⟨j, by omega, by go_num, h1, (hkq.setCell (p := ⟨g0, j, none⟩) (.inl rfl) _).drew.drew⟩
              case measure => simp [intOf]
end Go.Proofs.YtlcidbbpjlpmjaaDoor
