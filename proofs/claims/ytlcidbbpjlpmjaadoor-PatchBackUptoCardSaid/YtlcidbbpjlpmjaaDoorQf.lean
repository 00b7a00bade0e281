/-
  Contract of lines.Diff: the script is the steps along the longest common row. No statement of the seat is proved here.
-/
import Derived.Test.YtlcidbbpjlpmjaaDoorQt
import Derived.Test.YtlcidbbpjlpmjaaDoorQe
import Derived.Deep.DeepCutAuto
import Derived.Deep.CutBlock
import Derived.WalkMore
import Derived.Deep.QuietTactic
import Derived.BigQuiet
namespace Go.Proofs.YtlcidbbpjlpmjaaDoor
open Go.RowKit

section
variable {α : Type} [DecidableEq α]
def goOn : List α → List α → Bool
  | p :: _, q :: _ => decide (p = q)
  | _, _ => false
def dels : List α → List α → Bool
  | p :: u, v => decide (lcs u v = lcs (p :: u) v)
  | [], _ => false
theorem steps_keep {u v : List α} (h : goOn u v = true) : ∃ p u' v', u = p :: u' ∧ v = p :: v' ∧ steps u v = 0 :: steps u' v' := by
  cases u with
  | nil => simp [goOn] at h
  | cons p u =>
    cases v with
    | nil => simp [goOn] at h
    | cons q v =>
      simp only [goOn, decide_eq_true_eq] at h
      subst h
      exact ⟨p, u, v, rfl, rfl, by rw [steps, if_pos rfl]⟩
theorem steps_del {u v : List α} (h : goOn u v = false) (hd : dels u v = true) : ∃ p u', u = p :: u' ∧ steps u v = 1 :: steps u' v := by
  cases u with
  | nil => simp [dels] at hd
  | cons p u =>
    simp only [dels, decide_eq_true_eq] at hd
    cases v with
    | nil => exact ⟨p, u, rfl, by rw [steps]⟩
    | cons q v =>
      simp only [goOn, decide_eq_false_iff_not] at h
      exact ⟨p, u, rfl, by rw [steps, if_neg h, if_pos hd]⟩
theorem steps_ins {u v' : List α} {q : α} (h : goOn u (q :: v') = false) (hd : dels u (q :: v') = false) : steps u (q :: v') = 2 :: steps u v' := by
  cases u with
  | nil => rw [steps]
  | cons p u =>
    simp only [goOn, decide_eq_false_iff_not] at h
    simp only [dels, decide_eq_false_iff_not] at hd
    rw [steps, if_neg h, if_neg hd]
theorem steps_end {u : List α} (hd : dels u [] = false) : steps u [] = [] := by
  cases u with
  | nil => rw [steps]
  | cons p u =>
    simp only [dels, decide_eq_false_iff_not] at hd
    rw [lcs_nil_right, lcs_nil_right] at hd
    exact absurd rfl hd
end
theorem drop_cons {α : Type} {x : List α} {i : Nat} {p : α} {x' : List α} (h : x.drop i = p :: x') : i < x.length ∧ x' = x.drop (i + 1) := by
  refine ⟨?_, ?_⟩
  · have := congrArg List.length h
    simp at this
    omega
  · rw [← List.tail_drop, h]
    rfl
theorem nat_beq (a b : Nat) : ((a : Int) == (b : Int)) = decide (a = b) := by
  by_cases h : a = b
  · subst h; simp
  · have h2 : ¬ ((a : Int) = (b : Int)) := by omega
    simp [h, h2]
def Small (l : List EdD) (m : Nat) : Prop := l.length + m ≤ 8000 ∧ ∀ e ∈ l, e.n + m ≤ 8000
theorem Small.add {l : List EdD} {m : Nat} (h : Small l (m + 1)) (op : Nat) : Small (addP l op) m := by
  rcases List.eq_nil_or_concat l with rfl | ⟨l', e, rfl⟩
  · have h1 := h.1
    simp only [List.length_nil] at h1
    refine ⟨by simp only [addP, List.length_cons, List.length_nil]; omega, fun e he => ?_⟩
    simp only [addP, List.mem_cons, List.not_mem_nil, or_false] at he
    subst he
    show 1 + m ≤ 8000
    omega
  · rw [List.concat_eq_append] at h ⊢
    obtain ⟨h1, h2⟩ := h
    have h3 := h2 e (by simp)
    simp only [List.length_append, List.length_cons, List.length_nil] at h1
    rw [addP_snoc]
    split
    · refine ⟨by simp only [List.length_append, List.length_cons, List.length_nil]; omega, fun x hx => ?_⟩
      rcases List.mem_append.1 hx with q | q
      · have := h2 x (List.mem_append_left _ q)
        omega
      · have := List.mem_singleton.1 q
        subst this
        show e.n + 1 + m ≤ 8000
        omega
    · refine ⟨by simp only [List.length_append, List.length_cons, List.length_nil]; omega, fun x hx => ?_⟩
      rcases List.mem_append.1 hx with q | q
      · have := h2 x q
        omega
      · have := List.mem_singleton.1 q
        subst this
        show 1 + m ≤ 8000
        omega
theorem Small.mono {l : List EdD} {m m' : Nat} (h : Small l m) (hm : m' ≤ m) : Small l m' := ⟨by have := h.1; omega, fun e he => by have := h.2 e he; omega⟩
theorem Tab.kept {w w' : World} {lo G base : Nat} {x y : List Nat} (h : Tab w lo G x y) (hk : Kept base [67] [] w w') : Tab w' lo G x y := by
  obtain ⟨h0, gs, h1, h2, h3⟩ := h
  refine ⟨h0, gs, h1, hk.blk h2 (by simp) (by decide), fun k g hg => ?_⟩
  obtain ⟨q1, q2⟩ := h3 k g hg
  exact ⟨q1, hk.blk q2 (by simp) (by decide)⟩
theorem natL_num (d l : List (List UInt8)) : numL d l = natL (l.map fun s => d.idxOf s) := by simp [numL, natL]
theorem steps_num {d a b : List (List UInt8)} (ha : ∀ s ∈ a, s ∈ d) : steps (a.map fun s => d.idxOf s) (b.map fun s => d.idxOf s) = steps a b :=
  steps_map (fun s => d.idxOf s) _ a b (Nat.le_refl _) (fun x hx _ _ h => idx_inj (ha x hx) h)
def lenV : Value → Nat
  | .slice _ n _ => n
  | _ => 0
theorem Reads.tail {w : World} {B n c g o : Nat} {v : Value} {xs : List Value} (h : Reads w B 1 (some ⟨g, o, none⟩) (n + 1) (v :: xs)) (hc : n + 1 ≤ c) : Reads w B 1 (if c = 1 then some ⟨g, o, none⟩ else some ⟨g, o + 1, none⟩) n xs := by
  have h1 := h.cut (k := 1) (by omega) hc
  simpa [add_at] using h1
def DiffPost (a b : List (List UInt8)) (w : World) (r : Ending) (w' : World) : Prop := ∃ A c, r = .returned (.tuple #[.slice A (diffP a b).length c, .int .i64 0]) ∧ Own w' w.heap.size 67 2 A (diffP a b).length c (edLs (diffP a b)) ∧ Below w.heap.size w w'
set_option maxHeartbeats 4000000 in
set_option maxRecDepth 100000 in
theorem diff_any (a b : List (List UInt8)) (A C : Option Addr) (c d B : Nat) (w : World) (ha : Reads w B 1 A a.length (strL a)) (hb : Reads w B 1 C b.length (strL b)) (hB : B ≤ w.heap.size) (hal : a.length ≤ 4000) (hbl : b.length ≤ 4000) (hsa : ∀ s ∈ a, s.length ≤ maxLen) (hsb : ∀ s ∈ b, s.length ≤ maxLen) :
    Calls Tryd.prog 28 #[.slice A a.length c, .slice C b.length d] w (DiffPost a b w) := by
  have HP := Lib.hid (show DiffPost a b w = fun r w' => ∃ A c, r = .returned (.tuple #[.slice A (diffP a b).length c, .int .i64 0]) ∧ Own w' w.heap.size 67 2 A (diffP a b).length c (edLs (diffP a b)) ∧ Below w.heap.size w w' from rfl)
  rw [HP.out]
  clear HP
  have hmm := @run_makeMap Tryd.prog
  have u1 : decide ((4000 : Int) < (a.length : Int)) = false := decide_eq_false (by omega)
  have u2 : decide ((4000 : Int) < (b.length : Int)) = false := decide_eq_false (by omega)
  go_enter Tryd.func28, Tryd.ntmps28
  go_wp2_with fail
  go_step3
  go_wp2_with fail
  clear u1 u2
  have d0 : Dic (w.alloc (.map #[] 0)) w.heap.size [] := Dict.made _ _ _ _
  have k0 : Keep Nothing w (w.alloc (.map #[] 0)) := (Keep.refl _ _).alloc _
  have hz0 : w.heap.size < (w.alloc (.map #[] 0)).heap.size := by simp
  generalize w.alloc (.map #[] 0) = w0 at *
  refine (numbers_any [] a w.heap.size B c A w0 d0 (ha.kept k0 hB (fun _ _ h => h)) hB (by omega) (by simp) hsa).mono ?_
  rintro r w1 ⟨G1, rfl, q1, hg1, d1, k1⟩
  go_wp2_with fail
  have hz1 := k1.size
  refine (numbers_any (dict [] a) b w.heap.size B d C w1 d1 ((hb.kept k0 hB (fun _ _ h => h)).kept k1 (by omega) (fun i hi h => by unfold Only at h; omega)) hB (by omega) (by have := dict_len [] a; simp at this; omega) hsb).mono ?_
  rintro r w2 ⟨G2, rfl, q2, hg2, d2, k2⟩
  have hz2 := k2.size
  have q1' := q1.keep k2 (by unfold Only; omega)
  obtain ⟨t, ht⟩ := dict_front (dict [] a) b
  have hnum : numL (dict [] a) a = numL (dict (dict [] a) b) a := by rw [ht]; exact (numL_front (dict_mem [] a)).symm
  rw [hnum] at q1'
  have hmem : ∀ s ∈ a, s ∈ dict (dict [] a) b := fun s hs => by rw [ht]; exact List.mem_append_left _ (dict_mem [] a s hs)
  have hst := steps_num (b := b) hmem
  rw [natL_num] at q1' q2
  have hk : Keep Nothing w w2 := (k0.then_ k1 (fun i hi h => by unfold Only at h; omega)).then_ k2 (fun i hi h => by unfold Only at h; omega)
  clear ht hnum hmem q1 d1 d2 d0 k1 k2
  generalize hX : (a.map fun s => (dict (dict [] a) b).idxOf s) = X at *
  generalize hY : (b.map fun s => (dict (dict [] a) b).idxOf s) = Y at *
  have hXl : a.length = X.length := by rw [← hX]; simp
  have hYl : b.length = Y.length := by rw [← hY]; simp
  rw [hXl, hYl]
  rw [hXl] at hal
  rw [hYl] at hbl
  have hS := Lib.hid (show diffP a b = script (steps X Y) from by unfold diffP; rw [hst])
  have r1 : Reads w2 w2.heap.size 1 (some ⟨G1, 0, none⟩) X.length (natL X) := (Reads.of_blk (n := X.length) (xs := natL X) q1' rfl (by simp [natL])).more (by have := q1'.lt; omega)
  have r2 : Reads w2 w2.heap.size 1 (some ⟨G2, 0, none⟩) Y.length (natL Y) := (Reads.of_blk (n := Y.length) (xs := natL Y) q2 rfl (by simp [natL])).more (by have := q2.lt; omega)
  clear hst q1' q2 hX hY hXl hYl ha hb hmm k0
  have hz3 : w.heap.size ≤ w2.heap.size := hk.size
  go_wp2_with fail
  go_loopw [7, 8, 9] (fun s7 s8 s9 wr => ∃ x y l A1 c1 A2 c2 A3 c3, s7 = .slice A1 x.length c1 ∧ s8 = .slice A2 y.length c2 ∧ s9 = .slice A3 (List.length l) c3 ∧ x.length ≤ c1 ∧ c1 ≤ 4000 ∧ y.length ≤ c2 ∧ c2 ≤ 4000 ∧ Reads wr w2.heap.size 1 A1 x.length (natL x) ∧ Reads wr w2.heap.size 1 A2 y.length (natL y) ∧ Own wr w2.heap.size 67 2 A3 l.length c3 (edLs l) ∧ Small l (x.length + y.length) ∧ (steps x y).foldl addP l = script (steps X Y) ∧ Kept w2.heap.size [67] [] w2 wr) (fun s7 _ _ _ => lenV s7)
  case atStart => exact ⟨X, Y, [], _, _, _, _, _, _, rfl, rfl, rfl, Nat.le_refl _, hal, Nat.le_refl _, hbl, r1, r2, Own.nil _ _ _ _, ⟨by simp; omega, by simp⟩, rfl, Kept.refl _ _ _ _⟩
  case round =>
    obtain ⟨x, y, l, A1, c1, A2, c2, A3, c3, rfl, rfl, rfl, hx1, hx2, hy1, hy2, rx, ry, ol, hsm, hfold, hkp⟩ := hrel
    go_upto_region 6 with fail
    go_cut [44] (fun s44 wx => s44 = .bool (goOn x y) ∧ ∃ n, wx = wr.drewN n)
    case first =>
      cases x with
      | nil =>
        go_region
        go_wp2_with fail
        go_meet
        exact ⟨rfl, 1, rfl⟩
      | cons p x' =>
        cases y with
        | nil =>
          go_region
          go_wp2_with fail
          go_meet
          exact ⟨rfl, 1, rfl⟩
        | cons q y' =>
          obtain ⟨ga, oa, rfl, hga, hca⟩ := rx.natAt (k := 0) rfl rfl
          obtain ⟨gb, ob, rfl, hgb, hcb⟩ := ry.natAt (k := 0) rfl rfl
          have ca : wr.drew.cell? ⟨ga, oa + 0, none⟩ = some (.int .i64 (p : Int)) := hca
          have cb : wr.drew.cell? ⟨gb, ob + 0, none⟩ = some (.int .i64 (q : Int)) := hcb
          rw [Nat.add_zero] at hca hcb ca cb
          have hpq : ((p : Int) == (q : Int)) = goOn (p :: x') (q :: y') := by
            exact nat_beq _ _
          generalize goOn (p :: x') (q :: y') = z at *
          go_region
          all_goals
            go_wp2_with fail
            go_meet
            exact ⟨rfl, 1, rfl⟩
    case rest =>
      obtain ⟨rfl, n, rfl⟩ := hcut
      cases hz : goOn x y with
      | true =>
        obtain ⟨p, x', y', rfl, rfl, hsteps⟩ := steps_keep hz
        rw [hsteps] at hfold
        have hsm1 : Small l ((x'.length + 1 + y'.length) + 1) := hsm.mono (by simp; omega)
        obtain ⟨ga, oa, rfl, hga, -⟩ := rx.natAt (k := 0) rfl rfl
        obtain ⟨gb, ob, rfl, hgb, -⟩ := ry.natAt (k := 0) rfl rfl
        have ha := (add_any l 0 A3 c3 w2.heap.size _ (ol.drewN n) (by have := hkp.size; exact this) (by have := hsm.1; omega) (fun e he => by have := hsm.2 e he; omega))
        have hsm2 := hsm1.add 0
        have HF := Lib.hid hfold
        clear hfold hsm hsm1 hsteps
        go_wp2_with fail
        refine ha.mono ?_
        rintro r w4 ⟨A4, c4, rfl, o4, k4⟩
        have rx4 := (rx.drewN n).below (k4.below (Nat.le_refl _) hkp.size (by simp))
        have ry4 := (ry.drewN n).below (k4.below (Nat.le_refl _) hkp.size (by simp))
        have k5 := (hkp.drewN n).trans k4
        clear ha
        go_wp2_with fail
        go_region
        all_goals
          go_wp2_with fail
          go_roundw
          case rel =>
            refine ⟨x', y', addP l 0, _, c1 - 1, _, c2 - 1, A4, c4, by simp, by simp, rfl, by simp at hx1; omega, by omega, by simp at hy1; omega, by omega, Reads.tail (v := .int .i64 (p : Int)) rx4 hx1, Reads.tail (v := .int .i64 (p : Int)) ry4 hy1, o4, hsm2.mono (by omega), HF.out, k5.drew⟩
          case measure => simp [lenV]
      | false =>
        have lx : x.length ≤ 4000 := by omega
        have ly : y.length ≤ 4000 := by omega
        have hBz := hkp.size
        have HF := Lib.hid hfold
        clear hfold
        go_wp2_with fail
        refine (table_any x y A1 A2 c1 c2 w2.heap.size _ (rx.drewN n) (ry.drewN n) (by exact hBz) lx ly).mono ?_
        rintro r w5 ⟨G, rfl, ht5, k5⟩
        rw [show (wr.drewN n).heap.size = wr.heap.size from rfl] at ht5
        have k25 : Kept w2.heap.size [67] [] w2 w5 := (hkp.drewN n).trans (Kept.ofKeep k5 (fun _ _ h => absurd h (fun h => h)))
        have o5 : Own w5 w2.heap.size 67 2 A3 l.length c3 (edLs l) := (ol.drewN n).kept (b' := 0) (E := []) (G := []) (Kept.ofBelow k5.all) (by simp) (by simp)
        have rx5 := (rx.drewN n).below (k5.below (B := w2.heap.size) hBz (fun _ _ h => h))
        have ry5 := (ry.drewN n).below (k5.below (B := w2.heap.size) hBz (fun _ _ h => h))
        clear k5 hkp ol rx ry r1 r2 hz
        rw [show slV G (x.length + 1) = .slice (some ⟨G, 0, none⟩) (x.length + 1) (x.length + 1) from rfl]
        go_wp2_with fail
        go_step3
        go_wp2_with fail
        have hz5 := k25.size
        go_loopw [9, 11, 12] (fun s9 s11 s12 wr => ∃ i j l A3 c3, i ≤ x.length ∧ j ≤ y.length ∧ s11 = .int .i64 (i : Nat) ∧ s12 = .int .i64 (j : Nat) ∧ s9 = .slice A3 (List.length l) c3 ∧ Own wr w2.heap.size 67 2 A3 l.length c3 (edLs l) ∧ Small l ((x.length - i) + (y.length - j)) ∧ (steps (x.drop i) (y.drop j)).foldl addP l = script (steps X Y) ∧ Kept w2.heap.size [67] [] w5 wr) (fun _ s11 s12 _ => (x.length - (intOf s11).toNat) + (y.length - (intOf s12).toNat))
        case atStart => exact ⟨0, 0, l, A3, c3, Nat.zero_le _, Nat.zero_le _, rfl, rfl, rfl, o5, by simpa using hsm, by simpa using HF.out, Kept.refl _ _ _ _⟩
        case round =>
          obtain ⟨i, j, l, A3, c3, hi, hj, rfl, rfl, rfl, ol, hsm, hfold, hkp⟩ := hrel
          have ht := ht5.kept hkp
          have rx6 := rx5.below (hkp.below (Nat.le_refl _) hz5 (by simp))
          have ry6 := ry5.below (hkp.below (Nat.le_refl _) hz5 (by simp))
          have HF2 := Lib.hid hfold
          clear hfold
          go_upto_region 11 with fail
          go_cut [54] (fun s54 wx => s54 = .bool (goOn (x.drop i) (y.drop j)) ∧ ∃ n, wx = wr.drewN n)
          case first =>
            by_cases h1 : i < x.length
            · have b1 : decide (i < x.length) = true := decide_eq_true h1
              by_cases h2 : j < y.length
              · have b2 : decide (j < y.length) = true := decide_eq_true h2
                obtain ⟨p, hp⟩ : ∃ s, x[i]? = some s := ⟨x[i], List.getElem?_eq_getElem h1⟩
                obtain ⟨q, hq⟩ : ∃ s, y[j]? = some s := ⟨y[j], List.getElem?_eq_getElem h2⟩
                obtain ⟨ga, oa, rfl, hga, hca⟩ := rx6.natAt hp rfl
                obtain ⟨gb, ob, rfl, hgb, hcb⟩ := ry6.natAt hq rfl
                have ca : wr.drew.cell? ⟨ga, oa + i, none⟩ = some (.int .i64 (p : Int)) := hca
                have cb : wr.drew.cell? ⟨gb, ob + j, none⟩ = some (.int .i64 (q : Int)) := hcb
                have hpq : ((p : Int) == (q : Int)) = goOn (x.drop i) (y.drop j) := by
                  rw [show x.drop i = p :: x.drop (i + 1) from List.drop_eq_getElem?_toList_append.trans (by rw [hp]; rfl), show y.drop j = q :: y.drop (j + 1) from List.drop_eq_getElem?_toList_append.trans (by rw [hq]; rfl)]
                  exact nat_beq _ _
                generalize goOn (x.drop i) (y.drop j) = z at *
                go_region
                all_goals
                  go_wp2_with fail
                  go_meet
                  exact ⟨rfl, 1, rfl⟩
              · have b2 : decide (j < y.length) = false := decide_eq_false h2
                have e : goOn (x.drop i) (y.drop j) = false := by
                  rw [List.drop_of_length_le (Nat.le_of_not_lt h2)]
                  cases x.drop i <;> rfl
                generalize goOn (x.drop i) (y.drop j) = z at *
                subst e
                go_region
                all_goals
                  go_wp2_with fail
                  go_meet
                  exact ⟨rfl, 1, rfl⟩
            · have b1 : decide (i < x.length) = false := decide_eq_false h1
              have e : goOn (x.drop i) (y.drop j) = false := by
                rw [List.drop_of_length_le (Nat.le_of_not_lt h1)]
                rfl
              generalize goOn (x.drop i) (y.drop j) = z at *
              subst e
              go_region
              all_goals
                go_wp2_with fail
                go_meet
                exact ⟨rfl, 1, rfl⟩
          case rest =>
            obtain ⟨rfl, n, rfl⟩ := hcut
            have hzr : w2.heap.size ≤ wr.heap.size := Nat.le_trans hz5 hkp.size
            cases hz : goOn (x.drop i) (y.drop j) with
            | true =>
              obtain ⟨p, x', y', ex, ey, hsteps⟩ := steps_keep hz
              obtain ⟨hi1, rfl⟩ := drop_cons ex
              obtain ⟨hj1, rfl⟩ := drop_cons ey
              have hf := HF2.out
              rw [hsteps, List.foldl_cons] at hf
              have hsm1 : Small l ((x.length - (i + 1)) + (y.length - (j + 1)) + 1) := hsm.mono (by omega)
              have hsm2 := hsm1.add 0
              have HF3 := Lib.hid hf
              have HC := Lib.hid (add_any l 0 A3 c3 w2.heap.size _ (ol.drewN n) hzr (by have := hsm.1; omega) (fun e he => by have := hsm.2 e he; omega))
              clear hf hsm hsm1 hsteps ex ey
              go_wp2_with fail
              refine HC.out.mono ?_
              rintro r w4 ⟨A4, c4, rfl, o4, k4⟩
              have k5 := (hkp.drewN n).trans k4
              clear HC
              go_wp2_with fail
              go_roundw
              case rel => exact ⟨i + 1, j + 1, addP l 0, A4, c4, hi1, hj1, by go_num, by go_num, rfl, o4, hsm2, HF3.out, k5⟩
              case measure => simp [intOf]; omega
            | false =>
              go_upto_region 15 with fail
              go_cut [82] (fun s82 wx => s82 = .bool (dels (x.drop i) (y.drop j)) ∧ ∃ m, wx = (wr.drewN n).drewN m)
              case first =>
                by_cases h1 : i < x.length
                · have b1 : decide (i < x.length) = true := decide_eq_true h1
                  obtain ⟨p, hp⟩ : ∃ s, x[i]? = some s := ⟨x[i], List.getElem?_eq_getElem h1⟩
                  obtain ⟨g0, e1, e2⟩ := ht.row i hi
                  obtain ⟨g1, e3, e4⟩ := ht.row (i + 1) h1
                  have e5 := (e2.cell j).trans (rowL_at' _ _ j hj)
                  have e6 := (e4.cell j).trans (rowL_at' _ _ j hj)
                  have hpq : ((lcs (x.drop (i + 1)) (y.drop j) : Int) == (lcs (x.drop i) (y.drop j) : Int)) = dels (x.drop i) (y.drop j) := by
                    rw [show x.drop i = p :: x.drop (i + 1) from List.drop_eq_getElem?_toList_append.trans (by rw [hp]; rfl)]
                    exact nat_beq _ _
                  unfold u16V at e5 e6
                  unfold slV at e1 e3
                  have q1 : wr.cell? ⟨G, i, none⟩ = some (.slice (some ⟨g0, 0, none⟩) (y.length + 1) (y.length + 1)) := e1
                  have q2 : wr.cell? ⟨G, i + 1, none⟩ = some (.slice (some ⟨g1, 0, none⟩) (y.length + 1) (y.length + 1)) := e3
                  have q3 : wr.cell? ⟨g0, j, none⟩ = some (.int .u16 (lcs (x.drop i) (y.drop j) : Int)) := e5
                  have q4 : wr.cell? ⟨g1, j, none⟩ = some (.int .u16 (lcs (x.drop (i + 1)) (y.drop j) : Int)) := e6
                  generalize dels (x.drop i) (y.drop j) = z at *
                  clear e1 e2 e3 e4 e5 e6
                  have hw1 : IntKind.i64.wrap ((i : Int) + 1) = (i : Int) + 1 := IntWalk.i64_in _ (by omega)
                  have hw0 : (0 : Int) ≤ (i : Int) + 1 := by omega
                  have hw2 : ((i : Int) + 1).toNat = i + 1 := by omega
                  have hw3 : (i : Int) < (x.length : Int) := by omega
                  have hw4 : (i : Int) < (x.length : Int) + 1 := by omega
                  have hw5 : (j : Int) < (y.length : Int) + 1 := by omega
                  go_quiet (fail)
                  all_goals
                    go_wp2_with fail
                    go_meet
                    exact ⟨rfl, _, rfl⟩
                · have b1 : decide (i < x.length) = false := decide_eq_false h1
                  have e : dels (x.drop i) (y.drop j) = false := by
                    rw [List.drop_of_length_le (Nat.le_of_not_lt h1)]
                    rfl
                  generalize dels (x.drop i) (y.drop j) = z at *
                  subst e
                  go_region
                  all_goals
                    go_wp2_with fail
                    go_meet
                    exact ⟨rfl, 1, rfl⟩
              case rest =>
                obtain ⟨rfl, m, rfl⟩ := hcut
                cases hd : dels (x.drop i) (y.drop j) with
                | true =>
                  obtain ⟨p, x', ex, hsteps⟩ := steps_del hz hd
                  obtain ⟨hi1, rfl⟩ := drop_cons ex
                  have hf := HF2.out
                  rw [hsteps, List.foldl_cons] at hf
                  have hsm1 : Small l ((x.length - (i + 1)) + (y.length - j) + 1) := hsm.mono (by omega)
                  have hsm2 := hsm1.add 1
                  have HF3 := Lib.hid hf
                  have HC := Lib.hid (add_any l 1 A3 c3 w2.heap.size _ (ol.drewN (n + m)) hzr (by have := hsm.1; omega) (fun e he => by have := hsm.2 e he; omega))
                  clear hf hsm hsm1 hsteps ex
                  go_wp2_with fail
                  refine HC.out.mono ?_
                  rintro r w4 ⟨A4, c4, rfl, o4, k4⟩
                  have k5 := (hkp.drewN (n + m)).trans k4
                  clear HC
                  go_wp2_with fail
                  go_roundw
                  case rel => exact ⟨i + 1, j, addP l 1, A4, c4, hi1, hj, by go_num, rfl, rfl, o4, hsm2, HF3.out, k5⟩
                  case measure => simp [intOf]; omega
                | false =>
                  by_cases h2 : j < y.length
                  · obtain ⟨q, hq⟩ : ∃ s, y[j]? = some s := ⟨y[j], List.getElem?_eq_getElem h2⟩
                    have ey : y.drop j = q :: y.drop (j + 1) := List.drop_eq_getElem?_toList_append.trans (by rw [hq]; rfl)
                    rw [ey] at hz hd
                    have hsteps := steps_ins hz hd
                    have hf := HF2.out
                    rw [ey, hsteps, List.foldl_cons] at hf
                    have hsm1 : Small l ((x.length - i) + (y.length - (j + 1)) + 1) := hsm.mono (by omega)
                    have hsm2 := hsm1.add 2
                    have HF3 := Lib.hid hf
                    have HC := Lib.hid (add_any l 2 A3 c3 w2.heap.size _ (ol.drewN (n + m)) hzr (by have := hsm.1; omega) (fun e he => by have := hsm.2 e he; omega))
                    clear hf hsm hsm1 hsteps ey hz hd hq
                    go_wp2_with fail
                    refine HC.out.mono ?_
                    rintro r w4 ⟨A4, c4, rfl, o4, k4⟩
                    have k5 := (hkp.drewN (n + m)).trans k4
                    clear HC
                    go_wp2_with fail
                    go_roundw
                    case rel => exact ⟨i, j + 1, addP l 2, A4, c4, hi, h2, rfl, by go_num, rfl, o4, hsm2, HF3.out, k5⟩
                    case measure => simp [intOf]; omega
                  · rw [List.drop_of_length_le (Nat.le_of_not_lt h2)] at hz hd
                    have hsteps := steps_end hd
                    have hf := HF2.out
                    rw [List.drop_of_length_le (Nat.le_of_not_lt h2), hsteps] at hf
                    have HF3 := Lib.hid hf
                    clear hf hsteps hz hd
                    go_wp2_with fail
                    rw [Exit.noGoto_ret]
                    go_ret2
                    have HS2 := HF3.out
                    rw [List.foldl_nil, ← hS.out] at HS2
                    rw [← HS2]
                    exact ⟨A3, c3, rfl, (ol.drewN (n + m)).mono hz3, hk.all.trans ((k25.trans (hkp.drewN (n + m))).below hz3 hz3 (by simp))⟩
end Go.Proofs.YtlcidbbpjlpmjaaDoor
