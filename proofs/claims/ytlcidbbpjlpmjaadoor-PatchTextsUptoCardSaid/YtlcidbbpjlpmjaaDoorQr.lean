/-
  Contract of the reference's Diff: the table of what can be kept. No statement of the seat is proved here.
-/
import Derived.Test.YtlcidbbpjlpmjaaDoorQf
namespace Go.Proofs.YtlcidbbpjlpmjaaDoor
open Go.RowKit

theorem str_beq (a b : List UInt8) : ((⟨a.toArray⟩ : ByteArray).toList == (⟨b.toArray⟩ : ByteArray).toList) = decide (a = b) := by
  rw [Lib.toList_data, Lib.toList_data]
  by_cases h : a = b <;> simp [h]
def iV (n : Nat) : Value := .int .i64 (n : Int)
section
variable {α : Type} [DecidableEq α]
/-- A row of the table. -/
def rowI (l : List α) : List α → List Value
  | [] => [iV 0]
  | y :: m => iV (lcs l (y :: m)) :: rowI l m
theorem rowI_len (l m : List α) : (rowI l m).length = m.length + 1 := by
  induction m with
  | nil => rfl
  | cons y m ih => simp [rowI, ih]
theorem rowI_at (l m : List α) (j : Nat) (h : j ≤ m.length) : (rowI l m)[j]? = some (iV (lcs l (m.drop j))) := by
  induction m generalizing j with
  | nil =>
    have : j = 0 := by simpa using h
    subst this
    simp [rowI, lcs_nil_right]
  | cons y m ih =>
    cases j with
    | zero => simp [rowI]
    | succ j =>
      simp only [rowI, List.getElem?_cons_succ, List.drop_succ_cons]
      exact ih j (by simpa using h)
theorem rowI_nil (m : List α) : rowI [] m = List.replicate (m.length + 1) (iV 0) := by
  induction m with
  | nil => rfl
  | cons y m ih => rw [rowI, ih, lcs_nil_left, List.length_cons, List.replicate_succ (n := m.length + 1)]
/-- The table, row by row. -/
def tabL : List α → List α → List Value
  | [], y => rowI [] y
  | p :: x, y => rowI (p :: x) y ++ tabL x y
theorem tabL_len (x y : List α) : (tabL x y).length = (x.length + 1) * (y.length + 1) := by
  induction x with
  | nil => simp [tabL, rowI_len]
  | cons p x ih => rw [tabL, List.length_append, rowI_len, ih, List.length_cons, Nat.succ_mul (x.length + 1), Nat.add_comm]
theorem tabL_at (x y : List α) (i j : Nat) (hi : i ≤ x.length) (hj : j ≤ y.length) : (tabL x y)[i * (y.length + 1) + j]? = some (iV (lcs (x.drop i) (y.drop j))) := by
  induction x generalizing i with
  | nil =>
    have : i = 0 := by simpa using hi
    subst this
    simpa [tabL] using rowI_at [] y j hj
  | cons p x ih =>
    cases i with
    | zero =>
      rw [tabL, List.getElem?_append_left (by rw [rowI_len]; omega)]
      simpa using rowI_at (p :: x) y j hj
    | succ i =>
      have e : (i + 1) * (y.length + 1) = i * (y.length + 1) + (y.length + 1) := Nat.succ_mul _ _
      rw [tabL, List.getElem?_append_right (by rw [rowI_len]; omega), rowI_len, show (i + 1) * (y.length + 1) + j - (y.length + 1) = i * (y.length + 1) + j by omega, List.drop_succ_cons]
      exact ih i (by simpa using hi)
/-- The state within a row. -/
def midL (K j : Nat) (l x m : List α) (y : List α) : List Value := List.replicate (K + j) (iV 0) ++ (rowI l m ++ tabL x y)
theorem midL_next (K j : Nat) (l x m y : List α) (hm : m.length + j = y.length) (k : Nat) (hk : k ≤ y.length) : (midL K j l x m y)[K + y.length + 1 + k]? = some (iV (lcs x (y.drop k))) := by
  have h0 := tabL_at x y 0 k (Nat.zero_le _) hk
  rw [Nat.zero_mul, Nat.zero_add, List.drop_zero] at h0
  unfold midL
  rw [List.getElem?_append_right (by simp; omega), List.length_replicate, List.getElem?_append_right (by rw [rowI_len]; omega), rowI_len, show K + y.length + 1 + k - (K + j) - (m.length + 1) = k by omega]
  exact h0
theorem midL_here (K j : Nat) (l x m y : List α) : (midL K j l x m y)[K + j]? = some (iV (lcs l m)) := by
  have h0 := rowI_at l m 0 (Nat.zero_le _)
  rw [List.drop_zero] at h0
  unfold midL
  rw [List.getElem?_append_right (by simp), List.length_replicate, Nat.sub_self, List.getElem?_append_left (by rw [rowI_len]; omega)]
  exact h0
theorem midL_set (K j : Nat) (l x m y : List α) (q : α) (v : Nat) (hv : lcs l (q :: m) = v) : (midL K (j + 1) l x m y).set (K + j) (iV v) = midL K j l x (q :: m) y := by
  unfold midL
  rw [← Nat.add_assoc, List.replicate_succ', List.append_assoc, List.set_append_right _ _ (by simp)]
  simp [rowI, hv]
theorem midL_old (K j : Nat) (l x m y : List α) : (midL K (j + 1) l x m y)[K + j]? = some (iV 0) := by
  unfold midL
  rw [← Nat.add_assoc, List.replicate_succ', List.append_assoc]
  simp
theorem midL_start (K : Nat) (l x y : List α) : midL K y.length l x [] y = List.replicate (K + (y.length + 1)) (iV 0) ++ tabL x y := by
  unfold midL
  rw [← Nat.add_assoc, List.replicate_succ' (n := K + y.length)]
  simp [rowI]
theorem midL_end (K : Nat) (p : α) (x y : List α) : midL K 0 (p :: x) x y y = List.replicate K (iV 0) ++ tabL (p :: x) y := by
  unfold midL
  simp [tabL]
end
theorem arr_set (l : List Value) (k : Nat) (v : Value) : (l.toArray).setIfInBounds k v = (l.set k v).toArray := by
  apply Array.ext'
  simp
def RTabPost (a b : List (List UInt8)) (w : World) (G : Nat) (w' : World) : Prop := Blk w' G 3 (tabL a b).toArray ∧ w.heap.size ≤ G ∧ Keep Nothing w w'
set_option maxHeartbeats 4000000 in
set_option maxRecDepth 100000 in
theorem rdiff_any (a b : List (List UInt8)) (A C : Option Addr) (c d B : Nat) (w : World) (ha : Reads w B 1 A a.length (strL a)) (hb : Reads w B 1 C b.length (strL b)) (hB : B ≤ w.heap.size) (hal : a.length ≤ 200) (hbl : b.length ≤ 200) :
    Calls Tryd.prog 30 #[.slice A a.length c, .slice C b.length d] w (DiffPost a b w) := by
  have HP := Lib.hid (show DiffPost a b w = fun r w' => ∃ A c, r = .returned (.tuple #[.slice A (diffP a b).length c, .int .i64 0]) ∧ Own w' w.heap.size 67 2 A (diffP a b).length c (edLs (diffP a b)) ∧ Below w.heap.size w w' from rfl)
  rw [HP.out]
  clear HP
  have u1 : decide ((4000 : Int) < (a.length : Int)) = false := decide_eq_false (by omega)
  have u2 : decide ((4000 : Int) < (b.length : Int)) = false := decide_eq_false (by omega)
  obtain ⟨W, hW⟩ : ∃ W, b.length + 1 = W := ⟨_, rfl⟩
  obtain ⟨N, hN⟩ : ∃ N, (a.length + 1) * W = N := ⟨_, rfl⟩
  have hN2 : N ≤ 100000 := by
    rw [← hN]
    exact Nat.le_trans (Nat.mul_le_mul (show a.length + 1 ≤ 201 by omega) (show W ≤ 201 by omega)) (by omega)
  have hWi : (b.length : Int) + 1 = (W : Int) := by omega
  have hNi : IntKind.i64.wrap (((a.length : Int) + 1) * (W : Int)) = (N : Int) := by
    have e : ((a.length : Int) + 1) * (W : Int) = (N : Int) := by rw [← hN]; push_cast; rfl
    rw [e]
    exact IntWalk.i64_in _ (by omega)
  go_enter Tryd.func30, Tryd.ntmps30
  go_wp2_with (first | (refine wpList_make_one rfl rfl Tryd.underlying52 info_int rfl (by omega) N (by omega) rfl rfl (by rfl) (by rfl) ?_))
  clear u1 u2 hNi
  have q0 : Blk (w.alloc (.cells (Array.replicate N (Value.int .i64 0)) 3)) w.heap.size 3 (Array.replicate N (iV 0)) := Blk.new _ _ _
  have k0 : Keep Nothing w (w.alloc (.cells (Array.replicate N (Value.int .i64 0)) 3)) := (Keep.refl _ _).alloc _
  have hBw : B ≤ w.heap.size := hB
  obtain ⟨G, hG⟩ : ∃ G, G = w.heap.size := ⟨_, rfl⟩
  rw [← hG] at q0 ⊢
  have hGw : w.heap.size ≤ G := by omega
  clear hG
  generalize w.alloc (.cells (Array.replicate N (Value.int .i64 0)) 3) = w0 at *
  have HWN := Lib.hid hW
  have HNN := Lib.hid hN
  clear hW hN
  go_loopw [8] (fun i wr => ∃ k : Nat, k ≤ a.length ∧ i = .int .i64 ((k : Int) - 1) ∧ Blk wr G 3 (List.replicate (k * W) (iV 0) ++ tabL (a.drop k) b).toArray ∧ Keep Nothing w wr) (fun i _ => (intOf i + 1).toNat)
  case atStart =>
    refine ⟨a.length, Nat.le_refl _, rfl, ?_, k0⟩
    rw [List.drop_length, tabL, rowI_nil, HWN.out]
    have e : List.replicate (a.length * W) (iV 0) ++ List.replicate W (iV 0) = List.replicate N (iV 0) := by
      rw [List.replicate_append_replicate, ← HNN.out, Nat.succ_mul]
    rw [e]
    simpa using q0
  case round =>
    obtain ⟨k, hk, rfl, hq, hkp⟩ := hrel
    have hz := hkp.size
    cases k with
    | zero =>
      rw [Nat.zero_mul, List.replicate_zero, List.nil_append, List.drop_zero] at hq
      rw [show ((0 : Nat) : Int) - 1 = -1 from rfl]
      have ra := ha.kept hkp hBw (fun _ _ h => h)
      have rb := hb.kept hkp hBw (fun _ _ h => h)
      have HQ := Lib.hid hq
      have hkk := hkp
      have HRA := Lib.hid ra
      have HRB := Lib.hid rb
      have hWb : W ≤ 201 := by have := HWN.out; omega
      clear hq hkp ra rb q0 k0
      go_wp2_with fail
      generalize wr = w3 at *
      go_loopw [11, 12, 13] (fun s11 s12 s13 wr => ∃ i j l A3 c3, i ≤ a.length ∧ j ≤ b.length ∧ s12 = .int .i64 (i : Nat) ∧ s13 = .int .i64 (j : Nat) ∧ s11 = .slice A3 (List.length l) c3 ∧ Own wr w3.heap.size 67 2 A3 l.length c3 (edLs l) ∧ Small l ((a.length - i) + (b.length - j)) ∧ (steps (a.drop i) (b.drop j)).foldl addP l = diffP a b ∧ Kept w3.heap.size [67] [] w3 wr) (fun _ s12 s13 _ => (a.length - (intOf s12).toNat) + (b.length - (intOf s13).toNat))
      case atStart => exact ⟨0, 0, [], none, 0, Nat.zero_le _, Nat.zero_le _, rfl, rfl, rfl, Own.nil _ _ _ _, ⟨by simp; omega, by simp⟩, by simp [diffP, script], Kept.refl _ _ _ _⟩
      case round =>
        obtain ⟨i, j, l, A3, c3, hi, hj, rfl, rfl, rfl, ol, hsm, hfold, hkp⟩ := hrel
        have hzr := hkp.size
        have ht := hkp.blk HQ.out (by simp) (by decide)
        have ra := HRA.out.below (hkp.below (B := B) (by omega) (by omega) (by simp))
        have rb := HRB.out.below (hkp.below (B := B) (by omega) (by omega) (by simp))
        have HF2 := Lib.hid hfold
        clear hfold
        obtain ⟨K, hK⟩ : ∃ K, i * W = K := ⟨_, rfl⟩
        have hK1 : (i + 1) * W = K + W := by rw [Nat.succ_mul, hK]
        have hKb : K ≤ 100000 := by rw [← hK]; exact Nat.le_trans (Nat.mul_le_mul (show i ≤ 200 by omega) (show W ≤ 201 by omega)) (by omega)
        have hN1 : K + W ≤ N := by
          have h1 : (i + 1) * W ≤ (a.length + 1) * W := Nat.mul_le_mul_right _ (by omega)
          rw [HNN.out, hK1] at h1
          exact h1
        have hN3 : i < a.length → K + W + W ≤ N := fun h => by
          have h1 : (i + 1 + 1) * W ≤ (a.length + 1) * W := Nat.mul_le_mul_right _ (by omega)
          rw [HNN.out, Nat.succ_mul, hK1] at h1
          exact h1
        have f1 : IntKind.i64.wrap (((i : Int) + 1) * (W : Int)) = (K : Int) + (W : Int) := by
          have e : ((i : Int) + 1) * (W : Int) = ((K + W : Nat) : Int) := by rw [← hK1]; push_cast; rfl
          rw [e, IntWalk.i64_in _ (by omega)]
          push_cast
          rfl
        have f2 : IntKind.i64.wrap ((i : Int) * (W : Int)) = (K : Int) := by
          have e : (i : Int) * (W : Int) = ((K : Nat) : Int) := by rw [← hK]; push_cast; rfl
          rw [e, IntWalk.i64_in _ (by omega)]
        have hWl := HWN.out
        have cell : ∀ i' j', i' ≤ a.length → j' ≤ b.length → wr.cell? ⟨G, i' * W + j', none⟩ = some (.int .i64 (lcs (a.drop i') (b.drop j') : Int)) := fun i' j' h1 h2 => by
          rw [ht.cell, List.getElem?_toArray, ← hWl]
          exact tabL_at a b i' j' h1 h2
        have c0 := cell i j hi hj
        rw [hK] at c0
        have hcell := Lib.hid (show i < a.length → wr.cell? ⟨G, K + W + j, none⟩ = some (.int .i64 (lcs (a.drop (i + 1)) (b.drop j) : Int)) ∧ (j < b.length → wr.cell? ⟨G, K + W + j + 1, none⟩ = some (.int .i64 (lcs (a.drop (i + 1)) (b.drop (j + 1)) : Int))) from fun h => by
          have q1 := cell (i + 1) j h hj
          rw [hK1] at q1
          refine ⟨q1, fun h2 => ?_⟩
          have q2 := cell (i + 1) (j + 1) h h2
          rw [hK1, ← Nat.add_assoc] at q2
          exact q2)
        clear cell ht hK hK1
        have y0 : IntKind.i64.wrap ((i : Int) + 1) = (i : Int) + 1 := IntWalk.i64_in _ (by omega)
        have y5 : IntKind.i64.wrap ((K : Int) + (j : Int)) = (K : Int) + (j : Int) := IntWalk.i64_in _ (by omega)
        have y1 : IntKind.i64.wrap ((K : Int) + (W : Int) + (j : Int)) = (K : Int) + (W : Int) + (j : Int) := IntWalk.i64_in _ (by omega)
        have x1 : IntKind.i64.wrap ((K : Int) + (W : Int) + (j : Int) + 1) = (K : Int) + (W : Int) + (j : Int) + 1 := IntWalk.i64_in _ (by omega)
        have y2 : ((K : Int) + (W : Int) + (j : Int)).toNat = K + W + j := by omega
        have x2 : ((K : Int) + (W : Int) + (j : Int) + 1).toNat = K + W + j + 1 := by omega
        have x5 : ((K : Int) + (j : Int)).toNat = K + j := by omega
        have x6 : (K : Int) + (j : Int) < (N : Int) := by omega
        have x7 : (0 : Int) ≤ (K : Int) + (j : Int) := by omega
        have y4 : (0 : Int) ≤ (K : Int) + (W : Int) + (j : Int) := by omega
        have x4 : (0 : Int) ≤ (K : Int) + (W : Int) + (j : Int) + 1 := by omega
        have HWl := Lib.hid hWl
        clear hWl
        go_upto_region 17 with fail
        go_cut [103] (fun s103 wx => s103 = .bool (decide (i < a.length) || decide (j < b.length)) ∧ wr = wx)
        case first =>
          by_cases h1 : i < a.length
          · have b1 : decide (i < a.length) = true := decide_eq_true h1
            go_wp2_with fail
            go_meet
            exact ⟨by simp [h1], rfl⟩
          · have b1 : decide (i < a.length) = false := decide_eq_false h1
            by_cases h2 : j < b.length
            · have b2 : decide (j < b.length) = true := decide_eq_true h2
              go_wp2_with fail
              go_meet
              exact ⟨by simp [h1, h2], rfl⟩
            · have b2 : decide (j < b.length) = false := decide_eq_false h2
              go_wp2_with fail
              go_meet
              exact ⟨by simp [h1, h2], rfl⟩
        case rest =>
          obtain ⟨rfl, rfl⟩ := hcut
          by_cases hend : i < a.length ∨ j < b.length
          · have hor : (decide (i < a.length) || decide (j < b.length)) = true := by simpa using hend
            rw [hor]
            go_upto_region 20 with fail
            go_cut [108] (fun s108 wx => s108 = .bool (goOn (a.drop i) (b.drop j)) ∧ ∃ n, wx = wr.drewN n)
            case first =>
              by_cases h1 : i < a.length
              · have b1 : decide (i < a.length) = true := decide_eq_true h1
                by_cases h2 : j < b.length
                · have b2 : decide (j < b.length) = true := decide_eq_true h2
                  obtain ⟨p, hp⟩ : ∃ s, a[i]? = some s := ⟨a[i], List.getElem?_eq_getElem h1⟩
                  obtain ⟨q, hq⟩ : ∃ s, b[j]? = some s := ⟨b[j], List.getElem?_eq_getElem h2⟩
                  have hda : a.drop i = p :: a.drop (i + 1) := List.drop_eq_getElem?_toList_append.trans (by rw [hp]; rfl)
                  have hdb : b.drop j = q :: b.drop (j + 1) := List.drop_eq_getElem?_toList_append.trans (by rw [hq]; rfl)
                  obtain ⟨ga, oa, rfl, hga, hca⟩ := ra.strAt hp rfl
                  obtain ⟨gb, ob, rfl, hgb, hcb⟩ := rb.strAt hq rfl
                  obtain ⟨c1, c3'⟩ := hcell.out h1
                  have c3' := c3' h2
                  have hN4 := hN3 h1
                  have hWl := HWl.out
                  have y3 : (K : Int) + (W : Int) + (j : Int) < (N : Int) := by omega
                  have x3 : (K : Int) + (W : Int) + (j : Int) + 1 < (N : Int) := by omega
                  have hgo : goOn (a.drop i) (b.drop j) = decide (p = q) := by rw [hda, hdb]; rfl
                  have hl1 := lcs_le (a.drop (i + 1)) (b.drop (j + 1))
                  rw [List.length_drop] at hl1
                  have hz11 : IntKind.i64.wrap ((lcs (a.drop (i + 1)) (b.drop (j + 1)) : Int) + 1) = (lcs (a.drop (i + 1)) (b.drop (j + 1)) : Int) + 1 := IntWalk.i64_in _ (by omega)
                  have hst : p = q → ((lcs (a.drop i) (b.drop j) : Int) == (lcs (a.drop (i + 1)) (b.drop (j + 1)) : Int) + 1) = true := fun h => by
                    rw [hda, hdb, lcs_cons, if_pos h]
                    simp
                  clear hN4 hWl hp hq hda hdb hN3 hcell HWl hl1
                  unfold strC at hca hcb
                  generalize goOn (a.drop i) (b.drop j) = z at *
                  generalize lcs (a.drop i) (b.drop j) = z00 at *
                  generalize lcs (a.drop (i + 1)) (b.drop (j + 1)) = z11 at *
                  by_cases hpq : p = q
                  · have hsb : (p == q) = true := beq_iff_eq.2 hpq
                    have hst2 := hst hpq
                    rw [decide_eq_true hpq] at hgo
                    clear hst hpq
                    subst hgo
                    go_quiet (fail)
                    go_wp2_with fail
                    go_meet
                    exact ⟨rfl, _, rfl⟩
                  · have hsb : (p == q) = false := beq_eq_false_iff_ne.2 hpq
                    rw [decide_eq_false hpq] at hgo
                    clear hst hpq
                    subst hgo
                    go_quiet (fail)
                    go_wp2_with fail
                    go_meet
                    exact ⟨rfl, _, rfl⟩
                · have b2 : decide (j < b.length) = false := decide_eq_false h2
                  have hgo : goOn (a.drop i) (b.drop j) = false := by
                    rw [List.drop_of_length_le (Nat.le_of_not_lt h2)]
                    cases a.drop i <;> rfl
                  generalize goOn (a.drop i) (b.drop j) = z at *
                  subst hgo
                  go_quiet (fail)
                  go_wp2_with fail
                  go_meet
                  exact ⟨rfl, _, rfl⟩
              · have b1 : decide (i < a.length) = false := decide_eq_false h1
                have hgo : goOn (a.drop i) (b.drop j) = false := by
                  rw [List.drop_of_length_le (Nat.le_of_not_lt h1)]
                  rfl
                generalize goOn (a.drop i) (b.drop j) = z at *
                subst hgo
                go_quiet (fail)
                go_wp2_with fail
                go_meet
                exact ⟨rfl, _, rfl⟩
            case rest =>
              obtain ⟨rfl, n, rfl⟩ := hcut
              cases hz : goOn (a.drop i) (b.drop j) with
              | true =>
                obtain ⟨p, x', y', ex, ey, hsteps⟩ := steps_keep hz
                obtain ⟨hi1, rfl⟩ := drop_cons ex
                obtain ⟨hj1, rfl⟩ := drop_cons ey
                clear ex ey
                have hf := HF2.out
                rw [hsteps, List.foldl_cons] at hf
                clear hsteps
                have hsm1 : Small l ((a.length - (i + 1)) + (b.length - (j + 1)) + 1) := hsm.mono (by omega)
                have hsm2 := hsm1.add 0
                have HF3 := Lib.hid hf
                have HC := Lib.hid (run_any l 0 A3 c3 w3.heap.size _ (ol.drewN (n)) hzr (by have := hsm.1; omega) (fun e he => by have := hsm.2 e he; omega))
                clear c0 hcell hN3 f1 f2 y0 y1 y2 y4 y5 x1 x2 x4 x5 x6 x7 HWl hN1 hKb ra rb hor hend
                clear hf hsm hsm1
                go_wp2_with fail
                refine HC.out.mono ?_
                rintro r w4 ⟨A4, c4, rfl, o4, k4⟩
                have k5 := (hkp.drewN (n)).trans k4
                clear HC
                go_wp2_with fail
                go_roundw
                case rel => exact ⟨i + 1, j + 1, addP l 0, A4, c4, hi1, hj1, by go_num, by go_num, rfl, o4, hsm2, HF3.out, k5⟩
                case measure => simp [intOf]; omega
              | false =>
                go_upto_region 24 with fail
                go_cut [158] (fun s158 wx => s158 = .bool (dels (a.drop i) (b.drop j)) ∧ ∃ m, wx = (wr.drewN n).drewN m)
                case first =>
                  by_cases h1 : i < a.length
                  · have b1 : decide (i < a.length) = true := decide_eq_true h1
                    obtain ⟨p, hp⟩ : ∃ s, a[i]? = some s := ⟨a[i], List.getElem?_eq_getElem h1⟩
                    have hda : a.drop i = p :: a.drop (i + 1) := List.drop_eq_getElem?_toList_append.trans (by rw [hp]; rfl)
                    obtain ⟨c1, _⟩ := hcell.out h1
                    have hN4 := hN3 h1
                    have hWl := HWl.out
                    have y3 : (K : Int) + (W : Int) + (j : Int) < (N : Int) := by omega
                    have hdd : ((lcs (a.drop i) (b.drop j) : Int) == (lcs (a.drop (i + 1)) (b.drop j) : Int)) = dels (a.drop i) (b.drop j) := by
                      rw [nat_beq, hda]
                      exact decide_eq_decide.2 ⟨fun h => h.symm, fun h => h.symm⟩
                    clear hN4 hWl hp hda hN3 hcell HWl hz
                    generalize dels (a.drop i) (b.drop j) = z at *
                    generalize lcs (a.drop i) (b.drop j) = z00 at *
                    generalize lcs (a.drop (i + 1)) (b.drop j) = z10 at *
                    go_quiet (fail)
                    go_wp2_with fail
                    go_meet
                    exact ⟨rfl, _, rfl⟩
                  · have b1 : decide (i < a.length) = false := decide_eq_false h1
                    have hgo : dels (a.drop i) (b.drop j) = false := by
                      rw [List.drop_of_length_le (Nat.le_of_not_lt h1)]
                      rfl
                    clear hz
                    generalize dels (a.drop i) (b.drop j) = z at *
                    subst hgo
                    go_quiet (fail)
                    go_wp2_with fail
                    go_meet
                    exact ⟨rfl, _, rfl⟩
                case rest =>
                  obtain ⟨rfl, m, rfl⟩ := hcut
                  cases hd : dels (a.drop i) (b.drop j) with
                  | true =>
                    obtain ⟨p, x', ex, hsteps⟩ := steps_del hz hd
                    obtain ⟨hi1, rfl⟩ := drop_cons ex
                    clear ex hz hd
                    have hf := HF2.out
                    rw [hsteps, List.foldl_cons] at hf
                    clear hsteps
                    have hsm1 : Small l ((a.length - (i + 1)) + (b.length - j) + 1) := hsm.mono (by omega)
                    have hsm2 := hsm1.add 1
                    have HF3 := Lib.hid hf
                    have HC := Lib.hid (run_any l 1 A3 c3 w3.heap.size _ (ol.drewN (n + m)) hzr (by have := hsm.1; omega) (fun e he => by have := hsm.2 e he; omega))
                    clear c0 hcell hN3 f1 f2 y0 y1 y2 y4 y5 x1 x2 x4 x5 x6 x7 HWl hN1 hKb ra rb hor hend
                    clear hf hsm hsm1
                    go_wp2_with fail
                    refine HC.out.mono ?_
                    rintro r w4 ⟨A4, c4, rfl, o4, k4⟩
                    have k5 := (hkp.drewN (n + m)).trans k4
                    clear HC
                    go_wp2_with fail
                    go_roundw
                    case rel => exact ⟨i + 1, j, addP l 1, A4, c4, hi1, hj, by go_num, rfl, rfl, o4, hsm2, HF3.out, k5⟩
                    case measure => simp [intOf]; omega
                  | false =>
                    have h2 : j < b.length := by
                      rcases Nat.lt_or_ge j b.length with q | q
                      · exact q
                      · exfalso
                        rcases hend with h | h
                        · rw [List.drop_of_length_le q] at hd
                          cases hx : a.drop i with
                          | nil =>
                            have := congrArg List.length hx
                            simp at this
                            omega
                          | cons p u =>
                            rw [hx] at hd
                            simp [dels, lcs_nil_right] at hd
                        · omega
                    obtain ⟨q, hq⟩ : ∃ s, b[j]? = some s := ⟨b[j], List.getElem?_eq_getElem h2⟩
                    have ey : b.drop j = q :: b.drop (j + 1) := List.drop_eq_getElem?_toList_append.trans (by rw [hq]; rfl)
                    rw [ey] at hz hd
                    have hsteps := steps_ins hz hd
                    rw [← ey] at hsteps
                    clear hz hd hq ey
                    have hf := HF2.out
                    rw [hsteps, List.foldl_cons] at hf
                    clear hsteps
                    have hsm1 : Small l ((a.length - i) + (b.length - (j + 1)) + 1) := hsm.mono (by omega)
                    have hsm2 := hsm1.add 2
                    have HF3 := Lib.hid hf
                    have HC := Lib.hid (run_any l 2 A3 c3 w3.heap.size _ (ol.drewN (n + m)) hzr (by have := hsm.1; omega) (fun e he => by have := hsm.2 e he; omega))
                    clear c0 hcell hN3 f1 f2 y0 y1 y2 y4 y5 x1 x2 x4 x5 x6 x7 HWl hN1 hKb ra rb hor hend
                    clear hf hsm hsm1
                    go_wp2_with fail
                    refine HC.out.mono ?_
                    rintro r w4 ⟨A4, c4, rfl, o4, k4⟩
                    have k5 := (hkp.drewN (n + m)).trans k4
                    clear HC
                    go_wp2_with fail
                    go_roundw
                    case rel => exact ⟨i, j + 1, addP l 2, A4, c4, hi, h2, rfl, by go_num, rfl, o4, hsm2, HF3.out, k5⟩
                    case measure => simp [intOf]; omega
          · have hor : (decide (i < a.length) || decide (j < b.length)) = false := by simpa using hend
            rw [hor]
            have hf := HF2.out
            rw [List.drop_of_length_le (show a.length ≤ i by omega), List.drop_of_length_le (show b.length ≤ j by omega)] at hf
            have hss : steps ([] : List (List UInt8)) [] = [] := by rw [steps]
            rw [hss, List.foldl_nil] at hf
            have HF3 := Lib.hid hf
            clear hf hss
            go_wp2_with fail
            go_ret2
            rw [← HF3.out]
            exact ⟨A3, c3, rfl, ol.mono hkk.size, hkk.all.trans (hkp.below hkk.size hkk.size (by simp))⟩
    | succ k =>
      rw [show ((k + 1 : Nat) : Int) - 1 = (k : Int) from by omega]
      obtain ⟨p, hp⟩ : ∃ s, a[k]? = some s := ⟨a[k], List.getElem?_eq_getElem (by omega)⟩
      have HDX := Lib.hid (show a.drop k = p :: a.drop (k + 1) from List.drop_eq_getElem?_toList_append.trans (by rw [hp]; rfl))
      obtain ⟨ga, oa, rfl, hgaB, hca⟩ := ha.strAt hp rfl
      obtain ⟨K, hK⟩ : ∃ K, k * W = K := ⟨_, rfl⟩
      have hK1 : (k + 1) * W = K + W := by rw [Nat.succ_mul, hK]
      have hKb : K ≤ 100000 := by rw [← hK]; exact Nat.le_trans (Nat.mul_le_mul (show k ≤ 200 by omega) (show W ≤ 201 by have := HWN.out; omega)) (by omega)
      rw [hK1] at hq
      have hNK : K + W + W ≤ N := by
        have h1 : (k + 1 + 1) * W ≤ (a.length + 1) * W := Nat.mul_le_mul_right _ (by omega)
        rw [HNN.out, Nat.succ_mul, hK1] at h1
        exact h1
      have f1 : IntKind.i64.wrap (((k : Int) + 1) * (W : Int)) = (K : Int) + (W : Int) := by
        have e : ((k : Int) + 1) * (W : Int) = ((K + W : Nat) : Int) := by rw [← hK1]; push_cast; rfl
        rw [e, IntWalk.i64_in _ (by omega)]
        push_cast
        rfl
      have f2 : IntKind.i64.wrap ((k : Int) * (W : Int)) = (K : Int) := by
        have e : (k : Int) * (W : Int) = ((K : Nat) : Int) := by rw [← hK]; push_cast; rfl
        rw [e, IntWalk.i64_in _ (by omega)]
      have HK := Lib.hid hK
      have HN2 := Lib.hid hNK
      have hWb : W ≤ 201 := by have := HWN.out; omega
      have hWl : b.length + 1 = W := HWN.out
      have hst : List.replicate (K + W) (iV 0) ++ tabL (a.drop (k + 1)) b = midL K b.length (p :: a.drop (k + 1)) (a.drop (k + 1)) [] b := by rw [midL_start, hWl]
      rw [hst] at hq
      have HWL := Lib.hid hWl
      clear hK hK1 hst hWl hNK
      go_wp2_with fail
      go_loopw [9] (fun i wr => ∃ j : Nat, j ≤ b.length ∧ i = .int .i64 ((j : Int) - 1) ∧ Blk wr G 3 (midL K j (p :: a.drop (k + 1)) (a.drop (k + 1)) (b.drop j) b).toArray ∧ Keep Nothing w wr) (fun i _ => (intOf i + 1).toNat)
      case atStart => exact ⟨b.length, Nat.le_refl _, rfl, by rw [List.drop_length]; exact hq, hkp⟩
      case round =>
        clear hq hkp
        obtain ⟨j, hj, rfl, hq, hkp⟩ := hrel
        have hz := hkp.size
        cases j with
        | zero =>
          go_wp2
          go_roundw
          case rel => exact ⟨k, by omega, by go_num, by rw [HK.out, HDX.out, ← midL_end]; simpa using hq, hkp⟩
          case measure => simp [intOf]
        | succ j =>
          rw [show ((j + 1 : Nat) : Int) - 1 = (j : Int) from by omega]
          obtain ⟨q, hqj⟩ : ∃ s, b[j]? = some s := ⟨b[j], List.getElem?_eq_getElem (by omega)⟩
          have HDY := Lib.hid (show b.drop j = q :: b.drop (j + 1) from List.drop_eq_getElem?_toList_append.trans (by rw [hqj]; rfl))
          obtain ⟨gb, ob, rfl, hgbB, hcb⟩ := hb.strAt hqj rfl
          have e1 := (hkp.cell (p := ⟨ga, oa + k, none⟩) (by show ga < w.heap.size; omega) (fun h => h)).trans hca
          have e2 := (hkp.cell (p := ⟨gb, ob + j, none⟩) (by show gb < w.heap.size; omega) (fun h => h)).trans hcb
          have hml : (b.drop (j + 1)).length + (j + 1) = b.length := by simp; omega
          have hWL := HWL.out
          have c1 := (hq.cell (K + b.length + 1 + j)).trans ((List.getElem?_toArray).trans (midL_next K (j + 1) _ _ _ b hml j (by omega)))
          have c2 := (hq.cell (K + (j + 1))).trans ((List.getElem?_toArray).trans (midL_here K (j + 1) _ _ _ b))
          have c3 := (hq.cell (K + b.length + 1 + (j + 1))).trans ((List.getElem?_toArray).trans (midL_next K (j + 1) _ _ _ b hml (j + 1) (by omega)))
          have c4 := (hq.cell (K + j)).trans ((List.getElem?_toArray).trans (midL_old K j _ _ _ b))
          have g4 := hq.frozen (K + j)
          rw [show K + b.length + 1 + j = K + W + j by omega, HDY.out] at c1
          rw [show K + (j + 1) = K + j + 1 by omega] at c2
          rw [show K + b.length + 1 + (j + 1) = K + W + j + 1 by omega] at c3
          unfold iV at c1 c2 c3 c4
          have hjb : j ≤ 200 := by omega
          have hlen : K + W + j + 1 < N := by have := HN2.out; omega
          clear hWL hml
          have v1 := lcs_le (a.drop (k + 1)) (q :: b.drop (j + 1))
          have v2 := lcs_le (p :: a.drop (k + 1)) (b.drop (j + 1))
          have v3 := lcs_le (a.drop (k + 1)) (b.drop (j + 1))
          rw [List.length_cons] at v2
          rw [List.length_drop] at v1 v2 v3
          have HV := lcs_ref p q (a.drop (k + 1)) (b.drop (j + 1))
          have HSET := Lib.hid (show ∀ v n, lcs (p :: a.drop (k + 1)) (q :: b.drop (j + 1)) = v → Blk ((wr.drewN n).setCell ⟨G, K + j, none⟩ (iV v)) G 3 (midL K j (p :: a.drop (k + 1)) (a.drop (k + 1)) (b.drop j) b).toArray from fun v n hv => by
            have := (hq.drewN n).set_ (K + j) (iV v)
            rw [arr_set, midL_set K j _ _ _ _ q v hv] at this
            rw [HDY.out]
            exact this)
          generalize lcs (a.drop (k + 1)) (q :: b.drop (j + 1)) = z10 at *
          generalize lcs (p :: a.drop (k + 1)) (b.drop (j + 1)) = z01 at *
          generalize lcs (a.drop (k + 1)) (b.drop (j + 1)) = z11 at *
          have y0 : IntKind.i64.wrap ((k : Int) + 1) = (k : Int) + 1 := IntWalk.i64_in _ (by omega)
          have y1 : IntKind.i64.wrap ((K : Int) + (W : Int) + (j : Int)) = (K : Int) + (W : Int) + (j : Int) := IntWalk.i64_in _ (by omega)
          have y2 : ((K : Int) + (W : Int) + (j : Int)).toNat = K + W + j := by omega
          have y3 : (K : Int) + (W : Int) + (j : Int) < (N : Int) := by omega
          have y4 : (0 : Int) ≤ (K : Int) + (W : Int) + (j : Int) := by omega
          have y5 : IntKind.i64.wrap ((K : Int) + (j : Int)) = (K : Int) + (j : Int) := IntWalk.i64_in _ (by omega)
          have y6 : IntKind.i64.wrap ((K : Int) + (j : Int) + 1) = (K : Int) + (j : Int) + 1 := IntWalk.i64_in _ (by omega)
          have y7 : ((K : Int) + (j : Int) + 1).toNat = K + j + 1 := by omega
          have y8 : (K : Int) + (j : Int) + 1 < (N : Int) := by omega
          have y9 : (0 : Int) ≤ (K : Int) + (j : Int) + 1 := by omega
          have hmx : (if z10 < z01 then (z01 : Int) else (z10 : Int)) = ((max z10 z01 : Nat) : Int) := by split <;> omega
          have hM : max z10 z01 ≤ 300 := by omega
          generalize max z10 z01 = M at *
          have x1 : IntKind.i64.wrap ((K : Int) + (W : Int) + (j : Int) + 1) = (K : Int) + (W : Int) + (j : Int) + 1 := IntWalk.i64_in _ (by omega)
          have x2 : ((K : Int) + (W : Int) + (j : Int) + 1).toNat = K + W + j + 1 := by omega
          have x3 : (K : Int) + (W : Int) + (j : Int) + 1 < (N : Int) := by omega
          have x4 : (0 : Int) ≤ (K : Int) + (W : Int) + (j : Int) + 1 := by omega
          have x5 : ((K : Int) + (j : Int)).toNat = K + j := by omega
          have x6 : (K : Int) + (j : Int) < (N : Int) := by omega
          have x7 : (0 : Int) ≤ (K : Int) + (j : Int) := by omega
          have hz11 : IntKind.i64.wrap ((z11 : Int) + 1) = (z11 : Int) + 1 := IntWalk.i64_in _ (by omega)
          have hmx2 : (if (M : Int) < (z11 : Int) + 1 then (z11 : Int) + 1 else (M : Int)) = ((max M (z11 + 1) : Nat) : Int) := by split <;> omega
          clear hq
          by_cases hpq : p = q
          · have hsb : (p == q) = true := beq_iff_eq.2 hpq
            rw [if_pos hpq] at HV
            have HS1 := Lib.hid (fun n => HSET.out _ n HV)
            clear HV HSET hpq
            unfold strC at e1 e2
            go_wp2_with fail
            go_quiet (fail)
            go_wp2_with fail
            go_quiet (fail)
            go_wp2_with fail
            go_roundw
            case rel =>
              have h1 := HS1.out
              unfold iV at h1
              exact ⟨j, by omega, by go_num, h1 _, (hkp.drewN _).setCell (p := ⟨G, K + j, none⟩) (.inr hGw) _⟩
            case measure => simp [intOf]
          · have hsb : (p == q) = false := beq_eq_false_iff_ne.2 hpq
            rw [if_neg hpq] at HV
            have HS1 := Lib.hid (fun n => HSET.out _ n HV)
            clear HV HSET hpq
            unfold strC at e1 e2
            go_wp2_with fail
            go_quiet (fail)
            go_wp2_with fail
            go_quiet (fail)
            go_wp2_with fail
            go_roundw
            case rel =>
              have h1 := HS1.out
              unfold iV at h1
              exact ⟨j, by omega, by go_num, h1 _, (hkp.drewN _).setCell (p := ⟨G, K + j, none⟩) (.inr hGw) _⟩
            case measure => simp [intOf]
end Go.Proofs.YtlcidbbpjlpmjaaDoor
