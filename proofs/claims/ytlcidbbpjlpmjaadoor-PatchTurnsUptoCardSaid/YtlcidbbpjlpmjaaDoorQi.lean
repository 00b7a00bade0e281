/-
  Contract of cutter.edit. No statement of the seat is proved here.
-/
import Derived.Test.YtlcidbbpjlpmjaaDoorQc
import Derived.Deep.DeepCutAuto
import Derived.Deep.CutBlock
namespace Go.Proofs.YtlcidbbpjlpmjaaDoor
open Go.RowKit

theorem src_cut {w : World} {B base lo m ca : Nat} {Aa : Option Addr} {a : List (List UInt8)} (hr : Reads w B 1 Aa a.length (strL a)) (hB : B ≤ base) (hca : a.length ≤ ca) (hm : lo + m ≤ a.length) (L : Option Addr) (hL : (a.drop lo).take m ≠ [] → L = Option.map (fun x => x.add lo) Aa) (hne : (a.drop lo).take m ≠ []) :
    Src w base L ((a.drop lo).take m).length (strL ((a.drop lo).take m)) := by
  have hmp : 0 < ((a.drop lo).take m).length := List.length_pos_iff.2 hne
  have hln : ((a.drop lo).take m).length = m := by simp; omega
  rw [hL hne]
  have r1 := (hr.cut (k := lo) (by omega) hca).front (k := m) (by omega)
  rw [if_neg (by omega), Nat.mul_one, Nat.mul_one] at r1
  rw [hln]
  exact Src.of_reads (B := B) (by simpa [strL, List.map_drop, List.map_take] using r1) hB (fun h => by omega)
def CPutPost (q base : Nat) (av bv : Value) (ar : Nat) (c : CutD) (A : Option Addr) (cp p op : Nat) (l : List (List UInt8)) (w : World) (r : Ending) (w' : World) : Prop := r = .returned (.tuple #[]) ∧ CutS w' q base av bv ar ⟨c.i, c.j, putL c.out op l, c.opn, c.uns⟩ A cp p ∧ Kept base E3 [] w w' ∧ (∀ ps, Blk w p 67 ps → Blk w' p 67 ps)
theorem putL_len (l : List HkD) (op : Nat) (x : List (List UInt8)) : (putL l op x).length = l.length := by
  induction l with
  | nil => rfl
  | cons h l ih =>
    cases l with
    | nil => rfl
    | cons k l => simp only [putL, List.length_cons] at ih ⊢; omega
theorem cput_any (q base : Nat) (av bv : Value) (ar : Nat) (c : CutD) (A : Option Addr) (cp p op : Nat) (l : List (List UInt8)) (m : Nat) (L : Option Addr) (lc : Nat) (w : World) (hc : CutS w q base av bv ar c A cp p) (ho : c.out ≠ []) (hm : l.length = m) (hs : l ≠ [] → Src w base L l.length (strL l)) (hp : p < w.heap.size) (hml : m ≤ 100000) (hol : c.out.length ≤ 100000) (hbd : ∀ h ∈ c.out, h.eds.length ≤ 100000 ∧ h.ls.length ≤ 100000) :
    Calls Tryd.prog 54 #[.pointer (some ⟨q, 0, none⟩), .int .i64 (op : Int), .slice L m lc] w (CPutPost q base av bv ar c A cp p op l w) := by
  obtain ⟨hb, hrow, hz⟩ := hc
  rcases hrow with ⟨h1, _⟩ | ⟨ini, tv, h, EA, ec, LA, lcc, bk, h1, hl, hn⟩
  · exact absurd h1 ho
  · obtain ⟨i, j, out, opn, uns⟩ := c
    simp only at h1
    subst h1
    have hb1 := hbd h (by simp)
    have hi : ini.length ≤ 100000 := by simp at hol; omega
    have h5 := put_any q base bk A cp ini tv h EA ec LA lcc op l L lc _ w hb (by simp [cutC]) hl hs (by omega) (by omega) (by omega) (by omega) p hp hn
    rw [hm] at h5
    refine h5.mono ?_
    rintro r w' ⟨EA', ec', LA', lc', rfl, hl', k', n', b'⟩
    refine ⟨rfl, ⟨?_, .inr ⟨ini, tv, _, EA', ec', LA', lc', bk, putL_snoc _ _ _ _, hl', n'⟩, Nat.le_trans hl'.lo hl'.hi⟩, k', b'⟩
    have := k'.blk hb (by simp) (by decide)
    simpa [cutC, putL_len] using this
theorem CutS.box {w : World} {q base : Nat} {av bv : Value} {ar : Nat} {c : CutD} {A : Option Addr} {cp p : Nat} (h : CutS w q base av bv ar c A cp p) (o : Obj) : CutS (w.alloc o) q base av bv ar c A cp w.heap.size := by
  obtain ⟨hb, hrow, hz⟩ := h
  refine ⟨hb.alloc o, ?_, by simp; omega⟩
  rcases hrow with q1 | ⟨ini, tv, h, EA, ec, LA, lc, bk, h1, hl, _⟩
  · exact .inl q1
  · refine .inr ⟨ini, tv, h, EA, ec, LA, lc, bk, h1, ⟨hl.own.alloc o, hl.len, hl.lo, Nat.le_trans hl.hi (by simp), fun k x y z e1 e2 => ?_, hl.oe.alloc o, hl.ol.alloc o⟩, fun e => ?_⟩
    · obtain ⟨A, c, A', c', f1, f2, o1, o2⟩ := hl.rows k x y z e1 e2
      exact ⟨A, c, A', c', f1, f2, ⟨o1.1.alloc o, o1.2⟩, ⟨o2.1.alloc o, o2.2⟩⟩
    · have := (hl.oe.blockAt _ e).2.1
      omega
theorem CutS.drewN {w : World} {q base : Nat} {av bv : Value} {ar : Nat} {c : CutD} {A : Option Addr} {cp p : Nat} (h : CutS w q base av bv ar c A cp p) (n : Nat) : CutS (w.drewN n) q base av bv ar c A cp p := by
  obtain ⟨hb, hrow, hz⟩ := h
  refine ⟨hb, ?_, hz⟩
  rcases hrow with q1 | ⟨ini, tv, h, EA, ec, LA, lc, bk, h1, hl, h2⟩
  · exact .inl q1
  · exact .inr ⟨ini, tv, h, EA, ec, LA, lc, bk, h1, hl.drewN n, h2⟩
theorem CutS.drew {w : World} {q base : Nat} {av bv : Value} {ar : Nat} {c : CutD} {A : Option Addr} {cp p : Nat} (h : CutS w q base av bv ar c A cp p) : CutS w.drew q base av bv ar c A cp p := by
  obtain ⟨hb, hrow, hz⟩ := h
  refine ⟨hb, ?_, hz⟩
  rcases hrow with q1 | ⟨ini, tv, h, EA, ec, LA, lc, bk, h1, hl, h2⟩
  · exact .inl q1
  · exact .inr ⟨ini, tv, h, EA, ec, LA, lc, bk, h1, hl.drew, h2⟩
/-- A cell of the cutter turned. -/
theorem CutS.set {w : World} {q base : Nat} {av bv : Value} {ar : Nat} {c c' : CutD} {A : Option Addr} {cp p : Nat} (h : CutS w q base av bv ar c A cp p) (k : Nat) (u : Value) (he : (cutC av bv c.i c.j ar (.slice A c.out.length cp) c.opn c.uns).setIfInBounds k u = cutC av bv c'.i c'.j ar (.slice A c'.out.length cp) c'.opn c'.uns) (ho : c'.out = c.out) : CutS (w.setCell ⟨q, k, none⟩ u) q base av bv ar c' A cp p := by
  obtain ⟨hb, hrow, hz⟩ := h
  refine ⟨he ▸ hb.set_ k u, ?_, by simpa [World.setCell] using hz⟩
  rw [ho]
  rcases hrow with q1 | ⟨ini, tv, h, EA, ec, LA, lc, bk, h1, hl, h2⟩
  · exact .inl q1
  · exact .inr ⟨ini, tv, h, EA, ec, LA, lc, bk, h1, hl.set (p := ⟨q, k, none⟩) hb u, h2⟩
def EditPost (a b : List (List UInt8)) (q base : Nat) (av bv : Value) (ar : Nat) (c : CutD) (e : EdD) (last : Bool) (w : World) (r : Ending) (w' : World) : Prop := ∃ A cp p, r = .returned (.tuple #[]) ∧ CutS w' q base av bv ar (editP a b ar c e last) A cp p ∧ Kept base E3 [q] w w'
set_option maxHeartbeats 4000000 in
set_option maxRecDepth 100000 in
theorem edit_keep (a b : List (List UInt8)) (q base B : Nat) (Aa : Option Addr) (ca : Nat) (bv : Value) (ar : Nat) (c : CutD) (A : Option Addr) (cp n : Nat) (last : Bool) (w : World) (p0 : Nat) (hc : CutS w q base (.slice Aa a.length ca) bv ar c A cp p0) (hr : Reads w B 1 Aa a.length (strL a)) (hB : B ≤ base) (hqB : B ≤ q)
    (hca : a.length ≤ ca) (hal : a.length ≤ 4000) (hi : c.i + n ≤ a.length) (hj : c.j + n ≤ 4000) (hn : 1 ≤ n) (har : ar ≤ 10) (ho : c.out.length ≤ 10000) (hop : c.opn = true → c.out ≠ []) (hbd : ∀ h ∈ c.out, h.eds.length ≤ 100000 ∧ h.ls.length ≤ 100000) :
    Calls Tryd.prog 29 #[.pointer (some ⟨q, 0, none⟩), .agg #[.int .i64 0, .int .i64 (n : Int)], .bool last] w (EditPost a b q base (.slice Aa a.length ca) bv ar c ⟨0, n⟩ last w) := by
  have HP := Lib.hid (show EditPost a b q base (.slice Aa a.length ca) bv ar c ⟨0, n⟩ last w = fun r w' => ∃ A cp p, r = .returned (.tuple #[]) ∧ CutS w' q base (.slice Aa a.length ca) bv ar (editP a b ar c ⟨0, n⟩ last) A cp p ∧ Kept base E3 [q] w w' from rfl)
  rw [HP.out]
  clear HP
  have hz := hc.lo
  have hc1 := hc.box (.cells #[.int .i64 0, .int .i64 (n : Int)] 67)
  have hp1 : Blk (w.alloc (.cells #[.int .i64 0, .int .i64 (n : Int)] 67)) w.heap.size 67 #[.int .i64 0, .int .i64 (n : Int)] := Blk.new _ _ _
  have k1 : Kept base E3 [q] w (w.alloc (.cells #[.int .i64 0, .int .i64 (n : Int)] 67)) := (Kept.refl _ _ _ _).alloc _
  clear hc
  go_enter Tryd.func29, Tryd.ntmps29
  go_upto_region 1 with (first | (refine wpList_boxed rfl rfl (cs := #[.int .i64 0, .int .i64 (n : Int)]) rfl ?_))
  have hpl := hp1.lt
  obtain ⟨pb, hpb⟩ : ∃ pb, pb = w.heap.size := ⟨_, rfl⟩
  rw [← hpb] at hc1 hp1 hpl ⊢
  generalize w.alloc (.cells #[.int .i64 0, .int .i64 (n : Int)] 67) = w1 at *
  clear hpb
  obtain ⟨i, j, out, opn, uns⟩ := c
  simp only at hi hj ho hop hbd
  have cp0 := hp1.cell 0
  have cp1 := hp1.cell 1
  have c0 := hc1.blk.cell 0
  have c2 := hc1.blk.cell 2
  simp [cutC] at cp0 cp1 c0 c2
  have s0 : IntKind.i64.wrap ((i : Int) + (n : Int)) = (i : Int) + (n : Int) := IntWalk.i64_in _ (by omega)
  have s1 : (i : Int) ≤ (i : Int) + (n : Int) := by omega
  have s2 : (i : Int) + (n : Int) ≤ (ca : Int) := by omega
  have s3 : ((i : Int) + (n : Int)).toNat = i + n := by omega
  have s4 : i + n - i = n := by omega
  have s5 : ¬ (ca = i) := by omega
  have s6 : (0 : Int) ≤ (i : Int) + (n : Int) := by omega
  have s7 : i + n ≤ ca := by omega
  have s8 : ((i : Int) + (n : Int) - (i : Int)).toNat = n := by omega
  go_wp2_with fail
  go_quiet (fail)
  clear c0 c2
  have hcN := hc1.drewN nq
  have hpN := hp1.drewN nq
  have kN := k1.drewN nq
  clear hc1 hp1 k1 cp0 cp1
  have hplN : pb < (w1.drewN nq).heap.size := hpl
  have HRN := Lib.hid (hr.below (kN.below hB (by omega) (by simp; omega)))
  generalize w1.drewN nq = w2 at *
  have c6 := hcN.blk.cell 6
  have c4 := hcN.blk.cell 4
  have cp1 := hpN.cell 1
  simp [cutC] at c6 c4 cp1
  have t1 : IntKind.i64.wrap (2 * (ar : Int)) = 2 * (ar : Int) := IntWalk.i64_in _ (by omega)
  go_upto_region 4 with fail
  go_cut [44] (fun s44 wx => s44 = .bool (decide (opn = true ∧ last = false ∧ n ≤ 2 * ar)) ∧ ∃ m, wx = w2.drewN m)
  case first =>
    have hle : decide ((n : Int) ≤ 2 * (ar : Int)) = decide (n ≤ 2 * ar) := decide_eq_decide.2 (by omega)
    cases opn <;> cases last
    all_goals
      go_region
      all_goals
        go_wp2_with fail
        go_meet
        exact ⟨by first | rfl | simp | simp [hle], _, rfl⟩
  case rest =>
    obtain ⟨rfl, m, rfl⟩ := hcut
    clear c6 c4 cp1
    cases hzz : decide (opn = true ∧ last = false ∧ n ≤ 2 * ar) with
    | true =>
      obtain ⟨rfl, rfl, hA3⟩ := of_decide_eq_true hzz
      clear hzz
      have hne := hop rfl
      have HE := Lib.hid (show editP a b ar ⟨i, j, out, true, uns⟩ ⟨0, n⟩ false = ⟨i + n, j + n, putL out 0 ((a.drop i).take n), true, n⟩ from by simp [editP, hA3])
      have hln : ((a.drop i).take n).length = n := by simp; omega
      have HPUT := Lib.hid (cput_any q base (.slice Aa a.length ca) bv ar ⟨i, j, out, true, uns⟩ A cp pb 0 ((a.drop i).take n) n (Option.map (fun x => x.add i) Aa) (ca - i) (w2.drewN m) (hcN.drewN m) hne hln (src_cut (HRN.out.drewN m) hB hca hi _ (fun _ => rfl)) hplN (by omega) (by simp only; omega) hbd)
      have kM := kN.drewN m
      have hpM := hpN.drewN m
      clear hcN hpN kN
      clear hA3
      go_wp2_with fail
      refine HPUT.out.mono ?_
      rintro r w5 ⟨rfl, hc5, k5, b5⟩
      have hp5 := b5 _ hpM
      have k5 := kM.trans (Kept.mono k5 (Nat.le_refl _) (by simp) (by simp))
      clear HPUT hpM kM b5
      simp only at hc5
      have b5 := hc5.blk
      have e7 := b5.cell 7
      have g7 := b5.frozen 7
      simp [cutC] at e7
      have e1 := hp5.cell 1
      simp at e1
      have hne5 := hp5.ne_ b5 (by decide)
      have hc6 := hc5.set (c' := ⟨i, j, putL out 0 ((a.drop i).take n), true, n⟩) 7 (.int .i64 (n : Int)) (by simp [cutC]) rfl
      have hp6 := hp5.far (p := ⟨q, 7, none⟩) hne5 (.int .i64 (n : Int))
      have k6 := k5.setCell (p := ⟨q, 7, none⟩) (.inl (by simp)) (.int .i64 (n : Int))
      go_upto_region 10 with fail
      clear b5 e7 g7 e1 hc5 hp5 k5
      generalize w5.setCell ⟨q, 7, none⟩ (.int .i64 (n : Int)) = w6 at *
      have b6 := hc6.blk
      have e2 := b6.cell 2
      have e2d := b6.drew.cell 2
      have g2 := b6.drew.frozen 2
      have e1 := hp6.cell 1
      simp [cutC] at e2 e2d e1
      have hc7 := (hc6.set (c' := ⟨i + n, j, putL out 0 ((a.drop i).take n), true, n⟩) 2 (.int .i64 ((i : Int) + (n : Int))) (by simp [cutC]) rfl).drew
      have hp7 := (hp6.far (p := ⟨q, 2, none⟩) hne5 (.int .i64 ((i : Int) + (n : Int)))).drew
      have k7 := (k6.setCell (p := ⟨q, 2, none⟩) (.inl (by simp)) (.int .i64 ((i : Int) + (n : Int)))).drew
      refine wp_region_still_tail 7 (by kernel_rfl) (by kernel_rfl) ?_; simp only [List.take_succ_cons, List.take_zero, List.drop_succ_cons, List.drop_zero]; repeat (first | ((with_reducible refine wpStill_step (fun K hK => ?_)); go_simp; with_reducible refine hK _ ?_; clear hK K) | ((with_reducible refine wpStill_skip ?_ ?_); (focus rfl)))
      (with_reducible refine wpStill_nil ?_); change wpList _ _ _ _ _ w6.drew
      go_upto_region 11 with fail
      clear b6 e2 e2d g2 e1 hc6 hp6 k6
      generalize (w6.setCell ⟨q, 2, none⟩ (.int .i64 ((i : Int) + (n : Int)))).drew = w7 at *
      have b7 := hc7.blk
      have e3 := b7.cell 3
      have e3d := b7.drew.cell 3
      have g3 := b7.drew.frozen 3
      have e1 := hp7.cell 1
      simp [cutC] at e3 e3d e1
      have hc8 := (hc7.set (c' := ⟨i + n, j + n, putL out 0 ((a.drop i).take n), true, n⟩) 3 (.int .i64 ((j : Int) + (n : Int))) (by simp [cutC]) rfl).drew
      have k8 := (k7.setCell (p := ⟨q, 3, none⟩) (.inl (by simp)) (.int .i64 ((j : Int) + (n : Int)))).drew
      have t0 : IntKind.i64.wrap ((j : Int) + (n : Int)) = (j : Int) + (n : Int) := IntWalk.i64_in _ (by omega)
      refine wp_region_still_tail 7 (by kernel_rfl) (by kernel_rfl) ?_; simp only [List.take_succ_cons, List.take_zero, List.drop_succ_cons, List.drop_zero]; repeat (first | ((with_reducible refine wpStill_step (fun K hK => ?_)); go_simp; with_reducible refine hK _ ?_; clear hK K) | ((with_reducible refine wpStill_skip ?_ ?_); (focus rfl)))
      (with_reducible refine wpStill_nil ?_); change wpList _ _ _ _ _ w7.drew
      go_wp2_with fail
      refine bodyPost_end (results_none rfl _ _ _) rfl ?_
      rw [HE.out]
      exact ⟨rfl, ⟨A, cp, pb, hc8⟩, k8⟩
    | false =>
      have hnA : ¬ (opn = true ∧ last = false ∧ n ≤ 2 * ar) := of_decide_eq_false hzz
      clear hzz
      have hcM := hcN.drewN m
      have hpM := hpN.drewN m
      have kM := kN.drewN m
      have HRM := Lib.hid (HRN.out.drewN m)
      have hplM : pb < (w2.drewN m).heap.size := hplN
      clear hcN hpN kN HRN hplN
      generalize w2.drewN m = w3 at *
      have c6 := hcM.blk.cell 6
      simp [cutC] at c6
      cases opn with
      | true =>
        have hne := hop rfl
        have HE := Lib.hid (show editP a b ar ⟨i, j, out, true, uns⟩ ⟨0, n⟩ last = ⟨i + n, j + n, putL out 0 ((a.drop i).take (min ar n)), false, n⟩ from by
          unfold editP
          rw [if_pos rfl, if_neg hnA, if_pos rfl])
        clear hnA
        have hmin : (if n < ar then (n : Int) else (ar : Int)) = ((min ar n : Nat) : Int) := by split <;> omega
        have hmn : min ar n ≤ n := Nat.min_le_right _ _
        have hma : min ar n ≤ 10 := Nat.le_trans (Nat.min_le_left _ _) har
        generalize min ar n = mm at *
        have hln : ((a.drop i).take mm).length = mm := by simp; omega
        have HPUT := Lib.hid (cput_any q base (.slice Aa a.length ca) bv ar ⟨i, j, out, true, uns⟩ A cp pb 0 ((a.drop i).take mm) mm (Option.map (fun x => x.add i) Aa) (ca - i) w3.drew hcM.drew hne hln (src_cut HRM.out.drew hB hca (by omega) _ (fun _ => rfl)) hplM (by omega) (by simp only; omega) hbd)
        have c4 := hcM.blk.cell 4
        have cp1 := hpM.cell 1
        simp [cutC] at c4 cp1
        have y1 : (mm : Int) ≤ (ca : Int) - (i : Int) := by omega
        have y2 : (mm : Int) ≤ ((ca - i : Nat) : Int) := by omega
        have y3 : mm ≤ ca - i := by omega
        go_wp2_with fail
        refine wp_region_still_tail 10 (by kernel_rfl) (by kernel_rfl) ?_; simp only [List.take_succ_cons, List.take_zero, List.drop_succ_cons, List.drop_zero]; repeat (first | ((with_reducible refine wpStill_step (fun K hK => ?_)); go_simp; with_reducible refine hK _ ?_; clear hK K) | ((with_reducible refine wpStill_skip ?_ ?_); (focus rfl)))
        (with_reducible refine wpStill_nil ?_); change wpList _ _ _ _ _ w3.drew
        go_wp2_with fail
        refine HPUT.out.mono ?_
        rintro r w5 ⟨rfl, hc5, k5, b5⟩
        have hp5 := b5 _ hpM.drew
        have k5 := kM.drew.trans (Kept.mono k5 (Nat.le_refl _) (by simp) (by simp))
        clear HPUT hpM kM b5 hcM c6 c4 cp1
        simp only at hc5
        have d6 := hc5.blk.cell 6
        have f6 := hc5.blk.frozen 6
        simp [cutC] at d6
        have hne5 := hp5.ne_ hc5.blk (by decide)
        have hc5 := hc5.set (c' := ⟨i, j, putL out 0 ((a.drop i).take mm), false, uns⟩) 6 (.bool false) (by simp [cutC]) rfl
        have hp5 := hp5.far (p := ⟨q, 6, none⟩) hne5 (.bool false)
        have k5 := k5.setCell (p := ⟨q, 6, none⟩) (.inl (by simp)) (.bool false)
        go_upto_region 9 with fail
        clear d6 f6 hne5
        generalize w5.setCell ⟨q, 6, none⟩ (.bool false) = w5' at *
        have b5 := hc5.blk
        have e7 := b5.cell 7
        have g7 := b5.frozen 7
        simp [cutC] at e7
        have e1 := hp5.cell 1
        simp at e1
        have hne5 := hp5.ne_ b5 (by decide)
        have hc6 := hc5.set (c' := ⟨i, j, putL out 0 ((a.drop i).take mm), false, n⟩) 7 (.int .i64 (n : Int)) (by simp [cutC]) rfl
        have hp6 := hp5.far (p := ⟨q, 7, none⟩) hne5 (.int .i64 (n : Int))
        have k6 := k5.setCell (p := ⟨q, 7, none⟩) (.inl (by simp)) (.int .i64 (n : Int))
        go_upto_region 10 with fail
        clear b5 e7 g7 e1 hc5 hp5 k5
        generalize w5'.setCell ⟨q, 7, none⟩ (.int .i64 (n : Int)) = w6 at *
        have b6 := hc6.blk
        have e2 := b6.cell 2
        have e2d := b6.drew.cell 2
        have g2 := b6.drew.frozen 2
        have e1 := hp6.cell 1
        simp [cutC] at e2 e2d e1
        have hc7 := (hc6.set (c' := ⟨i + n, j, putL out 0 ((a.drop i).take mm), false, n⟩) 2 (.int .i64 ((i : Int) + (n : Int))) (by simp [cutC]) rfl).drew
        have hp7 := (hp6.far (p := ⟨q, 2, none⟩) hne5 (.int .i64 ((i : Int) + (n : Int)))).drew
        have k7 := (k6.setCell (p := ⟨q, 2, none⟩) (.inl (by simp)) (.int .i64 ((i : Int) + (n : Int)))).drew
        refine wp_region_still_tail 7 (by kernel_rfl) (by kernel_rfl) ?_; simp only [List.take_succ_cons, List.take_zero, List.drop_succ_cons, List.drop_zero]; repeat (first | ((with_reducible refine wpStill_step (fun K hK => ?_)); go_simp; with_reducible refine hK _ ?_; clear hK K) | ((with_reducible refine wpStill_skip ?_ ?_); (focus rfl)))
        (with_reducible refine wpStill_nil ?_); change wpList _ _ _ _ _ w6.drew
        go_upto_region 11 with fail
        clear b6 e2 e2d g2 e1 hc6 hp6 k6
        generalize (w6.setCell ⟨q, 2, none⟩ (.int .i64 ((i : Int) + (n : Int)))).drew = w7 at *
        have b7 := hc7.blk
        have e3 := b7.cell 3
        have e3d := b7.drew.cell 3
        have g3 := b7.drew.frozen 3
        have e1 := hp7.cell 1
        simp [cutC] at e3 e3d e1
        have hc8 := (hc7.set (c' := ⟨i + n, j + n, putL out 0 ((a.drop i).take mm), false, n⟩) 3 (.int .i64 ((j : Int) + (n : Int))) (by simp [cutC]) rfl).drew
        have k8 := (k7.setCell (p := ⟨q, 3, none⟩) (.inl (by simp)) (.int .i64 ((j : Int) + (n : Int)))).drew
        have t0 : IntKind.i64.wrap ((j : Int) + (n : Int)) = (j : Int) + (n : Int) := IntWalk.i64_in _ (by omega)
        refine wp_region_still_tail 7 (by kernel_rfl) (by kernel_rfl) ?_; simp only [List.take_succ_cons, List.take_zero, List.drop_succ_cons, List.drop_zero]; repeat (first | ((with_reducible refine wpStill_step (fun K hK => ?_)); go_simp; with_reducible refine hK _ ?_; clear hK K) | ((with_reducible refine wpStill_skip ?_ ?_); (focus rfl)))
        (with_reducible refine wpStill_nil ?_); change wpList _ _ _ _ _ w7.drew
        go_wp2_with fail
        refine bodyPost_end (results_none rfl _ _ _) rfl ?_
        rw [HE.out]
        exact ⟨rfl, ⟨A, cp, pb, hc8⟩, k8⟩
      | false =>
        have HE := Lib.hid (show editP a b ar ⟨i, j, out, false, uns⟩ ⟨0, n⟩ last = ⟨i + n, j + n, out, false, n⟩ from by simp [editP])
        have hc5 := hcM
        have hp5 := hpM
        have k5 := kM
        go_upto_region 9 with fail
        clear hcM hpM kM c6
        have b5 := hc5.blk
        have e7 := b5.cell 7
        have g7 := b5.frozen 7
        simp [cutC] at e7
        have e1 := hp5.cell 1
        simp at e1
        have hne5 := hp5.ne_ b5 (by decide)
        have hc6 := hc5.set (c' := ⟨i, j, out, false, n⟩) 7 (.int .i64 (n : Int)) (by simp [cutC]) rfl
        have hp6 := hp5.far (p := ⟨q, 7, none⟩) hne5 (.int .i64 (n : Int))
        have k6 := k5.setCell (p := ⟨q, 7, none⟩) (.inl (by simp)) (.int .i64 (n : Int))
        go_upto_region 10 with fail
        clear b5 e7 g7 e1 hc5 hp5 k5
        generalize w3.setCell ⟨q, 7, none⟩ (.int .i64 (n : Int)) = w6 at *
        have b6 := hc6.blk
        have e2 := b6.cell 2
        have e2d := b6.drew.cell 2
        have g2 := b6.drew.frozen 2
        have e1 := hp6.cell 1
        simp [cutC] at e2 e2d e1
        have hc7 := (hc6.set (c' := ⟨i + n, j, out, false, n⟩) 2 (.int .i64 ((i : Int) + (n : Int))) (by simp [cutC]) rfl).drew
        have hp7 := (hp6.far (p := ⟨q, 2, none⟩) hne5 (.int .i64 ((i : Int) + (n : Int)))).drew
        have k7 := (k6.setCell (p := ⟨q, 2, none⟩) (.inl (by simp)) (.int .i64 ((i : Int) + (n : Int)))).drew
        refine wp_region_still_tail 7 (by kernel_rfl) (by kernel_rfl) ?_; simp only [List.take_succ_cons, List.take_zero, List.drop_succ_cons, List.drop_zero]; repeat (first | ((with_reducible refine wpStill_step (fun K hK => ?_)); go_simp; with_reducible refine hK _ ?_; clear hK K) | ((with_reducible refine wpStill_skip ?_ ?_); (focus rfl)))
        (with_reducible refine wpStill_nil ?_); change wpList _ _ _ _ _ w6.drew
        go_upto_region 11 with fail
        clear b6 e2 e2d g2 e1 hc6 hp6 k6
        generalize (w6.setCell ⟨q, 2, none⟩ (.int .i64 ((i : Int) + (n : Int)))).drew = w7 at *
        have b7 := hc7.blk
        have e3 := b7.cell 3
        have e3d := b7.drew.cell 3
        have g3 := b7.drew.frozen 3
        have e1 := hp7.cell 1
        simp [cutC] at e3 e3d e1
        have hc8 := (hc7.set (c' := ⟨i + n, j + n, out, false, n⟩) 3 (.int .i64 ((j : Int) + (n : Int))) (by simp [cutC]) rfl).drew
        have k8 := (k7.setCell (p := ⟨q, 3, none⟩) (.inl (by simp)) (.int .i64 ((j : Int) + (n : Int)))).drew
        have t0 : IntKind.i64.wrap ((j : Int) + (n : Int)) = (j : Int) + (n : Int) := IntWalk.i64_in _ (by omega)
        refine wp_region_still_tail 7 (by kernel_rfl) (by kernel_rfl) ?_; simp only [List.take_succ_cons, List.take_zero, List.drop_succ_cons, List.drop_zero]; repeat (first | ((with_reducible refine wpStill_step (fun K hK => ?_)); go_simp; with_reducible refine hK _ ?_; clear hK K) | ((with_reducible refine wpStill_skip ?_ ?_); (focus rfl)))
        (with_reducible refine wpStill_nil ?_); change wpList _ _ _ _ _ w7.drew
        go_wp2_with fail
        refine bodyPost_end (results_none rfl _ _ _) rfl ?_
        rw [HE.out]
        exact ⟨rfl, ⟨A, cp, pb, hc8⟩, k8⟩
end Go.Proofs.YtlcidbbpjlpmjaaDoor
