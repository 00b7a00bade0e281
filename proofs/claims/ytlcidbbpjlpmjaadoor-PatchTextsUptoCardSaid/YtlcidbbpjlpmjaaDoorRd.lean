/-
  Contract of patch.back. No statement of the seat is proved here.
-/
import Derived.Test.YtlcidbbpjlpmjaaDoorRd1
namespace Go.Proofs.YtlcidbbpjlpmjaaDoor
open Go.RowKit

def BackPost (h : HkD) (w : World) (r : Ending) (w' : World) : Prop := ∃ EB eb LB lb, r = .returned (.agg (hkV (backP h) EB eb LB lb)) ∧ Own w' w.heap.size 67 2 EB (backP h).eds.length eb (edLs (backP h).eds) ∧ Own w' w.heap.size 9 1 LB (backP h).ls.length lb (strL (backP h).ls) ∧ Below w.heap.size w w'
set_option maxHeartbeats 4000000 in
set_option maxRecDepth 100000 in
theorem back_any (h : HkD) (EA LA : Option Addr) (ec lc B : Nat) (w : World) (hB : B ≤ w.heap.size) (he : Reads w B 2 EA h.eds.length (edLs h.eds)) (hr : Reads w B 1 LA h.ls.length (strL h.ls)) (hlc : h.ls.length ≤ lc) (hsum : sumN h.eds = h.ls.length) (hop : ∀ e ∈ h.eds, e.op ≤ 2 ∧ 1 ≤ e.n) (hn1 : h.eds.length ≤ 10000000) (hn2 : h.ls.length ≤ 10000000) :
    Calls Tryd.prog 34 #[.agg (hkV h EA ec LA lc)] w (BackPost h w) := by
  go_enter Tryd.func34, Tryd.ntmps34
  go_upto_region 1 with (first | (refine wpList_boxed rfl rfl rfl ?_) | (refine wpList_allocAgg rfl rfl (zero_hk _) ?_))
  have x1 : Blk ((w.alloc (.cells (hkV h EA ec LA lc) 38)).alloc (.cells #[.int .i64 0, .int .i64 0, .slice none 0 0, .slice none 0 0] 38)) w.heap.size 38 (hkV h EA ec LA lc) := (Blk.new _ _ _).alloc _
  have x2 : Blk ((w.alloc (.cells (hkV h EA ec LA lc) 38)).alloc (.cells #[.int .i64 0, .int .i64 0, .slice none 0 0, .slice none 0 0] 38)) (w.heap.size + 1) 38 #[.int .i64 0, .int .i64 0, .slice none 0 0, .slice none 0 0] := by
    have := Blk.new (w.alloc (.cells (hkV h EA ec LA lc) 38)) 38 #[.int .i64 0, .int .i64 0, .slice none 0 0, .slice none 0 0]
    rwa [show (w.alloc (.cells (hkV h EA ec LA lc) 38)).heap.size = w.heap.size + 1 by simp] at this
  have k1 : Keep Nothing w ((w.alloc (.cells (hkV h EA ec LA lc) 38)).alloc (.cells #[.int .i64 0, .int .i64 0, .slice none 0 0, .slice none 0 0] 38)) := ((Keep.refl _ w).alloc _).alloc _
  have z1 : ((w.alloc (.cells (hkV h EA ec LA lc) 38)).alloc (.cells #[.int .i64 0, .int .i64 0, .slice none 0 0, .slice none 0 0] 38)).heap.size = w.heap.size + 2 := by simp
  generalize (w.alloc (.cells (hkV h EA ec LA lc) 38)).alloc (.cells #[.int .i64 0, .int .i64 0, .slice none 0 0, .slice none 0 0] 38) = w1 at *
  have c0 : w1.cell? ⟨w.heap.size, 0, none⟩ = some (.int .i64 (h.a : Int)) := x1.cell 0
  have c1 : w1.cell? ⟨w.heap.size, 1, none⟩ = some (.int .i64 (h.b : Int)) := x1.cell 1
  have hmf : ∀ (fn : Fn) (first cap : Array Value) (w : World), (Instr.makeFunc fn first cap).run Tryd.prog w = .ok (.func fn first cap) w := fun _ _ _ _ => rfl
  go_upto_region 4 with fail
  have n1 := new_at (cs := #[.int .i64 (h.b : Int), .int .i64 (h.a : Int), .slice none 0 0, .slice none 0 0]) (t := 38) z1 rfl
  clear z1
  generalize hA : w1.alloc (.cells #[.int .i64 (h.b : Int), .int .i64 (h.a : Int), .slice none 0 0, .slice none 0 0] 38) = wA at *
  generalize hg : w.heap.size + 2 = g at *
  have n2 := new_at (cs := #[.slice none 0 0, .slice none 0 0, .int .i64 0, .int .i64 0, .int .i64 0, .slice (some ⟨g, 0, none⟩) 1 1, .bool false, .int .i64 0]) (t := 65) n1.size rfl
  generalize hB1 : wA.alloc (.cells #[.slice none 0 0, .slice none 0 0, .int .i64 0, .int .i64 0, .int .i64 0, .slice (some ⟨g, 0, none⟩) 1 1, .bool false, .int .i64 0] 65) = wB at *
  have n3 := new_at (cs := #[.pointer (some ⟨g + 1, 0, none⟩)]) (t := 63) n2.size rfl
  generalize hC1 : wB.alloc (.cells #[.pointer (some ⟨g + 1, 0, none⟩)] 63) = wC at *
  have n4 := new_at (cs := #[.slice none 0 0]) (t := 22) n3.size rfl
  generalize hD1 : wC.alloc (.cells #[.slice none 0 0] 22) = wD at *
  have n5 := new_at (cs := #[.slice none 0 0]) (t := 22) n4.size rfl
  generalize hE1 : wD.alloc (.cells #[.slice none 0 0] 22) = w2 at *
  have K2 := Lib.hid ((((n1.keep.trans n2.keep).trans n3.keep).trans n4.keep).trans n5.keep)
  have BK0 := Lib.hid (show BK w2 g (g + 1) (g + 1 + 1) (g + 1 + 1 + 1) (g + 1 + 1 + 1 + 1) g 1 ⟨newH h.b h.a, [], []⟩ #[.slice none 0 0, .slice none 0 0, .int .i64 0, .int .i64 0, .int .i64 0, .slice (some ⟨g, 0, none⟩) 1 1, .bool false, .int .i64 0] none 0 none 0 none 0 none 0 from
    ⟨n5.old (n4.old n3.blk), n5.old (n4.old (n3.old n2.blk)), rfl,
      ⟨⟨rfl, .inr ⟨g, 1, _, rfl, Nat.le_refl _, n5.old (n4.old (n3.old (n2.old n1.blk))), Nat.le_refl _, by unfold maxLen; omega, rfl, rfl⟩⟩, rfl, Nat.le_refl _, by have := n5.size; omega, fun k x y z h => by simp at h, Own.nil _ _ _ _, Own.nil _ _ _ _⟩,
      n5.old n4.blk, n5.blk, Own.nil _ _ _ _, Own.nil _ _ _ _, Apart.nil _ _ _, Apart.nil _ _ _, Apart.nil _ _ _⟩)
  have hz2 := n5.size
  clear n1 n2 n3 n4 n5 hA hB1 hC1 hD1 hE1 c0 c1 hmf
  generalize hq : g + 1 = q at *
  generalize hbp : q + 1 = bp at *
  generalize hbg : bp + 1 = bg at *
  generalize hbc : bg + 1 = bc at *
  have hne : bg ≠ bc := by omega
  have KK := Lib.hid (k1.trans K2.out)
  have x12 := x1.keep K2.out (fun h => h)
  have x22 := x2.keep K2.out (fun h => h)
  have c3 : w2.cell? ⟨w.heap.size, 3, none⟩ = some (.slice LA h.ls.length lc) := x12.cell 3
  have c2 : w2.cell? ⟨w.heap.size, 2, none⟩ = some (.slice EA h.eds.length ec) := x12.cell 2
  obtain ⟨TG, hTG⟩ : ∃ x, revL h.eds h.ls ⟨newH h.b h.a, [], []⟩ = x := ⟨_, rfl⟩
  have HTG := Lib.hid hTG
  have HE := Lib.hid (show ∀ W, Keep Nothing w1 W → True from fun _ _ => trivial)
  have he2 := (he.below (KK.out.below hB (fun _ _ h => h)))
  have hr2 := (hr.below (KK.out.below hB (fun _ _ h => h)))
  clear he hr x1 x2 x12 hTG HE
  go_wp2_with fail
  clear c2 c3
  go_loopw [7, 25] (fun s7 s25 wr => ∃ (k m : Nat) (s : RevD) (RA : Option Addr) (rc : Nat) (EB : Option Addr) (eb : Nat) (LB : Option Addr) (lb : Nat) (GA : Option Addr) (gc : Nat) (CA : Option Addr) (cc : Nat), k ≤ h.eds.length ∧ m + sumN (h.eds.drop k) = h.ls.length ∧ s7 = .slice RA (h.ls.length - m) rc ∧ s25 = .int .i64 (k : Nat) ∧ h.ls.length - m ≤ rc ∧ Reads wr B 1 RA (h.ls.length - m) (strL (h.ls.drop m)) ∧
    BK wr g q bp bg bc g 1 s #[.slice none 0 0, .slice none 0 0, .int .i64 0, .int .i64 0, .int .i64 0, .slice (some ⟨g, 0, none⟩) 1 1, .bool false, .int .i64 0] EB eb LB lb GA gc CA cc ∧ Kept g E3 [bg, bc] w2 wr ∧ s.h.eds.length ≤ 3 * k ∧ s.h.ls.length + s.gone.length + s.come.length ≤ m ∧ revL (h.eds.drop k) (h.ls.drop m) s = TG) (fun _ s25 _ => h.eds.length - (intOf s25).toNat)
  case atStart => exact ⟨0, 0, _, LA, lc, none, 0, none, 0, none, 0, none, 0, Nat.zero_le _, by simpa using hsum, rfl, rfl, hlc, hr2, BK0.out, Kept.refl _ _ _ _, by simp [newH], by simp [newH], HTG.out⟩
  case round =>
    obtain ⟨k, m, s, RA, rc, EB, eb, LB, lb, GA, gc, CA, cc, hk, hms, rfl, rfl, hrc, hrr, bk, kw, hse, hsl, hrev⟩ := hrel
    have hzr := kw.size
    by_cases hlt : k < h.eds.length
    · obtain ⟨e, hx⟩ : ∃ e, h.eds[k]? = some e := ⟨_, List.getElem?_eq_getElem hlt⟩
      have hdr : h.eds.drop k = e :: h.eds.drop (k + 1) := List.drop_eq_getElem?_toList_append.trans (by rw [hx]; rfl)
      rw [hdr] at hms hrev
      have hms2 : m + (e.n + sumN (h.eds.drop (k + 1))) = h.ls.length := by simpa [sumN] using hms
      obtain ⟨hop2, hn0⟩ := hop e (List.mem_of_getElem? hx)
      rw [revL, List.drop_drop] at hrev
      obtain ⟨row, hrow⟩ : ∃ x, (h.ls.drop m).take e.n = x := ⟨_, rfl⟩
      have hrl : row.length = e.n := by rw [← hrow, List.length_take, List.length_drop]; omega
      rw [hrow] at hrev
      have hen : e.n ≤ h.ls.length - m := by omega
      have HREV := Lib.hid hrev
      have HROW := Lib.hid hrow
      have hsn : Keep Nothing wr wr := Keep.refl _ _
      obtain ⟨ge, oe, rfl, _, hce⟩ := (he2.below (kw.below (B := B) (by omega) (by omega) (by simp; omega))).at0 (by omega) (by omega)
      have L1 := Lib.hid (load_edit_at (w := wr) (fun j u hj => hce j u hj) hx)
      have hi0 : (0 : Int) ≤ (k : Int) := Int.natCast_nonneg _
      have hi1 : (k : Int) < (h.eds.length : Int) := by omega
      clear hce hx hdr hms hrev hrow
      go_upto_region 8 with (first | (refine wpList_load rfl rfl rfl L1.out ?_) | (refine wpList_allocAgg rfl rfl (zero_edit _) ?_) | (refine wpList_storeBlk rfl rfl (vs := edC e) rfl rfl (Blk.new _ _ _) rfl info_edit (edC_one e) ?_; intro w3 x3 kc zc))
      go_frame
      have k3 : Keep Nothing wr w3 := Keep.ofNew kc
      have bk3 := bk.keepN k3
      have hrr3 := hrr.below (k3.below (B := B) (by omega) (fun _ _ h => h))
      have kw3 : Kept g E3 [bg, bc] w2 w3 := kw.trans (Kept.ofKeep k3 (fun _ _ h => absurd h (fun h => h)))
      generalize wr.heap.size = z3 at *
      have e0 : w3.cell? ⟨z3, 0, none⟩ = some (.int .i64 (e.op : Int)) := x3.cell 0
      have e1 : w3.cell? ⟨z3, 1, none⟩ = some (.int .i64 (e.n : Int)) := x3.cell 1
      clear kc zc L1 k3 bk hrr kw x3 hsn
      have nn0 : (0 : Int) ≤ (e.n : Int) := Int.natCast_nonneg _
      have nn1 : (e.n : Int) ≤ ((h.ls.length - m : Nat) : Int) := by omega
      have nn2 : (e.n : Int) ≤ (rc : Int) := by omega
      have nn3 : e.n ≤ rc := by omega
      have HMS := Lib.hid (show m + e.n + sumN (h.eds.drop (k + 1)) = h.ls.length by omega)
      have hcut := hrr3.cut (k := e.n) (cap := rc) hen hrc
      have hle : h.ls.length - m - e.n = h.ls.length - (m + e.n) := by omega
      rw [hle, show (strL (h.ls.drop m)).drop (e.n * 1) = strL (h.ls.drop (m + e.n)) by rw [Nat.mul_one, ← List.drop_drop]; simp [strL]] at hcut
      have HLE := Lib.hid hle
      have hfr := hrr3.front (k := e.n) hen
      rw [← elemStr_row, HROW.out] at hfr
      have hml : m ≤ h.ls.length := by omega
      obtain ⟨gr, orr, hRA, hgr, _⟩ := hrr3.at0 (by omega) (by omega)
      have HRA := Lib.hid hRA
      have KB := Lib.hid (show ∀ W, Kept g E3 [bg, bc] w2 W → ∀ {A n xs}, Reads w3 B 1 A n xs → Reads W B 1 A n xs from fun W kk {A n xs} hh => hh.keep fun p hp => ((kk.below (B := B) (by omega) (by omega) (by simp; omega)).cell hp).trans ((kw3.below (B := B) (by omega) (by omega) (by simp; omega)).cell hp).symm)
      have HCUT := Lib.hid hcut
      have h3 : e.op = 0 ∨ e.op = 1 ∨ e.op = 2 := by omega
      go_upto_region 10 with fail
      clear hle hcut hRA hms2 hrr3 e0 e1
      rcases h3 with q0 | q0 | q0
      · have hb0 : ((e.op : Int) == 0) = true := by rw [q0]; rfl
        have HRS := Lib.hid (show revStep s e row = ⟨putH (flushR s) 0 row, [], []⟩ from by unfold revStep; rw [if_pos q0])
        rw [HRS.out] at HREV
        have HFL := Lib.hid (flush_any g q bp bg bc g 1 s _ EB eb LB lb GA gc CA cc w3 bk3 hne (by omega) (by omega))
        clear bk3
        go_wp2_with (go_at_call 57; refine HFL.out.mono ?_)
        rintro _ w4 ⟨EC, e2, LC, l2, rfl, bk4, k4⟩
        have kw4 := kw3.trans k4
        obtain ⟨fl1, fl2⟩ := flushR_len s
        have hp4 : w4.cell? ⟨bp, 0, none⟩ = some (.pointer (some ⟨q, 0, none⟩)) := bk4.bp.cell 0
        have bk4d := bk4.keepN (Keep.refl Nothing w4).drew
        have hput := putq_any q g g g 1 [] [] (flushR s) EC e2 LC l2 0 row RA rc _ w4.drew bk4d.cut bk4d.c5 bk4d.hl (fun _ => by rw [hrl]; exact Src.of_reads (B := B) ((KB.out _ kw4 hfr).drew) (by omega) (fun h => by omega)) (by omega) (by omega) (by omega) (by simp)
        rw [hrl] at hput
        have HPUT := Lib.hid hput
        have BK4 := Lib.hid bk4d
        have KW4 := Lib.hid kw4
        obtain ⟨pl1, pl2⟩ := putH_len (flushR s) 0 row
        have HL5 := Lib.hid (show (putH (flushR s) 0 row).eds.length ≤ 3 * (k + 1) ∧ (putH (flushR s) 0 row).ls.length + 0 + 0 ≤ m + e.n from by omega)
        clear hput bk4 bk4d kw4 kw3 k4 HFL fl1 fl2 pl1 pl2
        go_upto_region 12 with fail
        refine wp_region_still_tail 4 (by kernel_rfl) (by kernel_rfl) ?_; simp only [List.take_succ_cons, List.take_zero, List.drop_succ_cons, List.drop_zero]; repeat (first | ((with_reducible refine wpStill_step (fun K hK => ?_)); go_simp; with_reducible refine hK _ ?_; clear hK K) | ((with_reducible refine wpStill_skip ?_ ?_); (focus rfl)))
        (with_reducible refine wpStill_nil ?_); change wpList _ _ _ _ _ w4.drew
        go_upto_region 17 with (go_at_call 54; refine HPUT.out.mono ?_)
        rintro _ w5 ⟨ED, e5, LD, l5, rfl, hl5, k5, f5⟩
        have BK5 := Lib.hid (BK4.out.put hl5 k5 f5)
        have KW5 := Lib.hid (KW4.out.drew.trans (Kept.mono k5 (Nat.le_refl _) (by simp) (by simp)))
        clear hl5 k5 f5 HPUT BK4 hp4
        have hcut5 := KB.out _ KW5.out HCUT.out
        have HLE' := HLE.out
        by_cases hcap : rc = e.n
        all_goals
          simp only [hcap, if_true, if_false, Nat.mul_one] at hcut5
          have HC5 := Lib.hid hcut5
          clear hcut5
          go_wp2_with fail
          go_roundw
          case rel =>
            refine ⟨k + 1, m + e.n, _, _, _, _, _, _, _, _, _, _, _, by omega, HMS.out, by rw [← HLE.out], by go_num, by omega, HC5.out, BK5.out, KW5.out, ?_, ?_, HREV.out⟩
            · have := HL5.out.1; omega
            · have := HL5.out.2; omega
          case measure => simp [intOf]; omega
      · have hb0 : ((e.op : Int) == 0) = false := by rw [q0]; rfl
        have hb1 : ((e.op : Int) == 1) = true := by rw [q0]; rfl
        have HRS := Lib.hid (show revStep s e row = ⟨s.h, s.gone, s.come ++ row⟩ from by unfold revStep; rw [if_neg (by omega), if_pos (by omega)])
        rw [HRS.out] at HREV
        have bk3d := bk3.keepN (Keep.refl Nothing w3).drew
        have hb4 : w3.cell? ⟨bc, 0, none⟩ = some (.slice CA s.come.length cc) := bk3.bc.cell 0
        have HG := Lib.hid (show ∀ A1 c1 w5, Own w5 g 9 1 A1 (s.come.length + e.n) c1 (strL s.come ++ strL row) → Kept g [9] [] w3.drew w5 → (∀ p, p < w3.drew.heap.size → NotB CA s.come.length cc p → w5.heap[p]? = w3.drew.heap[p]? ∧ NotB A1 (s.come.length + e.n) c1 p) →
            w5.cell? ⟨bc, 0, none⟩ = some (.slice CA s.come.length cc) ∧ w5.frozen? ⟨bc, 0, none⟩ = false ∧ Hid (BK (w5.setCell ⟨bc, 0, none⟩ (.slice A1 (s.come.length + e.n) c1)) g q bp bg bc g 1 ⟨s.h, s.gone, s.come ++ row⟩ _ EB eb LB lb GA gc A1 c1) ∧ Hid (Kept g E3 [bg, bc] w2 (w5.setCell ⟨bc, 0, none⟩ (.slice A1 (s.come.length + e.n) c1))) from by
          rw [← hrl]
          intro A1 c1 w5 o1 k1 n1
          obtain ⟨d1, d2, d3⟩ := bk3d.growC hne o1 k1 n1
          exact ⟨d1, d2, Lib.hid d3, Lib.hid ((kw3.drew.trans (Kept.mono k1 (Nat.le_refl _) (by simp) (by simp))).setCell (p := ⟨bc, 0, none⟩) (.inl (by simp)) _)⟩)
        have HO := Lib.hid bk3d.oc
        have HFR := Lib.hid (show Reads w3.drew B 1 (some ⟨gr, orr, none⟩) e.n (strL row) from by rw [← HRA.out]; exact hfr.drew)
        have HL5 := Lib.hid (show s.h.eds.length ≤ 3 * (k + 1) ∧ s.h.ls.length + s.gone.length + (s.come ++ row).length ≤ m + e.n from by simp; omega)
        have hgz : g ≤ w3.drew.heap.size := Nat.le_trans (by omega) kw3.size
        clear bk3 bk3d kw3
        go_upto_region 14 with fail
        refine wp_region_still_tail 4 (by kernel_rfl) (by kernel_rfl) ?_; simp only [List.take_succ_cons, List.take_zero, List.drop_succ_cons, List.drop_zero]; repeat (first | ((with_reducible refine wpStill_step (fun K hK => ?_)); go_simp; with_reducible refine hK _ ?_; clear hK K) | ((with_reducible refine wpStill_skip ?_ ?_); (focus rfl)))
        (with_reducible refine wpStill_nil ?_); change wpList _ _ _ _ _ w3.drew
        go_upto_region 17 with (at_builtin; refine wpList_append_slf rfl elemStr rfl rfl (n := s.come.length) (xs := strL s.come) HO.out (by omega) (congrArg (fun A => Value.slice A e.n rc) HRA.out) HFR.out (strL_one row) (by unfold maxLen; omega) (by omega) hgz ?_; intro A1 c1 w5 o1 k1 n1; obtain ⟨d1, d2, BK5, KW5⟩ := HG.out A1 c1 w5 o1 k1 n1; clear o1 k1 n1)
        clear d1 d2 HG HO HFR hb4
        have hcut5 := KB.out _ KW5.out HCUT.out
        have HLE' := HLE.out
        by_cases hcap : rc = e.n
        all_goals
          simp only [hcap, if_true, if_false, Nat.mul_one] at hcut5
          have HC5 := Lib.hid hcut5
          clear hcut5
          go_wp2_with fail
          go_roundw
          case rel =>
            refine ⟨k + 1, m + e.n, _, _, _, _, _, _, _, _, _, _, _, by omega, HMS.out, by rw [← HLE.out], by go_num, by omega, HC5.out, BK5.out, KW5.out, ?_, ?_, HREV.out⟩
            · have := HL5.out.1; omega
            · have := HL5.out.2; omega
          case measure => simp [intOf]; omega
      · have hb0 : ((e.op : Int) == 0) = false := by rw [q0]; rfl
        have hb1 : ((e.op : Int) == 1) = false := by rw [q0]; rfl
        have hb2 : ((e.op : Int) == 2) = true := by rw [q0]; rfl
        have HRS := Lib.hid (show revStep s e row = ⟨s.h, s.gone ++ row, s.come⟩ from by unfold revStep; rw [if_neg (by omega), if_neg (by omega)])
        rw [HRS.out] at HREV
        have bk3d := bk3.keepN (Keep.refl Nothing w3).drew
        have hb4 : w3.cell? ⟨bg, 0, none⟩ = some (.slice GA s.gone.length gc) := bk3.bg.cell 0
        have HG := Lib.hid (show ∀ A1 c1 w5, Own w5 g 9 1 A1 (s.gone.length + e.n) c1 (strL s.gone ++ strL row) → Kept g [9] [] w3.drew w5 → (∀ p, p < w3.drew.heap.size → NotB GA s.gone.length gc p → w5.heap[p]? = w3.drew.heap[p]? ∧ NotB A1 (s.gone.length + e.n) c1 p) →
            w5.cell? ⟨bg, 0, none⟩ = some (.slice GA s.gone.length gc) ∧ w5.frozen? ⟨bg, 0, none⟩ = false ∧ Hid (BK (w5.setCell ⟨bg, 0, none⟩ (.slice A1 (s.gone.length + e.n) c1)) g q bp bg bc g 1 ⟨s.h, s.gone ++ row, s.come⟩ _ EB eb LB lb A1 c1 CA cc) ∧ Hid (Kept g E3 [bg, bc] w2 (w5.setCell ⟨bg, 0, none⟩ (.slice A1 (s.gone.length + e.n) c1))) from by
          rw [← hrl]
          intro A1 c1 w5 o1 k1 n1
          obtain ⟨d1, d2, d3⟩ := bk3d.growG hne o1 k1 n1
          exact ⟨d1, d2, Lib.hid d3, Lib.hid ((kw3.drew.trans (Kept.mono k1 (Nat.le_refl _) (by simp) (by simp))).setCell (p := ⟨bg, 0, none⟩) (.inl (by simp)) _)⟩)
        have HO := Lib.hid bk3d.og
        have HFR := Lib.hid (show Reads w3.drew B 1 (some ⟨gr, orr, none⟩) e.n (strL row) from by rw [← HRA.out]; exact hfr.drew)
        have HL5 := Lib.hid (show s.h.eds.length ≤ 3 * (k + 1) ∧ s.h.ls.length + (s.gone ++ row).length + s.come.length ≤ m + e.n from by simp; omega)
        have hgz : g ≤ w3.drew.heap.size := Nat.le_trans (by omega) kw3.size
        clear bk3 bk3d kw3
        go_upto_region 16 with fail
        refine wp_region_still_tail 4 (by kernel_rfl) (by kernel_rfl) ?_; simp only [List.take_succ_cons, List.take_zero, List.drop_succ_cons, List.drop_zero]; repeat (first | ((with_reducible refine wpStill_step (fun K hK => ?_)); go_simp; with_reducible refine hK _ ?_; clear hK K) | ((with_reducible refine wpStill_skip ?_ ?_); (focus rfl)))
        (with_reducible refine wpStill_nil ?_); change wpList _ _ _ _ _ w3.drew
        go_upto_region 17 with (at_builtin; refine wpList_append_slf rfl elemStr rfl rfl (n := s.gone.length) (xs := strL s.gone) HO.out (by omega) (congrArg (fun A => Value.slice A e.n rc) HRA.out) HFR.out (strL_one row) (by unfold maxLen; omega) (by omega) hgz ?_; intro A1 c1 w5 o1 k1 n1; obtain ⟨d1, d2, BK5, KW5⟩ := HG.out A1 c1 w5 o1 k1 n1; clear o1 k1 n1)
        clear d1 d2 HG HO HFR hb4
        have hcut5 := KB.out _ KW5.out HCUT.out
        have HLE' := HLE.out
        by_cases hcap : rc = e.n
        all_goals
          simp only [hcap, if_true, if_false, Nat.mul_one] at hcut5
          have HC5 := Lib.hid hcut5
          clear hcut5
          go_wp2_with fail
          go_roundw
          case rel =>
            refine ⟨k + 1, m + e.n, _, _, _, _, _, _, _, _, _, _, _, by omega, HMS.out, by rw [← HLE.out], by go_num, by omega, HC5.out, BK5.out, KW5.out, ?_, ?_, HREV.out⟩
            · have := HL5.out.1; omega
            · have := HL5.out.2; omega
          case measure => simp [intOf]; omega
    · have hkE : k = h.eds.length := by omega
      have hdn : h.eds.drop k = [] := by rw [hkE]; simp
      rw [hdn, revL] at hrev
      have HB := Lib.hid (show backP h = flushR s from by unfold backP; rw [HTG.out, ← hrev])
      have HFL := Lib.hid (flush_any g q bp bg bc g 1 s _ EB eb LB lb GA gc CA cc wr bk hne (by omega) (by omega))
      have KW := Lib.hid kw
      have hx22 := x22.below (kw.below (B := g) (Nat.le_refl _) (by omega) (by simp; omega)) (by omega)
      have hz1 : w.heap.size + 1 < g := by omega
      clear hrev hdn bk kw hrr hms
      go_wp2_with (go_at_call 57; refine HFL.out.mono ?_)
      rintro _ w4 ⟨EC, e2, LC, l2, rfl, bk4, k4⟩
      have hp4 : w4.cell? ⟨bp, 0, none⟩ = some (.pointer (some ⟨q, 0, none⟩)) := bk4.bp.cell 0
      have hp5 : w4.cell? ⟨q, 5, none⟩ = some (.slice (some ⟨g, 0, none⟩) 1 1) := bk4.cut.cell 5
      have X22 := Lib.hid (hx22.below (k4.below (B := g) (Nat.le_refl _) (by omega) (by simp; omega)) hz1)
      have L5 := Lib.hid (show (Instr.loadAt 38 (.pointer (some ⟨g, 0, none⟩))).run Tryd.prog w4 = .ok (.agg (hkV (flushR s) EC e2 LC l2)) w4 from
        run_loadAt_cells w4 _ (hkV (flushR s) EC e2 LC l2) Tryd.underlying38 rfl info_hunk (fun j v hj => by
          rw [add_at]
          have hj4 : j < 4 := by
            rcases Nat.lt_or_ge j 4 with q9 | q9
            · exact q9
            · rw [List.getElem?_eq_none (by simpa [hkV] using q9)] at hj; cases hj
          have := (bk4.hl.at_ j hj4 v (by simpa [hkV, hkL] using hj)).1
          simpa using this))
      have BK4 := Lib.hid bk4
      have K4 := Lib.hid k4
      clear bk4 k4 hx22 HFL
      go_wp2_with (first | (refine wpList_load rfl rfl rfl L5.out ?_) | (refine wpList_storeBlk rfl rfl (vs := hkV (flushR s) EC e2 LC l2) rfl rfl X22.out rfl info_hunk (hkV_one _ _ _ _ _) ?_; intro w6 hx6 hk6 hz6))
      refine bodyPost_ret (results_cell rfl _ _ rfl (loadVar_hkV hx6)) rfl ?_
      have hlt6 : ∀ {A : Option Addr} {n c' : Nat} {e : TypeId} {size : Nat} {xs : List Value}, Own w4 g e size A n c' xs → Own w6 w.heap.size e size A n c' xs := fun o => Own.mono (o.sameB fun k' hk => hk6.block k' (o.blockAt k' hk).2.1 (by have := (o.blockAt k' hk).1; unfold Only; omega)) (by omega)
      unfold BackPost
      rw [HB.out]
      refine ⟨EC, e2, LC, l2, rfl, hlt6 BK4.out.hl.oe, hlt6 BK4.out.hl.ol, ?_⟩
      have b1 : Below w.heap.size w w2 := KK.out.all
      have b2 : Below w.heap.size w2 w4 := (KW.out.trans K4.out).below (B := w.heap.size) (by omega) (by omega) (by simp; omega)
      exact (b1.trans b2).trans (hk6.below (by have := b2.size; omega) (fun i hi h => by unfold Only at h; omega))
end Go.Proofs.YtlcidbbpjlpmjaaDoor
