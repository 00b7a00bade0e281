/-
  Contract of the reference's Reverse. No statement of the seat is proved here.
-/
import Derived.Test.YtlcidbbpjlpmjaaDoorRf1
import Derived.Deep.DeepCutAuto
import Derived.Deep.CutBlock
namespace Go.Proofs.YtlcidbbpjlpmjaaDoor
open Go.RowKit

set_option maxHeartbeats 4000000 in
set_option maxRecDepth 100000 in
theorem rreverse_any (hs : List HkD) (A0 : Option Addr) (c0 B : Nat) (w : World) (hB : B ≤ w.heap.size) (hr : HIn w B A0 hs) (hok : ∀ h ∈ hs, OkD h) (hl : hs.length ≤ 100000000) :
    Calls Tryd.prog 19 #[.slice A0 hs.length c0] w (RevPost hs w) := by
  have HR := Lib.hid (show ∀ W, Below w.heap.size w W → HIn W B A0 hs from fun W k => hr.below (k.mono hB))
  clear hr
  go_enter Tryd.func19, Tryd.ntmps19
  go_wp2_with fail
  go_loopw [3, 4] (fun s3 s4 wr => ∃ (k : Nat) (A : Option Addr) (cp : Nat), k ≤ hs.length ∧ s3 = .slice A k cp ∧ s4 = .int .i64 (k : Nat) ∧ HD wr w.heap.size A cp ((hs.take k).map backP) ∧ Below w.heap.size w wr) (fun _ s4 _ => hs.length - (intOf s4).toNat)
  case atStart => exact ⟨0, none, 0, Nat.zero_le _, rfl, rfl, HD.nil _ _, Below.refl _ _⟩
  case round =>
    obtain ⟨i, A, cp, hk, rfl, rfl, hd, hb⟩ := hrel
    have hz := hb.size
    by_cases hlt : i < hs.length
    · obtain ⟨h, hx⟩ : ∃ x, hs[i]? = some x := ⟨_, List.getElem?_eq_getElem hlt⟩
      have ok := hok h (List.mem_of_getElem? hx)
      have HAT := Lib.hid (HR.out _ hb)
      obtain ⟨g, off, EA, ec, LA, lc, rfl, hg, ld, c0', c1, c2, c3, hec, hlc, hlm, r1, r2⟩ := (HR.out _ hb).at_ hx
      have hi0 : (0 : Int) ≤ (i : Int) := Int.natCast_nonneg _
      have hi1 : (i : Int) < (hs.length : Int) := by omega
      have HMP := Lib.hid (show (hs.take (i + 1)).map backP = (hs.take i).map backP ++ [backP h] from by rw [List.take_add_one, hx]; simp)
      have hlk : ((hs.take i).map backP).length = i := by simp; omega
      clear ld hx
      go_upto_region 5 with fail
      have hg2 : g < wr.heap.size := by omega
      have a0 := (World.cell?_alloc_lt wr (.cells #[.int .i64 0, .int .i64 0, .slice none 0 0, .slice none 0 0] 38) ⟨g, off + i * 4, none⟩ hg2).trans c0'
      have a1 := (World.cell?_alloc_lt wr (.cells #[.int .i64 0, .int .i64 0, .slice none 0 0, .slice none 0 0] 38) ⟨g, off + i * 4 + 1, none⟩ hg2).trans c1
      have a2 := (World.cell?_alloc_lt wr.drew (.cells #[.int .i64 0, .int .i64 0, .slice none 0 0, .slice none 0 0] 38) ⟨g, off + i * 4, none⟩ hg2).trans c0'
      have a3 := (World.cell?_alloc_lt wr.drew (.cells #[.int .i64 0, .int .i64 0, .slice none 0 0, .slice none 0 0] 38) ⟨g, off + i * 4 + 1, none⟩ hg2).trans c1
      go_cut [5] from 5 to 28 (fun s5 wx => s5 = .pointer (some ⟨wr.heap.size, 0, none⟩) ∧ wx = (wr.alloc (.cells #[.int .i64 (h.b : Int), .int .i64 (h.a : Int), .slice none 0 0, .slice none 0 0] 38)).drew)
      case first =>
        go_region_law (fail)
        all_goals
          go_wp2_with fail
          go_meet
          exact ⟨rfl, rfl⟩
      case rest =>
      obtain ⟨rfl, rfl⟩ := hcut
      clear a0 a1 a2 a3
      go_wp2_with fail
      have nb := new_at (cs := #[.int .i64 (h.b : Int), .int .i64 (h.a : Int), .slice none 0 0, .slice none 0 0]) (t := 38) (g := wr.heap.size) (w := wr) rfl rfl
      have k03 : Keep Nothing wr (wr.alloc (.cells #[.int .i64 (h.b : Int), .int .i64 (h.a : Int), .slice none 0 0, .slice none 0 0] 38)).drew := nb.keep.drew
      have hbx3 : Blk (wr.alloc (.cells #[.int .i64 (h.b : Int), .int .i64 (h.a : Int), .slice none 0 0, .slice none 0 0] 38)).drew wr.heap.size 38 (hkV (newH h.b h.a) none 0 none 0) := nb.blk
      have hz3 : (wr.alloc (.cells #[.int .i64 (h.b : Int), .int .i64 (h.a : Int), .slice none 0 0, .slice none 0 0] 38)).drew.heap.size = wr.heap.size + 1 := nb.size
      clear nb
      generalize (wr.alloc (.cells #[.int .i64 (h.b : Int), .int .i64 (h.a : Int), .slice none 0 0, .slice none 0 0] 38)).drew = w3 at *
      have HDW := Lib.hid (show ∀ W, Below wr.heap.size w3 W → HD W w.heap.size A cp ((hs.take i).map backP) ∧ Below w.heap.size w W from fun W k => ⟨hd.below (k03.all.trans k), hb.trans ((k03.all.trans k).mono hz)⟩)
      generalize hb5 : wr.heap.size = b5 at *
      have HC := Lib.hid (show ∀ W, Below b5 w3 W → W.cell? ⟨g, off + i * 4 + 2, none⟩ = some (.slice EA h.eds.length ec) ∧ W.cell? ⟨g, off + i * 4 + 3, none⟩ = some (.slice LA h.ls.length lc) ∧ Reads W B 2 EA h.eds.length (edLs h.eds) ∧ Reads W B 1 LA h.ls.length (strL h.ls) from fun W k => by
        have hbb : ∀ p : Addr, p.block < b5 → W.cell? p = wr.cell? p := fun p hp => (k.cell hp).trans (k03.cell (by omega) (fun h => h))
        exact ⟨(hbb _ (by simp; omega)).trans c2, (hbb _ (by simp; omega)).trans c3, r1.keep fun p hp => hbb p (by omega), r2.keep fun p hp => hbb p (by omega)⟩)
      clear r1 r2 c0' c1 c2 c3 hd hb k03 HAT
      obtain ⟨TG, hTG⟩ : ∃ x, revL h.eds h.ls ⟨newH h.b h.a, [], []⟩ = x := ⟨_, rfl⟩
      have HTG := Lib.hid hTG
      clear hTG
      generalize hzi : w3.heap.size = zi at *
      go_loopw [6, 7, 8, 9] (fun s6 s7 s8 s9 wi => ∃ (k m : Nat) (s : RevD) (EB : Option Addr) (eb : Nat) (LB : Option Addr) (lb : Nat) (GA : Option Addr) (gc : Nat) (CA : Option Addr) (cc : Nat), k ≤ h.eds.length ∧ m + sumN (h.eds.drop k) = h.ls.length ∧ s6 = .slice GA s.gone.length gc ∧ s7 = .slice CA s.come.length cc ∧ s8 = .int .i64 (m : Nat) ∧ s9 = .int .i64 (k : Nat) ∧
        Blk wi b5 38 (hkV s.h EB eb LB lb) ∧ RV wi zi s EB eb LB lb GA gc CA cc ∧ Kept zi [67, 9] [b5] w3 wi ∧ s.h.eds.length ≤ 3 * k ∧ s.h.ls.length + s.gone.length + s.come.length ≤ m ∧ revL (h.eds.drop k) (h.ls.drop m) s = TG) (fun _ _ _ s9 _ => h.eds.length + 1 - (intOf s9).toNat)
      case atStart => exact ⟨0, 0, _, none, 0, none, 0, none, 0, none, 0, Nat.zero_le _, by simpa using ok.sum, rfl, rfl, rfl, rfl, hbx3, ⟨by omega, Own.nil _ _ _ _, Own.nil _ _ _ _, Own.nil _ _ _ _, Own.nil _ _ _ _, Apart.nil _ _ _, Apart.nil _ _ _, Apart.nil _ _ _⟩, Kept.refl _ _ _ _, by simp [newH], by simp [newH], HTG.out⟩
      case round =>
        obtain ⟨k, m, s, EB, eb, LB, lb, GA, gc, CA, cc, hkn, hms, rfl, rfl, rfl, rfl, bx, rv, kw, hse, hsl, hrev⟩ := hrel
        have bel := kw.below (B := b5) (by omega) (by omega) (by simp)
        obtain ⟨c2, c3, q1, q2⟩ := HC.out _ bel
        have hn1 := ok.n1
        have hn2 := ok.n2
        have hki : (k : Int) ≤ (h.eds.length : Int) := by omega
        have HZ := Lib.hid hzi
        clear hbx3
        by_cases hkl : k < h.eds.length
        · obtain ⟨e, hex⟩ : ∃ e, h.eds[k]? = some e := ⟨_, List.getElem?_eq_getElem hkl⟩
          have hdr : h.eds.drop k = e :: h.eds.drop (k + 1) := List.drop_eq_getElem?_toList_append.trans (by rw [hex]; rfl)
          rw [hdr] at hms hrev
          have hms2 : m + (e.n + sumN (h.eds.drop (k + 1))) = h.ls.length := by simpa [sumN] using hms
          obtain ⟨hop2, hn0⟩ := ok.ops e (List.mem_of_getElem? hex)
          rw [revL, List.drop_drop] at hrev
          obtain ⟨row, hrow⟩ : ∃ x, (h.ls.drop m).take e.n = x := ⟨_, rfl⟩
          have hrl : row.length = e.n := by rw [← hrow, List.length_take, List.length_drop]; omega
          rw [hrow] at hrev
          have HREV := Lib.hid hrev
          have HROW := Lib.hid hrow
          have hkb : ((k : Int) == (h.eds.length : Int)) = false := beq_eq_false_iff_ne.2 (by omega)
          have hki0 : (0 : Int) ≤ (k : Int) := Int.natCast_nonneg _
          have hki1 : (k : Int) < (h.eds.length : Int) := by omega
          obtain ⟨ge, oe, hEA, _, hce⟩ := q1.at0 (by omega) (by omega)
          subst hEA
          have ce0 : wr.cell? ⟨ge, oe + k * 2, none⟩ = some (.int .i64 (e.op : Int)) := hce _ _ (edLs_at hex).1
          have HL1 := Lib.hid (show ∀ W, Below b5 w3 W → (Instr.loadAt 67 (.pointer (some ⟨ge, oe + k * 2, none⟩))).run Tryd.prog W = .ok (.agg (edC e)) W from fun W kk => by
            obtain ⟨ge', oe', hEA', _, hce'⟩ := (HC.out _ kk).2.2.1.at0 (by omega) (by omega)
            injection hEA' with hEA'
            injection hEA' with hg' ho'
            subst hg' ho'
            exact load_edit_at (w := W) (fun j u hj => hce' j u hj) hex)
          have HMS := Lib.hid (show m + e.n + sumN (h.eds.drop (k + 1)) = h.ls.length by omega)
          have hml : m ≤ h.ls.length := by omega
          have hmn : m + e.n ≤ h.ls.length := by omega
          have HX := Lib.hid (show ∀ W, Below b5 w3 W → Reads W B 1 (Option.map (fun x => x.add m) LA) e.n (strL row) from fun W kk => by
            have r0 := ((HC.out _ kk).2.2.2.cut (k := m) (cap := lc) hml hlc).front (k := e.n) (by omega)
            rw [if_neg (by omega), Nat.mul_one, show (strL h.ls).drop m = strL (h.ls.drop m) by simp [strL], ← elemStr_row, HROW.out] at r0
            exact r0)
          have wq : IntKind.i64.wrap ((m : Int) + (e.n : Int)) = (m : Int) + (e.n : Int) := IntWalk.i64_in _ (by omega)
          have s1 : (m : Int) ≤ (m : Int) + (e.n : Int) := by omega
          have s2 : (m : Int) + (e.n : Int) ≤ (lc : Int) := by omega
          have s3 : ((m : Int) + (e.n : Int)).toNat = m + e.n := by omega
          have s4 : m + e.n - m = e.n := by omega
          have s5 : ¬ (lc = m) := by omega
          have s6 : (0 : Int) ≤ (m : Int) + (e.n : Int) := by omega
          have s7 : m + e.n ≤ lc := by omega
          have s8 : ((m : Int) + (e.n : Int) - (m : Int)).toNat = e.n := by omega
          have s9 : (0 : Int) ≤ (m : Int) := Int.natCast_nonneg _
          have h3 : e.op = 0 ∨ e.op = 1 ∨ e.op = 2 := by omega
          clear hce hex hdr hms hrev hrow q1 q2
          rcases h3 with q0 | q0 | q0
          · have hb0 : ((e.op : Int) == 0) = true := by rw [q0]; rfl
            have HRS := Lib.hid (show revStep s e row = ⟨putH (flushR s) 0 row, [], []⟩ from by unfold revStep; rw [if_pos q0])
            rw [HRS.out] at HREV
            have HP1 := Lib.hid (rput_any zi s.h EB eb LB lb 1 s.gone GA gc wr rv.lo rv.oe rv.ol (fun _ => Src.own rv.og zi) (by omega) (by omega) (by omega))
            have L5 := Lib.hid (load_hkV bx)
            have RV0 := Lib.hid rv
            have BX0 := Lib.hid bx
            have KW0 := Lib.hid kw
            obtain ⟨q1, q2⟩ := putH_len s.h 1 s.gone
            clear rv bx kw
            go_upto_region 12 with fail
            go_upto_region 13 with (first | (refine wpList_load rfl rfl rfl (by with_reducible exact L5.out) ?_) | (go_at_call 35; refine HP2.out.mono ?_; rintro _ w5 ⟨E2, e2, L2, l2, rfl, oe2, ol2, k2, f2⟩; have RV5 := Lib.hid (RV4.out.put oe2 ol2 k2 f2); have K5 := Lib.hid (K4.out.trans k2); have BX5 := Lib.hid (k2.blk BX4.out (by simp) (by decide)); clear oe2 ol2 k2 f2) | (go_at_call 35; refine HP1.out.mono ?_; rintro _ w4 ⟨E1, e1, L1, l1, rfl, oe1, ol1, k1, f1⟩; have rv4 := RV0.out.put oe1 ol1 k1 f1; have HP2 := Lib.hid (rput_any zi (putH s.h 1 s.gone) E1 e1 L1 l1 2 s.come CA cc w4 rv4.lo rv4.oe rv4.ol (fun _ => Src.own rv4.oc zi) (by omega) (by omega) (by omega)); have RV4 := Lib.hid rv4; have K4 := Lib.hid k1; have BX4 := Lib.hid (k1.blk BX0.out (by simp) (by decide)); clear oe1 ol1 k1 f1 rv4) | (refine wpList_storeBlk rfl rfl (vs := hkV (flushR s) E2 e2 L2 l2) rfl rfl BX5.out rfl info_hunk (hkV_one _ _ _ _ _) ?_; intro w6 bx6 kb6 z6))
            have rv6 : RV w6 zi ⟨flushR s, [], []⟩ E2 e2 L2 l2 none 0 none 0 := (RV5.out.box BX5.out kb6).flushed
            have kw6 : Kept zi [67, 9] [b5] w3 w6 := kept_box (KW0.out.trans (Kept.mono K5.out (Nat.le_refl _) (by simp) (by simp))) kb6
            obtain ⟨fl1, fl2⟩ := flushR_len s
            clear RV0 BX0 KW0 L5 HP1 HP2 RV4 K4 BX4 RV5 K5 BX5 kb6 z6 q1 q2 c2 c3 bel ce0
            have bel6 := kw6.below (B := b5) (by omega) (by omega) (by simp)
            obtain ⟨c26, c36, _, _⟩ := HC.out _ bel6
            have L1 := Lib.hid (HL1.out _ bel6)
            have RVM := Lib.hid rv6
            have BXM := Lib.hid bx6
            have KWM := Lib.hid kw6
            have hz6z : zi ≤ w6.heap.size := rv6.lo
            clear rv6 bx6 kw6
            go_upto_region 16 with (first | (refine wpList_load rfl rfl rfl (by with_reducible exact L1.out) ?_) | (refine wpList_allocAgg rfl rfl (zero_edit _) ?_) | (refine wpList_storeBlk rfl rfl (vs := edC e) rfl rfl (Blk.new _ _ _) rfl info_edit (edC_one e) ?_; intro w7 x7 kc zc))
            go_frame
            have k7 : Keep Nothing w6 w7 := Keep.ofNew kc
            have rv7 := RVM.out.keepN k7
            have bx7 := BXM.out.keep k7 (fun h => h)
            have kw7 := KWM.out.trans (Kept.ofKeep (base := zi) (E := [67, 9]) (G := [b5]) k7 (fun _ _ h => absurd h (fun h => h)))
            generalize w6.heap.size = z7 at *
            have e0 : w7.cell? ⟨z7, 0, none⟩ = some (.int .i64 (e.op : Int)) := x7.cell 0
            have e1' : w7.cell? ⟨z7, 1, none⟩ = some (.int .i64 (e.n : Int)) := x7.cell 1
            have bel7 := kw7.below (B := b5) (by omega) (by omega) (by simp)
            obtain ⟨c27, c37, _, _⟩ := HC.out _ bel7
            clear kc zc L1 k7 RVM BXM KWM c26 c36
            go_quiet (fail)
            have rv8 := rv7.keepN ((Keep.refl Nothing w7).drewN nq)
            have bx8 : Blk (w7.drewN nq) b5 38 _ := bx7
            have kw8 : Kept zi [67, 9] [b5] w3 (w7.drewN nq) := kw7.drewN nq
            have e08 : (w7.drewN nq).cell? ⟨z7, 0, none⟩ = some (.int .i64 (e.op : Int)) := e0
            have e18 : (w7.drewN nq).cell? ⟨z7, 1, none⟩ = some (.int .i64 (e.n : Int)) := e1'
            have hx8 := HX.out _ (kw8.below (B := b5) (by omega) (by omega) (by simp))
            clear rv7 bx7 kw7 e0 e1' x7 c27 c37
            generalize w7.drewN nq = w8 at *
            have hput := rput_any zi (flushR s) E2 e2 L2 l2 0 row (Option.map (fun x => x.add m) LA) (lc - m) w8 rv8.lo rv8.oe rv8.ol (fun _ => by rw [hrl]; exact Src.of_reads (B := B) hx8 (by omega) (fun h => by omega)) (by omega) (by omega) (by omega)
            rw [hrl] at hput
            have HPUT := Lib.hid hput
            have L8 := Lib.hid (load_hkV bx8)
            have RV8 := Lib.hid rv8
            have BX8 := Lib.hid bx8
            have KW8 := Lib.hid kw8
            obtain ⟨pl1, pl2⟩ := putH_len (flushR s) 0 row
            have HL9 := Lib.hid (show (putH (flushR s) 0 row).eds.length ≤ 3 * (k + 1) ∧ (putH (flushR s) 0 row).ls.length + 0 + 0 ≤ m + e.n from by omega)
            clear hput rv8 bx8 kw8 hx8 fl1 fl2 pl1 pl2
            go_upto_region 10 with (first | (refine wpList_load rfl rfl rfl (by with_reducible exact L8.out) ?_) | (go_at_call 35; refine HPUT.out.mono ?_; rintro _ w9 ⟨E9, e9, L9, l9, rfl, oe9, ol9, k9, f9⟩; have rv9 := RV8.out.put oe9 ol9 k9 f9; have BX9' := Lib.hid (k9.blk BX8.out (by simp) (by decide)); have KW9' := Lib.hid (KW8.out.trans (Kept.mono k9 (Nat.le_refl _) (by simp) (by simp))); clear oe9 ol9 k9 f9) | (refine wpList_storeBlk rfl rfl (vs := hkV (putH (flushR s) 0 row) E9 e9 L9 l9) rfl rfl BX9'.out rfl info_hunk (hkV_one _ _ _ _ _) ?_; intro wA bxA kbA zA))
            have RV9 := Lib.hid (rv9.box BX9'.out kbA)
            have BX9 := Lib.hid bxA
            have KW9 := Lib.hid (kept_box KW9'.out kbA)
            clear rv9 bxA kbA zA L8 HPUT RV8 BX8 KW8 BX9' KW9' e08 e18
            have HKD := Lib.hid (show k + 1 ≤ h.eds.length by omega)
            go_wp2_with fail
            go_roundw
            case rel =>
              refine ⟨k + 1, m + e.n, _, _, _, _, _, _, _, _, _, HKD.out, HMS.out, rfl, rfl, by go_num, by go_num, BX9.out, RV9.out, KW9.out, ?_, ?_, HREV.out⟩
              · have := HL9.out.1; omega
              · have := HL9.out.2; omega
            case measure => simp [intOf]; omega
          · have hb0 : ((e.op : Int) == 0) = false := by rw [q0]; rfl
            have hb1 : ((e.op : Int) == 1) = true := by rw [q0]; rfl
            have HRS := Lib.hid (show revStep s e row = ⟨s.h, s.gone, s.come ++ row⟩ from by unfold revStep; rw [if_neg (by omega), if_pos (by omega)])
            rw [HRS.out] at HREV
            have L5 := Lib.hid (load_hkV bx)
            go_upto_region 14 with fail
            have rv0 := rv
            have bx0 := bx
            have kw0 := kw
            clear rv bx kw bel c2 c3 ce0 L5
            have bel0 := kw0.below (B := b5) (by omega) (by omega) (by simp)
            obtain ⟨c20, c30, _, _⟩ := HC.out _ bel0
            have L1 := Lib.hid (HL1.out _ bel0)
            have RVM := Lib.hid rv0
            have BXM := Lib.hid bx0
            have KWM := Lib.hid kw0
            have hz0z : zi ≤ wr.heap.size := rv0.lo
            clear rv0 bx0 kw0
            go_upto_region 16 with (first | (refine wpList_load rfl rfl rfl (by with_reducible exact L1.out) ?_) | (refine wpList_allocAgg rfl rfl (zero_edit _) ?_) | (refine wpList_storeBlk rfl rfl (vs := edC e) rfl rfl (Blk.new _ _ _) rfl info_edit (edC_one e) ?_; intro w7 x7 kc zc))
            go_frame
            have k7 : Keep Nothing wr w7 := Keep.ofNew kc
            have rv7 := RVM.out.keepN k7
            have bx7 := BXM.out.keep k7 (fun h => h)
            have kw7 := KWM.out.trans (Kept.ofKeep (base := zi) (E := [67, 9]) (G := [b5]) k7 (fun _ _ h => absurd h (fun h => h)))
            generalize wr.heap.size = z7 at *
            have e0 : w7.cell? ⟨z7, 0, none⟩ = some (.int .i64 (e.op : Int)) := x7.cell 0
            have e1' : w7.cell? ⟨z7, 1, none⟩ = some (.int .i64 (e.n : Int)) := x7.cell 1
            have bel7 := kw7.below (B := b5) (by omega) (by omega) (by simp)
            obtain ⟨c27, c37, _, _⟩ := HC.out _ bel7
            clear kc zc L1 k7 RVM BXM KWM c20 c30
            go_quiet (fail)
            have rv8 := rv7.keepN ((Keep.refl Nothing w7).drewN nq)
            have bx8 : Blk (w7.drewN nq) b5 38 _ := bx7
            have kw8 : Kept zi [67, 9] [b5] w3 (w7.drewN nq) := kw7.drewN nq
            have e08 : (w7.drewN nq).cell? ⟨z7, 0, none⟩ = some (.int .i64 (e.op : Int)) := e0
            have e18 : (w7.drewN nq).cell? ⟨z7, 1, none⟩ = some (.int .i64 (e.n : Int)) := e1'
            have hx8 := HX.out _ (kw8.below (B := b5) (by omega) (by omega) (by simp))
            clear rv7 bx7 kw7 e0 e1' x7 c27 c37
            generalize w7.drewN nq = w8 at *
            have HG := Lib.hid (show ∀ A1 c1 w5, Own w5 zi 9 1 A1 (s.come.length + e.n) c1 (strL s.come ++ strL row) → Kept zi [9] [] w8 w5 → (∀ p, p < w8.heap.size → NotB CA s.come.length cc p → w5.heap[p]? = w8.heap[p]? ∧ NotB A1 (s.come.length + e.n) c1 p) →
                RV w5 zi ⟨s.h, s.gone, s.come ++ row⟩ EB eb LB lb GA gc A1 c1 ∧ Blk w5 b5 38 (hkV s.h EB eb LB lb) ∧ Kept zi [67, 9] [b5] w3 w5 from by
              rw [← hrl]
              intro A1 c1 w5 o1 k1 n1
              exact ⟨rv8.growC o1 k1 n1, k1.blk bx8 (by simp) (by decide), kw8.trans (Kept.mono k1 (Nat.le_refl _) (by simp) (by simp))⟩)
            have HO := Lib.hid rv8.oc
            obtain ⟨gr, orr, hRA, hgr, _⟩ := hx8.at0 (by omega) (by omega)
            have HRA := Lib.hid hRA
            rw [hRA] at hx8
            have HFR := Lib.hid hx8
            have HL9 := Lib.hid (show s.h.eds.length ≤ 3 * (k + 1) ∧ s.h.ls.length + s.gone.length + (s.come ++ row).length ≤ m + e.n from by simp; omega)
            have hgz := rv8.lo
            clear rv8 bx8 kw8 hRA hx8
            go_upto_region 10 with (at_builtin; refine wpList_append_slf rfl elemStr rfl rfl (n := s.come.length) (xs := strL s.come) HO.out (by omega) (congrArg (fun A => Value.slice A e.n (lc - m)) HRA.out) HFR.out (strL_one row) (by unfold maxLen; omega) (by omega) hgz ?_; intro A1 c1 w9 o1 k1 n1)
            obtain ⟨rv9, bx9, kw9⟩ := HG.out A1 c1 w9 o1 k1 n1
            have RV9 := Lib.hid rv9
            have BX9 := Lib.hid bx9
            have KW9 := Lib.hid kw9
            clear o1 k1 n1 rv9 bx9 kw9 HG HO HFR e08 e18
            have HKD := Lib.hid (show k + 1 ≤ h.eds.length by omega)
            go_wp2_with fail
            go_roundw
            case rel =>
              refine ⟨k + 1, m + e.n, ⟨s.h, s.gone, s.come ++ row⟩, _, _, _, _, _, _, _, _, HKD.out, HMS.out, rfl, by rw [List.length_append, hrl], by go_num, by go_num, BX9.out, RV9.out, KW9.out, ?_, ?_, HREV.out⟩
              · have := HL9.out.1; omega
              · have := HL9.out.2; omega
            case measure => simp [intOf]; omega
          · have hb0 : ((e.op : Int) == 0) = false := by rw [q0]; rfl
            have hb1 : ((e.op : Int) == 1) = false := by rw [q0]; rfl
            have hb2 : ((e.op : Int) == 2) = true := by rw [q0]; rfl
            have HRS := Lib.hid (show revStep s e row = ⟨s.h, s.gone ++ row, s.come⟩ from by unfold revStep; rw [if_neg (by omega), if_neg (by omega)])
            rw [HRS.out] at HREV
            have L5 := Lib.hid (load_hkV bx)
            go_upto_region 14 with fail
            have rv0 := rv
            have bx0 := bx
            have kw0 := kw
            clear rv bx kw bel c2 c3 ce0 L5
            have bel0 := kw0.below (B := b5) (by omega) (by omega) (by simp)
            obtain ⟨c20, c30, _, _⟩ := HC.out _ bel0
            have L1 := Lib.hid (HL1.out _ bel0)
            have RVM := Lib.hid rv0
            have BXM := Lib.hid bx0
            have KWM := Lib.hid kw0
            have hz0z : zi ≤ wr.heap.size := rv0.lo
            clear rv0 bx0 kw0
            go_upto_region 16 with (first | (refine wpList_load rfl rfl rfl (by with_reducible exact L1.out) ?_) | (refine wpList_allocAgg rfl rfl (zero_edit _) ?_) | (refine wpList_storeBlk rfl rfl (vs := edC e) rfl rfl (Blk.new _ _ _) rfl info_edit (edC_one e) ?_; intro w7 x7 kc zc))
            go_frame
            have k7 : Keep Nothing wr w7 := Keep.ofNew kc
            have rv7 := RVM.out.keepN k7
            have bx7 := BXM.out.keep k7 (fun h => h)
            have kw7 := KWM.out.trans (Kept.ofKeep (base := zi) (E := [67, 9]) (G := [b5]) k7 (fun _ _ h => absurd h (fun h => h)))
            generalize wr.heap.size = z7 at *
            have e0 : w7.cell? ⟨z7, 0, none⟩ = some (.int .i64 (e.op : Int)) := x7.cell 0
            have e1' : w7.cell? ⟨z7, 1, none⟩ = some (.int .i64 (e.n : Int)) := x7.cell 1
            have bel7 := kw7.below (B := b5) (by omega) (by omega) (by simp)
            obtain ⟨c27, c37, _, _⟩ := HC.out _ bel7
            clear kc zc L1 k7 RVM BXM KWM c20 c30
            go_quiet (fail)
            have rv8 := rv7.keepN ((Keep.refl Nothing w7).drewN nq)
            have bx8 : Blk (w7.drewN nq) b5 38 _ := bx7
            have kw8 : Kept zi [67, 9] [b5] w3 (w7.drewN nq) := kw7.drewN nq
            have e08 : (w7.drewN nq).cell? ⟨z7, 0, none⟩ = some (.int .i64 (e.op : Int)) := e0
            have e18 : (w7.drewN nq).cell? ⟨z7, 1, none⟩ = some (.int .i64 (e.n : Int)) := e1'
            have hx8 := HX.out _ (kw8.below (B := b5) (by omega) (by omega) (by simp))
            clear rv7 bx7 kw7 e0 e1' x7 c27 c37
            generalize w7.drewN nq = w8 at *
            have HG := Lib.hid (show ∀ A1 c1 w5, Own w5 zi 9 1 A1 (s.gone.length + e.n) c1 (strL s.gone ++ strL row) → Kept zi [9] [] w8 w5 → (∀ p, p < w8.heap.size → NotB GA s.gone.length gc p → w5.heap[p]? = w8.heap[p]? ∧ NotB A1 (s.gone.length + e.n) c1 p) →
                RV w5 zi ⟨s.h, s.gone ++ row, s.come⟩ EB eb LB lb A1 c1 CA cc ∧ Blk w5 b5 38 (hkV s.h EB eb LB lb) ∧ Kept zi [67, 9] [b5] w3 w5 from by
              rw [← hrl]
              intro A1 c1 w5 o1 k1 n1
              exact ⟨rv8.growG o1 k1 n1, k1.blk bx8 (by simp) (by decide), kw8.trans (Kept.mono k1 (Nat.le_refl _) (by simp) (by simp))⟩)
            have HO := Lib.hid rv8.og
            obtain ⟨gr, orr, hRA, hgr, _⟩ := hx8.at0 (by omega) (by omega)
            have HRA := Lib.hid hRA
            rw [hRA] at hx8
            have HFR := Lib.hid hx8
            have HL9 := Lib.hid (show s.h.eds.length ≤ 3 * (k + 1) ∧ s.h.ls.length + (s.gone ++ row).length + s.come.length ≤ m + e.n from by simp; omega)
            have hgz := rv8.lo
            clear rv8 bx8 kw8 hRA hx8
            go_upto_region 10 with (at_builtin; refine wpList_append_slf rfl elemStr rfl rfl (n := s.gone.length) (xs := strL s.gone) HO.out (by omega) (congrArg (fun A => Value.slice A e.n (lc - m)) HRA.out) HFR.out (strL_one row) (by unfold maxLen; omega) (by omega) hgz ?_; intro A1 c1 w9 o1 k1 n1)
            obtain ⟨rv9, bx9, kw9⟩ := HG.out A1 c1 w9 o1 k1 n1
            have RV9 := Lib.hid rv9
            have BX9 := Lib.hid bx9
            have KW9 := Lib.hid kw9
            clear o1 k1 n1 rv9 bx9 kw9 HG HO HFR e08 e18
            have HKD := Lib.hid (show k + 1 ≤ h.eds.length by omega)
            go_wp2_with fail
            go_roundw
            case rel =>
              refine ⟨k + 1, m + e.n, ⟨s.h, s.gone ++ row, s.come⟩, _, _, _, _, _, _, _, _, HKD.out, HMS.out, by rw [List.length_append, hrl], rfl, by go_num, by go_num, BX9.out, RV9.out, KW9.out, ?_, ?_, HREV.out⟩
              · have := HL9.out.1; omega
              · have := HL9.out.2; omega
            case measure => simp [intOf]; omega
        · obtain rfl : k = h.eds.length := by omega
          have hdn : h.eds.drop h.eds.length = [] := by simp
          rw [hdn, revL] at hrev
          have HB := Lib.hid (show backP h = flushR s from by unfold backP; rw [HTG.out, ← hrev])
          have hkb : ((h.eds.length : Int) == (h.eds.length : Int)) = true := by simp
          have hml : m ≤ h.ls.length := by omega
          clear hdn hrev hms
          have HP1 := Lib.hid (rput_any zi s.h EB eb LB lb 1 s.gone GA gc wr rv.lo rv.oe rv.ol (fun _ => Src.own rv.og zi) (by omega) (by omega) (by omega))
          have L5 := Lib.hid (load_hkV bx)
          have RV0 := Lib.hid rv
          have BX0 := Lib.hid bx
          have KW0 := Lib.hid kw
          obtain ⟨q1, q2⟩ := putH_len s.h 1 s.gone
          clear rv bx kw
          go_upto_region 12 with fail
          go_upto_region 13 with (first | (refine wpList_load rfl rfl rfl (by with_reducible exact L5.out) ?_) | (go_at_call 35; refine HP2.out.mono ?_; rintro _ w5 ⟨E2, e2, L2, l2, rfl, oe2, ol2, k2, f2⟩; have RV5 := Lib.hid (RV4.out.put oe2 ol2 k2 f2); have K5 := Lib.hid (K4.out.trans k2); have BX5 := Lib.hid (k2.blk BX4.out (by simp) (by decide)); clear oe2 ol2 k2 f2) | (go_at_call 35; refine HP1.out.mono ?_; rintro _ w4 ⟨E1, e1, L1, l1, rfl, oe1, ol1, k1, f1⟩; have rv4 := RV0.out.put oe1 ol1 k1 f1; have HP2 := Lib.hid (rput_any zi (putH s.h 1 s.gone) E1 e1 L1 l1 2 s.come CA cc w4 rv4.lo rv4.oe rv4.ol (fun _ => Src.own rv4.oc zi) (by omega) (by omega) (by omega)); have RV4 := Lib.hid rv4; have K4 := Lib.hid k1; have BX4 := Lib.hid (k1.blk BX0.out (by simp) (by decide)); clear oe1 ol1 k1 f1 rv4) | (refine wpList_storeBlk rfl rfl (vs := hkV (flushR s) E2 e2 L2 l2) rfl rfl BX5.out rfl info_hunk (hkV_one _ _ _ _ _) ?_; intro w6 bx6 kb6 z6))
          have rv6 : RV w6 zi ⟨flushR s, [], []⟩ E2 e2 L2 l2 none 0 none 0 := (RV5.out.box BX5.out kb6).flushed
          have kw6 : Kept zi [67, 9] [b5] w3 w6 := kept_box (KW0.out.trans (Kept.mono K5.out (Nat.le_refl _) (by simp) (by simp))) kb6
          obtain ⟨fl1, fl2⟩ := flushR_len s
          clear RV0 BX0 KW0 HP1 HP2 RV4 K4 BX4 RV5 K5 BX5 kb6 z6 q1 q2 c2 c3 L5
          have bel6 := kw6.below (B := b5) (by omega) (by omega) (by simp)
          obtain ⟨c26, c36, _, _⟩ := HC.out _ bel6
          have L6 := Lib.hid (load_hkV bx6)
          obtain ⟨hd6, hb6⟩ := HDW.out _ bel6
          obtain ⟨tv, t1, t2, t3⟩ := hd6
          rw [hlk] at t1 t2
          have HT := Lib.hid t3
          have OE := Lib.hid rv6.oe
          have OL := Lib.hid rv6.ol
          have hz6 := rv6.lo
          have HB6 := Lib.hid hb6
          have hzw : w.heap.size ≤ zi := by omega
          have hzb := hb6.size
          clear rv6 bx6 kw6 bel6 t3 hb6 fl1 fl2 HTG HDW HC
          go_wp2_with (first | (refine wpList_load rfl rfl rfl (by with_reducible exact L6.out) ?_) | (refine wpList_buildSlice1 rfl elemHunk rfl zero_hk rfl rfl (by omega) rfl ?_) | (at_builtin; refine wpList_append_sl rfl elemHunk rfl rfl (n := i) (t2.alloc _) rfl (Reads.of_blk (n := 1) (xs := hkL (flushR s) (.slice E2 (flushR s).eds.length e2) (.slice L2 (flushR s).ls.length l2)) (heap_alloc_new _ _) rfl rfl) (hkV_one _ _ _ _ _) (by unfold maxLen; omega) (by omega) (by simp; omega) ?_; intro A5 c5 w7 o5 k5; have HD7 := Lib.hid (HD.push (x := flushR s) (tv := tv) (hs := (hs.take i).map backP) (by rw [hlk]; exact t1) HT.out (OE.out.mono hzw) (OL.out.mono hzw) (((Kept.refl _ _ _ _).alloc _).trans k5) (by rw [hlk]; exact o5)); have HB7 := Lib.hid (HB6.out.trans ((((Kept.refl _ _ _ _).alloc _).trans k5).below (Nat.le_refl _) hzb (by simp))); clear o5 k5))
          go_roundw
          case rel => exact ⟨i + 1, A5, c5, by omega, rfl, by go_num, by rw [HMP.out, HB.out]; exact HD7.out, HB7.out⟩
          case measure => simp [intOf]; omega
    · obtain rfl : i = hs.length := by omega
      have hd9 := hd
      rw [List.take_length] at hd9
      clear hd
      go_wp2_with fail
      go_ret
      exact ⟨A, cp, rfl, hd9, hb⟩
end Go.Proofs.YtlcidbbpjlpmjaaDoor
