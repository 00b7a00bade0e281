/-
  Contract of patch.sizes at hunks that may be. No statement of the seat is proved here.
-/
import Derived.Test.YtlcidbbpjlpmjaaDoorTa
namespace Go.Proofs.YtlcidbbpjlpmjaaDoor
open Go.RowKit

theorem mayP_eds {h : HkI} {c : Cnt} (hm : mayP h = some c) : edsP h.ls.length none cnt0 h.eds = some c ∧ c.all = h.ls.length ∧ c.turns = true ∧ placesP h = true ∧ h.ls.all lineP = true := by
  unfold mayP at hm
  split at hm
  case isFalse => cases hm
  case isTrue hp =>
    split at hm
    next => cases hm
    next c' hc =>
      split at hm
      case isFalse => cases hm
      case isTrue hq =>
        injection hm with hm
        subst hm
        simp only [Bool.and_eq_true, decide_eq_true_eq] at hq
        exact ⟨hc, hq.2.1, hq.1, hp, hq.2.2⟩
set_option maxHeartbeats 2000000 in
set_option maxRecDepth 100000 in
theorem sizes_any (h : HkI) (t : Cnt) (hm : mayP h = some t) (EA LA : Option Addr) (ec lc B : Nat) (w : World) (hB : B ≤ w.heap.size) (hr : RowsOK w B h EA LA) (hs : Fits h) :
    Calls Tryd.prog 37 #[.agg (hkC h EA ec LA lc)] w fun r w' => r = .returned (.tuple #[.int .i64 (t.k + t.d : Nat), .int .i64 (t.k + t.n : Nat)]) ∧ Keep Nothing w w' := by
  have HR := Lib.hid (show ∀ W, Keep Nothing w W → Reads W B 2 EA h.eds.length (edIs h.eds) from fun W k => hr.1.below (k.below hB (fun _ _ h => h)))
  have HM := Lib.hid (mayP_eds hm).1
  have hel := hs.1
  have hll := hs.2.1
  clear hr hs hm
  go_enter Tryd.func37, Tryd.ntmps37
  go_upto_region 1 with (refine wpList_boxed rfl rfl rfl ?_)
  have x1 : Blk (w.alloc (.cells (hkC h EA ec LA lc) 38)) w.heap.size 38 (hkC h EA ec LA lc) := Blk.new _ _ _
  have k1 : Keep Nothing w (w.alloc (.cells (hkC h EA ec LA lc) 38)) := (Keep.refl _ w).alloc _
  have hz1 : w.heap.size < (w.alloc (.cells (hkC h EA ec LA lc) 38)).heap.size := x1.lt
  generalize w.heap.size = z0 at *
  generalize w.alloc (.cells (hkC h EA ec LA lc) 38) = w1 at *
  have c2 : w1.cell? ⟨z0, 2, none⟩ = some (.slice EA h.eds.length ec) := x1.cell 2
  go_wp2_with fail
  go_loopw [4, 5, 11] (fun s4 s5 s11 wr => ∃ (k : Nat) (c : Cnt), k ≤ h.eds.length ∧ s4 = .int .i64 (c.k + c.d : Nat) ∧ s5 = .int .i64 (c.k + c.n : Nat) ∧ s11 = .int .i64 (k : Nat) ∧ Keep Nothing w1 wr ∧ edsP h.ls.length (prevOp h.eds k) c (h.eds.drop k) = some t ∧ c.all ≤ h.ls.length) (fun _ _ s11 _ => h.eds.length - (intOf s11).toNat)
  case atStart => exact ⟨0, cnt0, Nat.zero_le _, rfl, rfl, rfl, Keep.refl _ _, HM.out, Nat.zero_le _⟩
  case round =>
    obtain ⟨k, c, hk, rfl, rfl, rfl, kr, hP, hca⟩ := hrel
    have kw := k1.trans kr
    by_cases hlt : k < h.eds.length
    · obtain ⟨e, hx⟩ : ∃ e, h.eds[k]? = some e := ⟨_, List.getElem?_eq_getElem hlt⟩
      rw [edsP_step hx] at hP
      obtain ⟨g, off, rfl, _, hc⟩ := (HR.out _ kw).at0 (by omega) (by omega)
      have L1 := Lib.hid (load_edI_at (w := wr) (fun j u hj => hc j u hj) hx)
      have hi0 : (0 : Int) ≤ (k : Int) := Int.natCast_nonneg _
      have hi1 : (k : Int) < (h.eds.length : Int) := by omega
      clear hc hx c2
      cases hb : badE h.ls.length (prevOp h.eds k) c e
      case true => rw [hb] at hP; simp at hP
      rw [hb, if_neg (by simp)] at hP
      have HP := Lib.hid hP
      clear hP
      obtain ⟨b1, b2, b3, b4, _⟩ := badE_false hb
      have hkd : c.k + c.d ≤ c.all ∧ c.k + c.n ≤ c.all := by unfold Cnt.all; omega
      have hal : (addE c e).all = c.all + e.n.toNat := addE_all
      have HCA := Lib.hid (show (addE c e).all ≤ h.ls.length by omega)
      obtain ⟨nn, hnn⟩ : ∃ n : Nat, e.n = (n : Int) := ⟨e.n.toNat, by omega⟩
      clear hal hb
      go_upto_region 5 with (first | (refine wpList_load rfl rfl rfl L1.out ?_) | (refine wpList_allocAgg rfl rfl (zero_edit _) ?_) | (refine wpList_storeBlk rfl rfl (vs := edIC e) rfl rfl (Blk.new _ _ _) rfl info_edit (edIC_one e) ?_; intro w2 x3 kc zc))
      go_frame
      have k2 : Keep Nothing wr w2 := Keep.ofNew kc
      generalize wr.heap.size = z1 at *
      clear kc zc L1
      have HK := Lib.hid (kr.trans k2)
      have e0 : w2.cell? ⟨z1, 0, none⟩ = some (.int .i64 e.op) := x3.cell 0
      have e1 : w2.cell? ⟨z1, 1, none⟩ = some (.int .i64 (nn : Int)) := by rw [← hnn]; exact x3.cell 1
      have wA : IntKind.i64.wrap (((c.k + c.d : Nat) : Int) + (nn : Int)) = ((c.k + c.d : Nat) : Int) + (nn : Int) := IntWalk.i64_in _ (by omega)
      have wB : IntKind.i64.wrap (((c.k + c.n : Nat) : Int) + (nn : Int)) = ((c.k + c.n : Nat) : Int) + (nn : Int) := IntWalk.i64_in _ (by omega)
      have ht : e.n.toNat = nn := by omega
      have hk' : k + 1 ≤ h.eds.length := by omega
      clear x3 hkd b3 b4 hnn
      generalize hsA : c.k + c.d = sA at *
      generalize hsB : c.k + c.n = sB at *
      have h3 : e.op = 0 ∨ e.op = 1 ∨ e.op = 2 := by omega
      clear b1 b2
      rcases h3 with q | q | q
      all_goals
        rw [q] at e0
        go_wp2_with fail
        go_roundw
        case rel =>
          refine ⟨_, addE c e, hk', ?_, ?_, by go_num, HK.out, HP.out, HCA.out⟩
          · unfold addE; simp [q, ht, ← hsA] <;> omega
          · unfold addE; simp [q, ht, ← hsB] <;> omega
        case measure => simp [intOf]; omega
    · obtain rfl : k = h.eds.length := by omega
      rw [edsP_end] at hP
      injection hP with hP
      subst hP
      go_wp2_with fail
      go_ret2
      exact ⟨rfl, kw⟩
end Go.Proofs.YtlcidbbpjlpmjaaDoor
