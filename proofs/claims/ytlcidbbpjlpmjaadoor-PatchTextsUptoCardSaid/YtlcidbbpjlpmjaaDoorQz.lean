/-
  Contracts of patch.may (which hunks may be). No statement of the seat is proved here.
-/
import Derived.Test.YtlcidbbpjlpmjaaDoorQy
namespace Go.Proofs.YtlcidbbpjlpmjaaDoor
open Go.RowKit

def hkC (h : HkI) (EA : Option Addr) (ec : Nat) (LA : Option Addr) (lc : Nat) : Array Value := #[.int .i64 h.a, .int .i64 h.b, .slice EA h.eds.length ec, .slice LA h.ls.length lc]
theorem places_cases (h : HkI) (hp : placesP h = false) : h.a < 0 ∨ (¬ h.a < 0 ∧ 999999999 < h.a) ∨ (¬ h.a < 0 ∧ ¬ 999999999 < h.a ∧ h.b < 0) ∨ (¬ h.a < 0 ∧ ¬ 999999999 < h.a ∧ ¬ h.b < 0 ∧ 999999999 < h.b) := by
  simp only [placesP, Bool.not_eq_false', Bool.or_eq_true, decide_eq_true_eq] at hp
  omega
theorem places_true (h : HkI) (hp : placesP h = true) : ¬ h.a < 0 ∧ ¬ 999999999 < h.a ∧ ¬ h.b < 0 ∧ ¬ 999999999 < h.b := by
  simp only [placesP, Bool.not_eq_true', Bool.or_eq_false_iff, decide_eq_false_iff_not] at hp
  omega
/-- The ways of one edit's check. -/
theorem bad_cases {len : Nat} {p : Option Int} {c : Cnt} {e : EdI} (hb : badE len p c e = true) : e.op < 0 ∨ (¬ e.op < 0 ∧ 2 < e.op) ∨ (¬ e.op < 0 ∧ ¬ 2 < e.op ∧ e.n < 1) ∨ (¬ e.op < 0 ∧ ¬ 2 < e.op ∧ ¬ e.n < 1 ∧ (len : Int) - c.all < e.n) ∨ (¬ e.op < 0 ∧ ¬ 2 < e.op ∧ ¬ e.n < 1 ∧ ¬ (len : Int) - c.all < e.n ∧ p = some e.op) := by
  simp only [badE, Bool.or_eq_true, decide_eq_true_eq] at hb
  by_cases h1 : e.op < 0
  · exact .inl h1
  by_cases h2 : 2 < e.op
  · exact .inr (.inl ⟨h1, h2⟩)
  by_cases h3 : e.n < 1
  · exact .inr (.inr (.inl ⟨h1, h2, h3⟩))
  by_cases h4 : (len : Int) - c.all < e.n
  · exact .inr (.inr (.inr (.inl ⟨h1, h2, h3, h4⟩)))
  · refine .inr (.inr (.inr (.inr ⟨h1, h2, h3, h4, ?_⟩)))
    rcases hb with q | q | q | q | q
    · exact absurd q h1
    · exact absurd q h2
    · exact absurd q h3
    · exact absurd q h4
    · exact q
theorem ne_dec (x : Int) : (x != 0) = decide (x ≠ 0) := by
  rw [Bool.eq_iff_iff]
  simp
set_option maxHeartbeats 2000000 in
set_option maxRecDepth 100000 in
theorem may_any (h : HkI) (EA LA : Option Addr) (ec lc B : Nat) (w : World) (hB : B ≤ w.heap.size) (he : Reads w B 2 EA h.eds.length (edIs h.eds)) (hl : Reads w B 1 LA h.ls.length (strL h.ls)) (hel : h.eds.length ≤ 9223372036854775807) (hll : h.ls.length ≤ 9223372036854775807) (hls : ∀ s ∈ h.ls, s.length ≤ 9223372036854775807) :
    Calls Tryd.prog 60 #[.agg (hkC h EA ec LA lc)] w fun r w' => r = .returned (.bool (mayP h).isSome) ∧ Keep Nothing w w' := by
  have HR := Lib.hid (show ∀ W, Keep Nothing w W → Reads W B 2 EA h.eds.length (edIs h.eds) ∧ Reads W B 1 LA h.ls.length (strL h.ls) from fun W k => ⟨he.below (k.below hB (fun _ _ h => h)), hl.below (k.below hB (fun _ _ h => h))⟩)
  have HLS := Lib.hid hls
  clear he hl hls
  generalize hm : (mayP h).isSome = m
  have HM := Lib.hid hm
  clear hm
  go_enter Tryd.func60, Tryd.ntmps60
  go_upto_region 1 with (refine wpList_boxed rfl rfl rfl ?_)
  have x1 : Blk (w.alloc (.cells (hkC h EA ec LA lc) 38)) w.heap.size 38 (hkC h EA ec LA lc) := Blk.new _ _ _
  have k1 : Keep Nothing w (w.alloc (.cells (hkC h EA ec LA lc) 38)) := (Keep.refl _ w).alloc _
  have hz1 : w.heap.size < (w.alloc (.cells (hkC h EA ec LA lc) 38)).heap.size := x1.lt
  generalize w.heap.size = z0 at *
  generalize w.alloc (.cells (hkC h EA ec LA lc) 38) = w1 at *
  have c0 : w1.cell? ⟨z0, 0, none⟩ = some (.int .i64 h.a) := x1.cell 0
  have c1 : w1.cell? ⟨z0, 1, none⟩ = some (.int .i64 h.b) := x1.cell 1
  by_cases hp : placesP h = true
  case neg =>
    obtain rfl : m = false := by rw [← HM.out]; unfold mayP; rw [if_neg hp]; rfl
    rcases places_cases h (by simpa using hp) with q1 | ⟨q1, q2⟩ | ⟨q1, q2, q3⟩ | ⟨q1, q2, q3, q4⟩
    all_goals
      go_wp2_with fail
      go_ret
      exact ⟨rfl, k1⟩
  case pos =>
    obtain ⟨q1, q2, q3, q4⟩ := places_true h hp
    have c2 : w1.cell? ⟨z0, 2, none⟩ = some (.slice EA h.eds.length ec) := x1.cell 2
    go_upto_region 4 with fail
    clear q1 q2 q3 q4
    go_wp2_with fail
    go_loopw [3, 4, 28] (fun s3 s4 s28 wr => ∃ (k : Nat) (c : Cnt), k ≤ h.eds.length ∧ s3 = .int .i64 (c.all : Nat) ∧ s4 = .bool c.turns ∧ s28 = .int .i64 (k : Nat) ∧ Keep Nothing w1 wr ∧ edsP h.ls.length none cnt0 h.eds = edsP h.ls.length (prevOp h.eds k) c (h.eds.drop k) ∧ c.all ≤ h.ls.length) (fun _ _ s28 _ => h.eds.length - (intOf s28).toNat)
    case atStart => exact ⟨0, cnt0, Nat.zero_le _, rfl, rfl, rfl, Keep.refl _ _, rfl, Nat.zero_le _⟩
    case round =>
      obtain ⟨k, c, hk, rfl, rfl, rfl, kr, hP, hca⟩ := hrel
      have x2 := x1.keep kr (fun h => h)
      have kw := k1.trans kr
      have HPP := Lib.hid hP
      clear hP
      by_cases hlt : k < h.eds.length
      · obtain ⟨e, hx⟩ : ∃ e, h.eds[k]? = some e := ⟨_, List.getElem?_eq_getElem hlt⟩
        obtain ⟨g, off, rfl, _, hc⟩ := (HR.out _ kw).1.at0 (by omega) (by omega)
        have L1 := Lib.hid (load_edI_at (w := wr) (fun j u hj => hc j u hj) hx)
        have HX := Lib.hid hx
        have hi0 : (0 : Int) ≤ (k : Int) := Int.natCast_nonneg _
        have hi1 : (k : Int) < (h.eds.length : Int) := by omega
        clear hc hx c0 c1
        go_upto_region 7 with (first | (refine wpList_load rfl rfl rfl L1.out ?_) | (refine wpList_allocAgg rfl rfl (zero_edit _) ?_) | (refine wpList_storeBlk rfl rfl (vs := edIC e) rfl rfl (Blk.new _ _ _) rfl info_edit (edIC_one e) ?_; intro w2 x3 kc zc))
        go_frame
        have k2 : Keep Nothing wr w2 := Keep.ofNew kc
        generalize wr.heap.size = z1 at *
        clear kc zc L1
        have kw2 := kw.trans k2
        have kr2 := kr.trans k2
        have x4 := x2.keep k2 (fun h => h)
        have e0 : w2.cell? ⟨z1, 0, none⟩ = some (.int .i64 e.op) := x3.cell 0
        have e1 : w2.cell? ⟨z1, 1, none⟩ = some (.int .i64 e.n) := x3.cell 1
        have c2 : w2.cell? ⟨z0, 2, none⟩ = some (.slice (some ⟨g, off, none⟩) h.eds.length ec) := x4.cell 2
        have c3 : w2.cell? ⟨z0, 3, none⟩ = some (.slice LA h.ls.length lc) := x4.cell 3
        have hsub : IntKind.i64.wrap ((h.ls.length : Int) - (c.all : Int)) = (h.ls.length : Int) - (c.all : Int) := IntWalk.i64_in _ (by omega)
        have hstep := edsP_step (len := h.ls.length) (c := c) HX.out
        rw [← HPP.out] at hstep
        have HST := Lib.hid hstep
        clear hstep
        cases hb : badE h.ls.length (prevOp h.eds k) c e
        case true =>
          obtain rfl : m = false := by rw [← HM.out]; unfold mayP; rw [if_pos hp, HST.out, if_pos hb]; rfl
          have HB := Lib.hid (bad_cases hb)
          clear hb
          cases d1 : decide (e.op < 0)
          case true =>
            go_wp2_with fail
            go_big_quiet (fail)
            go_wp2_with fail
            go_ret
            exact ⟨rfl, kw2.drewN _⟩
          cases d2 : decide (2 < e.op)
          case true =>
            go_wp2_with fail
            go_big_quiet (fail)
            go_wp2_with fail
            go_ret
            exact ⟨rfl, kw2.drewN _⟩
          cases d3 : decide (e.n < 1)
          case true =>
            go_wp2_with fail
            go_big_quiet (fail)
            go_wp2_with fail
            go_ret
            exact ⟨rfl, kw2.drewN _⟩
          cases d4 : decide ((h.ls.length : Int) - (c.all : Int) < e.n)
          case true =>
            go_wp2_with fail
            go_big_quiet (fail)
            go_wp2_with fail
            go_ret
            exact ⟨rfl, kw2.drewN _⟩
          obtain ⟨j, pe, rfl, hj⟩ : ∃ (j : Nat) (pe : EdI), k = j + 1 ∧ h.eds[j]? = some pe ∧ pe.op = e.op := by
            have hq := HB.out
            simp only [decide_eq_false_iff_not] at d1 d2 d3 d4
            have h5 : prevOp h.eds k = some e.op := by
              rcases hq with q | ⟨_, q⟩ | ⟨_, _, q⟩ | ⟨_, _, _, q⟩ | ⟨_, _, _, _, q⟩
              · exact absurd q d1
              · exact absurd q d2
              · exact absurd q d3
              · exact absurd q d4
              · exact q
            cases k with
            | zero => simp [prevOp] at h5
            | succ j =>
              simp only [prevOp, Nat.add_one_ne_zero, if_false, Nat.add_sub_cancel, Option.map_eq_some_iff] at h5
              obtain ⟨pe, h6, h7⟩ := h5
              exact ⟨j, pe, rfl, h6, h7⟩
          obtain ⟨hj, hjo⟩ := hj
          obtain ⟨_, _, hA, _, hc⟩ := (HR.out _ kw2).1.at0 (by omega) (by omega)
          simp only [Option.some.injEq, Addr.mk.injEq, and_true] at hA
          obtain ⟨rfl, rfl⟩ := hA
          have p0 := hc _ _ (edIs_at hj).1
          rw [hjo] at p0
          clear hc
          have d5 : decide ((0 : Int) < ((j + 1 : Nat) : Int)) = true := by simp
          have s1 : IntKind.i64.wrap (((j + 1 : Nat) : Int) - 1) = (j : Int) := by rw [IntWalk.i64_in _ (by omega)]; omega
          have hj0 : (0 : Int) ≤ (j : Int) := Int.natCast_nonneg _
          have hj1 : (j : Int) < (h.eds.length : Int) := by omega
          go_wp2_with fail
          go_big_quiet (fail)
          go_wp2_with fail
          go_ret
          exact ⟨rfl, kw2.drewN _⟩
        case false =>
          have hnb := badE_false hb
          have d1 : decide (e.op < 0) = false := decide_eq_false (by omega)
          have d2 : decide (2 < e.op) = false := decide_eq_false (by omega)
          have d3 : decide (e.n < 1) = false := decide_eq_false (by omega)
          have d4 : decide ((h.ls.length : Int) - (c.all : Int) < e.n) = false := decide_eq_false (by omega)
          have hall : ((addE c e).all : Int) = (c.all : Int) + e.n := by rw [addE_all]; omega
          have hw0 : IntKind.i64.wrap ((c.all : Int) + e.n) = (c.all : Int) + e.n := IntWalk.i64_in _ (by omega)
          have hca' : (addE c e).all ≤ h.ls.length := by omega
          have hturn := addE_turns (c := c) (e := e) (by omega)
          have hk' : k + 1 ≤ h.eds.length := by omega
          have HNE := Lib.hid hnb.2.2.2.2
          have HEND := Lib.hid (And.intro hall (And.intro hca' (And.intro hturn (And.intro hk' hb))))
          clear hnb hall hca' hturn hk' hb
          obtain rfl | ⟨j, rfl⟩ : k = 0 ∨ ∃ j, k = j + 1 := by
            cases k with
            | zero => exact .inl rfl
            | succ j => exact .inr ⟨j, rfl⟩
          · have d5 : decide ((0 : Int) < ((0 : Nat) : Int)) = false := rfl
            go_big_quiet (fail)
            go_upto_region 9 with fail
            clear d1 d2 d3 d4 d5
            obtain ⟨hall, hca', hturn, hk', hb⟩ := HEND.out
            have e0 : (w2.drewN nq).cell? ⟨z1, 0, none⟩ = some (.int .i64 e.op) := e0
            have e1 : (w2.drewN nq).cell? ⟨z1, 1, none⟩ = some (.int .i64 e.n) := e1
            have hkr := kr2.drewN nq
            have HT := Lib.hid hturn
            clear hturn
            cases ht : c.turns
            all_goals
              go_wp2_with fail
              go_roundw
              case rel => exact ⟨_, addE c e, hk', by rw [hall], by rw [HT.out, ht]; first | rfl | (simp only [Bool.true_or]) | (simp only [Bool.false_or, ← ne_dec]), by go_num, hkr, HST.out.trans (if_neg (by simp [hb])), hca'⟩
              case measure => simp [intOf]; omega
          · obtain ⟨pe, hj⟩ : ∃ pe, h.eds[j]? = some pe := ⟨_, List.getElem?_eq_getElem (by omega)⟩
            obtain ⟨_, _, hA, _, hc⟩ := (HR.out _ kw2).1.at0 (by omega) (by omega)
            simp only [Option.some.injEq, Addr.mk.injEq, and_true] at hA
            obtain ⟨rfl, rfl⟩ := hA
            have p0 := hc _ _ (edIs_at hj).1
            clear hc
            have d5 : decide ((0 : Int) < ((j + 1 : Nat) : Int)) = true := by simp
            have s1 : IntKind.i64.wrap (((j + 1 : Nat) : Int) - 1) = (j : Int) := by rw [IntWalk.i64_in _ (by omega)]; omega
            have hj0 : (0 : Int) ≤ (j : Int) := Int.natCast_nonneg _
            have hj1 : (j : Int) < (h.eds.length : Int) := by omega
            have d6 : (pe.op == e.op) = false := by
              have := HNE.out
              simp only [prevOp, Nat.add_one_ne_zero, if_false, Nat.add_sub_cancel, hj, Option.map_some, ne_eq, Option.some.injEq] at this
              simpa using this
            go_wp2_with fail
            go_big_quiet (fail)
            go_upto_region 9 with fail
            clear d1 d2 d3 d4 d5
            obtain ⟨hall, hca', hturn, hk', hb⟩ := HEND.out
            have e0 : (w2.drewN nq).cell? ⟨z1, 0, none⟩ = some (.int .i64 e.op) := e0
            have e1 : (w2.drewN nq).cell? ⟨z1, 1, none⟩ = some (.int .i64 e.n) := e1
            have hkr := kr2.drewN nq
            have HT := Lib.hid hturn
            clear hturn
            cases ht : c.turns
            all_goals
              go_wp2_with fail
              go_roundw
              case rel => exact ⟨_, addE c e, hk', by rw [hall], by rw [HT.out, ht]; first | rfl | (simp only [Bool.true_or]) | (simp only [Bool.false_or, ← ne_dec]), by go_num, hkr, HST.out.trans (if_neg (by simp [hb])), hca'⟩
              case measure => simp [intOf]; omega
      · obtain rfl : k = h.eds.length := by omega
        have hPE : edsP h.ls.length none cnt0 h.eds = some c := HPP.out.trans edsP_end
        have hM : m = (c.turns && (decide (c.all = h.ls.length) && h.ls.all lineP)) := by
          rw [← HM.out]
          unfold mayP
          rw [if_pos hp, hPE]
          dsimp only
          split
          next q => rw [q]; rfl
          next q => simp only [Bool.not_eq_true] at q; rw [q]; rfl
        have HMM := Lib.hid hM
        have HPE := Lib.hid hPE
        clear hM hPE
        have c3 : wr.cell? ⟨z0, 3, none⟩ = some (.slice LA h.ls.length lc) := x2.cell 3
        have HQ := Lib.hid (fun W (k : Keep Nothing w W) => contLines_any h.ls LA lc B W (HR.out W k).2 hll HLS.out)
        have hxx : ¬ (h.eds.length < h.eds.length) := Nat.lt_irrefl _
        have c0' : True := trivial
        clear c0 c1
        cases ht : c.turns
        case false =>
          go_wp2_with fail
          go_ret
          exact ⟨by rw [HMM.out, ht]; rfl, kw⟩
        by_cases hal : c.all = h.ls.length
        case neg =>
          have d1 : ((c.all : Int) == (h.ls.length : Int)) = false := by simp; omega
          go_wp2_with fail
          go_ret
          exact ⟨by rw [HMM.out, ht, decide_eq_false hal]; rfl, kw⟩
        case pos =>
          have d1 : ((c.all : Int) == (h.ls.length : Int)) = true := by simp [hal]
          go_wp2_with (go_at_call 70; refine (HQ.out _ kw).mono ?_)
          rintro _ _ ⟨rfl, n, rfl⟩
          go_wp2_with fail
          go_ret
          exact ⟨by rw [HMM.out, ht, decide_eq_true hal]; simp, kw.drewN n⟩
end Go.Proofs.YtlcidbbpjlpmjaaDoor
