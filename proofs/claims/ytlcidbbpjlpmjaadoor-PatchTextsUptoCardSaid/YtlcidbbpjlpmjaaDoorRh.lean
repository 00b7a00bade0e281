/-
  Contract of the reference's counts. No statement of the seat is proved here.
-/
import Derived.Test.YtlcidbbpjlpmjaaDoorRg
import Derived.Lib.IndexLaws
namespace Go.Proofs.YtlcidbbpjlpmjaaDoor
open Go.RowKit

theorem results_tmp4 {P : Program} {fn : Func} {t u v x : Tmp} (h : fn.results = #[.tmp t, .tmp u, .tmp v, .tmp x]) (tmps : Array Value) (w : World) :
    (results fn tmps).run P w = .ok (.tuple #[tmps.getD t undef, tmps.getD u undef, tmps.getD v undef, tmps.getD x undef]) w := by
  simp [results, h]
theorem lineP_bad {s : List UInt8} {j : Nat} (h : s[j]? = some 10) (hj : j + 1 < s.length) : lineP s = false := by
  unfold lineP
  have h1 : s.dropLast[j]? = some 10 := by rw [List.getElem?_dropLast, if_pos (by omega)]; exact h
  have h2 : 0 ≤ Lib.indexByte s.dropLast 10 := by
    have h3 := Lib.indexByte_ge s.dropLast 10
    rcases Int.lt_or_le (Lib.indexByte s.dropLast 10) 0 with q | q
    · exact absurd h1 (Lib.indexByte_none (by omega) j)
    · exact q
  simp [h2]
theorem lineP_good {s : List UInt8} (h0 : s ≠ []) (h : ∀ j, j + 1 < s.length → s[j]? ≠ some 10) : lineP s = true := by
  unfold lineP
  have h2 : ¬ 0 ≤ Lib.indexByte s.dropLast 10 := by
    intro q
    obtain ⟨o, ho⟩ : ∃ o : Nat, Lib.indexByte s.dropLast 10 = (o : Int) := ⟨(Lib.indexByte s.dropLast 10).toNat, by omega⟩
    have h3 := (Lib.indexByte_some ho).1
    have hlt : o < s.dropLast.length := (List.getElem?_eq_some_iff.1 h3).1
    rw [List.length_dropLast] at hlt
    rw [List.getElem?_dropLast, if_pos (by omega)] at h3
    exact h o (by omega) h3
  cases s with
  | nil => exact absurd rfl h0
  | cons x r => simp at h2 ⊢; omega
theorem byte_at {s : List UInt8} {i : Nat} {x : UInt8} (hx : s[i]? = some x) (h : i < (⟨s.toArray⟩ : ByteArray).size) : (⟨s.toArray⟩ : ByteArray)[i] = x := by
  obtain ⟨h1, h2⟩ := List.getElem?_eq_some_iff.1 hx
  exact h2
theorem byte_is {s : List UInt8} {i : Nat} {x : UInt8} {c : Nat} (hc : c < 256) (hx : s[i]? = some x) {h : i < (⟨s.toArray⟩ : ByteArray).size} {b : Bool} (hb : ((((⟨s.toArray⟩ : ByteArray)[i]'h).toNat : Int) == (c : Int)) = b) : decide (x = UInt8.ofNat c) = b := by
  rw [byte_at hx h] at hb
  rw [← hb, Bool.eq_iff_iff]
  simp only [decide_eq_true_eq, beq_iff_eq]
  constructor
  · rintro rfl
    have : (UInt8.ofNat c).toNat = c := by simp; omega
    omega
  · intro q
    apply UInt8.toNat_inj.1
    have : (UInt8.ofNat c).toNat = c := by simp; omega
    omega
theorem lineP_nil : lineP [] = false := rfl
def CountsPost (h : HkI) (w : World) (r : Ending) (w' : World) : Prop := ∃ x y z : Int, r = .returned (.tuple #[.int .i64 x, .int .i64 y, .int .i64 z, .bool (okH h)]) ∧ (∀ c, mayP h = some c → x = c.k ∧ y = c.d ∧ z = c.n) ∧ Keep Nothing w w'
theorem mayP_bad {h : HkI} {m : Bool} (hm : okH h = m) (hf : m = false) : ∀ c, mayP h = some c → False := fun c hc => by
  rw [hf] at hm
  unfold okH at hm
  rw [hc] at hm
  cases hm
set_option maxHeartbeats 4000000 in
set_option maxRecDepth 100000 in
theorem counts_any (h : HkI) (EA LA : Option Addr) (ec lc B : Nat) (w : World) (hB : B ≤ w.heap.size) (he : Reads w B 2 EA h.eds.length (edIs h.eds)) (hl : Reads w B 1 LA h.ls.length (strL h.ls)) (hel : h.eds.length ≤ 9223372036854775807) (hll : h.ls.length ≤ 9223372036854775807) (hls : ∀ s ∈ h.ls, s.length ≤ 9223372036854775806) :
    Calls Tryd.prog 32 #[.agg (hkC h EA ec LA lc)] w (CountsPost h w) := by
  have HP := Lib.hid (show CountsPost h w = fun r w' => ∃ x y z : Int, r = .returned (.tuple #[.int .i64 x, .int .i64 y, .int .i64 z, .bool (okH h)]) ∧ (∀ c, mayP h = some c → x = c.k ∧ y = c.d ∧ z = c.n) ∧ Keep Nothing w w' from rfl)
  have HR := Lib.hid (show ∀ W, Keep Nothing w W → Reads W B 2 EA h.eds.length (edIs h.eds) ∧ Reads W B 1 LA h.ls.length (strL h.ls) from fun W k => ⟨he.below (k.below hB (fun _ _ h => h)), hl.below (k.below hB (fun _ _ h => h))⟩)
  have HLS := Lib.hid hls
  rw [HP.out]
  clear he hl hls HP
  generalize hm : okH h = m
  have HM := Lib.hid hm
  clear hm
  go_enter Tryd.func32, Tryd.ntmps32
  go_upto_region 1 with (refine wpList_boxed rfl rfl rfl ?_)
  have x1 : Blk (w.alloc (.cells (hkC h EA ec LA lc) 38)) w.heap.size 38 (hkC h EA ec LA lc) := Blk.new _ _ _
  have k1 : Keep Nothing w (w.alloc (.cells (hkC h EA ec LA lc) 38)) := (Keep.refl _ w).alloc _
  have hz1 : w.heap.size < (w.alloc (.cells (hkC h EA ec LA lc) 38)).heap.size := x1.lt
  generalize w.heap.size = z0 at *
  generalize w.alloc (.cells (hkC h EA ec LA lc) 38) = w1 at *
  have c0 : w1.cell? ⟨z0, 0, none⟩ = some (.int .i64 h.a) := x1.cell 0
  have c1 : w1.cell? ⟨z0, 1, none⟩ = some (.int .i64 h.b) := x1.cell 1
  by_cases hp : placesP h = true
  case neg =>
    have hmf : m = false := by rw [← HM.out]; unfold okH mayP; rw [if_neg hp]; rfl
    have HBAD := Lib.hid (mayP_bad HM.out hmf)
    subst hmf
    have q5 : h.a < 0 ∨ (¬ h.a < 0 ∧ h.b < 0) ∨ (¬ h.a < 0 ∧ ¬ h.b < 0 ∧ 999999999 < h.a) ∨ (¬ h.a < 0 ∧ ¬ h.b < 0 ∧ ¬ 999999999 < h.a ∧ 999999999 < h.b) := by
      have := places_cases h (by simpa using hp)
      omega
    clear hp
    rcases q5 with q1 | ⟨q1, q2⟩ | ⟨q1, q2, q3⟩ | ⟨q1, q2, q3, q4⟩
    all_goals
      go_wp2_with fail
      refine bodyPost_ret (results_tmp4 rfl _ _) rfl ?_
      exact ⟨_, _, _, rfl, fun c hc => (HBAD.out c hc).elim, k1⟩
  case pos =>
    obtain ⟨q1, q2, q3, q4⟩ := places_true h hp
    have c2 : w1.cell? ⟨z0, 2, none⟩ = some (.slice EA h.eds.length ec) := x1.cell 2
    have c3 : w1.cell? ⟨z0, 3, none⟩ = some (.slice LA h.ls.length lc) := x1.cell 3
    go_upto_region 4 with fail
    clear q1 q2 q3 q4
    go_wp2_with fail
    go_loopw [6, 7, 8, 9, 10] (fun s6 s7 s8 s9 s10 wr => ∃ (k : Nat) (c : Cnt), k ≤ h.eds.length ∧ s6 = .int .i64 (c.k : Nat) ∧ s7 = .int .i64 (c.d : Nat) ∧ s8 = .int .i64 (c.n : Nat) ∧ s9 = .int .i64 ((h.ls.length : Int) - (c.all : Int)) ∧ s10 = .int .i64 (k : Nat) ∧ Keep Nothing w1 wr ∧ edsP h.ls.length none cnt0 h.eds = edsP h.ls.length (prevOp h.eds k) c (h.eds.drop k) ∧ c.all ≤ h.ls.length) (fun _ _ _ _ s10 _ => h.eds.length - (intOf s10).toNat)
    case atStart => exact ⟨0, cnt0, Nat.zero_le _, rfl, rfl, rfl, by simp [cnt0, Cnt.all], rfl, Keep.refl _ _, rfl, Nat.zero_le _⟩
    case round =>
      obtain ⟨k, c, hk, rfl, rfl, rfl, rfl, rfl, kr, hP, hca⟩ := hrel
      have x2 := x1.keep kr (fun h => h)
      have kw := k1.trans kr
      have HPP := Lib.hid hP
      clear hP
      by_cases hlt : k < h.eds.length
      · obtain ⟨e, hx⟩ : ∃ e, h.eds[k]? = some e := ⟨_, List.getElem?_eq_getElem hlt⟩
        obtain ⟨g, off, rfl, _, hc⟩ := (HR.out _ kw).1.at0 (by omega) (by omega)
        have L1 := Lib.hid (load_edI_at (w := wr) (fun j u hj => hc j u hj) hx)
        have HX := Lib.hid hx
        have hi0 : (0 : Int) ≤ (k : Int) := Int.natCast_nonneg _
        have hi1 : (k : Int) < (h.eds.length : Int) := by omega
        have c2 : wr.cell? ⟨z0, 2, none⟩ = some (.slice (some ⟨g, off, none⟩) h.eds.length ec) := x2.cell 2
        clear hc hx c0 c1 c3
        go_upto_region 9 with (first | (refine wpList_load rfl rfl rfl (by with_reducible exact L1.out) ?_) | (refine wpList_allocAgg rfl rfl (zero_edit _) ?_) | (refine wpList_storeBlk rfl rfl (vs := edIC e) rfl rfl (Blk.new _ _ _) rfl info_edit (edIC_one e) ?_; intro w2 x3 kc zc))
        go_frame
        have k2 : Keep Nothing wr w2 := Keep.ofNew kc
        generalize wr.heap.size = z1 at *
        clear kc zc L1
        have kw2 := kw.trans k2
        have kr2 := kr.trans k2
        have x4 := x2.keep k2 (fun h => h)
        have e0 : w2.cell? ⟨z1, 0, none⟩ = some (.int .i64 e.op) := x3.cell 0
        have e1 : w2.cell? ⟨z1, 1, none⟩ = some (.int .i64 e.n) := x3.cell 1
        have c2 : w2.cell? ⟨z0, 2, none⟩ = some (.slice (some ⟨g, off, none⟩) h.eds.length ec) := x4.cell 2
        have hstep := edsP_step (len := h.ls.length) (c := c) HX.out
        rw [← HPP.out] at hstep
        have HST := Lib.hid hstep
        clear hstep
        cases hb : badE h.ls.length (prevOp h.eds k) c e
        case true =>
          have hmf : m = false := by rw [← HM.out]; unfold okH mayP; rw [if_pos hp, HST.out, if_pos hb]; rfl
          have HBAD := Lib.hid (mayP_bad HM.out hmf)
          subst hmf
          have HB := Lib.hid (bad_cases hb)
          clear hb
          cases d1 : decide (e.op < 0)
          case true =>
            go_wp2_with fail
            go_big_quiet (fail)
            go_wp2_with fail
            refine bodyPost_ret (results_tmp4 rfl _ _) rfl ?_
            exact ⟨_, _, _, rfl, fun c hc => (HBAD.out c hc).elim, kw2.drewN _⟩
          cases d2 : decide (2 < e.op)
          case true =>
            go_wp2_with fail
            go_big_quiet (fail)
            go_wp2_with fail
            refine bodyPost_ret (results_tmp4 rfl _ _) rfl ?_
            exact ⟨_, _, _, rfl, fun c hc => (HBAD.out c hc).elim, kw2.drewN _⟩
          cases d3 : decide (e.n < 1)
          case true =>
            go_wp2_with fail
            go_big_quiet (fail)
            go_wp2_with fail
            refine bodyPost_ret (results_tmp4 rfl _ _) rfl ?_
            exact ⟨_, _, _, rfl, fun c hc => (HBAD.out c hc).elim, kw2.drewN _⟩
          have hq := HB.out
          simp only [decide_eq_false_iff_not] at d1 d2 d3
          obtain rfl | ⟨j, rfl⟩ : k = 0 ∨ ∃ j, k = j + 1 := by
            cases k with
            | zero => exact .inl rfl
            | succ j => exact .inr ⟨j, rfl⟩
          · have d5 : decide ((0 : Int) < ((0 : Nat) : Int)) = false := rfl
            have hlt4 : (h.ls.length : Int) - (c.all : Int) < e.n := by
              rcases hq with q | ⟨_, q⟩ | ⟨_, _, q⟩ | ⟨_, _, _, q⟩ | ⟨_, _, _, _, q⟩
              · exact absurd q d1
              · exact absurd q d2
              · exact absurd q d3
              · exact q
              · simp [prevOp] at q
            have d4 : decide ((h.ls.length : Int) - (c.all : Int) < e.n) = true := decide_eq_true hlt4
            have d1 : decide (e.op < 0) = false := decide_eq_false d1
            have d2 : decide (2 < e.op) = false := decide_eq_false d2
            have d3 : decide (e.n < 1) = false := decide_eq_false d3
            clear hq hlt4
            go_wp2_with fail
            go_big_quiet (fail)
            go_wp2_with fail
            refine bodyPost_ret (results_tmp4 rfl _ _) rfl ?_
            exact ⟨_, _, _, rfl, fun c hc => (HBAD.out c hc).elim, kw2.drewN _⟩
          · have hq2 : (h.ls.length : Int) - (c.all : Int) < e.n ∨ prevOp h.eds (j + 1) = some e.op := by
              rcases hq with q | ⟨_, q⟩ | ⟨_, _, q⟩ | ⟨_, _, _, q⟩ | ⟨_, _, _, _, q⟩
              · exact absurd q d1
              · exact absurd q d2
              · exact absurd q d3
              · exact .inl q
              · exact .inr q
            have d1 : decide (e.op < 0) = false := decide_eq_false d1
            have d2 : decide (2 < e.op) = false := decide_eq_false d2
            have d3 : decide (e.n < 1) = false := decide_eq_false d3
            clear hq
            obtain ⟨pe, hj⟩ : ∃ pe, h.eds[j]? = some pe := ⟨_, List.getElem?_eq_getElem (by omega)⟩
            obtain ⟨_, _, hA, _, hc⟩ := (HR.out _ kw2).1.at0 (by omega) (by omega)
            simp only [Option.some.injEq, Addr.mk.injEq, and_true] at hA
            obtain ⟨rfl, rfl⟩ := hA
            have p0 := hc _ _ (edIs_at hj).1
            clear hc
            have d5 : decide ((0 : Int) < ((j + 1 : Nat) : Int)) = true := by simp
            have s1 : IntKind.i64.wrap (((j + 1 : Nat) : Int) - 1) = (j : Int) := by rw [IntWalk.i64_in _ (by omega)]; omega
            have hj0 : (0 : Int) ≤ (j : Int) := Int.natCast_nonneg _
            have hj1 : (j : Int) < (h.eds.length : Int) := by omega
            have HQ2 := Lib.hid hq2
            clear hq2
            cases d6 : (pe.op == e.op)
            case true =>
              go_wp2_with fail
              go_big_quiet (fail)
              go_wp2_with fail
              refine bodyPost_ret (results_tmp4 rfl _ _) rfl ?_
              exact ⟨_, _, _, rfl, fun c hc => (HBAD.out c hc).elim, kw2.drewN _⟩
            case false =>
              have d4 : decide ((h.ls.length : Int) - (c.all : Int) < e.n) = true := by
                rcases HQ2.out with q | q
                · exact decide_eq_true q
                · simp only [prevOp, Nat.add_one_ne_zero, if_false, Nat.add_sub_cancel, hj, Option.map_some, Option.some.injEq] at q
                  rw [q] at d6
                  simp at d6
              go_wp2_with fail
              go_big_quiet (fail)
              go_wp2_with fail
              refine bodyPost_ret (results_tmp4 rfl _ _) rfl ?_
              exact ⟨_, _, _, rfl, fun c hc => (HBAD.out c hc).elim, kw2.drewN _⟩
        case false =>
          have hnb := badE_false hb
          have d1 : decide (e.op < 0) = false := decide_eq_false (by omega)
          have d2 : decide (2 < e.op) = false := decide_eq_false (by omega)
          have d3 : decide (e.n < 1) = false := decide_eq_false (by omega)
          have d4 : decide ((h.ls.length : Int) - (c.all : Int) < e.n) = false := decide_eq_false (by omega)
          obtain ⟨nn, hnn⟩ : ∃ n : Nat, e.n = (n : Int) := ⟨e.n.toNat, by omega⟩
          have hall : (addE c e).all = c.all + nn := by rw [addE_all]; omega
          have hca' : (addE c e).all ≤ h.ls.length := by omega
          have hk' : k + 1 ≤ h.eds.length := by omega
          have hcs : c.k ≤ c.all ∧ c.d ≤ c.all ∧ c.n ≤ c.all := by unfold Cnt.all; omega
          have hcn : c.all + nn ≤ h.ls.length := by omega
          have hws : IntKind.i64.wrap ((h.ls.length : Int) - (c.all : Int) - (nn : Int)) = (h.ls.length : Int) - (c.all : Int) - (nn : Int) := IntWalk.i64_in _ (by omega)
          have hwk : IntKind.i64.wrap ((c.k : Int) + (nn : Int)) = (c.k : Int) + (nn : Int) := IntWalk.i64_in _ (by omega)
          have hwd : IntKind.i64.wrap ((c.d : Int) + (nn : Int)) = (c.d : Int) + (nn : Int) := IntWalk.i64_in _ (by omega)
          have hwn : IntKind.i64.wrap ((c.n : Int) + (nn : Int)) = (c.n : Int) + (nn : Int) := IntWalk.i64_in _ (by omega)
          have h3 : e.op = 0 ∨ e.op = 1 ∨ e.op = 2 := by omega
          have HT := Lib.hid (show e.n.toNat = nn by omega)
          have HNE := Lib.hid hnb.2.2.2.2
          have HEND := Lib.hid (And.intro hall (And.intro hca' (And.intro hk' hb)))
          clear hnb hall hca' hk' hb hcs
          obtain rfl | ⟨j, rfl⟩ : k = 0 ∨ ∃ j, k = j + 1 := by
            cases k with
            | zero => exact .inl rfl
            | succ j => exact .inr ⟨j, rfl⟩
          · have d5 : decide ((0 : Int) < ((0 : Nat) : Int)) = false := rfl
            rw [hnn] at e1 d3 d4
            go_big_quiet (fail)
            go_upto_region 12 with fail
            clear d1 d2 d3 d4 d5
            obtain ⟨hall, hca', hk', hb⟩ := HEND.out
            have e0 : (w2.drewN nq).cell? ⟨z1, 0, none⟩ = some (.int .i64 e.op) := e0
            have e1 : (w2.drewN nq).cell? ⟨z1, 1, none⟩ = some (.int .i64 (nn : Int)) := e1
            have HKR := Lib.hid (kr2.drewN nq)
            have HHB := Lib.hid hb
            have HLL := Lib.hid hall
            clear hb hall
            rcases h3 with q | q | q
            · have HAD := Lib.hid (show addE c e = ⟨c.k + nn, c.d, c.n⟩ from by unfold addE; simp [q, HT.out])
              rw [q] at e0
              go_wp2_with fail
              go_roundw
              case rel => exact ⟨_, addE c e, hk', by rw [HAD.out] <;> go_num, by rw [HAD.out] <;> go_num, by rw [HAD.out] <;> go_num, by rw [HLL.out]; go_num, by go_num, HKR.out, HST.out.trans (if_neg (by simp [HHB.out])), hca'⟩
              case measure => simp [intOf]; omega
            · have HAD := Lib.hid (show addE c e = ⟨c.k, c.d + nn, c.n⟩ from by unfold addE; simp [q, HT.out])
              rw [q] at e0
              go_wp2_with fail
              go_roundw
              case rel => exact ⟨_, addE c e, hk', by rw [HAD.out] <;> go_num, by rw [HAD.out] <;> go_num, by rw [HAD.out] <;> go_num, by rw [HLL.out]; go_num, by go_num, HKR.out, HST.out.trans (if_neg (by simp [HHB.out])), hca'⟩
              case measure => simp [intOf]; omega
            · have HAD := Lib.hid (show addE c e = ⟨c.k, c.d, c.n + nn⟩ from by unfold addE; simp [q, HT.out])
              rw [q] at e0
              go_wp2_with fail
              go_roundw
              case rel => exact ⟨_, addE c e, hk', by rw [HAD.out] <;> go_num, by rw [HAD.out] <;> go_num, by rw [HAD.out] <;> go_num, by rw [HLL.out]; go_num, by go_num, HKR.out, HST.out.trans (if_neg (by simp [HHB.out])), hca'⟩
              case measure => simp [intOf]; omega
          · obtain ⟨pe, hj⟩ : ∃ pe, h.eds[j]? = some pe := ⟨_, List.getElem?_eq_getElem (by omega)⟩
            obtain ⟨_, _, hA, _, hc⟩ := (HR.out _ kw2).1.at0 (by omega) (by omega)
            simp only [Option.some.injEq, Addr.mk.injEq, and_true] at hA
            obtain ⟨rfl, rfl⟩ := hA
            have p0 := hc _ _ (edIs_at hj).1
            clear hc
            have d5 : decide ((0 : Int) < ((j + 1 : Nat) : Int)) = true := by simp
            have s1 : IntKind.i64.wrap (((j + 1 : Nat) : Int) - 1) = (j : Int) := by rw [IntWalk.i64_in _ (by omega)]; omega
            have hj0 : (0 : Int) ≤ (j : Int) := Int.natCast_nonneg _
            have hj1 : (j : Int) < (h.eds.length : Int) := by omega
            have d6 : (pe.op == e.op) = false := by
              have := HNE.out
              simp only [prevOp, Nat.add_one_ne_zero, if_false, Nat.add_sub_cancel, hj, Option.map_some, ne_eq, Option.some.injEq] at this
              simpa using this
            rw [hnn] at e1 d3 d4
            go_wp2_with fail
            go_big_quiet (fail)
            go_upto_region 12 with fail
            clear d1 d2 d3 d4 d5
            obtain ⟨hall, hca', hk', hb⟩ := HEND.out
            have e0 : (w2.drewN nq).cell? ⟨z1, 0, none⟩ = some (.int .i64 e.op) := e0
            have e1 : (w2.drewN nq).cell? ⟨z1, 1, none⟩ = some (.int .i64 (nn : Int)) := e1
            have HKR := Lib.hid (kr2.drewN nq)
            have HHB := Lib.hid hb
            have HLL := Lib.hid hall
            clear hb hall
            rcases h3 with q | q | q
            · have HAD := Lib.hid (show addE c e = ⟨c.k + nn, c.d, c.n⟩ from by unfold addE; simp [q, HT.out])
              rw [q] at e0
              go_wp2_with fail
              go_roundw
              case rel => exact ⟨_, addE c e, hk', by rw [HAD.out] <;> go_num, by rw [HAD.out] <;> go_num, by rw [HAD.out] <;> go_num, by rw [HLL.out]; go_num, by go_num, HKR.out, HST.out.trans (if_neg (by simp [HHB.out])), hca'⟩
              case measure => simp [intOf]; omega
            · have HAD := Lib.hid (show addE c e = ⟨c.k, c.d + nn, c.n⟩ from by unfold addE; simp [q, HT.out])
              rw [q] at e0
              go_wp2_with fail
              go_roundw
              case rel => exact ⟨_, addE c e, hk', by rw [HAD.out] <;> go_num, by rw [HAD.out] <;> go_num, by rw [HAD.out] <;> go_num, by rw [HLL.out]; go_num, by go_num, HKR.out, HST.out.trans (if_neg (by simp [HHB.out])), hca'⟩
              case measure => simp [intOf]; omega
            · have HAD := Lib.hid (show addE c e = ⟨c.k, c.d, c.n + nn⟩ from by unfold addE; simp [q, HT.out])
              rw [q] at e0
              go_wp2_with fail
              go_roundw
              case rel => exact ⟨_, addE c e, hk', by rw [HAD.out] <;> go_num, by rw [HAD.out] <;> go_num, by rw [HAD.out] <;> go_num, by rw [HLL.out]; go_num, by go_num, HKR.out, HST.out.trans (if_neg (by simp [HHB.out])), hca'⟩
              case measure => simp [intOf]; omega
      · obtain rfl : k = h.eds.length := by omega
        have hPE : edsP h.ls.length none cnt0 h.eds = some c := HPP.out.trans edsP_end
        have hM : m = (c.turns && (decide (c.all = h.ls.length) && h.ls.all lineP)) ∧ (m = true → mayP h = some c) := by
          rw [← HM.out]
          unfold okH mayP
          rw [if_pos hp, hPE]
          dsimp only
          split
          next q => rw [q]; exact ⟨rfl, fun _ => rfl⟩
          next q => simp only [Bool.not_eq_true] at q; rw [q]; exact ⟨rfl, fun h => by cases h⟩
        have HMM := Lib.hid hM
        clear hM hPE
        have c3 : wr.cell? ⟨z0, 3, none⟩ = some (.slice LA h.ls.length lc) := x2.cell 3
        have c2 : wr.cell? ⟨z0, 2, none⟩ = some (.slice EA h.eds.length ec) := x2.cell 2
        have HRL := Lib.hid (HR.out _ kw).2
        have KW := Lib.hid kw
        have hxx : ¬ (h.eds.length < h.eds.length) := Nat.lt_irrefl _
        clear c0 c1 x2 kr kw
        go_wp2_with fail
        clear hxx c2
        go_loopw [12] (fun s12 wi => ∃ j : Nat, wi = wr ∧ j ≤ h.ls.length ∧ s12 = .int .i64 (j : Nat) ∧ ∀ (i : Nat) (t : List UInt8), i < j → h.ls[i]? = some t → lineP t = true) (fun s12 _ => h.ls.length - (intOf s12).toNat)
        case atStart => exact ⟨0, rfl, Nat.zero_le _, rfl, fun i t hh => absurd hh (by omega)⟩
        case round =>
          obtain ⟨j, rfl, hj, rfl, hok⟩ := hrel
          have HOK := Lib.hid hok
          clear hok
          by_cases hjl : j < h.ls.length
          · obtain ⟨s, hs⟩ : ∃ s, h.ls[j]? = some s := ⟨_, List.getElem?_eq_getElem hjl⟩
            obtain ⟨gl, ol, rfl, _, hc1⟩ := HRL.out.at0 (by omega) (by omega)
            have d1 := hc1 _ _ (strL_at' hs)
            unfold strC at d1
            have hsl := HLS.out s (List.mem_of_getElem? hs)
            have hj0 : (0 : Int) ≤ (j : Int) := Int.natCast_nonneg _
            have hj1 : (j : Int) < (h.ls.length : Int) := by omega
            have HS := Lib.hid hs
            clear hc1 hs
            by_cases hs0 : s = []
            · subst hs0
              have hmf : m = false := by
                rw [HMM.out.1, show h.ls.all lineP = false from by
                  rw [List.all_eq_false]; exact ⟨[], List.mem_of_getElem? HS.out, by simp [lineP_nil]⟩]
                simp
              have HBAD := Lib.hid (mayP_bad HM.out hmf)
              subst hmf
              go_wp2_with fail
              refine bodyPost_ret (results_tmp4 rfl _ _) rfl ?_
              exact ⟨_, _, _, rfl, fun c hc => (HBAD.out c hc).elim, KW.out⟩
            · have hsb : (s == []) = false := by simpa using hs0
              go_wp2_with fail
              clear d1
              go_loopw [14] (fun s14 wi => ∃ i : Nat, wi = wr ∧ i ≤ s.length ∧ s14 = .int .i64 (i : Nat) ∧ ∀ (n : Nat), n < i → n + 1 < s.length → s[n]? ≠ some 10) (fun s14 _ => s.length - (intOf s14).toNat)
              case atStart => exact ⟨0, rfl, Nat.zero_le _, rfl, fun n hh => absurd hh (by omega)⟩
              case round =>
                obtain ⟨i, rfl, hi, rfl, hno⟩ := hrel
                have hw1 : IntKind.i64.wrap ((i : Int) + 1) = (i : Int) + 1 := IntWalk.i64_in _ (by omega)
                have HNO := Lib.hid hno
                clear hno
                by_cases hil : i + 1 < s.length
                · obtain ⟨x, hx⟩ : ∃ x, s[i]? = some x := ⟨_, List.getElem?_eq_getElem (by omega)⟩
                  have hi0 : (0 : Int) ≤ (i : Int) := Int.natCast_nonneg _
                  have hi1 : (i : Int) + 1 < (s.length : Int) := by omega
                  have hi2 : (i : Int) < (s.length : Int) := by omega
                  go_upto_region 28 with fail
                  have HX := Lib.hid hx
                  have HIL := Lib.hid hil
                  clear hx
                  go_wp2_with fail
                  · rename_i hc
                    have h10 := byte_is (c := 10) (by decide) HX.out hc
                    have h11 : s[i]? = some 10 := by rw [HX.out, of_decide_eq_true h10]; rfl
                    have hmf : m = false := by
                      rw [HMM.out.1, show h.ls.all lineP = false from by
                        rw [List.all_eq_false]; exact ⟨s, List.mem_of_getElem? HS.out, by simp [lineP_bad h11 HIL.out]⟩]
                      simp
                    have HBAD := Lib.hid (mayP_bad HM.out hmf)
                    subst hmf
                    refine bodyPost_ret (results_tmp4 rfl _ _) rfl ?_
                    exact ⟨_, _, _, rfl, fun c hc => (HBAD.out c hc).elim, KW.out⟩
                  · rename_i hc
                    have h10 := byte_is (c := 10) (by decide) HX.out hc
                    go_roundw
                    case rel =>
                      refine ⟨i + 1, by first | trivial | rfl, by have := HIL.out; omega, by go_num, fun n q1 q2 => ?_⟩
                      rcases Nat.lt_or_ge n i with q | q
                      · exact HNO.out n q q2
                      · obtain rfl : n = i := by omega
                        rw [HX.out]
                        intro hx0
                        injection hx0 with hx0
                        exact (of_decide_eq_false h10) hx0
                    case measure => have := HIL.out; simp [intOf]; omega
                · have hi1 : ¬ ((i : Int) + 1 < (s.length : Int)) := by omega
                  have HGOOD := Lib.hid (show lineP s = true from lineP_good hs0 fun n q => HNO.out n (by omega) q)
                  clear HNO
                  go_wp2_with fail
                  go_roundw
                  case rel =>
                    refine ⟨j + 1, by first | trivial | rfl, by omega, by go_num, fun i2 t q1 q2 => ?_⟩
                    rcases Nat.lt_or_ge i2 j with q | q
                    · exact HOK.out i2 t q q2
                    · obtain rfl : i2 = j := by omega
                      rw [HS.out] at q2
                      injection q2 with q2
                      rw [← q2]
                      exact HGOOD.out
                  case measure => simp [intOf]; omega
          · obtain rfl : j = h.ls.length := by omega
            have hall : h.ls.all lineP = true := by
              rw [List.all_eq_true]
              intro t ht
              obtain ⟨n, hn, rfl⟩ := List.mem_iff_getElem.1 ht
              exact HOK.out n _ hn (List.getElem?_eq_getElem hn)
            have hmm := HMM.out
            rw [hall, Bool.and_true] at hmm
            have HMM := Lib.hid hmm
            have hd : c.d + c.n ≤ c.all := by unfold Cnt.all; omega
            have hwd : IntKind.i64.wrap ((c.d : Int) + (c.n : Int)) = (c.d : Int) + (c.n : Int) := IntWalk.i64_in _ (by omega)
            clear hall hmm HOK
            by_cases hz : c.all = h.ls.length
            · have hl0 : ((h.ls.length : Int) - (c.all : Int) == 0) = true := by simp; omega
              have HF := Lib.hid (show decide ((0 : Int) < (c.d : Int) + (c.n : Int)) = m from by
                rw [HMM.out.1, decide_eq_true hz]
                unfold Cnt.turns
                rw [Bool.and_true]
                exact decide_eq_decide.2 (by omega))
              clear hd
              go_wp2_with fail
              refine bodyPost_ret (results_tmp4 rfl _ _) rfl ?_
              refine ⟨_, _, _, by rw [← HF.out]; rfl, fun c' hc => ?_, KW.out⟩
              have : m = true := by rw [← HM.out]; unfold okH; rw [hc]; rfl
              have h5 := HMM.out.2 this
              rw [hc] at h5
              injection h5 with h5
              subst h5
              exact ⟨rfl, rfl, rfl⟩
            · have hl0 : ((h.ls.length : Int) - (c.all : Int) == 0) = false := by simp; omega
              have hmf : m = false := by rw [HMM.out.1, decide_eq_false hz]; simp
              have HBAD := Lib.hid (mayP_bad HM.out hmf)
              subst hmf
              clear hd
              go_wp2_with fail
              refine bodyPost_ret (results_tmp4 rfl _ _) rfl ?_
              exact ⟨_, _, _, rfl, fun c hc => (HBAD.out c hc).elim, KW.out⟩
end Go.Proofs.YtlcidbbpjlpmjaaDoor
