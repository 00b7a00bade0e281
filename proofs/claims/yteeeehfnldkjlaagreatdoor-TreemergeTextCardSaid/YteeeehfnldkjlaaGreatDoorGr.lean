/-
  The law walk of TreemergeText. No statement of the seat is proved here.
-/
import Derived.Test.YteeeehfnldkjlaaGreatDoorGla
import Derived.Test.YteeeehfnldkjlaaGreatDoorWk
import Derived.Test.YteeeehfnldkjlaaGreatDoorGs
import Derived.BigRegion
namespace Go.Proofs.YteeeehfnldkjlaaGreatDoor
open Go.RowKit Go.Maps
theorem elemRow : Elem Tryz.prog 58 22 1 24 := by
  refine ⟨Tryz.underlying58, ?_, by decide⟩
  obtain ⟨i, hi, h1, h2, h3⟩ := info_parts (show (Tryz.prog.info? 22).map (fun i => (i.zero, i.size, i.bytes)) = some (some (.slice none 0 0), 1, 24) by kernel_rfl)
  exact ⟨i, _, hi, h1, h2, h3, rfl⟩
/-- Rows of one file each. -/
def oneL (S : List (Option Addr × Nat)) : List Value := S.map fun p => .slice p.1 1 p.2
theorem oneL_one (S : List (Option Addr × Nat)) : ∀ v ∈ oneL S, v.oneCell' = true := by
  intro v hv
  obtain ⟨s, _, rfl⟩ := List.mem_map.1 hv
  rfl
theorem conv_str {W : World} {B c : Nat} {A : Option Addr} {d : List UInt8} (h : Reads W B 1 A d.length (d.map byteV)) : (convert 39 9 (.slice A d.length c)).run Tryz.prog W = .ok (strC d) W := by
  rw [run_convert_bytes_string _ 39 9 5 A d.length c Tryz.underlying39 Tryz.underlying5 Tryz.underlying9, run_str_of h]
  rfl
theorem eqlClash (x y : ClashD) (W : World) : (binOp .eql 44 (clashV x) (clashV y)).run Tryz.prog W = .ok (.bool (decide (x = y))) W := by
  have e : decide (x = y) = (decide (x.p = y.p) && decide (x.why = y.why)) := by
    rw [← Bool.decide_and]
    exact decide_eq_decide.2 ⟨fun h => by rw [h]; exact ⟨rfl, rfl⟩, fun h => by cases x; cases y; simp_all⟩
  rw [e]
  unfold clashV clashL strC
  go_simp
  by_cases h1 : x.p = y.p
  · by_cases h2 : x.why = y.why
    · simp [h1, h2]
    · have : ¬ (x.why : Int) = (y.why : Int) := by omega
      simp [h1, h2, this]
  · simp [h1]
theorem eqlClashG (a b : Operand) (x y : ClashD) (W : World) : (eqGuard .eql 44 a b (clashV x) (clashV y)).run Tryz.prog W = .ok () W := by
  unfold clashV clashL strC
  go_simp
set_option maxRecDepth 100000 in
theorem bdClash (p : List UInt8) (n : Nat) (W : World) : (Instr.build 44 #[(0, strC p), (1, .int .i64 (n : Nat))]).run Tryz.prog W = .ok (clashV ⟨p, n⟩) W := by
  unfold strC clashV clashL
  go_simp
  rfl
set_option maxRecDepth 100000 in
theorem eqlTx (W : World) : (binOp .eql 44 (clashV ⟨[100, 47, 102], 1⟩) (.agg #[.string ⟨#[100, 47, 102]⟩, .int .i64 1])).run Tryz.prog W = .ok (.bool true) W := by kernel_rfl
set_option maxRecDepth 100000 in
theorem eqlTxG (a b : Operand) (W : World) : (eqGuard .eql 44 a b (clashV ⟨[100, 47, 102], 1⟩) (.agg #[.string ⟨#[100, 47, 102]⟩, .int .i64 1])).run Tryz.prog W = .ok () W := by kernel_rfl
theorem oneL_sl (S : List (Option Addr × Nat)) : ∀ v ∈ oneL S, isSl v := by
  intro v hv
  obtain ⟨s, _, rfl⟩ := List.mem_map.1 hv
  exact ⟨_, _, _, rfl⟩
theorem zeroRow (z : Value) (h : (Tryz.prog.info? 22).bind (·.zero) = some z) : isSl (z.cells[0]!) := by
  rw [show (Tryz.prog.info? 22).bind (·.zero) = some (.slice none 0 0) by kernel_rfl] at h
  injection h with h
  subst h
  exact ⟨none, 0, 0, rfl⟩
attribute [local go_sem] run_eql_strC run_neq_strC eqGuard_strC neGuard_strC
attribute [local go_sem] eqlTx eqlTxG
attribute [local go_sem ↓] ld_f ld_cl
set_option maxHeartbeats 4000000 in
set_option maxRecDepth 100000 in
theorem text_law (b o t : List UInt8) (A1 A2 A3 : Option Addr) (c1 c2 c3 B : Nat) (w : World) (hB : B ≤ w.heap.size) (h1 : Reads w B 1 A1 b.length (b.map byteV)) (h2 : Reads w B 1 A2 o.length (o.map byteV)) (h3 : Reads w B 1 A3 t.length (t.map byteV)) (d1 : b.length ≤ c1 ∧ c1 ≤ maxLen) (d2 : o.length ≤ c2 ∧ c2 ≤ maxLen) (d3 : t.length ≤ c3 ∧ c3 ≤ maxLen) (hv : VarM w) :
    Calls Tryz.prog 13 #[.slice A1 b.length c1, .slice A2 o.length c2, .slice A3 t.length c3] w fun e w' => e = .returned (.bool true) ∧ Below w.heap.size w w' := by
  obtain ⟨z, hz⟩ : ∃ z, w.heap.size = z := ⟨_, rfl⟩
  have HK := Lib.hid (known17_any w hv)
  rw [hz] at HK hB
  rw [hz]
  have HI := Lib.hid (And.intro h1 (And.intro h2 h3))
  have HC := Lib.hid (And.intro d1 (And.intro d2 d3))
  have HV := Lib.hid hv
  clear h1 h2 h3 d1 d2 d3 hv
  go_enter Tryz.func13, Tryz.ntmps13
  go_upto_region 3 with (go_at_call 14; (with_reducible refine HK.out.mono ?_); rintro _ w1 ⟨rfl, hb1⟩; have HB1 := Lib.hid hb1; clear hb1)
  clear HK
  by_cases q1 : 500 < b.length
  · have q1' : (500 : Int) < (b.length : Int) := by omega
    go_wp2_with fail
    go_ret
    exact ⟨rfl, HB1.out⟩
  by_cases q2 : 500 < o.length
  · have q1' : ¬ (500 : Int) < (b.length : Int) := by omega
    have q2' : (500 : Int) < (o.length : Int) := by omega
    go_wp2_with fail
    go_ret
    exact ⟨rfl, HB1.out⟩
  by_cases q3 : 500 < t.length
  · have q1' : ¬ (500 : Int) < (b.length : Int) := by omega
    have q2' : ¬ (500 : Int) < (o.length : Int) := by omega
    have q3' : (500 : Int) < (t.length : Int) := by omega
    go_wp2_with fail
    go_ret
    exact ⟨rfl, HB1.out⟩
  have q1' : ¬ (500 : Int) < (b.length : Int) := by omega
  have q2' : ¬ (500 : Int) < (o.length : Int) := by omega
  have q3' : ¬ (500 : Int) < (t.length : Int) := by omega
  obtain ⟨q, hq⟩ : ∃ q, w1.heap.size = q := ⟨_, rfl⟩
  have HZQ := Lib.hid (show z ≤ q from by rw [← hq, ← hz]; exact HB1.out.size)
  go_upto_region 5 with fail
  go_cut [7] (fun s7 wx => s7 = .slice (some ⟨q, 0, none⟩) 3 3 ∧ Hid (Blk wx q 39 #[.slice A1 b.length c1, .slice A2 o.length c2, .slice A3 t.length c3]) ∧ Hid (wx.heap.size = q + 1) ∧ Hid (Below q w1 wx))
  case first =>
    go_wp2_with fail
    go_meet
    exact ⟨rfl, Lib.hid (blk_new_at _ _ _ _ hq), Lib.hid (size_at _ _ _ hq), Lib.hid (below_at _ hq)⟩
  case rest =>
    obtain ⟨rfl, HR, HS, HBR⟩ := hcut
    generalize wc = w2 at *
    have HQ := Lib.hid (show b.length ≤ 500 ∧ o.length ≤ 500 ∧ t.length ≤ 500 from ⟨by omega, by omega, by omega⟩)
    clear q1 q2 q3 q1' q2' q3' hq
    have HB2 := Lib.hid (show Below z w w2 from HB1.out.trans (HBR.out.mono HZQ.out))
    clear HB1 HBR
    have HRW := Lib.hid (show ∀ n : Nat, n < 3 → ∃ (A' : Option Addr) (d : List UInt8) (c' : Nat), (#[Value.slice A1 b.length c1, .slice A2 o.length c2, .slice A3 t.length c3] : Array Value)[n]? = some (.slice A' d.length c') ∧ [b, o, t][n]? = some d ∧ Reads w B 1 A' d.length (d.map byteV) ∧ d.length ≤ 500 ∧ d.length ≤ c' ∧ c' ≤ maxLen from by
      intro n hn
      rcases (by omega : n = 0 ∨ n = 1 ∨ n = 2) with rfl | rfl | rfl
      · exact ⟨A1, b, c1, rfl, rfl, HI.out.1, HQ.out.1, HC.out.1⟩
      · exact ⟨A2, o, c2, rfl, rfl, HI.out.2.1, HQ.out.2.1, HC.out.2.1⟩
      · exact ⟨A3, t, c3, rfl, rfl, HI.out.2.2, HQ.out.2.2, HC.out.2.2⟩)
    go_wp2_with fail
    go_loopw [8, 9] (fun s8 s9 wr => ∃ (n : Nat) (A : Option Addr) (c : Nat) (S : List (Option Addr × Nat)), s8 = .slice A n c ∧ s9 = .int .i64 (n : Nat) ∧ n ≤ 3 ∧ Hid (S.length = n) ∧ Hid (Own wr (q + 1) 22 1 A n c (oneL S)) ∧ Hid (AllC wr A isSl) ∧ Hid (Below (q + 1) w2 wr) ∧ Hid (∀ (k : Nat) (p : Option Addr × Nat) (d : List UInt8), S[k]? = some p → [b, o, t][k]? = some d → FI wr wr.heap.size p.1 [txF d])) (fun _ s9 _ => 3 - (intOf s9).toNat)
    case atStart => exact ⟨0, none, 0, [], rfl, rfl, by omega, Lib.hid rfl, Lib.hid (Own.nil _ _ _ _), Lib.hid (AllC.nil_ _ _), Lib.hid (Below.refl _ _), Lib.hid fun k p d h => by simp at h⟩
    case round =>
      obtain ⟨n, A, c, S, rfl, rfl, hn, HL, HO, HA, HBW, HF⟩ := hrel
      by_cases hn3 : n < 3
      · obtain ⟨A', d, c', hcell, hd, hrd, hdl, hdc, hcm⟩ := HRW.out n hn3
        have hc : wr.cell? ⟨q, n, none⟩ = some (.slice A' d.length c') := ((HR.out.below HBW.out (by omega)).cell n).trans hcell
        have hn3' : (n : Int) < 3 := by omega
        obtain ⟨u, hu⟩ : ∃ u, wr.heap.size = u := ⟨_, rfl⟩
        have huq : q + 1 ≤ u := by rw [← hu, ← HS.out]; exact HBW.out.size
        have hrw : Reads wr u 1 A' d.length (d.map byteV) := (hrd.below ((HB2.out.trans (HBW.out.mono (by have := HZQ.out; omega))).mono hB)).more (by have := HZQ.out; omega)
        have hf : FI (wr.alloc (.cells (fileC (txF d) A' c') 41)) (u + 1) (some ⟨u, 0, none⟩) [txF d] := by
          have := fi_one (W := wr.alloc (.cells (fileC (txF d) A' c') 41)) (g := u) (B := u) (f := txF d) (D := A') (d := c') (blk_new_at _ _ _ _ hu) (hrw.below (below_at _ hu)) (by rw [size_at _ _ _ hu]; omega) hdc hcm
          rwa [size_at _ _ _ hu] at this
        have hg := good_any [txF d] (some ⟨u, 0, none⟩) 1 (u + 1) (wr.alloc (.cells (fileC (txF d) A' c') 41)) (by rw [size_at _ _ _ hu]; omega) hf (by intro f hf; rw [List.mem_singleton] at hf; subst hf; show 3 ≤ 100000000; omega)
        rw [tx_good (by omega), size_at _ _ _ hu] at hg
        have HG := Lib.hid hg
        have HBA := Lib.hid (below_at (.cells (fileC (txF d) A' c') 41) hu)
        clear hg hf hcell hrd hdc hcm hrw
        go_wp2_with (first
          | (refine wpList_buildSlice1 rfl elemFile rfl zero_file rfl rfl (by omega) rfl ?_)
          | (go_at_call 21; (refine HG.out.mono ?_); rintro _ w4 ⟨AB, cb, rfl, hf4, hb4⟩; have HF4 := Lib.hid hf4; have HB4 := Lib.hid (HBA.out.trans (hb4.mono (Nat.le_succ u))); have HS4 := Lib.hid (show u + 1 ≤ w4.heap.size from (by have := hb4.size; rw [size_at _ _ _ hu] at this; exact this)); have HO4 := Lib.hid (HO.out.kept (Kept.ofBelow (base := 0) (E := []) (G := []) (hu.symm ▸ HB4.out)) (by simp) (by simp)); have HA4 := Lib.hid (show ∀ o, AllC (w4.alloc o) A isSl from fun o => HA.out.same fun a ha => (heap_alloc_old w4 o (by have := (HO.out.blkA a ha).2.1; have := HS4.out; omega)).trans (HB4.out.block a.block (by have := (HO.out.blkA a ha).2.1; omega))); clear hf4 hb4)
          | (at_builtin; refine wpList_append_f rfl elemRow rfl rfl (n := n) (xs := oneL S) (HO4.out.alloc _) (by omega) rfl (Reads.of_blk (n := 1) (size := 1) (xs := oneL [(AB, cb)]) (heap_alloc_new _ _) rfl rfl) (oneL_one _) (by unfold maxLen; omega) (by omega) (by have := HS4.out; simp; omega) (HA4.out _) (oneL_sl S) (oneL_sl _) zeroRow ?_; intro A7 c7 w7 o7 k7 s7 h7; have HO7 := Lib.hid o7; have HK7 := Lib.hid k7; have HS7 := Lib.hid s7; have HA7 := Lib.hid h7; clear o7 k7 s7 h7))
        have hq4 : q + 1 ≤ w4.heap.size := by have := HS4.out; omega
        have HB7 := Lib.hid (show Below (q + 1) w4 w7 from ((Below.refl _ w4).alloc hq4 _).trans (HK7.out.below (Nat.le_refl _) (by simp; omega) (by simp)))
        have HZ7 := Lib.hid (show w4.heap.size + 1 ≤ w7.heap.size from by have := (HK7.out.below (Nat.le_refl _) (by simp; omega) (by simp)).size; simpa using this)
        have HFA := Lib.hid (fun (P : Option Addr) (f : FileD) (h : FI w4 w4.heap.size P [f]) => show FI w7 w7.heap.size P [f] from (fi_skip (h.below ((Below.refl _ w4).alloc (Nat.le_refl _) _)) (by simp) (fun b hb hn => (HS7.out b hb hn).1) (HA4.out _)).more (by have := HZ7.out; omega))
        clear HK7 HS7 HA4 hc
        go_roundw
        case rel =>
          refine ⟨n + 1, A7, c7, S ++ [(AB, cb)], rfl, by go_num, by omega, Lib.hid (by rw [List.length_append, HL.out]; rfl), Lib.hid (by have := HO7.out; unfold oneL at this ⊢; rw [List.map_append]; exact this), HA7, Lib.hid ?_, Lib.hid fun k p d' h1 h2 => ?_⟩
          · exact HBW.out.trans ((HB4.out.mono huq).trans HB7.out)
          · by_cases hkn : k < n
            · rw [List.getElem?_append_left (by rw [HL.out]; exact hkn)] at h1
              exact HFA.out p.1 (txF d') (((HF.out k p d' h1 h2).below (hu.symm ▸ HB4.out)).more (by have := HS4.out; omega))
            · rw [List.getElem?_append_right (by rw [HL.out]; omega), HL.out] at h1
              have hk0 : k = n := by
                have := (List.getElem?_eq_some_iff.1 h1).1
                simp at this
                omega
              subst hk0
              rw [Nat.sub_self] at h1
              injection h1 with h1
              subst h1
              rw [hd] at h2
              injection h2 with h2
              subst h2
              exact HFA.out AB (txF d) HF4.out
        case measure => simp [intOf]; omega
      · obtain rfl : n = 3 := by omega
        clear HRW hn
        obtain ⟨p0, p1, p2, rfl⟩ : ∃ p0 p1 p2, S = [p0, p1, p2] := by
          have := HL.out
          rcases S with _ | ⟨a0, _ | ⟨a1, _ | ⟨a2, _ | ⟨a3, l⟩⟩⟩⟩ <;> simp at this
          exact ⟨a0, a1, a2, rfl⟩
        have f0 := HF.out 0 p0 b rfl rfl
        have f1 := HF.out 1 p1 o rfl rfl
        have f2 := HF.out 2 p2 t rfl rfl
        obtain ⟨gl, eA, _⟩ := HO.out.adrn (by omega)
        subst eA
        have hgl := (HO.out.blkA _ rfl).2.1
        have hd3 : Below wr.heap.size wr wr.drew := (Below.refl _ wr).drew
        have l0 : wr.drew.cell? ⟨gl, 0, none⟩ = some (.slice p0.1 1 p0.2) := (World.ownsRow.cellAt HO.out 0 (by omega)).trans rfl
        have l1 : wr.drew.cell? ⟨gl, 1, none⟩ = some (.slice p1.1 1 p1.2) := (World.ownsRow.cellAt HO.out 1 (by omega)).trans rfl
        have l2 : wr.drew.cell? ⟨gl, 2, none⟩ = some (.slice p2.1 1 p2.2) := (World.ownsRow.cellAt HO.out 2 (by omega)).trans rfl
        obtain ⟨r, v, hm, hrl, hsame, hv01⟩ := tx_table HQ.out.1 HQ.out.2.1 HQ.out.2.2
        have hzr : Below z w wr := HB2.out.trans (HBW.out.mono (by have := HZQ.out; omega))
        have hm0 := merge_comes (b := [txF b]) (o := [txF o]) (t := [txF t]) (x := [txF r]) p0.1 p1.1 p2.1 p0.2 p1.2 p2.2 wr.heap.size wr.drew (Nat.le_refl _) (f0.below hd3) (f1.below hd3) (f2.below hd3) (HV.out.below (hzr.trans (hd3.mono (by rw [← hz]; exact hzr.size))) (hz ▸ HV.out.pos)) (by intro f hf; rw [List.mem_singleton] at hf; subst hf; show 3 ≤ 1000000; omega) (by intro f hf; rw [List.mem_singleton] at hf; subst hf; show 3 ≤ 1000000; omega) (by intro f hf; rw [List.mem_singleton] at hf; subst hf; show 3 ≤ 1000000; omega) hm
        have HM := Lib.hid (show Calls Tryz.prog 16 #[.slice p0.1 1 p0.2, .slice p1.1 1 p1.2, .slice p2.1 1 p2.2] wr.drew (MergeOk [txF r] v wr.drew) from hm0)
        clear hm0
        have HSA := Lib.hid hsame
        have HV1 := Lib.hid hv01
        have HRL := Lib.hid hrl
        have HZR := Lib.hid hzr
        clear f0 f1 f2 hd3 hm hsame hv01 hrl hzr HF HO HA HL HBW HB2 HR HS
        go_upto_region 11 with fail
        go_cut [10, 11, 12] (fun s10 s11 s12 wx => ∃ R rc V vc, s10 = .slice R 1 rc ∧ s11 = .slice V v.length vc ∧ s12 = .int .i64 0 ∧ Hid (FI wx wx.heap.size R [txF r]) ∧ Hid (Reads wx wx.heap.size 2 V v.length (v.flatMap clashL)) ∧ Hid (Below z w wx))
        case first =>
          have HGL := Lib.hid (show gl < wr.drew.heap.size from hgl)
          go_region_held3 (fun w' => w'.cell? ⟨gl, 0, none⟩ = some (.slice p0.1 1 p0.2) ∧ w'.cell? ⟨gl, 1, none⟩ = some (.slice p1.1 1 p1.2) ∧ w'.cell? ⟨gl, 2, none⟩ = some (.slice p2.1 1 p2.2)) (first | go_keep) (first | (go_simp; go_at_call 16; (with_reducible refine HM.out.mono ?_); rintro _ w5 ⟨R, rc, V, vc, rfl, hf5, ho5, hb5⟩; have HF5 := Lib.hid hf5; have HO5 := Lib.hid ho5.reads; have HB5 := Lib.hid (HZR.out.trans (((Below.refl _ wr).drew.trans hb5).mono (by rw [← hz]; exact HZR.out.size))); have m0 := (hb5.cell (p := ⟨gl, 0, none⟩) HGL.out).trans l0; have m1 := (hb5.cell (p := ⟨gl, 1, none⟩) HGL.out).trans l1; have m2 := (hb5.cell (p := ⟨gl, 2, none⟩) HGL.out).trans l2; clear hf5 ho5 hb5))
          all_goals
            go_wp2_with fail
            go_meet
            exact ⟨R, rc, V, vc, rfl, rfl, rfl, HF5, HO5, HB5⟩
        case rest =>
          obtain ⟨R, rc, V, vc, rfl, rfl, rfl, HF5, HO5, HB5⟩ := hcut
          clear HM l0 l1 l2 HZR
          generalize wc = w5 at *
          obtain ⟨g5, o5, DA, dc, eA, _, _, e0, _, e2, _, _, r1⟩ := HF5.out.at_ (k := 0) rfl
          subst eA
          rw [Nat.zero_mul, Nat.add_zero] at e0 e2
          replace e0 : w5.cell? ⟨g5, o5, none⟩ = some (.string ⟨#[100, 47, 102]⟩) := e0
          replace e2 : w5.cell? ⟨g5, o5 + 2, none⟩ = some (.slice DA r.length dc) := e2
          replace r1 : Reads w5 w5.heap.size 1 DA r.length (r.map byteV) := r1
          have hd5 : Below w5.heap.size w5 w5.drew := (Below.refl _ w5).drew
          have hz5 : z ≤ w5.heap.size := by rw [← hz]; exact HB5.out.size
          have i1 := HI.out.1.below (HB5.out.mono hB)
          have i2 := HI.out.2.1.below (HB5.out.mono hB)
          have i3 := HI.out.2.2.below (HB5.out.mono hB)
          have k1 : (convert 39 9 (.slice A1 b.length c1)).run Tryz.prog w5 = .ok (strC b) w5 := conv_str i1
          have k2 : (convert 39 9 (.slice A2 o.length c2)).run Tryz.prog w5 = .ok (strC o) w5 := conv_str i2
          have k3 : (convert 39 9 (.slice A3 t.length c3)).run Tryz.prog w5 = .ok (strC t) w5 := conv_str i3
          have k5 : (convert 39 9 (.slice A2 o.length c2)).run Tryz.prog w5.drew = .ok (strC o) w5.drew := conv_str i2
          have k6 : (convert 39 9 (.slice A3 t.length c3)).run Tryz.prog w5.drew = .ok (strC t) w5.drew := conv_str i3
          have k7 : (convert 39 9 (.slice DA r.length dc)).run Tryz.prog w5.drew = .ok (strC r) w5.drew := conv_str r1
          have HBL := Lib.hid (show Below z w w5.drew from HB5.out.trans (hd5.mono hz5))
          clear i1 i2 i3 r1 hd5 hz5 HI
          by_cases q1 : o = t ∨ o = b ∨ t = b
          · obtain ⟨rfl, hr⟩ := HSA.out q1
            clear HSA HV1
            by_cases q2 : o = b
            · subst q2
              rw [if_pos rfl] at hr
              subst hr
              have b2 : (o == o) = true := beq_self_eq_true _
              clear q1
              cases b1 : (o == r) with
              | true =>
                go_upto_region 19 with fail
                go_region
                go_wp2_with fail
                go_ret
                exact ⟨by simp, HBL.out⟩
              | false =>
                go_upto_region 19 with fail
                go_region
                go_wp2_with fail
                go_ret
                exact ⟨by simp, HBL.out⟩
            · rw [if_neg q2] at hr
              subst hr
              have b2 : (r == b) = false := beq_eq_false_iff_ne.2 q2
              by_cases q3 : r = t
              · have b1 : (r == t) = true := beq_iff_eq.2 q3
                clear q1 q2 q3
                go_upto_region 19 with fail
                go_region
                go_wp2_with fail
                go_ret
                exact ⟨by simp, HBL.out⟩
              · have b1 : (r == t) = false := beq_eq_false_iff_ne.2 q3
                have b3 : (t == b) = true := beq_iff_eq.2 (by rcases q1 with q | q | q; exact absurd q q3; exact absurd q q2; exact q)
                clear q1 q2 q3
                go_upto_region 19 with fail
                go_region
                go_wp2_with fail
                go_ret
                exact ⟨by simp, HBL.out⟩
          · have b1 : (o == t) = false := beq_eq_false_iff_ne.2 fun q => q1 (.inl q)
            have b2 : (o == b) = false := beq_eq_false_iff_ne.2 fun q => q1 (.inr (.inl q))
            have b3 : (t == b) = false := beq_eq_false_iff_ne.2 fun q => q1 (.inr (.inr q))
            clear q1 HSA
            rcases HV1.out with rfl | rfl
            · go_wp2_with fail
              go_ret
              exact ⟨rfl, HB5.out⟩
            · obtain ⟨gv, ov, eV, hl⟩ := clash_load (k := 0) HO5.out rfl
              subst eV
              rw [Nat.zero_mul, Nat.add_zero] at hl
              clear HV1 HO5
              go_wp2_with fail
              go_ret
              exact ⟨by simp, HB5.out⟩
end Go.Proofs.YteeeehfnldkjlaaGreatDoor
