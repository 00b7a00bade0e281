/-
  Contract of patch's head. No statement of the seat is proved here.
-/
import Derived.Test.YtlcidbbpjlpmjaaDoorPh
import Derived.Test.YtlcidbbpjlpmjaaDoorShelf
import Derived.Lib.AtoiErrMem
import Derived.Deep.QuietTactic
import Derived.BigRegion
namespace Go.Proofs.YtlcidbbpjlpmjaaDoor
open Go.RowKit

/-- What the library's variables must hold. -/
structure VarsOK (w : World) : Prop where
  m : ∃ m, w.cell? ⟨0, 0, none⟩ = some (.int .i64 m)
  s : ∃ t p, w.cell? ⟨2, 0, none⟩ = some (.iface t p)
  r : ∃ t p, w.cell? ⟨3, 0, none⟩ = some (.iface t p)
theorem VarsOK.below {w w' : World} (h : VarsOK w) (hb : Below w.heap.size w w') : VarsOK w' := by
  obtain ⟨⟨m, h1⟩, ⟨t, p, h2⟩, ⟨t', p', h3⟩⟩ := h
  exact ⟨⟨m, (hb.cell (World.block_lt_of_cell? w _ h1)).trans h1⟩, ⟨t, p, (hb.cell (World.block_lt_of_cell? w _ h2)).trans h2⟩, ⟨t', p', (hb.cell (World.block_lt_of_cell? w _ h3)).trans h3⟩⟩
theorem cut_any (l : List UInt8) (sep : ByteArray) (sl : List UInt8) (hsep : sep.data.toList = sl) (w : World) (hl : l.length ≤ 1000000000) (hv : VarsOK w) :
    Calls Tryd.prog 44 #[.string ⟨l.toArray⟩, .string sep] w fun e w' => e = .returned (.tuple #[.string ⟨(Lib.cut l sl).1.toArray⟩, .string ⟨(Lib.cut l sl).2.1.toArray⟩, .bool (Lib.cut l sl).2.2]) ∧ ∃ n, w' = w.drewN n := by
  obtain ⟨m, hm⟩ := hv.m
  have := Tryd.strings_Cut ⟨l.toArray⟩ sep m w (by simp [ByteArray.size]; omega) hm
  rw [hsep] at this
  simpa using this
theorem bdrewH {B : Nat} {w w1 : World} (h : Below B w w1) (hB : B ≤ w1.heap.size) (n : Nat) : Below B w (w1.drewN n) := h.trans (((Keep.refl Nothing w1).drewN n).all.mono hB)
def isNil : Value → Bool
  | .nilIface => true
  | _ => false
theorem atoi_any (l : List UInt8) (w : World) (hl : l.length ≤ 1000000000) (hv : VarsOK w) :
    Calls Tryd.prog 67 #[.string ⟨l.toArray⟩] w fun e w' => ∃ v err, e = .returned (.tuple #[.int .i64 v, err]) ∧ Below w.heap.size w w' ∧ ((err = .nilIface ∧ numO l = some v) ∨ (∃ t p, err = .iface t p) ∧ numO l = none) := by
  obtain ⟨ts, ps, h2⟩ := hv.s
  obtain ⟨tr, pr, h3⟩ := hv.r
  have hz : (⟨l.toArray⟩ : ByteArray).size = l.length := by simp [ByteArray.size]
  have hd : (⟨l.toArray⟩ : ByteArray).data.toList = l := by simp
  cases h : Lib.atoiAll l
  · rename_i v
    refine (Tryd.strconv_Atoi_ok ⟨l.toArray⟩ (by rw [hz]; omega) v (by rw [hd]; exact h) w).mono ?_
    rintro _ w' ⟨rfl, hw⟩
    refine ⟨v, _, rfl, ?_, .inl ⟨rfl, by unfold numO; rw [h]⟩⟩
    rcases hw with rfl | ⟨t, rfl⟩
    · exact Below.refl _ _
    · exact Lib.bytesWorld_below _ _ _
  · refine (Tryd.strconv_Atoi_syntax ⟨l.toArray⟩ (by rw [hz]; omega) (by rw [hd]; exact h) _ w h2 (.inr ⟨_, _, rfl⟩)).mono ?_
    rintro _ w' ⟨N, rfl, _, _, hb⟩
    exact ⟨_, _, rfl, hb, .inr ⟨⟨_, _, rfl⟩, by unfold numO; rw [h]⟩⟩
  · refine (Tryd.strconv_Atoi_range ⟨l.toArray⟩ (by rw [hz]; omega) (by rw [hd]; exact h) _ w h3 (.inr ⟨_, _, rfl⟩)).mono ?_
    rintro _ w' ⟨N, rfl, _, _, hb⟩
    exact ⟨_, _, rfl, hb, .inr ⟨⟨_, _, rfl⟩, by unfold numO; rw [h]⟩⟩
theorem results_cell_tmp {P : Program} {fn : Func} {t u : Tmp} {ty : TypeId} (h : fn.results = #[.cell t ty, .tmp u]) (tmps : Array Value) (w : World) {ad : Addr} (ht : tmps.getD t undef = .pointer (some ad)) {v : Value} (hl : (loadVar ty ad).run P w = .ok v w) :
    (results fn tmps).run P w = .ok (.tuple #[v, tmps.getD u undef]) w := by
  simp only [Array.getD_eq_getD_getElem?] at ht
  simp [results, h, ht, asAddr, hl]
def BdHk (ps : Array (Nat × Value)) : Sem Value := Instr.build 38 ps
theorem bd_hk (ps : Array (Nat × Value)) : Instr.build 38 ps = BdHk ps := rfl
def StHk (p v : Value) : Sem Unit := Instr.storeAt 38 p v
theorem st_hk (p v : Value) : Instr.storeAt 38 p v = StHk p v := rfl
attribute [local go_sem ↓] bd_hk st_hk
def HeadR (row : List UInt8) (w : World) (r : Ending) (w' : World) : Prop := ∃ a b ok, r = .returned (.tuple #[.agg #[.int .i64 a, .int .i64 b, .slice none 0 0, .slice none 0 0], .bool ok]) ∧ Below w.heap.size w w' ∧ headP row = if ok = true then some (a, b) else none
set_option maxHeartbeats 2000000 in
set_option maxRecDepth 100000 in
theorem head_any (row : List UInt8) (w : World) (hl : row.length ≤ 1000000) (hv : VarsOK w) : Calls Tryd.prog 46 #[.string ⟨row.toArray⟩] w (HeadR row w) := by
  have HV := Lib.hid (show ∀ W, Below w.heap.size w W → VarsOK W from fun W k => hv.below k)
  have hz := World.block_lt_of_cell? w _ hv.m.choose_spec
  have l0 : (Lib.trimPrefix row [64, 64, 32, 45]).length ≤ row.length := by
    unfold Lib.trimPrefix
    split
    · simp
    · exact Nat.le_refl _
  have l1 := cut_row_le (Lib.trimPrefix row [64, 64, 32, 45]) [44]
  have l2 := cut_row_le (headA row).2.1 [32, 43]
  have l3 := cut_row_le (headB row).2.1 [44]
  have HPD := Lib.hid (show headP row = match numO (headA row).1, numO (headC row).1 with
    | some a, some b => if ((headA row).2.2 && ((headB row).2.2 && (headC row).2.2)) = true then some (a, b) else none
    | _, _ => none from rfl)
  have HT := Lib.hid (show ∀ W, Calls Tryd.prog 66 #[.string ⟨row.toArray⟩, .string ⟨#[64, 64, 32, 45]⟩] W fun e w' => e = .returned (.string ⟨(Lib.trimPrefix row [64, 64, 32, 45]).toArray⟩) ∧ w' = W from fun W => by
    have := Tryd.strings_TrimPrefix ⟨row.toArray⟩ ⟨#[64, 64, 32, 45]⟩ W
    simpa using this)
  have HC1 := Lib.hid (fun W (k : Below w.heap.size w W) => cut_any (Lib.trimPrefix row [64, 64, 32, 45]) ⟨#[44]⟩ [44] rfl W (by omega) (HV.out W k))
  have hA : Lib.cut (Lib.trimPrefix row [64, 64, 32, 45]) [44] = headA row := rfl
  have hB : Lib.cut (headA row).2.1 [32, 43] = headB row := rfl
  have hC : Lib.cut (headB row).2.1 [44] = headC row := rfl
  rw [hA] at l1 HC1
  have HC2 := Lib.hid (fun W (k : Below w.heap.size w W) => cut_any (headA row).2.1 ⟨#[32, 43]⟩ [32, 43] rfl W (by omega) (HV.out W k))
  rw [hB] at l2 HC2
  have HC3 := Lib.hid (fun W (k : Below w.heap.size w W) => cut_any (headB row).2.1 ⟨#[44]⟩ [44] rfl W (by omega) (HV.out W k))
  rw [hC] at l3 HC3
  have HN1 := Lib.hid (fun W (k : Below w.heap.size w W) => atoi_any (headA row).1 W (by omega) (HV.out W k))
  have HN2 := Lib.hid (fun W (k : Below w.heap.size w W) => atoi_any (headC row).1 W (by omega) (HV.out W k))
  clear hA hB hC
  generalize hHP : headP row = HP at *
  have HHP := Lib.hid hHP
  clear hHP
  generalize Lib.trimPrefix row [64, 64, 32, 45] = row1 at *
  obtain ⟨⟨a1, a2, a3⟩, hAA⟩ : ∃ x, headA row = x := ⟨_, rfl⟩
  obtain ⟨⟨b1, b2, b3⟩, hBB⟩ : ∃ x, headB row = x := ⟨_, rfl⟩
  obtain ⟨⟨c1, c2, c3⟩, hCC⟩ : ∃ x, headC row = x := ⟨_, rfl⟩
  rw [hAA, hBB, hCC] at HPD
  rw [hAA] at HC1 HC2 HN1
  rw [hBB] at HC2 HC3
  rw [hCC] at HC3 HN2
  clear hAA hBB hCC l0 l1 l2 l3 hv
  simp only at HPD HC1 HC2 HC3 HN1 HN2
  go_enter Tryd.func46, Tryd.ntmps46
  have k0 : Below w.heap.size w (w.alloc (.cells #[.int .i64 0, .int .i64 0, .slice none 0 0, .slice none 0 0] 38)) := (Below.refl _ _).alloc (Nat.le_refl _) _
  go_upto_region 2 with (first | (refine wpList_allocAgg rfl rfl (zero_hk _) ?_) | (go_at_call 66; refine (HT.out _).mono ?_; rintro _ _ ⟨rfl, rfl⟩))
  have x0 : Blk (w.alloc (.cells #[.int .i64 0, .int .i64 0, .slice none 0 0, .slice none 0 0] 38)) w.heap.size 38 #[.int .i64 0, .int .i64 0, .slice none 0 0, .slice none 0 0] := Blk.new _ _ _
  have zz : w.heap.size < (w.alloc (.cells #[.int .i64 0, .int .i64 0, .slice none 0 0, .slice none 0 0] 38)).heap.size := by simp
  generalize hz0 : w.heap.size = z at *
  generalize w.alloc (.cells #[.int .i64 0, .int .i64 0, .slice none 0 0, .slice none 0 0] 38) = w1 at *
  go_upto_region 3 with (go_at_call 44; refine (HC1.out _ k0).mono ?_)
  rintro _ _ ⟨rfl, n1, rfl⟩
  have k1 := bdrewH k0 (Nat.le_of_lt zz) n1
  go_upto_region 4 with (go_at_call 44; refine (HC2.out _ k1).mono ?_)
  rintro _ _ ⟨rfl, n2, rfl⟩
  have k2 := bdrewH k0 (Nat.le_of_lt zz) (n1 + n2)
  go_upto_region 5 with (go_at_call 44; refine (HC3.out _ k2).mono ?_)
  rintro _ _ ⟨rfl, n3, rfl⟩
  have k3 := bdrewH k0 (Nat.le_of_lt zz) (n1 + n2 + n3)
  have x3 := x0.drewN (n1 + n2 + n3)
  have z3 : z < (w1.drewN (n1 + n2 + n3)).heap.size := zz
  go_upto_region 5 with fail
  generalize w1.drewN (n1 + n2 + n3) = w3 at *
  go_upto_region 6 with (go_at_call 67; refine (HN1.out _ k3).mono ?_)
  rintro _ w4 ⟨v1, e1, rfl, k4, h1⟩
  have x4 := x3.below k4 z3
  have b4 := k3.trans (k4.mono (Nat.le_of_lt z3))
  have z4 := x4.lt
  go_upto_region 7 with (go_at_call 67; refine (HN2.out _ b4).mono ?_)
  rintro _ w5 ⟨v2, e2, rfl, k5, h2⟩
  have x5 := x4.below k5 z4
  have b5 := b4.trans (k5.mono (Nat.le_of_lt z4))
  have z5 := x5.lt
  have K5 := Lib.hid b5
  have H1 := Lib.hid h1
  have H2 := Lib.hid h2
  clear k0 k1 k2 k3 x0 x3 x4 k4 b4 k5 b5 h1 h2 zz z3 z4
  go_upto_region 7 with fail
  have HEND : ∀ (ok : Bool), (ok = (a3 && (b3 && (c3 && (isNil e1 && isNil e2))))) → HP = if ok = true then some (v1, v2) else none := by
    intro ok hok
    rw [HPD.out]
    rcases H1.out with ⟨rfl, q1⟩ | ⟨⟨t, p, rfl⟩, q1⟩ <;> rcases H2.out with ⟨rfl, q2⟩ | ⟨⟨t', p', rfl⟩, q2⟩ <;> rw [q1, q2, hok] <;> cases a3 <;> cases b3 <;> cases c3 <;> rfl
  have HEND := Lib.hid HEND
  have B1 : ∀ W, (BdHk #[(0, .int .i64 v1), (1, .int .i64 v2)]).run Tryd.prog W = .ok (.agg #[.int .i64 v1, .int .i64 v2, .slice none 0 0, .slice none 0 0]) W := build_hk v1 v2
  have S1 : (StHk (.pointer (some ⟨z, 0, none⟩)) (.agg #[.int .i64 v1, .int .i64 v2, .slice none 0 0, .slice none 0 0])).run Tryd.prog w5.drew = .ok () (w5.drew.setRow z #[.int .i64 v1, .int .i64 v2, .slice none 0 0, .slice none 0 0]) := by
    have := run_storeAt_blk (P := Tryd.prog) (ty := 38) (vs := #[.int .i64 v1, .int .i64 v2, .slice none 0 0, .slice none 0 0]) x5.drew 0 info_hunk (by simp) (hkn_one v1 v2)
    rwa [show spl #[.int .i64 0, .int .i64 0, .slice none 0 0, .slice none 0 0] 0 (#[.int .i64 v1, .int .i64 v2, .slice none 0 0, .slice none 0 0] : Array Value).toList = #[.int .i64 v1, .int .i64 v2, .slice none 0 0, .slice none 0 0] from rfl] at this
  have X6 := Lib.hid (show Blk (w5.drew.setRow z #[.int .i64 v1, .int .i64 v2, .slice none 0 0, .slice none 0 0]) z 38 #[.int .i64 v1, .int .i64 v2, .slice none 0 0, .slice none 0 0] from x5.drew.row _)
  have K6 := Lib.hid (show Below z w (w5.drew.setRow z #[.int .i64 v1, .int .i64 v2, .slice none 0 0, .slice none 0 0]) from K5.out.trans ((((Kept.refl z [] [z] w5).drew).setRow (.inl (by simp)) _).below (Nat.le_refl _) (Nat.le_of_lt z5) (by simp)))
  clear x5 K5
  cases a3
  · clear H1 H2
    go_region
    all_goals
      go_wp2_with fail
      refine bodyPost_ret (results_cell_tmp rfl _ _ rfl (run_loadVar_cells _ _ #[.int .i64 v1, .int .i64 v2, .slice none 0 0, .slice none 0 0] Tryd.underlying38 rfl info_hunk (fun j v hj => by rw [add_at, X6.out.cell, ← hj]; simp))) rfl ?_
      exact ⟨v1, v2, false, rfl, by rw [hz0]; exact K6.out, HHP.out.trans (HEND.out false rfl)⟩
  cases b3
  · clear H1 H2
    go_region
    all_goals
      go_wp2_with fail
      refine bodyPost_ret (results_cell_tmp rfl _ _ rfl (run_loadVar_cells _ _ #[.int .i64 v1, .int .i64 v2, .slice none 0 0, .slice none 0 0] Tryd.underlying38 rfl info_hunk (fun j v hj => by rw [add_at, X6.out.cell, ← hj]; simp))) rfl ?_
      exact ⟨v1, v2, false, rfl, by rw [hz0]; exact K6.out, HHP.out.trans (HEND.out false rfl)⟩
  cases c3
  · clear H1 H2
    go_region
    all_goals
      go_wp2_with fail
      refine bodyPost_ret (results_cell_tmp rfl _ _ rfl (run_loadVar_cells _ _ #[.int .i64 v1, .int .i64 v2, .slice none 0 0, .slice none 0 0] Tryd.underlying38 rfl info_hunk (fun j v hj => by rw [add_at, X6.out.cell, ← hj]; simp))) rfl ?_
      exact ⟨v1, v2, false, rfl, by rw [hz0]; exact K6.out, HHP.out.trans (HEND.out false rfl)⟩
  rcases H1.out with ⟨rfl, -⟩ | ⟨⟨te1, pe1, rfl⟩, -⟩
  · rcases H2.out with ⟨rfl, -⟩ | ⟨⟨te2, pe2, rfl⟩, -⟩
    · clear H1 H2
      go_region
      all_goals
        go_wp2_with fail
        refine bodyPost_ret (results_cell_tmp rfl _ _ rfl (run_loadVar_cells _ _ #[.int .i64 v1, .int .i64 v2, .slice none 0 0, .slice none 0 0] Tryd.underlying38 rfl info_hunk (fun j v hj => by rw [add_at, X6.out.cell, ← hj]; simp))) rfl ?_
        exact ⟨v1, v2, true, rfl, by rw [hz0]; exact K6.out, HHP.out.trans (HEND.out true rfl)⟩
    · clear H1 H2
      go_region
      all_goals
        go_wp2_with fail
        refine bodyPost_ret (results_cell_tmp rfl _ _ rfl (run_loadVar_cells _ _ #[.int .i64 v1, .int .i64 v2, .slice none 0 0, .slice none 0 0] Tryd.underlying38 rfl info_hunk (fun j v hj => by rw [add_at, X6.out.cell, ← hj]; simp))) rfl ?_
        exact ⟨v1, v2, false, rfl, by rw [hz0]; exact K6.out, HHP.out.trans (HEND.out false rfl)⟩
  · clear H1 H2
    go_region
    all_goals
      go_wp2_with fail
      refine bodyPost_ret (results_cell_tmp rfl _ _ rfl (run_loadVar_cells _ _ #[.int .i64 v1, .int .i64 v2, .slice none 0 0, .slice none 0 0] Tryd.underlying38 rfl info_hunk (fun j v hj => by rw [add_at, X6.out.cell, ← hj]; simp))) rfl ?_
      exact ⟨v1, v2, false, rfl, by rw [hz0]; exact K6.out, HHP.out.trans (HEND.out false rfl)⟩
end Go.Proofs.YtlcidbbpjlpmjaaDoor
