/- Contracts of the reference's Same, SameFiles. No statement of the seat is proved here. -/
import Derived.Test.YtbaapjlmpmpocaaGreatDoorDTGd
namespace Go.Proofs.YtbaapjlmpmpocaaGreatDoor
open Go.RowKit Go.Maps
def sameB (x y : FileD) : Bool := x.p == y.p && (x.k == y.k && x.d == y.d)
theorem sameB_eq (x y : FileD) : sameB x y = decide (x = y) := by
 unfold sameB
 rw [Bool.eq_iff_iff]
 simp only [Bool.and_eq_true, beq_iff_eq, decide_eq_true_eq]
 constructor
 · rintro ⟨h1, h2, h3⟩
   cases x; cases y
   simp_all
 · rintro rfl
   exact ⟨rfl, rfl, rfl⟩
theorem take_same {a b : List FileD} {k : Nat} {x y : FileD} (h : a.take k = b.take k) (hx : a[k]? = some x) (hy : b[k]? = some y) : a.take (k + 1) = b.take (k + 1) ↔ x = y := by
 rw [List.take_add_one, List.take_add_one, h, hx, hy]
 simp
attribute [local go_sem] run_eql_strC run_neq_strC eqGuard_strC neGuard_strC
attribute [local go_sem ↓] ld_f
set_option maxHeartbeats 4000000 in
set_option maxRecDepth 100000 in
theorem same_any (x y : FileD) (A C : Option Addr) (c d B : Nat) (w : World) (hB : B ≤ w.heap.size) (h1 : Reads w B 1 A x.d.length (x.d.map byteV)) (h2 : Reads w B 1 C y.d.length (y.d.map byteV)) :
    Calls Tryz.prog 13 #[.agg (fileC x A c), .agg (fileC y C d)] w fun e w' => e = .returned (.bool (sameB x y)) ∧ Below w.heap.size w w' := by
 have hn : sameB x y = (x.p == y.p && (x.k == y.k && x.d == y.d)) := rfl
 rw [hn]
 have hb1 := (Blk.new w 27 (fileC x A c)).alloc (.cells (fileC y C d) 27)
 have hb2 := Blk.new (w.alloc (.cells (fileC x A c) 27)) 27 (fileC y C d)
 rw [show (w.alloc (.cells (fileC x A c) 27)).heap.size = w.heap.size + 1 from by simp] at hb2
 have hbl : Below w.heap.size w ((w.alloc (.cells (fileC x A c) 27)).alloc (.cells (fileC y C d) 27)) := ((Below.refl _ w).alloc (Nat.le_refl _) _).alloc (by simp) _
 have hr1 := h1.below (hbl.mono hB)
 have hr2 := h2.below (hbl.mono hB)
 have HBL := Lib.hid hbl
 clear h1 h2 hbl
 go_enter Tryz.func13, Tryz.ntmps13
 go_upto_region 1 with (first | (refine wpList_boxed rfl rfl (cs := fileC x A c) rfl ?_) | (refine wpList_boxed rfl rfl (cs := fileC y C d) rfl ?_))
 generalize (w.alloc (.cells (fileC x A c) 27)).alloc (.cells (fileC y C d) 27) = w2 at *
 have c0 := (hb1.cell 0).trans (show (fileC x A c)[0]? = some (strC x.p) from rfl)
 have c1 := (hb1.cell 1).trans (show (fileC x A c)[1]? = some (.int .i64 x.k) from rfl)
 have c2 := (hb1.cell 2).trans (show (fileC x A c)[2]? = some (.slice A x.d.length c) from rfl)
 have d0 := (hb2.cell 0).trans (show (fileC y C d)[0]? = some (strC y.p) from rfl)
 have d1 := (hb2.cell 1).trans (show (fileC y C d)[1]? = some (.int .i64 y.k) from rfl)
 have d2 := (hb2.cell 2).trans (show (fileC y C d)[2]? = some (.slice C y.d.length d) from rfl)
 have k1 : (convert 25 9 (.slice A x.d.length c)).run Tryz.prog w2 = .ok (strC x.d) w2 := by
  rw [run_convert_bytes_string w2 25 9 5 A x.d.length c Tryz.underlying25 Tryz.underlying5 Tryz.underlying9, run_str_of hr1]
  rfl
 have k2 : (convert 25 9 (.slice C y.d.length d)).run Tryz.prog w2 = .ok (strC y.d) w2 := by
  rw [run_convert_bytes_string w2 25 9 5 C y.d.length d Tryz.underlying25 Tryz.underlying5 Tryz.underlying9, run_str_of hr2]
  rfl
 clear hr1 hr2 hb1 hb2
 cases hp : (x.p == y.p) with
 | false =>
  go_wp2_with fail
  go_ret
  exact ⟨by rw [hp]; rfl, HBL.out⟩
 | true =>
  cases hk : (x.k == y.k) with
  | false =>
   go_wp2_with fail
   go_ret
   exact ⟨by rw [hp, hk]; rfl, HBL.out⟩
  | true =>
   go_wp2_with fail
   go_ret
   exact ⟨by rw [hp, hk, Bool.true_and, Bool.true_and]; rfl, HBL.out⟩
set_option maxHeartbeats 4000000 in
set_option maxRecDepth 100000 in
theorem sameFiles_any (a b : List FileD) (A C : Option Addr) (c d B : Nat) (w : World) (hB : B ≤ w.heap.size) (h1 : FI w B A a) (h2 : FI w B C b) (hal : a.length ≤ 1000000000000) :
    Calls Tryz.prog 14 #[.slice A a.length c, .slice C b.length d] w fun e w' => e = .returned (.bool (decide (a = b))) ∧ Below w.heap.size w w' := by
 obtain ⟨z, hz⟩ : ∃ z, w.heap.size = z := ⟨_, rfl⟩
 rw [hz]
 have HZ := Lib.hid hz
 have H1 := Lib.hid h1
 have H2 := Lib.hid h2
 clear h1 h2
 go_enter Tryz.func14, Tryz.ntmps14
 by_cases hl : a.length = b.length
 · have hl' : ((a.length : Int) != (b.length : Int)) = false := by simp [hl]
   have HLN := Lib.hid hl
   clear hl
   go_wp2_with fail
   go_loopw [5] (fun s3 wr => ∃ k : Nat, s3 = .int .i64 (k : Nat) ∧ k ≤ a.length ∧ Hid (a.take k = b.take k) ∧ Hid (Below z w wr)) (fun s3 _ => a.length - (intOf s3).toNat)
   case atStart => exact ⟨0, rfl, Nat.zero_le _, Lib.hid (by rw [List.take_zero, List.take_zero]), Lib.hid (Below.refl _ _)⟩
   case round =>
    obtain ⟨k, rfl, hk, HT, HB⟩ := hrel
    by_cases hlt : k < a.length
    · have i0 : (0 : Int) ≤ (k : Int) := by omega
      have i1 : (k : Int) < (a.length : Int) := by omega
      have i2 : (k : Int) < (b.length : Int) := by have := HLN.out; omega
      obtain ⟨x, hx⟩ : ∃ x, a[k]? = some x := ⟨_, List.getElem?_eq_getElem hlt⟩
      obtain ⟨y, hy⟩ : ∃ y, b[k]? = some y := ⟨_, List.getElem?_eq_getElem (by have := HLN.out; omega)⟩
      have hBw : B ≤ wr.heap.size := Nat.le_trans hB (HZ.out ▸ HB.out.size)
      have hd : Below z w wr.drew := HB.out.trans ((Below.refl _ wr).drew.mono (HZ.out ▸ HB.out.size))
      obtain ⟨g, o, DA, dc, rfl, _, ld1, _, _, _, _, _, r1⟩ := (H1.out.below (hd.mono (HZ.out ▸ hB))).at_ hx
      obtain ⟨g2, o2, DC, dd, rfl, _, ld2, _, _, _, _, _, r2⟩ := (H2.out.below (hd.mono (HZ.out ▸ hB))).at_ hy
      have HS := Lib.hid (same_any x y DA DC dc dd B wr.drew hBw r1 r2)
      have HTS := Lib.hid (take_same HT.out hx hy)
      have ld1' : (LdF (.pointer (some ⟨g, o + k * 3, none⟩))).run Tryz.prog wr.drew = .ok (.agg (fileC x DA dc)) wr.drew := ld1
      have ld2' : (LdF (.pointer (some ⟨g2, o2 + k * 3, none⟩))).run Tryz.prog wr.drew = .ok (.agg (fileC y DC dd)) wr.drew := ld2
      have hsb := sameB_eq x y
      obtain ⟨S, hS⟩ : ∃ S, sameB x y = S := ⟨_, rfl⟩
      rw [hS] at HS hsb
      clear r1 r2 ld1 ld2 hx hy hS
      have HSB := Lib.hid hsb
      clear hsb
      cases S with
      | true =>
       go_upto_region 6 with fail
       go_region_law (go_simp; go_at_call 13; refine HS.out.mono ?_; rintro _ w9 ⟨rfl, hb9⟩; have HB9 := Lib.hid (hd.trans (hb9.mono (HZ.out ▸ HB.out.size))); clear hb9)
       all_goals
        go_wp2_with fail
        go_roundw
        case rel => exact ⟨k + 1, by go_num, hlt, Lib.hid (HTS.out.2 (of_decide_eq_true HSB.out.symm)), HB9⟩
        case measure => simp [intOf]; omega
      | false =>
       go_upto_region 6 with fail
       go_region_law (go_simp; go_at_call 13; refine HS.out.mono ?_; rintro _ w9 ⟨rfl, hb9⟩; have HB9 := Lib.hid (hd.trans (hb9.mono (HZ.out ▸ HB.out.size))); clear hb9)
       all_goals
        go_wp2_with fail
        go_ret
        exact ⟨by rw [decide_eq_false (fun e => of_decide_eq_false HSB.out.symm (HTS.out.1 (by rw [e])))]; rfl, HB9.out⟩
    · obtain rfl : k = a.length := by omega
      have hlt' : ¬ (a.length : Int) < (a.length : Int) := by omega
      go_wp2_with fail
      go_ret
      exact ⟨by
       have h := HT.out
       rw [List.take_length, HLN.out, List.take_length] at h
       rw [decide_eq_true h]; rfl, HB.out⟩
 · have hl' : ((a.length : Int) != (b.length : Int)) = true := by simp; omega
   go_wp2_with fail
   go_ret
   exact ⟨by rw [decide_eq_false (fun e => hl (by rw [e]))]; rfl, Below.refl _ _⟩
end Go.Proofs.YtbaapjlmpmpocaaGreatDoor
