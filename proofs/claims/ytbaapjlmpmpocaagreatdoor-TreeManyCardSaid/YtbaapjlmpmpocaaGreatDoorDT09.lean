/- Contract of codec.EncodeObj, out of one of its body's look. No statement of the seat is proved here. -/
import Derived.Test.YtbaapjlmpmpocaaGreatDoorDT08
import Derived.Test.YtbaapjlmpmpocaaGreatDoorDT03
import Derived.Test.YtbaapjlmpmpocaaGreatDoorDT04
namespace Go.Proofs.YtbaapjlmpmpocaaGreatDoor
open Go.RowKit
def pEnt (b : List UInt8) (at_ : Nat) : EntC9 :=
 ⟨str (textL b (takeAt b at_ 0 1) (takeE b at_ 0 1) 1), num (takeL b at_ 0 1), idOf (takeL b (textAt b (takeAt b at_ 0 1) (takeE b at_ 0 1) 1) (textE b (takeAt b at_ 0 1) (takeE b at_ 0 1) 1) 32)⟩
def pAt (b : List UInt8) (at_ : Nat) : Nat := takeAt b (textAt b (takeAt b at_ 0 1) (takeE b at_ 0 1) 1) (textE b (takeAt b at_ 0 1) (takeE b at_ 0 1) 1) 32
def pE3 (b : List UInt8) (at_ : Nat) : Int := takeE b (textAt b (takeAt b at_ 0 1) (takeE b at_ 0 1) 1) (textE b (takeAt b at_ 0 1) (takeE b at_ 0 1) 1) 32
def pE (b : List UInt8) (at_ : Nat) (was : ByteArray) (n : Nat) : Int :=
 if pE3 b at_ = 0 then entE (note 0 (decide ((n : Int) < 512)) 4) (pEnt b at_) was ((n : Int) == 0) else pE3 b at_
def parGo (b : List UInt8) : Nat → Nat → Int → ByteArray → List EntC9 → List EntC9 × Int
 | 0, _, e, _, out => (out, e)
 | f + 1, at_, e, was, out => if e = 0 ∧ at_ < b.length then parGo b f (pAt b at_) (pE b at_ was out.length) (pEnt b at_).name (out ++ [pEnt b at_]) else (out, e)
def parseTree (b : List UInt8) : List EntC9 × Int :=
 let r := parGo b b.length 0 0 ByteArray.empty []
 if r.2 = 0 then (r.1, 0) else ([], r.2)
theorem takeAt_ge (b : List UInt8) (at_ : Nat) (e n : Int) : at_ ≤ takeAt b at_ e n := by
 unfold takeAt; split <;> omega
theorem pAt_gt (b : List UInt8) (at_ : Nat) (h : at_ < b.length) : at_ + 1 ≤ pAt b at_ := by
 have h1 : takeAt b at_ 0 1 = at_ + 1 := by unfold takeAt; rw [if_pos ⟨rfl, by omega, by omega⟩]; rfl
 have h2 := takeAt_ge b (takeAt b at_ 0 1) (takeE b at_ 0 1) 1
 have h3 := takeAt_ge b (takeAt b (takeAt b at_ 0 1) (takeE b at_ 0 1) 1) (takeE b (takeAt b at_ 0 1) (takeE b at_ 0 1) 1) (num (takeL b (takeAt b at_ 0 1) (takeE b at_ 0 1) 1))
 have h4 := takeAt_ge b (textAt b (takeAt b at_ 0 1) (takeE b at_ 0 1) 1) (textE b (takeAt b at_ 0 1) (takeE b at_ 0 1) 1) 32
 unfold pAt
 unfold textAt at *
 omega
theorem elemEnt : Elem Tryz.prog 73 79 34 56 := by
 refine ⟨Tryz.underlying73, ?_, by decide⟩
 obtain ⟨i, hi, h1, h2, h3⟩ := info_parts (show (Tryz.prog.info? 79).map (fun i => (i.zero, i.size, i.bytes)) = some (some (entV ⟨ByteArray.empty, 0, noId⟩), 34, 56) by kernel_rfl)
 exact ⟨i, _, hi, h1, h2, h3, entC_size _⟩
def ent0 : EntC9 := ⟨ByteArray.empty, 0, noId⟩
theorem zero_ent (w : World) : (zeroValue 79).run Tryz.prog w = .ok (.agg (entC ent0)) w := by kernel_rfl
theorem build_ent (s : ByteArray) (k : Int) (w : World) : (Instr.build 79 #[(1, .int .i64 k), (0, .string s)]).run Tryz.prog w = .ok (.agg (entC ⟨s, k, noId⟩)) w := by kernel_rfl
theorem spl_ent (s : ByteArray) (k : Int) (i j : Id) : spl (entC ⟨s, k, i⟩) 2 (idC j).toList = entC ⟨s, k, j⟩ := by
 apply Array.ext'
 have h1 := idL_len i
 have h2 := idL_len j
 simp [spl, entC, entL, idC, h2]
 omega
def ParPost (b : List UInt8) (w : World) (r : Ending) (w' : World) : Prop :=
 ∃ A c, r = .returned (.tuple #[.slice A (parseTree b).1.length c, .int .i64 (parseTree b).2]) ∧ Own w' w.heap.size 79 34 A (parseTree b).1.length c (entLs (parseTree b).1) ∧ Below w.heap.size w w'
set_option maxHeartbeats 4000000 in
set_option maxRecDepth 100000 in
theorem parseTree_any (b : List UInt8) (A : Option Addr) (c : Nat) (w : World) (hr : Reads w w.heap.size 1 A b.length (b.map bv)) (hl : b.length ≤ 1000000) (hc1 : b.length ≤ c) (hc2 : c ≤ maxLen) :
    Calls Tryz.prog 139 #[.slice A b.length c] w (ParPost b w) := by
 go_enter Tryz.func139, Tryz.ntmps139
 go_wp2_with fail
 have hR0 : Rd (w.alloc (.cells #[.slice A b.length c, .int .i64 0, .int .i64 0] 191)) w.heap.size w.heap.size b 0 0 := ⟨A, c, Blk.new _ _ _, hr.alloc (Nat.le_refl _) _, Nat.zero_le _, hc1, hc2, Nat.le_refl _⟩
 have hk0 : Kept w.heap.size [79] [] w (w.alloc (.cells #[.slice A b.length c, .int .i64 0, .int .i64 0] 191)) := (Kept.refl _ _ _ _).alloc _
 generalize w.alloc (.cells #[.slice A b.length c, .int .i64 0, .int .i64 0] 191) = w0 at *
 generalize hq : w.heap.size = q at *
 have HQ := Lib.hid hq
 have hqle : q ≤ w.heap.size := by omega
 clear hq
 go_loopg [5, 6] b.length (fun f o was wr => ∃ at_ e ws out A' c', o = .slice A' out.length c' ∧ was = .string ws ∧ parGo b f at_ e ws out = parGo b b.length 0 0 ByteArray.empty [] ∧ Rd wr q q b at_ e ∧ Own wr q 79 34 A' out.length c' (entLs out) ∧ Kept q [79] [] w wr ∧ (b.length ≤ at_ + f ∨ e ≠ 0) ∧ out.length + f ≤ b.length)
 case atStart => exact ⟨0, 0, ByteArray.empty, [], none, 0, rfl, rfl, rfl, hR0, Own.nil _ _ _ _, hk0, .inl (by omega), by simp⟩
 case round =>
  obtain ⟨at_, e, ws, out, A', c', rfl, rfl, hpar, hR, hown, hkp, hfu, hol⟩ := hrel
  have HP := Lib.hid hpar
  have HF := Lib.hid hfu
  clear hpar hfu
  have hz := hkp.size
  obtain ⟨A1, c1, hb, hR1⟩ := hR.blk
  have r1 := hb.cell 1
  have r2 := hb.cell 2
  simp at r1 r2
  by_cases hgo : e = 0 ∧ at_ < b.length
  · obtain ⟨he, hat⟩ := hgo
    subst he
    cases gk with
    | zero => exact absurd HF.out (by omega)
    | succ f =>
     have HP2 := Lib.hid (show parGo b (f + 1) at_ 0 ws out = parGo b f (pAt b at_) (pE b at_ ws out.length) (pEnt b at_).name (out ++ [pEnt b at_]) from by show (if _ then _ else _) = _; rw [if_pos ⟨rfl, hat⟩])
     go_wp2_with fail
     refine (rnumber_any 1 (by omega) q q b at_ 0 _ hR (by omega)).mono ?_
     rintro r w1 ⟨rfl, hRa, hka⟩
     have hza := hka.size
     have hv := num_lt8 (takeL b at_ 0 1) (by have := takeL_le b at_ 0 1; simp at this; omega)
     go_wp2_with fail
     refine (rtext_any 1 (by omega) q q b _ _ _ hRa (by omega)).mono ?_
     rintro r w2 ⟨rfl, hRb, hkb⟩
     have hzb := hkb.size
     go_wp2_with (first | (refine wpList_built rfl rfl (vs := #[(1, .int .i64 _), (0, .string _)]) rfl (build_ent _ _ _) ?_) | (refine wpList_allocAgg rfl rfl (zero_ent _) ?_) | (refine wpList_storeBlk rfl rfl (vs := entC ⟨_, _, noId⟩) rfl rfl (Blk.new _ _ _) (by rw [entC_size, entC_size]) (by rw [entC_size]; exact info_ent) (entL_one _) ?_; intro w3 hx3 hkc hzc))
     have hkN : Keep Nothing w2 w3 := Keep.ofNew hkc
     have hRc := hRb.keep (by omega) hkN (fun _ h => h.elim)
     have hkw : Keep (Only q) wr w3 := (hka.trans hkb).trans (hkN.mono (fun _ _ h => h.elim))
     have hp : q < w2.heap.size := by have := hb.lt; omega
     have hpw : wr.heap.size ≤ w2.heap.size := by omega
     have hpe := hx3.lt
     generalize w2.heap.size = p at *
     clear hkc hRb hRa hka hkb hza hzb hkN hzc
     refine (rid_any q q b _ _ _ hRc (by omega)).mono ?_
     rintro r w4 ⟨rfl, hRd, hkd⟩
     have hx4 := hx3.keep hkd (by unfold Only; omega)
     have hzd := hkd.size
     have hkw4 := hkw.trans hkd
     clear hkd hx3 hRc hkw
     have hRd' : Rd w4 q q b (pAt b at_) (pE3 b at_) := hRd
     clear hRd
     by_cases h3 : pE3 b at_ = 0
     · have HE3 := Lib.hid h3
       rw [h3] at hRd'
       clear h3
       go_wp2_with (first | (refine wpList_storePart rfl rfl (off := 2) (vs := idC _) rfl rfl hx4 (by rw [idC_size, entC_size]; decide) (by rw [idC_size]; exact info42) (idL_one _) ?_; intro w5 hx5 hke hze; rw [spl_ent] at hx5; have hRe := hRd'.keep (by omega) hke (by unfold Only; intro i hi; omega); obtain ⟨A5, c5, hb5, hR5⟩ := hRe.blk; have e5 := hb5.cell 2; simp at e5))
       have hx5' : Blk w5 p 79 (entC (pEnt b at_)) := hx5
       have hkw5 : Keep (Only q) wr w5 := hkw4.then_ hke (by unfold Only; intro i hi h; omega)
       clear hx5 hke hx4
       refine (must_any q _ _ _ 0 4 _ _ hb5).mono ?_
       rintro r w6 ⟨rfl, hb6, hk6⟩
       have hx6 := hx5'.keep hk6 (by unfold Only; omega)
       have hR6 := hR5 _ _ hb6 (by omega) hk6
       have hkw6 := hkw5.trans hk6
       have hz6 := hk6.size
       clear hk6 hx5' hkw5 hb5 hR5 hRe hb6 e5
       obtain ⟨A6, c6, hb6, hR6'⟩ := hR6.blk
       go_wp2_with fail
       refine wp_region_still_tail 8 (by kernel_rfl) (by kernel_rfl) ?_
       simp only [List.take_succ_cons, List.take_zero, List.drop_succ_cons, List.drop_zero]
       still_step
       still_step
       still_step
       refine still_load rfl rfl rfl (load_ent hx6.drew) ?_
       go_frame
       still_step
       still_step
       still_step
       still_step
       refine wpStill_nil ?_
       change wpList _ _ _ _ _ w6.drew
       go_wp2_with fail
       refine (entry_any q _ _ _ _ (pEnt b at_) ws _ _ hb6.drew).mono ?_
       rintro r w7 ⟨rfl, hb7, hk7⟩
       have hk67 : Keep (Only q) w6 w7 := (Keep.drew (Keep.refl (Only q) w6)).trans hk7
       have hx9 := hx6.keep hk67 (by unfold Only; omega)
       have hR9 := hR6' _ _ hb7 (by omega) hk67
       have hk9 := hkw6.trans hk67
       have HE9 := Lib.hid (show entE (note 0 (decide ((out.length : Int) < 512)) 4) (pEnt b at_) ws ((out.length : Int) == 0) = pE b at_ ws out.length from by unfold pE; rw [if_pos HE3.out])
       have o9 := hown.keepOnly hk9 hb (by decide)
       have kk9 : Kept q [79] [] w w7 := hkp.lift (Kept.ofKeep (base := q) (E := []) (G := [q]) hk9 (by unfold Only; simp)) (Nat.le_refl _) (by simp) (by simp [HQ.out])
       have x9 := hx9.cell 0
       have lp9 := hx9.lt
       have z9 := hk9.size
       simp [entC, entL] at x9
       go_wp2_with (first | (refine wpList_load rfl rfl rfl (load_ent hx9) ?_) | (refine wpList_buildSlice1 rfl elemEnt rfl zero_ent (entC_size _) (entC_size _) (by omega) rfl ?_) | (at_builtin; refine wpList_append_sl rfl elemEnt rfl rfl (o9.alloc _) rfl (Reads.of_cells (n := 1) (xs := entL (pEnt b at_)) (heap_alloc_new _ _) rfl (by rw [entL_len])) (entL_one _) (by unfold maxLen; omega) (by omega) (by simp; omega) ?_; intro A10 c10 w10 o10 k10))
       go_roundg f
       case measure => omega
       case rel =>
        have kk10 : Kept q [79] [] w w10 := (kk9.alloc _).trans k10
        have hR10 : Rd w10 q q b (pAt b at_) (pE b at_ ws out.length) := by
         rw [← HE9.out]
         obtain ⟨Ar, cr, br, rr, r1, r2, r3, r4⟩ := hR9.alloc (by omega) (.cells (entC (pEnt b at_)) 79)
         exact ⟨Ar, cr, k10.blk br (by simp) (by decide), rr.below (k10.below (Nat.le_refl _) (by simp; omega) (by simp)), r1, r2, r3, r4⟩
        refine ⟨pAt b at_, pE b at_ ws out.length, (pEnt b at_).name, out ++ [pEnt b at_], A10, c10, by simp, rfl, by rw [← HP2.out]; exact HP.out, hR10, ?_, kk10, ?_, by simp; omega⟩
        · simpa [entLs] using o10
        · have := HF.out
          have := pAt_gt b at_ hat
          omega
     · have h3' : (pE3 b at_ == 0) = false := beq_eq_false_iff_ne.2 h3
       have HE3 := Lib.hid h3
       clear h3
       go_wp2_with (first | (refine wpList_storePart rfl rfl (off := 2) (vs := idC _) rfl rfl hx4 (by rw [idC_size, entC_size]; decide) (by rw [idC_size]; exact info42) (idL_one _) ?_; intro w5 hx5 hke hze; rw [spl_ent] at hx5; have hRe := hRd'.keep (by omega) hke (by unfold Only; intro i hi; omega); obtain ⟨A5, c5, hb5, hR5⟩ := hRe.blk; have e5 := hb5.cell 2; have x5 := hx5.cell 0; simp [entC, entL] at e5 x5; have k5 : Keep (Only q) wr w5 := hkw4.then_ hke (by unfold Only; intro i hi h; omega); have o9 := hown.keepOnly k5 hb (by decide); have z9 := k5.size; have lp9 := hx5.lt) | (refine wpList_load rfl rfl rfl (load_ent hx5) ?_) | (refine wpList_buildSlice1 rfl elemEnt rfl zero_ent (entC_size _) (entC_size _) (by omega) rfl ?_) | (at_builtin; refine wpList_append_sl rfl elemEnt rfl rfl (o9.alloc _) rfl (Reads.of_cells (n := 1) (xs := entL (pEnt b at_)) (heap_alloc_new _ _) rfl (by rw [entL_len])) (entL_one _) (by unfold maxLen; omega) (by omega) (by simp; omega) ?_; intro A10 c10 w10 o10 k10))
       go_roundg f
       case measure => omega
       case rel =>
        have kk9 : Kept q [79] [] w w5 := hkp.lift (Kept.ofKeep (base := q) (E := []) (G := [q]) k5 (by unfold Only; simp)) (Nat.le_refl _) (by simp) (by simp [HQ.out])
        have kk10 : Kept q [79] [] w w10 := (kk9.alloc _).trans k10
        have hR10 : Rd w10 q q b (pAt b at_) (pE b at_ ws out.length) := by
         unfold pE
         rw [if_neg HE3.out]
         obtain ⟨Ar, cr, br, rr, r1, r2, r3, r4⟩ := hRe.alloc (by omega) (.cells (entC (pEnt b at_)) 79)
         exact ⟨Ar, cr, k10.blk br (by simp) (by decide), rr.below (k10.below (Nat.le_refl _) (by simp; omega) (by simp)), r1, r2, r3, r4⟩
        refine ⟨pAt b at_, pE b at_ ws out.length, (pEnt b at_).name, out ++ [pEnt b at_], A10, c10, by simp, rfl, by rw [← HP2.out]; exact HP.out, hR10, ?_, kk10, ?_, by simp; omega⟩
        · simpa [entLs] using o10
        · have := HF.out
          have := pAt_gt b at_ hat
          omega
  · have hend : parGo b b.length 0 0 ByteArray.empty [] = (out, e) := by
     rw [← HP.out]
     cases gk with
     | zero => rfl
     | succ f => show (if _ then _ else _) = _; rw [if_neg hgo]
    by_cases he : e = 0
    · subst he
      have hat : ¬ at_ < b.length := fun q => hgo ⟨rfl, q⟩
      have hpt : parseTree b = (out, 0) := by unfold parseTree; rw [hend]; rfl
      have HT := Lib.hid hpt
      have hat' : b.length ≤ at_ := by omega
      clear hpt hend hgo hat
      go_wp2_with fail
      go_ret2
      refine ⟨A', c', ?_, ?_, ?_⟩
      · rw [HT.out]; rfl
      · rw [HT.out, HQ.out]; exact hown
      · have := HQ.out
        subst this
        exact hkp.all
    · have he' : (e == 0) = false := beq_eq_false_iff_ne.2 he
      have he'' : (e != 0) = true := by simpa using he
      have hpt : parseTree b = ([], e) := by unfold parseTree; rw [hend]; simp only; rw [if_neg he]
      have HT := Lib.hid hpt
      clear hpt hend hgo he
      go_wp2_with fail
      go_quiet (fail)
      go_wp2_with fail
      go_ret2
      refine ⟨none, 0, ?_, ?_, ?_⟩
      · rw [HT.out]; rfl
      · rw [HT.out]; exact Own.nil _ _ _ _
      · have := HQ.out
        subst this
        exact (hkp.drewN _).all
end Go.Proofs.YtbaapjlmpmpocaaGreatDoor
namespace Go.Proofs.YtbaapjlmpmpocaaGreatDoor
open Go.RowKit
def letter (k : Int) : UInt8 := if k = 1 then 98 else if k = 2 then 116 else 99
def encObj (e k : Int) (b : List UInt8) : List UInt8 × Int := if e = 0 then (letter k :: (be 4 b.length ++ b), 0) else ([], e)
def BytesPost (r2 : List UInt8 × Int) (w : World) (r : Ending) (w' : World) : Prop := ∃ A c, r = .returned (.tuple #[.slice A r2.1.length c, .int .i64 r2.2]) ∧ Own w' w.heap.size 5 1 A r2.1.length c (r2.1.map bv) ∧ Below w.heap.size w w'
theorem own_one (w : World) (base : Nat) (hb : base ≤ w.heap.size) (y : UInt8) : Own (w.alloc (.cells #[bv y] 5)) base 5 1 (some ⟨w.heap.size, 0, none⟩) 1 1 ([y].map bv) :=
 ⟨by simp, .inr ⟨w.heap.size, 1, #[bv y], rfl, hb, heap_alloc_new _ _, Nat.le_refl _, by unfold maxLen; omega, by simp, by simp⟩⟩
theorem let1 (W : World) : (Instr.index 9 (.string ⟨#[98, 116, 99]⟩) (.int .i64 0)).run Tryz.prog W = .ok (.int .u8 98) W := by kernel_rfl
theorem let2 (W : World) : (Instr.index 9 (.string ⟨#[98, 116, 99]⟩) (.int .i64 1)).run Tryz.prog W = .ok (.int .u8 116) W := by kernel_rfl
theorem let3 (W : World) : (Instr.index 9 (.string ⟨#[98, 116, 99]⟩) (.int .i64 2)).run Tryz.prog W = .ok (.int .u8 99) W := by kernel_rfl
set_option maxHeartbeats 2000000 in
set_option maxRecDepth 100000 in
theorem encodeObj_of (k : Int) (b : List UInt8) (e : Int) (A : Option Addr) (c : Nat) (w : World) (hr : Reads w w.heap.size 1 A b.length (b.map bv)) (hl : b.length ≤ 1000000) (hke : e = 0 → 1 ≤ k ∧ k ≤ 3)
    (hbody : ∀ W : World, Reads W w.heap.size 1 A b.length (b.map bv) → w.heap.size ≤ W.heap.size → Calls Tryz.prog 114 #[.int .i64 k, .slice A b.length c] W fun r w' => r = .returned (.int .i64 e) ∧ Below W.heap.size W w') :
    Calls Tryz.prog 74 #[.agg #[.int .i64 k, .slice A b.length c]] w (BytesPost (encObj e k b) w) := by
 have HB := Lib.hid hbody
 clear hbody
 have hq1 : Blk (w.alloc (.cells #[.int .i64 k, .slice A b.length c] 44)) w.heap.size 44 #[.int .i64 k, .slice A b.length c] := Blk.new _ _ _
 have hr1 := hr.alloc (Nat.le_refl _) (.cells #[.int .i64 k, .slice A b.length c] 44)
 have hk1 : Kept w.heap.size [5] [] w (w.alloc (.cells #[.int .i64 k, .slice A b.length c] 44)) := (Kept.refl _ _ _ _).alloc _
 have hz1 : w.heap.size ≤ (w.alloc (.cells #[.int .i64 k, .slice A b.length c] 44)).heap.size := by simp
 go_enter Tryz.func74, Tryz.ntmps74
 go_wp2_with fail
 refine (HB.out _ hr1 hz1).mono ?_
 rintro r w2 ⟨rfl, hbe⟩
 generalize w.alloc (.cells #[.int .i64 k, .slice A b.length c] 44) = w1 at *
 have hq2 := hq1.below hbe hq1.lt
 have hr2 := (hr1.more hz1).below hbe
 have hk2 : Kept w.heap.size [5] [] w w2 := hk1.lift (Kept.ofBelow (base := w.heap.size) (E := []) (G := []) hbe) (Nat.le_refl _) (by simp) (by simp)
 have hz2 := hbe.size
 generalize hq : w.heap.size = q at *
 have HQ := Lib.hid hq
 have hqle : q ≤ w.heap.size := by omega
 have hqge : w.heap.size ≤ q := by omega
 clear hq hbe hk1 hr1 hq1
 by_cases he : e = 0
 · subst he
   obtain ⟨k1, k2⟩ := hke rfl
   have a0 := hq2.cell 0
   have a1 := hq2.cell 1
   simp at a0 a1
   clear hke
   have hlet : ∀ W : World, (Instr.index 9 (.string ⟨#[98, 116, 99]⟩) (.int .i64 (k - 1))).run Tryz.prog W = .ok (.int .u8 ((letter k).toNat : Int)) W := by
    intro W
    have : k = 1 ∨ k = 2 ∨ k = 3 := by omega
    rcases this with rfl | rfl | rfl
    · exact let1 W
    · exact let2 W
    · exact let3 W
   generalize hy : letter k = y at *
   have HY := Lib.hid hy
   have lq2 := hq2.lt
   clear hy
   go_wp2_with fail
   have ho0 := own_one w2 q (by omega) y
   have hw3 : Wt ((w2.alloc (.cells #[bv y] 5)).alloc (.cells #[.slice (some ⟨w2.heap.size, 0, none⟩) 1 1, .int .i64 0, .int .i64 0] 103)) (w2.heap.size + 1) q [y] 0 := by
    refine ⟨_, _, ?_, ho0.alloc _, by omega⟩
    have := Blk.new (w2.alloc (.cells #[bv y] 5)) 103 #[.slice (some ⟨w2.heap.size, 0, none⟩) 1 1, .int .i64 0, .int .i64 0]
    simpa using this
   have hq3 := (hq2.alloc (.cells #[bv y] 5)).alloc (.cells #[.slice (some ⟨w2.heap.size, 0, none⟩) 1 1, .int .i64 0, .int .i64 0] 103)
   have hr3 := (hr2.alloc hz2 (.cells #[bv y] 5)).alloc (by simp; omega) (.cells #[.slice (some ⟨w2.heap.size, 0, none⟩) 1 1, .int .i64 0, .int .i64 0] 103)
   have hk3 := (hk2.alloc (.cells #[bv y] 5)).alloc (.cells #[.slice (some ⟨w2.heap.size, 0, none⟩) 1 1, .int .i64 0, .int .i64 0] 103)
   change Calls _ _ _ ((w2.alloc (.cells #[bv y] 5)).alloc (.cells #[.slice (some ⟨w2.heap.size, 0, none⟩) 1 1, .int .i64 0, .int .i64 0] 103)) _
   have hz3 : q ≤ ((w2.alloc (.cells #[bv y] 5)).alloc (.cells #[.slice (some ⟨w2.heap.size, 0, none⟩) 1 1, .int .i64 0, .int .i64 0] 103)).heap.size := by simp; omega
   generalize (w2.alloc (.cells #[bv y] 5)).alloc (.cells #[.slice (some ⟨w2.heap.size, 0, none⟩) 1 1, .int .i64 0, .int .i64 0] 103) = w3 at *
   have hg : q < w2.heap.size + 1 := by omega
   have hg2 : w.heap.size ≤ w2.heap.size + 1 := by omega
   generalize w2.heap.size + 1 = g at *
   clear ho0 hq2 hr2 hk2 a0 a1 hlet
   refine (wnumber_any 4 b.length (by omega) g q [y] 0 _ hw3 (by simp) hz3).mono ?_
   rintro r w4 ⟨rfl, hw4, hk4⟩
   have hq4 := hk4.blk hq3 (by simp; omega) (by decide)
   have hz4 := hk4.size
   have hkk4 : Kept q [5] [] w w4 := hk3.lift hk4 (Nat.le_refl _) (by simp) (by simp; omega)
   have hbz4 : Below q w w4 := hkk4.below (Nat.le_refl _) hqle (by simp)
   have hr4 : Reads w4 q 1 A b.length (b.map bv) := by
    have := HQ.out
    subst this
    exact hr.below hbz4
   have hl4 : ([y] ++ be 4 b.length).length = 5 := by simp [be_len]
   generalize h5 : [y] ++ be 4 b.length = b5 at *
   have HB5 := Lib.hid h5
   have hl5 : b5.length ≤ 5 := by omega
   obtain ⟨A5, c5, hb5, ho5, hbg5⟩ := hw4
   clear h5 hl4 hq3 hr3 hk3 hw3 hk4
   have l4 := hb5.lt
   have a1 := hq4.cell 1
   have b0 := hb5.cell 0
   have f0 := hb5.frozen 0
   simp at a1 b0
   have hm1 : b5.length + b.length ≤ maxLen := by unfold maxLen; omega
   have hm2 : (b5.length + b.length) * 1 ≤ 140737488355328 := by omega
   have hz4' : q ≤ w4.heap.size := by omega
   go_wp2_with fail
   go_region_law (first | ((refine step_append_sl (by rfl) elemU8C9 (by rfl) (by rfl) ho5.drew (by rfl) hr4.drew (bvs_oneC9 _) hm1 hm2 hz4' ?_); intro A' c' w5 ho6 hk6; have hb6 := hk6.blk hb5.drew (by simp) (by decide); have c6 := hb6.cell 0; have f6 := hb6.frozen 0; simp at c6))
   all_goals
    have T := Wt.more (g := g) (base := q) (bs := b5) (new := b) (m := b.length) (e := 0) (w := w4) hbg5 ((Kept.refl _ _ _ _).drew) hb5.drew rfl ho6 hk6
    go_wp2_with fail
    refine (wdone_any g q _ 0 _ T.1).mono ?_
    rintro r w7 ⟨A7, c7, rfl, ho7, hk7⟩
    have kk7 : Kept q [5] [] w w7 := (hkk4.lift T.2 (Nat.le_refl _) (by simp) (by simp; omega)).lift (Kept.ofKeep (base := q) (E := []) (G := []) hk7 (by unfold Nothing; simp)) (Nat.le_refl _) (by simp) (by simp)
    go_wp2_with fail
    go_ret2
    have := HQ.out
    subst this
    have hE : encObj 0 k b = (b5 ++ b, 0) := by
     unfold encObj
     rw [if_pos rfl, HY.out, ← HB5.out]
     simp
    refine ⟨A7, c7, ?_, ?_, kk7.all⟩
    · rw [hE]; rfl
    · rw [hE]; exact ho7
 · have he1 : (e != 0) = true := by simpa using he
   have HE := Lib.hid (show encObj e k b = ([], e) from if_neg he)
   go_wp2_with fail
   go_ret2
   have := HQ.out
   subst this
   exact ⟨none, 0, by rw [HE.out]; rfl, by rw [HE.out]; exact Own.nil _ _ _ _, hk2.all⟩
end Go.Proofs.YtbaapjlmpmpocaaGreatDoor
