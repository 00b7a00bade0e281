/- Contracts of the reference's cursor: num, bytes, text, id; of its entry. No statement of the seat is proved here. -/
import Derived.Test.YtmlmbkelpjmafaaGreatPT06
import Derived.Test.YtmlmbkelpjmafaaGreatPT03
import Derived.Test.YtmlmbkelpjmafaaGreatPT04
namespace Go.Proofs.YtmlmbkelpjmafaaGreat
open Go.RowKit
def pEnt (b : List UInt8) (at_ : Nat) : Ent :=
 ⟨str (textL b (takeAt b at_ 0 1) (takeE b at_ 0 1) 1), num (takeL b at_ 0 1), idOf (takeL b (textAt b (takeAt b at_ 0 1) (takeE b at_ 0 1) 1) (textE b (takeAt b at_ 0 1) (takeE b at_ 0 1) 1) 32)⟩
def pAt (b : List UInt8) (at_ : Nat) : Nat := takeAt b (textAt b (takeAt b at_ 0 1) (takeE b at_ 0 1) 1) (textE b (takeAt b at_ 0 1) (takeE b at_ 0 1) 1) 32
def pE3 (b : List UInt8) (at_ : Nat) : Int := takeE b (textAt b (takeAt b at_ 0 1) (takeE b at_ 0 1) 1) (textE b (takeAt b at_ 0 1) (takeE b at_ 0 1) 1) 32
def pE (b : List UInt8) (at_ : Nat) (was : ByteArray) (n : Nat) : Int :=
 if pE3 b at_ = 0 then entE (note 0 (decide ((n : Int) < 512)) 4) (pEnt b at_) was ((n : Int) == 0) else pE3 b at_
def parGo (b : List UInt8) : Nat → Nat → Int → ByteArray → List Ent → List Ent × Int
 | 0, _, e, _, out => (out, e)
 | f + 1, at_, e, was, out => if e = 0 ∧ at_ < b.length then parGo b f (pAt b at_) (pE b at_ was out.length) (pEnt b at_).name (out ++ [pEnt b at_]) else (out, e)
def parseTree (b : List UInt8) : List Ent × Int :=
 let r := parGo b b.length 0 0 ByteArray.empty []
 if r.2 = 0 then (r.1, 0) else ([], r.2)
theorem takeAt_ge (b : List UInt8) (at_ : Nat) (e n : Int) : at_ ≤ takeAt b at_ e n := by
 unfold takeAt; split <;> omega
theorem takeE_zero {b : List UInt8} {at_ : Nat} {e n : Int} (h : takeE b at_ e n = 0) : e = 0 ∧ 0 ≤ n ∧ n ≤ b.length - at_ := by
 unfold takeE at h
 split at h
 · exact ⟨h, by assumption⟩
 · rw [note_zero (by decide)] at h; cases h.2
theorem pAt_gt (b : List UInt8) (at_ : Nat) (h : at_ < b.length) : at_ + 1 ≤ pAt b at_ := by
 have h1 : takeAt b at_ 0 1 = at_ + 1 := by unfold takeAt; rw [if_pos ⟨rfl, by omega, by omega⟩]; rfl
 have h2 := takeAt_ge b (takeAt b at_ 0 1) (takeE b at_ 0 1) 1
 have h3 := takeAt_ge b (takeAt b (takeAt b at_ 0 1) (takeE b at_ 0 1) 1) (takeE b (takeAt b at_ 0 1) (takeE b at_ 0 1) 1) (num (takeL b (takeAt b at_ 0 1) (takeE b at_ 0 1) 1))
 have h4 := takeAt_ge b (textAt b (takeAt b at_ 0 1) (takeE b at_ 0 1) 1) (textE b (takeAt b at_ 0 1) (takeE b at_ 0 1) 1) 32
 unfold pAt
 unfold textAt at *
 omega
theorem elemEnt : Elem Tryz.prog 90 117 34 56 := by
 refine ⟨Tryz.underlying90, ?_, by decide⟩
 obtain ⟨i, hi, h1, h2, h3⟩ := info_parts (show (Tryz.prog.info? 117).map (fun i => (i.zero, i.size, i.bytes)) = some (some (entV ⟨ByteArray.empty, 0, noId⟩), 34, 56) by kernel_rfl)
 exact ⟨i, _, hi, h1, h2, h3, entC_size _⟩
def ent0 : Ent := ⟨ByteArray.empty, 0, noId⟩
theorem zero_ent (w : World) : (zeroValue 117).run Tryz.prog w = .ok (.agg (entC ent0)) w := by kernel_rfl
theorem build_ent (s : ByteArray) (k : Int) (w : World) : (Instr.build 117 #[(1, .int .i64 k), (0, .string s)]).run Tryz.prog w = .ok (.agg (entC ⟨s, k, noId⟩)) w := by kernel_rfl
theorem spl_ent (s : ByteArray) (k : Int) (i j : Id) : spl (entC ⟨s, k, i⟩) 2 (idC j).toList = entC ⟨s, k, j⟩ := by
 apply Array.ext'
 have h1 := idL_len i
 have h2 := idL_len j
 simp [spl, entC, entL, idC, h2]
 omega
def ParPost (b : List UInt8) (w : World) (r : Ending) (w' : World) : Prop :=
 ∃ A c, r = .returned (.tuple #[.slice A (parseTree b).1.length c, .int .i64 (parseTree b).2]) ∧ Own w' w.heap.size 117 34 A (parseTree b).1.length c (entLs (parseTree b).1) ∧ Below w.heap.size w w'
set_option maxHeartbeats 4000000 in
set_option maxRecDepth 100000 in
theorem parseTree_any (b : List UInt8) (A : Option Addr) (c : Nat) (w : World) (hr : Reads w w.heap.size 1 A b.length (b.map bv)) (hl : b.length ≤ 1000000) (hc1 : b.length ≤ c) (hc2 : c ≤ maxLen) :
    Calls Tryz.prog 70 #[.slice A b.length c] w (ParPost b w) := by
 go_enter Tryz.func70, Tryz.ntmps70
 go_wp2_with fail
 have hR0 : Rd (w.alloc (.cells #[.slice A b.length c, .int .i64 0, .int .i64 0] 155)) w.heap.size w.heap.size b 0 0 := ⟨A, c, Blk.new _ _ _, hr.alloc (Nat.le_refl _) _, Nat.zero_le _, hc1, hc2, Nat.le_refl _⟩
 have hk0 : Kept w.heap.size [117] [] w (w.alloc (.cells #[.slice A b.length c, .int .i64 0, .int .i64 0] 155)) := (Kept.refl _ _ _ _).alloc _
 generalize w.alloc (.cells #[.slice A b.length c, .int .i64 0, .int .i64 0] 155) = w0 at *
 generalize hq : w.heap.size = q at *
 have HQ := Lib.hid hq
 have hqle : q ≤ w.heap.size := by omega
 clear hq
 go_loopg [5, 6] b.length (fun f o was wr => ∃ at_ e ws out A' c', o = .slice A' out.length c' ∧ was = .string ws ∧ parGo b f at_ e ws out = parGo b b.length 0 0 ByteArray.empty [] ∧ Rd wr q q b at_ e ∧ Own wr q 117 34 A' out.length c' (entLs out) ∧ Kept q [117] [] w wr ∧ (b.length ≤ at_ + f ∨ e ≠ 0) ∧ out.length + f ≤ b.length)
 case atStart => exact ⟨0, 0, ByteArray.empty, [], none, 0, rfl, rfl, rfl, hR0, Own.nil _ _ _ _, hk0, .inl (by omega), by simp⟩
 case round =>
  obtain ⟨at_, e, ws, out, A', c', rfl, rfl, hpar, hR, hown, hkp, hfu, hol⟩ := hrel
  have HP := Lib.hid hpar
  have HF := Lib.hid hfu
  clear hpar hfu
  have hz := hkp.size
  obtain ⟨A1, c1, hb, hR1⟩ := hR.blk
  have r1 := hb.cell 1
  have r2 := hb.cell 2
  simp at r1 r2
  by_cases hgo : e = 0 ∧ at_ < b.length
  · obtain ⟨he, hat⟩ := hgo
    subst he
    cases gk with
    | zero => exact absurd HF.out (by omega)
    | succ f =>
     have HP2 := Lib.hid (show parGo b (f + 1) at_ 0 ws out = parGo b f (pAt b at_) (pE b at_ ws out.length) (pEnt b at_).name (out ++ [pEnt b at_]) from by show (if _ then _ else _) = _; rw [if_pos ⟨rfl, hat⟩])
     go_wp2_with fail
     refine (rnumber_any 1 (by omega) q q b at_ 0 _ hR (by omega)).mono ?_
     rintro r w1 ⟨rfl, hRa, hka⟩
     have hza := hka.size
     have hv := num_lt8 (takeL b at_ 0 1) (by have := takeL_le b at_ 0 1; simp at this; omega)
     go_wp2_with fail
     refine (rtext_any 1 (by omega) q q b _ _ _ hRa (by omega)).mono ?_
     rintro r w2 ⟨rfl, hRb, hkb⟩
     have hzb := hkb.size
     go_wp2_with (first | (refine wpList_built rfl rfl (vs := #[(1, .int .i64 _), (0, .string _)]) rfl (build_ent _ _ _) ?_) | (refine wpList_allocAgg rfl rfl (zero_ent _) ?_) | (refine wpList_storeBlk rfl rfl (vs := entC ⟨_, _, noId⟩) rfl rfl (Blk.new _ _ _) (by rw [entC_size, entC_size]) (by rw [entC_size]; exact info_ent) (entL_one _) ?_; intro w3 hx3 hkc hzc))
     have hkN : Keep Nothing w2 w3 := Keep.ofNew hkc
     have hRc := hRb.keep (by omega) hkN (fun _ h => h.elim)
     have hkw : Keep (Only q) wr w3 := (hka.trans hkb).trans (hkN.mono (fun _ _ h => h.elim))
     have hp : q < w2.heap.size := by have := hb.lt; omega
     have hpw : wr.heap.size ≤ w2.heap.size := by omega
     have hpe := hx3.lt
     generalize w2.heap.size = p at *
     clear hkc hRb hRa hka hkb hza hzb hkN hzc
     refine (rid_any q q b _ _ _ hRc (by omega)).mono ?_
     rintro r w4 ⟨rfl, hRd, hkd⟩
     have hx4 := hx3.keep hkd (by unfold Only; omega)
     have hzd := hkd.size
     have hkw4 := hkw.trans hkd
     clear hkd hx3 hRc hkw
     have hRd' : Rd w4 q q b (pAt b at_) (pE3 b at_) := hRd
     clear hRd
     by_cases h3 : pE3 b at_ = 0
     · have HE3 := Lib.hid h3
       rw [h3] at hRd'
       clear h3
       go_wp2_with (first | (refine wpList_storePart rfl rfl (off := 2) (vs := idC _) rfl rfl hx4 (by rw [idC_size, entC_size]; decide) (by rw [idC_size]; exact info42) (idL_one _) ?_; intro w5 hx5 hke hze; rw [spl_ent] at hx5; have hRe := hRd'.keep (by omega) hke (by unfold Only; intro i hi; omega); obtain ⟨A5, c5, hb5, hR5⟩ := hRe.blk; have e5 := hb5.cell 2; simp at e5))
       have hx5' : Blk w5 p 117 (entC (pEnt b at_)) := hx5
       have hkw5 : Keep (Only q) wr w5 := hkw4.then_ hke (by unfold Only; intro i hi h; omega)
       clear hx5 hke hx4
       refine (must_any q _ _ _ 0 4 _ _ hb5).mono ?_
       rintro r w6 ⟨rfl, hb6, hk6⟩
       have hx6 := hx5'.keep hk6 (by unfold Only; omega)
       have hR6 := hR5 _ _ hb6 (by omega) hk6
       have hkw6 := hkw5.trans hk6
       have hz6 := hk6.size
       clear hk6 hx5' hkw5 hb5 hR5 hRe hb6 e5
       obtain ⟨A6, c6, hb6, hR6'⟩ := hR6.blk
       go_wp2_with fail
       refine wp_region_still_tail 8 (by kernel_rfl) (by kernel_rfl) ?_
       simp only [List.take_succ_cons, List.take_zero, List.drop_succ_cons, List.drop_zero]
       still_step
       still_step
       still_step
       refine still_load rfl rfl rfl (load_ent hx6.drew) ?_
       go_frame
       still_step
       still_step
       still_step
       still_step
       refine wpStill_nil ?_
       change wpList _ _ _ _ _ w6.drew
       go_wp2_with fail
       refine (entry_any q _ _ _ _ (pEnt b at_) ws _ _ hb6.drew).mono ?_
       rintro r w7 ⟨rfl, hb7, hk7⟩
       have hk67 : Keep (Only q) w6 w7 := (Keep.drew (Keep.refl (Only q) w6)).trans hk7
       have hx9 := hx6.keep hk67 (by unfold Only; omega)
       have hR9 := hR6' _ _ hb7 (by omega) hk67
       have hk9 := hkw6.trans hk67
       have HE9 := Lib.hid (show entE (note 0 (decide ((out.length : Int) < 512)) 4) (pEnt b at_) ws ((out.length : Int) == 0) = pE b at_ ws out.length from by unfold pE; rw [if_pos HE3.out])
       have o9 := hown.keepOnly hk9 hb (by decide)
       have kk9 : Kept q [117] [] w w7 := hkp.lift (Kept.ofKeep (base := q) (E := []) (G := [q]) hk9 (by unfold Only; simp)) (Nat.le_refl _) (by simp) (by simp [HQ.out])
       have x9 := hx9.cell 0
       have lp9 := hx9.lt
       have z9 := hk9.size
       simp [entC, entL] at x9
       go_wp2_with (first | (refine wpList_load rfl rfl rfl (load_ent hx9) ?_) | (refine wpList_buildSlice1 rfl elemEnt rfl zero_ent (entC_size _) (entC_size _) (by omega) rfl ?_) | (at_builtin; refine wpList_append_sl rfl elemEnt rfl rfl (o9.alloc _) rfl (Reads.of_cells (n := 1) (xs := entL (pEnt b at_)) (heap_alloc_new _ _) rfl (by rw [entL_len])) (entL_one _) (by unfold maxLen; omega) (by omega) (by simp; omega) ?_; intro A10 c10 w10 o10 k10))
       go_roundg f
       case measure => omega
       case rel =>
        have kk10 : Kept q [117] [] w w10 := (kk9.alloc _).trans k10
        have hR10 : Rd w10 q q b (pAt b at_) (pE b at_ ws out.length) := by
         rw [← HE9.out]
         obtain ⟨Ar, cr, br, rr, r1, r2, r3, r4⟩ := hR9.alloc (by omega) (.cells (entC (pEnt b at_)) 117)
         exact ⟨Ar, cr, k10.blk br (by simp) (by decide), rr.below (k10.below (Nat.le_refl _) (by simp; omega) (by simp)), r1, r2, r3, r4⟩
        refine ⟨pAt b at_, pE b at_ ws out.length, (pEnt b at_).name, out ++ [pEnt b at_], A10, c10, by simp, rfl, by rw [← HP2.out]; exact HP.out, hR10, ?_, kk10, ?_, by simp; omega⟩
        · simpa [entLs] using o10
        · have := HF.out
          have := pAt_gt b at_ hat
          omega
     · have h3' : (pE3 b at_ == 0) = false := beq_eq_false_iff_ne.2 h3
       have HE3 := Lib.hid h3
       clear h3
       go_wp2_with (first | (refine wpList_storePart rfl rfl (off := 2) (vs := idC _) rfl rfl hx4 (by rw [idC_size, entC_size]; decide) (by rw [idC_size]; exact info42) (idL_one _) ?_; intro w5 hx5 hke hze; rw [spl_ent] at hx5; have hRe := hRd'.keep (by omega) hke (by unfold Only; intro i hi; omega); obtain ⟨A5, c5, hb5, hR5⟩ := hRe.blk; have e5 := hb5.cell 2; have x5 := hx5.cell 0; simp [entC, entL] at e5 x5; have k5 : Keep (Only q) wr w5 := hkw4.then_ hke (by unfold Only; intro i hi h; omega); have o9 := hown.keepOnly k5 hb (by decide); have z9 := k5.size; have lp9 := hx5.lt) | (refine wpList_load rfl rfl rfl (load_ent hx5) ?_) | (refine wpList_buildSlice1 rfl elemEnt rfl zero_ent (entC_size _) (entC_size _) (by omega) rfl ?_) | (at_builtin; refine wpList_append_sl rfl elemEnt rfl rfl (o9.alloc _) rfl (Reads.of_cells (n := 1) (xs := entL (pEnt b at_)) (heap_alloc_new _ _) rfl (by rw [entL_len])) (entL_one _) (by unfold maxLen; omega) (by omega) (by simp; omega) ?_; intro A10 c10 w10 o10 k10))
       go_roundg f
       case measure => omega
       case rel =>
        have kk9 : Kept q [117] [] w w5 := hkp.lift (Kept.ofKeep (base := q) (E := []) (G := [q]) k5 (by unfold Only; simp)) (Nat.le_refl _) (by simp) (by simp [HQ.out])
        have kk10 : Kept q [117] [] w w10 := (kk9.alloc _).trans k10
        have hR10 : Rd w10 q q b (pAt b at_) (pE b at_ ws out.length) := by
         unfold pE
         rw [if_neg HE3.out]
         obtain ⟨Ar, cr, br, rr, r1, r2, r3, r4⟩ := hRe.alloc (by omega) (.cells (entC (pEnt b at_)) 117)
         exact ⟨Ar, cr, k10.blk br (by simp) (by decide), rr.below (k10.below (Nat.le_refl _) (by simp; omega) (by simp)), r1, r2, r3, r4⟩
        refine ⟨pAt b at_, pE b at_ ws out.length, (pEnt b at_).name, out ++ [pEnt b at_], A10, c10, by simp, rfl, by rw [← HP2.out]; exact HP.out, hR10, ?_, kk10, ?_, by simp; omega⟩
        · simpa [entLs] using o10
        · have := HF.out
          have := pAt_gt b at_ hat
          omega
  · have hend : parGo b b.length 0 0 ByteArray.empty [] = (out, e) := by
     rw [← HP.out]
     cases gk with
     | zero => rfl
     | succ f => show (if _ then _ else _) = _; rw [if_neg hgo]
    by_cases he : e = 0
    · subst he
      have hat : ¬ at_ < b.length := fun q => hgo ⟨rfl, q⟩
      have hpt : parseTree b = (out, 0) := by unfold parseTree; rw [hend]; rfl
      have HT := Lib.hid hpt
      have hat' : b.length ≤ at_ := by omega
      clear hpt hend hgo hat
      go_wp2_with fail
      go_ret2
      refine ⟨A', c', ?_, ?_, ?_⟩
      · rw [HT.out]; rfl
      · rw [HT.out, HQ.out]; exact hown
      · have := HQ.out
        subst this
        exact hkp.all
    · have he' : (e == 0) = false := beq_eq_false_iff_ne.2 he
      have he'' : (e != 0) = true := by simpa using he
      have hpt : parseTree b = ([], e) := by unfold parseTree; rw [hend]; simp only; rw [if_neg he]
      have HT := Lib.hid hpt
      clear hpt hend hgo he
      go_wp2_with fail
      go_quiet (fail)
      go_wp2_with fail
      go_ret2
      refine ⟨none, 0, ?_, ?_, ?_⟩
      · rw [HT.out]; rfl
      · rw [HT.out]; exact Own.nil _ _ _ _
      · have := HQ.out
        subst this
        exact (hkp.drewN _).all
end Go.Proofs.YtmlmbkelpjmafaaGreat
namespace Go.Proofs.YtmlmbkelpjmafaaGreat
open Go.RowKit
def Cu (w : World) (g B : Nat) (b : List UInt8) (at_ : Nat) (e : Int) : Prop :=
 ∃ A cap, Blk w g 114 #[.slice A b.length cap, .int .i64 at_, .bool (e != 0)] ∧ Reads w B 1 A b.length (b.map bv) ∧ at_ ≤ b.length ∧ b.length ≤ cap ∧ cap ≤ maxLen ∧ B ≤ g
section
variable {w w' : World} {g B : Nat} {b : List UInt8} {at_ : Nat} {e : Int}
theorem Cu.alloc (h : Cu w g B b at_ e) (hB : B ≤ w.heap.size) (o : Obj) : Cu (w.alloc o) g B b at_ e := by
 obtain ⟨A, c, hb, hrd, h1, h2, h3, h4⟩ := h
 exact ⟨A, c, hb.alloc o, hrd.alloc hB o, h1, h2, h3, h4⟩
theorem Cu.drew (h : Cu w g B b at_ e) : Cu w.drew g B b at_ e := h
theorem Cu.keep {S : Nat → Prop} (h : Cu w g B b at_ e) (hB : B ≤ w.heap.size) (hk : Keep S w w') (hS : ∀ i, S i → B ≤ i ∧ i ≠ g) : Cu w' g B b at_ e := by
 obtain ⟨A, c, hb, hrd, h1, h2, h3, h4⟩ := h
 exact ⟨A, c, hb.keep hk (fun q => (hS g q).2 rfl), hrd.kept hk hB (fun i hi q => by have := (hS i q).1; omega), h1, h2, h3, h4⟩
theorem Cu.lt (h : Cu w g B b at_ e) : g < w.heap.size := by obtain ⟨_, _, hb, _⟩ := h; exact hb.lt
theorem Cu.same {e' : Int} (h : Cu w g B b at_ e) (he : (e != 0) = (e' != 0)) : Cu w g B b at_ e' := by
 unfold Cu
 rw [← he]
 exact h
end
theorem take_e (b : List UInt8) (at_ : Nat) (e n : Int) (he : (e != 0) = true) : takeL b at_ e n = [] ∧ takeAt b at_ e n = at_ ∧ takeE b at_ e n = e := by
 have h : e ≠ 0 := by simpa using he
 refine ⟨if_neg (fun q => h q.1), if_neg (fun q => h q.1), ?_⟩
 unfold takeE note
 rw [if_neg h]
 split <;> rfl
theorem take_cut (b : List UInt8) (at_ : Nat) (n : Int) (h : (b.length : Int) - at_ < n) : takeL b at_ 0 n = [] ∧ takeAt b at_ 0 n = at_ ∧ takeE b at_ 0 n = 14 := by
 refine ⟨if_neg (fun q => by omega), if_neg (fun q => by omega), ?_⟩
 unfold takeE
 rw [if_neg (fun q => by omega)]
 rfl
theorem take_good (b : List UInt8) (at_ n : Nat) (h : at_ + n ≤ b.length) : takeL b at_ 0 n = (b.drop at_).take n ∧ takeAt b at_ 0 n = at_ + n ∧ takeE b at_ 0 n = 0 := by
 have h' : (0 : Int) ≤ (n : Int) ∧ (n : Int) ≤ (b.length : Int) - at_ := by omega
 refine ⟨?_, ?_, ?_⟩
 · unfold takeL; rw [if_pos ⟨rfl, h'⟩]; simp
 · unfold takeAt; rw [if_pos ⟨rfl, h'⟩]; simp
 · unfold takeE; rw [if_pos h']
theorem Own.fresh0 {w : World} {g base : Nat} {e : TypeId} {size : Nat} (h : w.heap[g]? = some (.cells #[] e (0, 0))) (hb : base ≤ g) : Own w base e size (some ⟨g, 0, none⟩) 0 0 [] :=
 ⟨by simp, .inr ⟨g, 0, #[], rfl, hb, h, Nat.le_refl _, Nat.zero_le _, by simp, by simp⟩⟩
def CNumPost (g B : Nat) (b : List UInt8) (at_ : Nat) (e n : Int) (w : World) (r : Ending) (w' : World) : Prop :=
 r = .returned (.int .i64 (num (takeL b at_ e n))) ∧ Cu w' g B b (takeAt b at_ e n) (takeE b at_ e n) ∧ Keep (Only g) w w'
def CBytesPost (g B : Nat) (b : List UInt8) (at_ : Nat) (e n : Int) (w : World) (r : Ending) (w' : World) : Prop :=
 ∃ A c, r = .returned (.slice A (takeL b at_ e n).length c) ∧ Own w' w.heap.size 5 1 A (takeL b at_ e n).length c ((takeL b at_ e n).map bv) ∧
  Cu w' g B b (takeAt b at_ e n) (takeE b at_ e n) ∧ Keep (Only g) w w'
set_option maxHeartbeats 1000000 in
theorem cnum_any (n : Nat) (hn : n ≤ 7) (g B : Nat) (b : List UInt8) (at_ : Nat) (e : Int) (w : World) (hr : Cu w g B b at_ e) (_hB : B ≤ w.heap.size) :
    Calls Tryz.prog 46 #[.pointer (some ⟨g, 0, none⟩), .int .i64 n] w (CNumPost g B b at_ e n w) := by
 obtain ⟨A, cap, hb, hrd, hat, hcap, hmax', hBg⟩ := hr
 have hmax := hmax'
 unfold maxLen at hmax
 have c0 := hb.cell 0
 have c1 := hb.cell 1
 have c2 := hb.cell 2
 have f1 := hb.frozen 1
 have f2 := hb.frozen 2
 simp at c0 c1 c2
 cases he : e != 0 with
 | true =>
  rw [he] at c2
  obtain ⟨t1, t2, t3⟩ := take_e b at_ e n he
  have HT := Lib.hid (And.intro t1 (And.intro t2 t3))
  have HE := Lib.hid he
  clear t1 t2 t3 he
  go_enter Tryz.func46, Tryz.ntmps46
  go_wp2_with fail
  go_quiet (fail)
  go_wp2_with fail
  go_ret
  refine ⟨by rw [HT.out.1]; rfl, ?_, ((Keep.refl (Only g) w).drewN nq).setCell (p := ⟨g, 2, none⟩) (.inl rfl) _⟩
  rw [HT.out.2.1, HT.out.2.2]
  refine ⟨A, cap, ?_, hrd.setCell (p := ⟨g, 2, none⟩) hBg _, hat, hcap, hmax', hBg⟩
  rw [HE.out]
  simpa using (hb.drewN nq).set_ 2 (.bool true)
 | false =>
  rw [he] at c2
  obtain rfl : e = 0 := by simpa using he
  by_cases hbig : (b.length : Int) - at_ < n
  · have hd : decide ((b.length : Int) - at_ < n) = true := decide_eq_true hbig
    obtain ⟨t1, t2, t3⟩ := take_cut b at_ n hbig
    have HT := Lib.hid (And.intro t1 (And.intro t2 t3))
    clear t1 t2 t3 he
    go_enter Tryz.func46, Tryz.ntmps46
    go_wp2_with fail
    go_quiet (fail)
    go_wp2_with fail
    go_ret
    refine ⟨by rw [HT.out.1]; rfl, ?_, ((Keep.refl (Only g) w).drewN nq).setCell (p := ⟨g, 2, none⟩) (.inl rfl) _⟩
    rw [HT.out.2.1, HT.out.2.2]
    refine ⟨A, cap, ?_, hrd.setCell (p := ⟨g, 2, none⟩) hBg _, hat, hcap, hmax', hBg⟩
    simpa using (hb.drewN nq).set_ 2 (.bool true)
  · have hd : decide ((b.length : Int) - at_ < n) = false := decide_eq_false hbig
    obtain ⟨t1, t2, t3⟩ := take_good b at_ n (by omega)
    have HT := Lib.hid (And.intro t1 (And.intro t2 t3))
    have hb63 : (at_ : Int) + n ≤ 9223372036854775807 := by omega
    clear t1 t2 t3 he
    go_enter Tryz.func46, Tryz.ntmps46
    go_wp2_with fail
    go_quiet (fail)
    go_wp2_with fail
    have hbq := hb.drewN nq
    have hrq := hrd.drewN nq
    have hkq : Keep (Only g) w (w.drewN nq) := (Keep.refl _ _).drewN nq
    generalize w.drewN nq = w1 at *
    clear c0 c1 c2 f1 f2
    have c0 := hbq.cell 0
    have c1 := hbq.cell 1
    have f1 := hbq.frozen 1
    simp at c0 c1
    go_quiet ((go_at_call 67; exact (get_any b at_ n (by omega) hn B A cap _ (hrq.drewN _) (by omega)).mono fun _ _ h => ⟨h.1, _, h.2.symm⟩))
    go_wp2_with fail
    go_ret
    refine ⟨by rw [HT.out.1]; rfl, ?_, (hkq.drewN nq).setCell (p := ⟨g, 1, none⟩) (.inl rfl) _⟩
    rw [HT.out.2.1, HT.out.2.2]
    refine ⟨A, cap, ?_, (hrq.drewN nq).setCell (p := ⟨g, 1, none⟩) hBg _, by omega, hcap, hmax', hBg⟩
    simpa using (hbq.drewN nq).set_ 1 (.int .i64 ((at_ : Int) + (n : Int)))
set_option maxHeartbeats 2000000 in
theorem cbytes_any (n : Nat) (g B : Nat) (b : List UInt8) (at_ : Nat) (e : Int) (w : World) (hr : Cu w g B b at_ e) (hB : B ≤ w.heap.size) (hbl : b.length ≤ 140737488355328) :
    Calls Tryz.prog 51 #[.pointer (some ⟨g, 0, none⟩), .int .i64 n] w (CBytesPost g B b at_ e n w) := by
 obtain ⟨A, cap, hb, hrd, hat, hcap, hmax', hBg⟩ := hr
 have hmax := hmax'
 unfold maxLen at hmax
 have c0 := hb.cell 0
 have c1 := hb.cell 1
 have c2 := hb.cell 2
 have f1 := hb.frozen 1
 have f2 := hb.frozen 2
 simp at c0 c1 c2
 cases he : e != 0 with
 | true =>
  rw [he] at c2
  obtain ⟨t1, t2, t3⟩ := take_e b at_ e n he
  have HT := Lib.hid (And.intro t1 (And.intro t2 t3))
  have HE := Lib.hid he
  clear t1 t2 t3 he
  go_enter Tryz.func51, Tryz.ntmps51
  go_wp2_with fail
  go_quiet (fail)
  go_wp2_with fail
  go_ret
  refine ⟨none, 0, by rw [HT.out.1]; rfl, by rw [HT.out.1]; exact Own.nil _ _ _ _, ?_, ((Keep.refl (Only g) w).drewN nq).setCell (p := ⟨g, 2, none⟩) (.inl rfl) _⟩
  rw [HT.out.2.1, HT.out.2.2]
  refine ⟨A, cap, ?_, hrd.setCell (p := ⟨g, 2, none⟩) hBg _, hat, hcap, hmax', hBg⟩
  rw [HE.out]
  simpa using (hb.drewN nq).set_ 2 (.bool true)
 | false =>
  rw [he] at c2
  obtain rfl : e = 0 := by simpa using he
  by_cases hbig : (b.length : Int) - at_ < n
  · have hd : decide ((b.length : Int) - at_ < n) = true := decide_eq_true hbig
    obtain ⟨t1, t2, t3⟩ := take_cut b at_ n hbig
    have HT := Lib.hid (And.intro t1 (And.intro t2 t3))
    clear t1 t2 t3 he
    go_enter Tryz.func51, Tryz.ntmps51
    go_wp2_with fail
    go_quiet (fail)
    go_wp2_with fail
    go_ret
    refine ⟨none, 0, by rw [HT.out.1]; rfl, by rw [HT.out.1]; exact Own.nil _ _ _ _, ?_, ((Keep.refl (Only g) w).drewN nq).setCell (p := ⟨g, 2, none⟩) (.inl rfl) _⟩
    rw [HT.out.2.1, HT.out.2.2]
    refine ⟨A, cap, ?_, hrd.setCell (p := ⟨g, 2, none⟩) hBg _, hat, hcap, hmax', hBg⟩
    simpa using (hb.drewN nq).set_ 2 (.bool true)
  · have hd : decide ((b.length : Int) - at_ < n) = false := decide_eq_false hbig
    have han : at_ + n ≤ b.length := by omega
    obtain ⟨t1, t2, t3⟩ := take_good b at_ n han
    have HT := Lib.hid (And.intro t1 (And.intro t2 t3))
    have hb63 : (at_ : Int) + n ≤ 9223372036854775807 := by omega
    have hw8 : IntKind.i64.wrap ((at_ : Int) + (n : Int)) = (at_ : Int) + (n : Int) := IntWalk.i64_in _ (by omega)
    have hl : ((b.drop at_).take n).length = n := by simp; omega
    have HL := Lib.hid hl
    clear t1 t2 t3 he hl
    have hs1 : (0 : Int) ≤ (at_ : Int) + (n : Int) := by omega
    have hs2 : (at_ : Int) + (n : Int) ≤ (cap : Int) := by omega
    have hs3 : ((at_ : Int) + (n : Int)).toNat = at_ + n := by omega
    obtain ⟨S, hS, hSr⟩ : ∃ S, (if cap = at_ then A else A.map (·.add at_)) = S ∧ ((cap = at_) = True ∧ A = S ∨ (cap = at_) = False ∧ A.map (·.add at_) = S) := by
     refine ⟨_, rfl, ?_⟩
     by_cases h : cap = at_
     · exact .inl ⟨eq_true h, (if_pos h).symm⟩
     · exact .inr ⟨eq_false h, (if_neg h).symm⟩
    have HSS := Lib.hid hS
    clear hS
    rcases hSr with ⟨hca, hS2⟩ | ⟨hca, hS2⟩
    all_goals
     go_enter Tryz.func51, Tryz.ntmps51
     go_wp2_with fail
     go_quiet (fail)
     go_wp2_with fail
     have hbq := hb.drewN nq
     have hrq := hrd.drewN nq
     have hkq : Keep (Only g) w (w.drewN nq) := (Keep.refl _ _).drewN nq
     have hwz1 : (w.drewN nq).heap.size ≤ w.heap.size := Nat.le_refl _
     have hwz2 : w.heap.size ≤ (w.drewN nq).heap.size := Nat.le_refl _
     have hlg := hbq.lt
     generalize w.drewN nq = w1 at *
     clear c0 c1 c2 f1 f2
     have c0 := hbq.cell 0
     have c1 := hbq.cell 1
     have f1 := hbq.frozen 1
     simp at c0 c1
     have hsrc := (hrq.cut (k := at_) (cap := cap) hat hcap).front (k := n) (by omega)
     simp only [Nat.mul_one] at hsrc
     rw [HSS.out] at hsrc
     rw [← List.map_drop, ← List.map_take] at hsrc
     have hsub := fun m : Nat => Nat.add_sub_cancel_left (n := m) (m := n)
     have hBz : B ≤ w1.heap.size := by omega
     have hm1 : 0 + n ≤ maxLen := by unfold maxLen; omega
     have hm2 : (0 + n) * 1 ≤ 140737488355328 := by omega
     go_region_held3 (fun w' => w'.cell? ⟨g, 0, none⟩ = some (.slice A b.length cap) ∧ w'.cell? ⟨g, 1, none⟩ = some (.int .i64 (at_ : Int))) (first | go_keep) (first | ((refine step_append_sl (by rfl) elemU8 (by rfl) (by rfl) (Own.fresh0 (heap_alloc_new _ _) (Nat.le_refl _)) (by rfl) (hsrc.drew.alloc hBz _) (bvs_one _) hm1 hm2 (by simp) ?_); intro A2 c2 w2 ho2 hk2; have hb2 := hk2.blk (hbq.drew.alloc _) (by simp) (by decide); have d0 := hb2.cell 0; have d1 := hb2.cell 1; have g1 := hb2.frozen 1; simp at d0 d1))
     go_wp2_with fail
     go_ret
     have o3 := ((ho2.setCell (p := ⟨g, 1, none⟩) hb2 (by decide) (.int .i64 ((at_ : Int) + (n : Int)))).mono hwz2)
     simp only [Nat.zero_add, List.nil_append] at o3
     have k2 : Keep (Only g) w1 w2 := (((Keep.refl (Only g) w1).drew.alloc _).then_ hk2 (fun i hi q => by
      rcases q with q | ⟨h1, _⟩
      · simp at q
      · have : i < w1.heap.size := hi
        have : w1.heap.size ≤ i := h1
        omega))
     refine ⟨A2, c2, ?_, ?_, ?_, (hkq.trans k2).setCell (p := ⟨g, 1, none⟩) (.inl rfl) _⟩
     · rw [HT.out.1, HL.out]; simp
     · rw [HT.out.1, HL.out]; exact o3
     · rw [HT.out.2.1, HT.out.2.2]
       refine ⟨A, cap, ?_, (hrq.kept k2 hBz (fun i hi q => by unfold Only at q; omega)).setCell (p := ⟨g, 1, none⟩) hBg _, han, hcap, hmax', hBg⟩
       simpa using hb2.set_ 1 (.int .i64 ((at_ : Int) + (n : Int)))
end Go.Proofs.YtmlmbkelpjmafaaGreat
