/- Contract of codec.EncodeObj, out of one of its body's look. No statement of the seat is proved here. -/
import Derived.Test.YtmlmbkelpjmafaaGreatPT08
namespace Go.Proofs.YtmlmbkelpjmafaaGreat
open Go.RowKit
theorem par_go {b : List UInt8} {f at_ : Nat} {ws : ByteArray} {out : List Ent} (hat : at_ < b.length) : parGo b (f + 1) at_ 0 ws out = parGo b f (pAt b at_) (pE b at_ ws out.length) (pEnt b at_).name (out ++ [pEnt b at_]) := by
 show (if _ then _ else _) = _
 rw [if_pos ⟨rfl, hat⟩]
theorem par_stop {b : List UInt8} {f at_ : Nat} {e : Int} {ws : ByteArray} {out : List Ent} (h : ¬ (e = 0 ∧ at_ < b.length)) : parGo b f at_ e ws out = (out, e) := by
 cases f with
 | zero => rfl
 | succ f => show (if _ then _ else _) = _; rw [if_neg h]
theorem parse_err {b : List UInt8} {f at_ : Nat} {e : Int} {ws : ByteArray} {out : List Ent} (h : parGo b (f + 1) at_ 0 ws out = parGo b b.length 0 0 ByteArray.empty []) (hat : at_ < b.length) (he : pE b at_ ws out.length = e) (h0 : e ≠ 0) : parseTree b = ([], e) := by
 rw [par_go hat, he, par_stop (fun q => h0 q.1)] at h
 unfold parseTree
 rw [← h]
 simp only
 rw [if_neg h0]
theorem takeE_14 (b : List UInt8) (at_ : Nat) (n : Int) {e : Int} (h : e = 0 ∨ e = 14) : takeE b at_ e n = 0 ∨ takeE b at_ e n = 14 := by
 unfold takeE
 split
 · exact h
 · unfold note; rcases h with rfl | rfl <;> simp
theorem pE3_14 (b : List UInt8) (at_ : Nat) : pE3 b at_ = 0 ∨ pE3 b at_ = 14 := by
 unfold pE3 textE
 exact takeE_14 _ _ _ (takeE_14 _ _ _ (takeE_14 _ _ _ (takeE_14 _ _ _ (.inl rfl))))
theorem build_ent1 (k : Int) (w : World) : (Instr.build 117 #[(1, .int .i64 k)]).run Tryz.prog w = .ok (.agg (entC ⟨ByteArray.empty, k, noId⟩)) w := by kernel_rfl
theorem set_ent (s t : ByteArray) (k : Int) (i : Id) : (entC ⟨s, k, i⟩).setIfInBounds 0 (.string t) = entC ⟨t, k, i⟩ := by
 apply Array.ext'
 simp [entC, entL]
theorem entE_4 (x : Ent) (was : ByteArray) (first : Bool) : entE 4 x was first = 4 := by
 have hn : ∀ b e, note 4 b e = 4 := fun b e => by unfold note; rw [if_neg (by decide)]
 unfold entE
 rw [hn, hn, hn, hn]
theorem parse_ret_err {b : List UInt8} {w w4 : World} {e : Int} (he : parseTree b = ([], e)) (hk4 : Kept w.heap.size [117] [] w w4) : ParPost b w (.returned (.tuple #[.slice none 0 0, .int .i64 e])) w4 :=
 ⟨none, 0, by rw [he]; rfl, by rw [he]; exact Own.nil _ _ _ _, hk4.all⟩
set_option maxHeartbeats 4000000 in
set_option maxRecDepth 100000 in
theorem rparseTree_any (b : List UInt8) (A : Option Addr) (c : Nat) (w : World) (hr : Reads w w.heap.size 1 A b.length (b.map bv)) (hl : b.length ≤ 1000000) (hc1 : b.length ≤ c) (hc2 : c ≤ maxLen) :
    Calls Tryz.prog 31 #[.slice A b.length c] w (ParPost b w) := by
 go_enter Tryz.func31, Tryz.ntmps31
 go_wp2_with fail
 have hR0 : Cu (w.alloc (.cells #[.slice A b.length c, .int .i64 0, .bool false] 114)) w.heap.size w.heap.size b 0 0 := ⟨A, c, Blk.new _ _ _, hr.alloc (Nat.le_refl _) _, Nat.zero_le _, hc1, hc2, Nat.le_refl _⟩
 have hk0 : Kept w.heap.size [117] [] w (w.alloc (.cells #[.slice A b.length c, .int .i64 0, .bool false] 114)) := (Kept.refl _ _ _ _).alloc _
 generalize w.alloc (.cells #[.slice A b.length c, .int .i64 0, .bool false] 114) = w0 at *
 generalize hq : w.heap.size = q at *
 have HQ := Lib.hid hq
 have hqle : q ≤ w.heap.size := by omega
 clear hq
 go_loopg [5, 6] b.length (fun f o was wr => ∃ at_ ws out A' c', o = .slice A' out.length c' ∧ was = .string ws ∧ parGo b f at_ 0 ws out = parGo b b.length 0 0 ByteArray.empty [] ∧ Cu wr q q b at_ 0 ∧ Own wr q 117 34 A' out.length c' (entLs out) ∧ Kept q [117] [] w wr ∧ b.length ≤ at_ + f ∧ out.length + f ≤ b.length ∧ out.length ≤ 512)
 case atStart => exact ⟨0, ByteArray.empty, [], none, 0, rfl, rfl, rfl, hR0, Own.nil _ _ _ _, hk0, by omega, by simp, by simp⟩
 case round =>
  obtain ⟨at_, ws, out, A', c', rfl, rfl, hpar, hR, hown, hkp, hfu, hol, h512⟩ := hrel
  have HP := Lib.hid hpar
  clear hpar
  have hz := hkp.size
  obtain ⟨A1, c1, hb, hrr, hat1, hc3, hc4, hc5⟩ := hR
  have hR : Cu wr q q b at_ 0 := ⟨A1, c1, hb, hrr, hat1, hc3, hc4, hc5⟩
  have r1 := hb.cell 1
  simp at r1
  by_cases hat : at_ < b.length
  · cases gk with
    | zero => omega
    | succ f =>
     go_wp2_with fail
     refine (cnum_any 1 (by omega) q q b at_ 0 _ hR (by omega)).mono ?_
     rintro r w1 ⟨rfl, hRa, hka⟩
     have hza := hka.size
     go_wp2_with (first | (refine wpList_built rfl rfl (vs := #[(1, .int .i64 _)]) rfl (build_ent1 _ _) ?_) | (refine wpList_allocAgg rfl rfl (zero_ent _) ?_) | (refine wpList_storeBlk rfl rfl (vs := entC ⟨ByteArray.empty, _, noId⟩) rfl rfl (Blk.new _ _ _) (by rw [entC_size, entC_size]) (by rw [entC_size]; exact info_ent) (entL_one _) ?_; intro w3 hx3 hkc hzc))
     have hkN : Keep Nothing w1 w3 := Keep.ofNew hkc
     have hRc := hRa.keep (by omega) hkN (fun _ h => h.elim)
     have hkw : Keep (Only q) wr w3 := hka.trans (hkN.mono (fun _ _ h => h.elim))
     have hp : q < w1.heap.size := by have := hb.lt; omega
     have hpw : wr.heap.size ≤ w1.heap.size := by omega
     have hpe := hx3.lt
     generalize w1.heap.size = p at *
     clear hkc hRa hka hza hkN hzc
     refine (ctext_any 1 (by omega) q q b _ _ _ hRc (by omega) (by omega)).mono ?_
     rintro r w4 ⟨rfl, hRd, hkd⟩
     have hx4 := hx3.keep hkd (by unfold Only; omega)
     have hzd := hkd.size
     have hkw4 := hkw.trans hkd
     have x4 := hx4.cell 0
     have f4 := hx4.frozen 0
     simp [entC, entL] at x4
     clear hkd hx3 hRc hkw
     go_wp2_with fail
     have hx5 := hx4.set_ 0 (.string (str (textL b (takeAt b at_ 0 1) (takeE b at_ 0 1) 1)))
     rw [set_ent] at hx5
     have hk5 : Keep (Only p) w4 (w4.setCell ⟨p, 0, none⟩ (.string (str (textL b (takeAt b at_ 0 1) (takeE b at_ 0 1) 1)))) := Keep.setCell (Keep.refl (Only p) w4) (p := ⟨p, 0, none⟩) (.inl rfl) _
     generalize w4.setCell ⟨p, 0, none⟩ (.string (str (textL b (takeAt b at_ 0 1) (takeE b at_ 0 1) 1))) = w5 at *
     have hz5 := hk5.size
     have hRe := hRd.keep (by omega) hk5 (by unfold Only; intro i hi; omega)
     have hkw5 : Keep (Only q) wr w5 := hkw4.then_ hk5 (by unfold Only; intro i hi h; omega)
     clear hk5 hRd hkw4 hx4 x4 f4
     refine (cid_any q q b _ _ _ hRe (by omega) (by omega)).mono ?_
     rintro r w6 ⟨rfl, hRf, hk6⟩
     have hRf' : Cu w6 q q b (pAt b at_) (pE3 b at_) := hRf
     have hx6 := hx5.keep hk6 (by unfold Only; omega)
     have hz6 := hk6.size
     have hkw6 := hkw5.trans hk6
     clear hk6 hx5 hRe hRf hkw5
     have hkk6 : ∀ W, Keep (Only q) w6 W → Kept q [117] [] w W := fun W hW => hkp.lift (Kept.ofKeep (base := q) (E := []) (G := [q]) (hkw6.trans hW) (by unfold Only; simp)) (Nat.le_refl _) (by simp) (by simp [HQ.out])
     have HK6 := Lib.hid hkk6
     clear hkk6
     have STORE : True := trivial
     by_cases h3 : pE3 b at_ = 0
     · rw [h3] at hRf'
       have HE3 := Lib.hid h3
       clear h3
       by_cases hmany : out.length = 512
       · have hm1 : ((out.length : Int) == 512) = true := by rw [hmany]; rfl
         have HT := Lib.hid (parse_err HP.out hat (show pE b at_ ws out.length = 4 from by unfold pE; rw [if_pos HE3.out, show note 0 (decide ((out.length : Int) < 512)) 4 = 4 from by rw [decide_eq_false (by omega)]; rfl]; exact entE_4 _ _ _) (by decide))
         clear hmany
         go_wp2_with (first | (refine wpList_storePart rfl rfl (off := 2) (vs := idC _) rfl rfl hx6 (by rw [idC_size, entC_size]; decide) (by rw [idC_size]; exact info42) (idL_one _) ?_; intro w7 hx7 hke hze; have hRg := hRf'.keep (by omega) hke (by unfold Only; intro i hi; omega); obtain ⟨A7, c7, hb7, hR7⟩ := hRg; have e7 := hb7.cell 2; simp at e7))
         go_ret2
         have := HQ.out
         subst this
         exact parse_ret_err HT.out (hkp.lift (Kept.ofKeep (base := w.heap.size) (E := []) (G := [w.heap.size]) (hkw6.then_ hke (by unfold Only; intro i hi h; omega)) (by unfold Only; simp)) (Nat.le_refl _) (by simp) (by simp))
       · have hm1 : ((out.length : Int) == 512) = false := beq_eq_false_iff_ne.2 (by omega)
         have hlt : out.length < 512 := by omega
         clear hmany
         have hpe2 : pE b at_ ws out.length = entE 0 (pEnt b at_) ws ((out.length : Int) == 0) := by unfold pE; rw [if_pos HE3.out, show note 0 (decide ((out.length : Int) < 512)) 4 = 0 from by rw [decide_eq_true (by omega)]; rfl]
         have HPE := Lib.hid hpe2
         clear hpe2
         go_wp2_with (first | (refine wpList_storePart rfl rfl (off := 2) (vs := idC _) rfl rfl hx6 (by rw [idC_size, entC_size]; decide) (by rw [idC_size]; exact info42) (idL_one _) ?_; intro w7 hx7 hke hze; rw [spl_ent] at hx7; have hRg := hRf'.keep (by omega) hke (by unfold Only; intro i hi; omega); obtain ⟨A7, c7, hb7, hR7⟩ := hRg; have e7 := hb7.cell 2; simp at e7) | (refine wpList_load rfl rfl rfl (load_ent hx7) ?_))
         have hRg : Cu w7 q q b (pAt b at_) 0 := ⟨A7, c7, hb7, hR7⟩
         refine (rentry_any (pEnt b at_) _ ws _).mono ?_
         rintro r w8 ⟨rfl, hbe8⟩
         have hx8 := Blk.below (cs := entC (pEnt b at_)) hx7 hbe8 hx7.lt
         have hRh := hRg.keep (by omega) (Below.keep_ hbe8 Nothing) (fun _ h => h.elim)
         have hkw8 : Keep (Only q) wr w8 := (hkw6.then_ hke (by unfold Only; intro i hi h; omega)).trans (Below.keep_ hbe8 _)
         have o8 := hown.keepOnly hkw8 hb (by decide)
         have kk8 : Kept q [117] [] w w8 := hkp.lift (Kept.ofKeep (base := q) (E := []) (G := [q]) hkw8 (by unfold Only; simp)) (Nat.le_refl _) (by simp) (by simp [HQ.out])
         have lp8 := hx8.lt
         have z8 := hkw8.size
         have x8 := hx8.cell 0
         simp [entC, entL] at x8
         obtain ⟨e2, he2⟩ : ∃ e2, entE 0 (pEnt b at_) ws ((out.length : Int) == 0) = e2 := ⟨_, rfl⟩
         rw [he2]
         have HPE2 := Lib.hid (HPE.out.trans he2)
         clear he2 hke hx7 hRg hbe8 hb7 e7 hR7
         by_cases h0 : e2 = 0
         · subst h0
           go_wp2_with (first | (refine wpList_load rfl rfl rfl (load_ent hx8) ?_) | (refine wpList_buildSlice1 rfl elemEnt rfl zero_ent (entC_size _) (entC_size _) (by omega) rfl ?_) | (at_builtin; refine wpList_append_sl rfl elemEnt rfl rfl (o8.alloc _) rfl (Reads.of_cells (n := 1) (xs := entL (pEnt b at_)) (heap_alloc_new _ _) rfl (by rw [entL_len])) (entL_one _) (by unfold maxLen; omega) (by omega) (by simp; omega) ?_; intro A10 c10 w10 o10 k10))
           go_roundg f
           case measure => omega
           case rel =>
            have kk10 : Kept q [117] [] w w10 := (kk8.alloc _).trans k10
            have hR10 : Cu w10 q q b (pAt b at_) 0 := by
             obtain ⟨Ar, cr, br, rr, s1, s2, s3, s4⟩ := hRh.alloc (by omega) (.cells (entC (pEnt b at_)) 117)
             exact ⟨Ar, cr, k10.blk br (by simp) (by decide), rr.below (k10.below (Nat.le_refl _) (by simp; omega) (by simp)), s1, s2, s3, s4⟩
            refine ⟨pAt b at_, (pEnt b at_).name, out ++ [pEnt b at_], A10, c10, by simp, rfl, ?_, hR10, ?_, kk10, ?_, by simp; omega, by simp; omega⟩
            · rw [← HP.out, par_go hat, HPE2.out]
            · simpa [entLs] using o10
            · have := pAt_gt b at_ hat
              omega
         · have h01 : (e2 != 0) = true := by simpa using h0
           have HT := Lib.hid (parse_err HP.out hat HPE2.out h0)
           clear h0
           go_wp2_with fail
           go_ret2
           have := HQ.out
           subst this
           exact parse_ret_err HT.out kk8
     · have h14 : pE3 b at_ = 14 := (pE3_14 b at_).resolve_left h3
       rw [h14] at hRf'
       have HT := Lib.hid (parse_err HP.out hat (show pE b at_ ws out.length = 14 from by unfold pE; rw [if_neg h3]; exact h14) (by decide))
       clear h3 h14
       go_wp2_with (first | (refine wpList_storePart rfl rfl (off := 2) (vs := idC _) rfl rfl hx6 (by rw [idC_size, entC_size]; decide) (by rw [idC_size]; exact info42) (idL_one _) ?_; intro w7 hx7 hke hze; have hRg := hRf'.keep (by omega) hke (by unfold Only; intro i hi; omega); obtain ⟨A7, c7, hb7, hR7⟩ := hRg; have e7 := hb7.cell 2; simp at e7))
       go_ret2
       have := HQ.out
       subst this
       exact parse_ret_err HT.out (hkp.lift (Kept.ofKeep (base := w.heap.size) (E := []) (G := [w.heap.size]) (hkw6.then_ hke (by unfold Only; intro i hi h; omega)) (by unfold Only; simp)) (Nat.le_refl _) (by simp) (by simp))
  · have hend : parseTree b = (out, 0) := by unfold parseTree; rw [← HP.out, par_stop (fun q => hat q.2)]; rfl
    have HE := Lib.hid hend
    have hat' : b.length ≤ at_ := by omega
    clear hend hat
    go_wp2_with fail
    go_ret2
    refine ⟨A', c', ?_, ?_, ?_⟩
    · rw [HE.out]; rfl
    · rw [HE.out, HQ.out]; exact hown
    · have := HQ.out
      subst this
      exact hkp.all
end Go.Proofs.YtmlmbkelpjmafaaGreat
namespace Go.Proofs.YtmlmbkelpjmafaaGreat
open Go.RowKit
def letter (k : Int) : UInt8 := if k = 1 then 98 else if k = 2 then 116 else 99
def encObj (e k : Int) (b : List UInt8) : List UInt8 × Int := if e = 0 then (letter k :: (be 4 b.length ++ b), 0) else ([], e)
def BytesPost (r2 : List UInt8 × Int) (w : World) (r : Ending) (w' : World) : Prop := ∃ A c, r = .returned (.tuple #[.slice A r2.1.length c, .int .i64 r2.2]) ∧ Own w' w.heap.size 5 1 A r2.1.length c (r2.1.map bv) ∧ Below w.heap.size w w'
theorem own_one (w : World) (base : Nat) (hb : base ≤ w.heap.size) (y : UInt8) : Own (w.alloc (.cells #[bv y] 5)) base 5 1 (some ⟨w.heap.size, 0, none⟩) 1 1 ([y].map bv) :=
 ⟨by simp, .inr ⟨w.heap.size, 1, #[bv y], rfl, hb, heap_alloc_new _ _, Nat.le_refl _, by unfold maxLen; omega, by simp, by simp⟩⟩
theorem let1 (W : World) : (Instr.index 9 (.string ⟨#[98, 116, 99]⟩) (.int .i64 0)).run Tryz.prog W = .ok (.int .u8 98) W := by kernel_rfl
theorem let2 (W : World) : (Instr.index 9 (.string ⟨#[98, 116, 99]⟩) (.int .i64 1)).run Tryz.prog W = .ok (.int .u8 116) W := by kernel_rfl
theorem let3 (W : World) : (Instr.index 9 (.string ⟨#[98, 116, 99]⟩) (.int .i64 2)).run Tryz.prog W = .ok (.int .u8 99) W := by kernel_rfl
set_option maxHeartbeats 2000000 in
set_option maxRecDepth 100000 in
theorem encodeObj_of (k : Int) (b : List UInt8) (e : Int) (A : Option Addr) (c : Nat) (w : World) (hr : Reads w w.heap.size 1 A b.length (b.map bv)) (hl : b.length ≤ 1000000) (hke : e = 0 → 1 ≤ k ∧ k ≤ 3)
    (hbody : ∀ W : World, Reads W w.heap.size 1 A b.length (b.map bv) → w.heap.size ≤ W.heap.size → Calls Tryz.prog 52 #[.int .i64 k, .slice A b.length c] W fun r w' => r = .returned (.int .i64 e) ∧ Below W.heap.size W w') :
    Calls Tryz.prog 33 #[.agg #[.int .i64 k, .slice A b.length c]] w (BytesPost (encObj e k b) w) := by
 have HB := Lib.hid hbody
 clear hbody
 have hq1 : Blk (w.alloc (.cells #[.int .i64 k, .slice A b.length c] 27)) w.heap.size 27 #[.int .i64 k, .slice A b.length c] := Blk.new _ _ _
 have hr1 := hr.alloc (Nat.le_refl _) (.cells #[.int .i64 k, .slice A b.length c] 27)
 have hk1 : Kept w.heap.size [5] [] w (w.alloc (.cells #[.int .i64 k, .slice A b.length c] 27)) := (Kept.refl _ _ _ _).alloc _
 have hz1 : w.heap.size ≤ (w.alloc (.cells #[.int .i64 k, .slice A b.length c] 27)).heap.size := by simp
 go_enter Tryz.func33, Tryz.ntmps33
 go_wp2_with fail
 refine (HB.out _ hr1 hz1).mono ?_
 rintro r w2 ⟨rfl, hbe⟩
 generalize w.alloc (.cells #[.int .i64 k, .slice A b.length c] 27) = w1 at *
 have hq2 := hq1.below hbe hq1.lt
 have hr2 := (hr1.more hz1).below hbe
 have hk2 : Kept w.heap.size [5] [] w w2 := hk1.lift (Kept.ofBelow (base := w.heap.size) (E := []) (G := []) hbe) (Nat.le_refl _) (by simp) (by simp)
 have hz2 := hbe.size
 generalize hq : w.heap.size = q at *
 have HQ := Lib.hid hq
 have hqle : q ≤ w.heap.size := by omega
 have hqge : w.heap.size ≤ q := by omega
 clear hq hbe hk1 hr1 hq1
 by_cases he : e = 0
 · subst he
   obtain ⟨k1, k2⟩ := hke rfl
   have a0 := hq2.cell 0
   have a1 := hq2.cell 1
   simp at a0 a1
   clear hke
   have hlet : ∀ W : World, (Instr.index 9 (.string ⟨#[98, 116, 99]⟩) (.int .i64 (k - 1))).run Tryz.prog W = .ok (.int .u8 ((letter k).toNat : Int)) W := by
    intro W
    have : k = 1 ∨ k = 2 ∨ k = 3 := by omega
    rcases this with rfl | rfl | rfl
    · exact let1 W
    · exact let2 W
    · exact let3 W
   generalize hy : letter k = y at *
   have HY := Lib.hid hy
   have lq2 := hq2.lt
   clear hy
   go_wp2_with fail
   have ho0 := own_one w2 q (by omega) y
   have hw3 : Wt ((w2.alloc (.cells #[bv y] 5)).alloc (.cells #[.slice (some ⟨w2.heap.size, 0, none⟩) 1 1, .int .i64 0, .int .i64 0] 126)) (w2.heap.size + 1) q [y] 0 := by
    refine ⟨_, _, ?_, ho0.alloc _, by omega⟩
    have := Blk.new (w2.alloc (.cells #[bv y] 5)) 126 #[.slice (some ⟨w2.heap.size, 0, none⟩) 1 1, .int .i64 0, .int .i64 0]
    simpa using this
   have hq3 := (hq2.alloc (.cells #[bv y] 5)).alloc (.cells #[.slice (some ⟨w2.heap.size, 0, none⟩) 1 1, .int .i64 0, .int .i64 0] 126)
   have hr3 := (hr2.alloc hz2 (.cells #[bv y] 5)).alloc (by simp; omega) (.cells #[.slice (some ⟨w2.heap.size, 0, none⟩) 1 1, .int .i64 0, .int .i64 0] 126)
   have hk3 := (hk2.alloc (.cells #[bv y] 5)).alloc (.cells #[.slice (some ⟨w2.heap.size, 0, none⟩) 1 1, .int .i64 0, .int .i64 0] 126)
   change Calls _ _ _ ((w2.alloc (.cells #[bv y] 5)).alloc (.cells #[.slice (some ⟨w2.heap.size, 0, none⟩) 1 1, .int .i64 0, .int .i64 0] 126)) _
   have hz3 : q ≤ ((w2.alloc (.cells #[bv y] 5)).alloc (.cells #[.slice (some ⟨w2.heap.size, 0, none⟩) 1 1, .int .i64 0, .int .i64 0] 126)).heap.size := by simp; omega
   generalize (w2.alloc (.cells #[bv y] 5)).alloc (.cells #[.slice (some ⟨w2.heap.size, 0, none⟩) 1 1, .int .i64 0, .int .i64 0] 126) = w3 at *
   have hg : q < w2.heap.size + 1 := by omega
   have hg2 : w.heap.size ≤ w2.heap.size + 1 := by omega
   generalize w2.heap.size + 1 = g at *
   clear ho0 hq2 hr2 hk2 a0 a1 hlet
   refine (wnumber_any 4 b.length (by omega) g q [y] 0 _ hw3 (by simp) hz3).mono ?_
   rintro r w4 ⟨rfl, hw4, hk4⟩
   have hq4 := hk4.blk hq3 (by simp; omega) (by decide)
   have hz4 := hk4.size
   have hkk4 : Kept q [5] [] w w4 := hk3.lift hk4 (Nat.le_refl _) (by simp) (by simp; omega)
   have hbz4 : Below q w w4 := hkk4.below (Nat.le_refl _) hqle (by simp)
   have hr4 : Reads w4 q 1 A b.length (b.map bv) := by
    have := HQ.out
    subst this
    exact hr.below hbz4
   have hl4 : ([y] ++ be 4 b.length).length = 5 := by simp [be_len]
   generalize h5 : [y] ++ be 4 b.length = b5 at *
   have HB5 := Lib.hid h5
   have hl5 : b5.length ≤ 5 := by omega
   obtain ⟨A5, c5, hb5, ho5, hbg5⟩ := hw4
   clear h5 hl4 hq3 hr3 hk3 hw3 hk4
   have l4 := hb5.lt
   have a1 := hq4.cell 1
   have b0 := hb5.cell 0
   have f0 := hb5.frozen 0
   simp at a1 b0
   have hm1 : b5.length + b.length ≤ maxLen := by unfold maxLen; omega
   have hm2 : (b5.length + b.length) * 1 ≤ 140737488355328 := by omega
   have hz4' : q ≤ w4.heap.size := by omega
   go_wp2_with fail
   go_region_law (first | ((refine step_append_sl (by rfl) elemU8 (by rfl) (by rfl) ho5.drew (by rfl) hr4.drew (bvs_one _) hm1 hm2 hz4' ?_); intro A' c' w5 ho6 hk6; have hb6 := hk6.blk hb5.drew (by simp) (by decide); have c6 := hb6.cell 0; have f6 := hb6.frozen 0; simp at c6))
   all_goals
    have T := Wt.more (g := g) (base := q) (bs := b5) (new := b) (m := b.length) (e := 0) (w := w4) hbg5 ((Kept.refl _ _ _ _).drew) hb5.drew rfl ho6 hk6
    go_wp2_with fail
    refine (wdone_any g q _ 0 _ T.1).mono ?_
    rintro r w7 ⟨A7, c7, rfl, ho7, hk7⟩
    have kk7 : Kept q [5] [] w w7 := (hkk4.lift T.2 (Nat.le_refl _) (by simp) (by simp; omega)).lift (Kept.ofKeep (base := q) (E := []) (G := []) hk7 (by unfold Nothing; simp)) (Nat.le_refl _) (by simp) (by simp)
    go_wp2_with fail
    go_ret2
    have := HQ.out
    subst this
    have hE : encObj 0 k b = (b5 ++ b, 0) := by
     unfold encObj
     rw [if_pos rfl, HY.out, ← HB5.out]
     simp
    refine ⟨A7, c7, ?_, ?_, kk7.all⟩
    · rw [hE]; rfl
    · rw [hE]; exact ho7
 · have he1 : (e != 0) = true := by simpa using he
   have HE := Lib.hid (show encObj e k b = ([], e) from if_neg he)
   go_wp2_with fail
   go_ret2
   have := HQ.out
   subst this
   exact ⟨none, 0, by rw [HE.out]; rfl, by rw [HE.out]; exact Own.nil _ _ _ _, hk2.all⟩
end Go.Proofs.YtmlmbkelpjmafaaGreat
