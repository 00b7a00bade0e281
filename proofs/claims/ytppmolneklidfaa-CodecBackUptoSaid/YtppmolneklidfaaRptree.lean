/-
  Contract of the reference's ParseTree. No statement of the seat is proved here.
-/
import Derived.Test.YtppmolneklidfaaRtree
namespace Go.Proofs.Ytppmolneklidfaa
open Go.RowKit

theorem par_go {b : List UInt8} {f at_ : Nat} {ws : ByteArray} {out : List Ent} (hat : at_ < b.length) : parGo b (f + 1) at_ 0 ws out = parGo b f (pAt b at_) (pE b at_ ws out.length) (pEnt b at_).name (out ++ [pEnt b at_]) := by
  show (if _ then _ else _) = _
  rw [if_pos ⟨rfl, hat⟩]
theorem par_stop {b : List UInt8} {f at_ : Nat} {e : Int} {ws : ByteArray} {out : List Ent} (h : ¬ (e = 0 ∧ at_ < b.length)) : parGo b f at_ e ws out = (out, e) := by
  cases f with
  | zero => rfl
  | succ f => show (if _ then _ else _) = _; rw [if_neg h]
theorem parse_err {b : List UInt8} {f at_ : Nat} {e : Int} {ws : ByteArray} {out : List Ent} (h : parGo b (f + 1) at_ 0 ws out = parGo b b.length 0 0 ByteArray.empty []) (hat : at_ < b.length) (he : pE b at_ ws out.length = e) (h0 : e ≠ 0) : parseTree b = ([], e) := by
  rw [par_go hat, he, par_stop (fun q => h0 q.1)] at h
  unfold parseTree
  rw [← h]
  simp only
  rw [if_neg h0]
theorem takeE_14 (b : List UInt8) (at_ : Nat) (n : Int) {e : Int} (h : e = 0 ∨ e = 14) : takeE b at_ e n = 0 ∨ takeE b at_ e n = 14 := by
  unfold takeE
  split
  · exact h
  · unfold note; rcases h with rfl | rfl <;> simp
theorem pE3_14 (b : List UInt8) (at_ : Nat) : pE3 b at_ = 0 ∨ pE3 b at_ = 14 := by
  unfold pE3 textE
  exact takeE_14 _ _ _ (takeE_14 _ _ _ (takeE_14 _ _ _ (takeE_14 _ _ _ (.inl rfl))))
theorem build_ent1 (k : Int) (w : World) : (Instr.build 87 #[(1, .int .i64 k)]).run Try.prog w = .ok (.agg (entC ⟨ByteArray.empty, k, noId⟩)) w := by kernel_rfl
theorem set_ent (s t : ByteArray) (k : Int) (i : Id) : (entC ⟨s, k, i⟩).setIfInBounds 0 (.string t) = entC ⟨t, k, i⟩ := by
  apply Array.ext'
  simp [entC, entL]
theorem entE_4 (x : Ent) (was : ByteArray) (first : Bool) : entE 4 x was first = 4 := by
  have hn : ∀ b e, note 4 b e = 4 := fun b e => by unfold note; rw [if_neg (by decide)]
  unfold entE
  rw [hn, hn, hn, hn]
theorem parse_ret_err {b : List UInt8} {w w4 : World} {e : Int} (he : parseTree b = ([], e)) (hk4 : Kept w.heap.size [87] [] w w4) : ParPost b w (.returned (.tuple #[.slice none 0 0, .int .i64 e])) w4 :=
  ⟨none, 0, by rw [he]; rfl, by rw [he]; exact Own.nil _ _ _ _, hk4.all⟩

set_option maxHeartbeats 4000000 in
set_option maxRecDepth 100000 in
theorem rparseTree_any (b : List UInt8) (A : Option Addr) (c : Nat) (w : World) (hr : Reads w w.heap.size 1 A b.length (b.map bv)) (hl : b.length ≤ 1000000) (hc1 : b.length ≤ c) (hc2 : c ≤ maxLen) :
    Calls Try.prog 15 #[.slice A b.length c] w (ParPost b w) := by
  go_enter Try.func15, Try.ntmps15
  go_wp2_with fail
  have hR0 : Cu (w.alloc (.cells #[.slice A b.length c, .int .i64 0, .bool false] 109)) w.heap.size w.heap.size b 0 0 := ⟨A, c, Blk.new _ _ _, hr.alloc (Nat.le_refl _) _, Nat.zero_le _, hc1, hc2, Nat.le_refl _⟩
  have hk0 : Kept w.heap.size [87] [] w (w.alloc (.cells #[.slice A b.length c, .int .i64 0, .bool false] 109)) := (Kept.refl _ _ _ _).alloc _
  generalize w.alloc (.cells #[.slice A b.length c, .int .i64 0, .bool false] 109) = w0 at *
  generalize hq : w.heap.size = q at *
  have HQ := Lib.hid hq
  have hqle : q ≤ w.heap.size := by omega
  clear hq
  go_loopg [5, 6] b.length (fun f o was wr => ∃ at_ ws out A' c', o = .slice A' out.length c' ∧ was = .string ws ∧ parGo b f at_ 0 ws out = parGo b b.length 0 0 ByteArray.empty [] ∧ Cu wr q q b at_ 0 ∧ Own wr q 87 34 A' out.length c' (entLs out) ∧ Kept q [87] [] w wr ∧ b.length ≤ at_ + f ∧ out.length + f ≤ b.length ∧ out.length ≤ 512)
  case atStart => exact ⟨0, ByteArray.empty, [], none, 0, rfl, rfl, rfl, hR0, Own.nil _ _ _ _, hk0, by omega, by simp, by simp⟩
  case round =>
    obtain ⟨at_, ws, out, A', c', rfl, rfl, hpar, hR, hown, hkp, hfu, hol, h512⟩ := hrel
    have HP := Lib.hid hpar
    clear hpar
    have hz := hkp.size
    obtain ⟨A1, c1, hb, hrr, hat1, hc3, hc4, hc5⟩ := hR
    have hR : Cu wr q q b at_ 0 := ⟨A1, c1, hb, hrr, hat1, hc3, hc4, hc5⟩
    have r1 := hb.cell 1
    simp at r1
    by_cases hat : at_ < b.length
    · cases gk with
      | zero => omega
      | succ f =>
        go_wp2_with fail
        refine (cnum_any 1 (by omega) q q b at_ 0 _ hR (by omega)).mono ?_
        rintro r w1 ⟨rfl, hRa, hka⟩
        have hza := hka.size
        go_wp2_with (first | (refine wpList_built rfl rfl (vs := #[(1, .int .i64 _)]) rfl (build_ent1 _ _) ?_) | (refine wpList_allocAgg rfl rfl (zero_ent _) ?_) | (refine wpList_storeBlk rfl rfl (vs := entC ⟨ByteArray.empty, _, noId⟩) rfl rfl (Blk.new _ _ _) (by rw [entC_size, entC_size]) (by rw [entC_size]; exact info_ent) (entL_one _) ?_; intro w3 hx3 hkc hzc))
        have hkN : Keep Nothing w1 w3 := Keep.ofNew hkc
        have hRc := hRa.keep (by omega) hkN (fun _ h => h.elim)
        have hkw : Keep (Only q) wr w3 := hka.trans (hkN.mono (fun _ _ h => h.elim))
        have hp : q < w1.heap.size := by have := hb.lt; omega
        have hpw : wr.heap.size ≤ w1.heap.size := by omega
        have hpe := hx3.lt
        generalize w1.heap.size = p at *
        clear hkc hRa hka hza hkN hzc
        refine (ctext_any 1 (by omega) q q b _ _ _ hRc (by omega) (by omega)).mono ?_
        rintro r w4 ⟨rfl, hRd, hkd⟩
        have hx4 := hx3.keep hkd (by unfold Only; omega)
        have hzd := hkd.size
        have hkw4 := hkw.trans hkd
        have x4 := hx4.cell 0
        have f4 := hx4.frozen 0
        simp [entC, entL] at x4
        clear hkd hx3 hRc hkw
        go_wp2_with fail
        have hx5 := hx4.set_ 0 (.string (str (textL b (takeAt b at_ 0 1) (takeE b at_ 0 1) 1)))
        rw [set_ent] at hx5
        have hk5 : Keep (Only p) w4 (w4.setCell ⟨p, 0, none⟩ (.string (str (textL b (takeAt b at_ 0 1) (takeE b at_ 0 1) 1)))) := Keep.setCell (Keep.refl (Only p) w4) (p := ⟨p, 0, none⟩) (.inl rfl) _
        generalize w4.setCell ⟨p, 0, none⟩ (.string (str (textL b (takeAt b at_ 0 1) (takeE b at_ 0 1) 1))) = w5 at *
        have hz5 := hk5.size
        have hRe := hRd.keep (by omega) hk5 (by unfold Only; intro i hi; omega)
        have hkw5 : Keep (Only q) wr w5 := hkw4.then_ hk5 (by unfold Only; intro i hi h; omega)
        clear hk5 hRd hkw4 hx4 x4 f4
        refine (cid_any q q b _ _ _ hRe (by omega) (by omega)).mono ?_
        rintro r w6 ⟨rfl, hRf, hk6⟩
        have hRf' : Cu w6 q q b (pAt b at_) (pE3 b at_) := hRf
        have hx6 := hx5.keep hk6 (by unfold Only; omega)
        have hz6 := hk6.size
        have hkw6 := hkw5.trans hk6
        clear hk6 hx5 hRe hRf hkw5
        have hkk6 : ∀ W, Keep (Only q) w6 W → Kept q [87] [] w W := fun W hW => hkp.lift (Kept.ofKeep (base := q) (E := []) (G := [q]) (hkw6.trans hW) (by unfold Only; simp)) (Nat.le_refl _) (by simp) (by simp [HQ.out])
        have HK6 := Lib.hid hkk6
        clear hkk6
        have STORE : True := trivial
        by_cases h3 : pE3 b at_ = 0
        · rw [h3] at hRf'
          have HE3 := Lib.hid h3
          clear h3
          by_cases hmany : out.length = 512
          · have hm1 : ((out.length : Int) == 512) = true := by rw [hmany]; rfl
            have HT := Lib.hid (parse_err HP.out hat (show pE b at_ ws out.length = 4 from by unfold pE; rw [if_pos HE3.out, show note 0 (decide ((out.length : Int) < 512)) 4 = 4 from by rw [decide_eq_false (by omega)]; rfl]; exact entE_4 _ _ _) (by decide))
            clear hmany
            go_wp2_with (first | (refine wpList_storePart rfl rfl (off := 2) (vs := idC _) rfl rfl hx6 (by rw [idC_size, entC_size]; decide) (by rw [idC_size]; exact info42) (idL_one _) ?_; intro w7 hx7 hke hze; have hRg := hRf'.keep (by omega) hke (by unfold Only; intro i hi; omega); obtain ⟨A7, c7, hb7, hR7⟩ := hRg; have e7 := hb7.cell 2; simp at e7))
            go_ret2
            have := HQ.out
            subst this
            exact parse_ret_err HT.out (hkp.lift (Kept.ofKeep (base := w.heap.size) (E := []) (G := [w.heap.size]) (hkw6.then_ hke (by unfold Only; intro i hi h; omega)) (by unfold Only; simp)) (Nat.le_refl _) (by simp) (by simp))
          · have hm1 : ((out.length : Int) == 512) = false := beq_eq_false_iff_ne.2 (by omega)
            have hlt : out.length < 512 := by omega
            clear hmany
            have hpe2 : pE b at_ ws out.length = entE 0 (pEnt b at_) ws ((out.length : Int) == 0) := by unfold pE; rw [if_pos HE3.out, show note 0 (decide ((out.length : Int) < 512)) 4 = 0 from by rw [decide_eq_true (by omega)]; rfl]
            have HPE := Lib.hid hpe2
            clear hpe2
            go_wp2_with (first | (refine wpList_storePart rfl rfl (off := 2) (vs := idC _) rfl rfl hx6 (by rw [idC_size, entC_size]; decide) (by rw [idC_size]; exact info42) (idL_one _) ?_; intro w7 hx7 hke hze; rw [spl_ent] at hx7; have hRg := hRf'.keep (by omega) hke (by unfold Only; intro i hi; omega); obtain ⟨A7, c7, hb7, hR7⟩ := hRg; have e7 := hb7.cell 2; simp at e7) | (refine wpList_load rfl rfl rfl (load_ent hx7) ?_))
            have hRg : Cu w7 q q b (pAt b at_) 0 := ⟨A7, c7, hb7, hR7⟩
            refine (rentry_any (pEnt b at_) _ ws _).mono ?_
            rintro r w8 ⟨rfl, hbe8⟩
            have hx8 := Blk.below (cs := entC (pEnt b at_)) hx7 hbe8 hx7.lt
            have hRh := hRg.keep (by omega) (Below.keep_ hbe8 Nothing) (fun _ h => h.elim)
            have hkw8 : Keep (Only q) wr w8 := (hkw6.then_ hke (by unfold Only; intro i hi h; omega)).trans (Below.keep_ hbe8 _)
            have o8 := hown.keepOnly hkw8 hb (by decide)
            have kk8 : Kept q [87] [] w w8 := hkp.lift (Kept.ofKeep (base := q) (E := []) (G := [q]) hkw8 (by unfold Only; simp)) (Nat.le_refl _) (by simp) (by simp [HQ.out])
            have lp8 := hx8.lt
            have z8 := hkw8.size
            have x8 := hx8.cell 0
            simp [entC, entL] at x8
            obtain ⟨e2, he2⟩ : ∃ e2, entE 0 (pEnt b at_) ws ((out.length : Int) == 0) = e2 := ⟨_, rfl⟩
            rw [he2]
            have HPE2 := Lib.hid (HPE.out.trans he2)
            clear he2 hke hx7 hRg hbe8 hb7 e7 hR7
            by_cases h0 : e2 = 0
            · subst h0
              go_wp2_with (first | (refine wpList_load rfl rfl rfl (load_ent hx8) ?_) | (refine wpList_buildSlice1 rfl elemEnt rfl zero_ent (entC_size _) (entC_size _) (by omega) rfl ?_) | (at_builtin; refine wpList_append_sl rfl elemEnt rfl rfl (o8.alloc _) rfl (Reads.of_cells (n := 1) (xs := entL (pEnt b at_)) (heap_alloc_new _ _) rfl (by rw [entL_len])) (entL_one _) (by unfold maxLen; omega) (by omega) (by simp; omega) ?_; intro A10 c10 w10 o10 k10))
              go_roundg f
              case measure => omega
              case rel =>
                have kk10 : Kept q [87] [] w w10 := (kk8.alloc _).trans k10
                have hR10 : Cu w10 q q b (pAt b at_) 0 := by
                  obtain ⟨Ar, cr, br, rr, s1, s2, s3, s4⟩ := hRh.alloc (by omega) (.cells (entC (pEnt b at_)) 87)
                  exact ⟨Ar, cr, k10.blk br (by simp) (by decide), rr.below (k10.below (Nat.le_refl _) (by simp; omega) (by simp)), s1, s2, s3, s4⟩
                refine ⟨pAt b at_, (pEnt b at_).name, out ++ [pEnt b at_], A10, c10, by simp, rfl, ?_, hR10, ?_, kk10, ?_, by simp; omega, by simp; omega⟩
                · rw [← HP.out, par_go hat, HPE2.out]
                · simpa [entLs] using o10
                · have := pAt_gt b at_ hat
                  omega
            · have h01 : (e2 != 0) = true := by simpa using h0
              have HT := Lib.hid (parse_err HP.out hat HPE2.out h0)
              clear h0
              go_wp2_with fail
              go_ret2
              have := HQ.out
              subst this
              exact parse_ret_err HT.out kk8
        · have h14 : pE3 b at_ = 14 := (pE3_14 b at_).resolve_left h3
          rw [h14] at hRf'
          have HT := Lib.hid (parse_err HP.out hat (show pE b at_ ws out.length = 14 from by unfold pE; rw [if_neg h3]; exact h14) (by decide))
          clear h3 h14
          go_wp2_with (first | (refine wpList_storePart rfl rfl (off := 2) (vs := idC _) rfl rfl hx6 (by rw [idC_size, entC_size]; decide) (by rw [idC_size]; exact info42) (idL_one _) ?_; intro w7 hx7 hke hze; have hRg := hRf'.keep (by omega) hke (by unfold Only; intro i hi; omega); obtain ⟨A7, c7, hb7, hR7⟩ := hRg; have e7 := hb7.cell 2; simp at e7))
          go_ret2
          have := HQ.out
          subst this
          exact parse_ret_err HT.out (hkp.lift (Kept.ofKeep (base := w.heap.size) (E := []) (G := [w.heap.size]) (hkw6.then_ hke (by unfold Only; intro i hi h; omega)) (by unfold Only; simp)) (Nat.le_refl _) (by simp) (by simp))
    · have hend : parseTree b = (out, 0) := by unfold parseTree; rw [← HP.out, par_stop (fun q => hat q.2)]; rfl
      have HE := Lib.hid hend
      have hat' : b.length ≤ at_ := by omega
      clear hend hat
      go_wp2_with fail
      go_ret2
      refine ⟨A', c', ?_, ?_, ?_⟩
      · rw [HE.out]; rfl
      · rw [HE.out, HQ.out]; exact hown
      · have := HQ.out
        subst this
        exact hkp.all
end Go.Proofs.Ytppmolneklidfaa
