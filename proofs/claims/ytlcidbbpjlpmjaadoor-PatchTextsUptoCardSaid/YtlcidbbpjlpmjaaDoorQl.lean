/-
  Contract of patch.Hunks: the walk. No statement of the seat is proved here.
-/
import Derived.Test.YtlcidbbpjlpmjaaDoorQk
namespace Go.Proofs.YtlcidbbpjlpmjaaDoor
open Go.RowKit

def RowsR (w : World) (B : Nat) (h : HkD) (ev lv : Value) : Prop := ∃ A c A' c', ev = .slice A h.eds.length c ∧ lv = .slice A' h.ls.length c' ∧ h.eds.length ≤ c ∧ h.ls.length ≤ c' ∧ c' ≤ maxLen ∧ Reads w B 2 A h.eds.length (edLs h.eds) ∧ Reads w B 1 A' h.ls.length (strL h.ls)
/-- A slice that reads as hunks. -/
def HIn (w : World) (B : Nat) (A : Option Addr) (hs : List HkD) : Prop := ∃ tv : List (Value × Value), tv.length = hs.length ∧ Reads w B 4 A hs.length (hkLs hs tv) ∧ ∀ (k : Nat) x y z, hs[k]? = some x → tv[k]? = some (y, z) → RowsR w B x y z
theorem HR.reads {w : World} {base p : Nat} {A : Option Addr} {cp : Nat} {hs : List HkD} (h : HR w base A cp hs p) : HIn w w.heap.size A hs := by
  obtain ⟨tv, h1, h2, h3⟩ := h.flat
  refine ⟨tv, h1, h2.reads, fun k x y z e1 e2 => ?_⟩
  obtain ⟨A, c, A', c', e1, e2, o1, o2⟩ := h3 k x y z e1 e2
  exact ⟨A, c, A', c', e1, e2, o1.1.cap_le.1, o2.1.cap_le.1, o2.1.cap_le.2, o1.1.reads, o2.1.reads⟩
theorem edLs_at {l : List EdD} {k : Nat} {e : EdD} (h : l[k]? = some e) : (edLs l)[k * 2]? = some (.int .i64 (e.op : Int)) ∧ (edLs l)[k * 2 + 1]? = some (.int .i64 (e.n : Int)) :=
  ⟨by simpa [edLs] using flatn_at edL_len l k 0 e h (.int .i64 (e.op : Int)) rfl, flatn_at edL_len l k 1 e h (.int .i64 (e.n : Int)) rfl⟩
theorem info_edit : (Tryd.prog.info? 67).map (·.size) = some 2 := by kernel_rfl
theorem zero_edit (w : World) : (zeroValue 67).run Tryd.prog w = .ok (.agg #[.int .i64 0, .int .i64 0]) w := by kernel_rfl
def edC (e : EdD) : Array Value := #[.int .i64 (e.op : Int), .int .i64 (e.n : Int)]
theorem load_edit_at {w : World} {l : List EdD} {g off k : Nat} {e : EdD} (h : ∀ j u, (edLs l)[j]? = some u → w.cell? ⟨g, off + j, none⟩ = some u) (hk : l[k]? = some e) : (Instr.loadAt 67 (.pointer (some ⟨g, off + k * 2, none⟩))).run Tryd.prog w = .ok (.agg (edC e)) w := by
  refine run_loadAt_cells w _ (edC e) Tryd.underlying67 rfl info_edit (fun j v hj => ?_)
  rw [add_at]
  obtain ⟨h1, h2⟩ := edLs_at hk
  have hj2 : j = 0 ∨ j = 1 := by
    rcases Nat.lt_or_ge j 2 with q | q
    · omega
    · rw [List.getElem?_eq_none (by simpa [edC] using q)] at hj; cases hj
  rcases hj2 with rfl | rfl
  · simp [edC] at hj
    subst hj
    simpa using h _ _ h1
  · simp [edC] at hj
    subst hj
    simpa [Nat.add_assoc] using h _ _ h2
theorem edC_one (e : EdD) : ∀ v ∈ (edC e).toList, v.oneCell' = true := edL_one e
theorem load_edC {w : World} {g : Nat} {e : EdD} (h : Blk w g 67 (edC e)) : (Instr.loadAt 67 (.pointer (some ⟨g, 0, none⟩))).run Tryd.prog w = .ok (.agg (edC e)) w :=
  run_loadAt_blk (P := Tryd.prog) h 0 (edC e) Tryd.underlying67 rfl info_edit (by simp [edC])
theorem CutS.keepN {w w' : World} {q base : Nat} {av bv : Value} {ar : Nat} {c : CutD} {A : Option Addr} {cp p : Nat} (h : CutS w q base av bv ar c A cp p) (hk : Keep Nothing w w') : CutS w' q base av bv ar c A cp p := by
  obtain ⟨hb, hrow, hz⟩ := h
  have hk' : Kept 0 [] [] w w' := Kept.ofKeep hk (fun _ _ h => absurd h (fun h => h))
  refine ⟨hb.keep hk (fun h => h), ?_, Nat.le_trans hz hk.size⟩
  rcases hrow with q1 | ⟨ini, tv, h, EA, ec, LA, lc, bk, h1, hl, h2⟩
  · exact .inl q1
  · exact .inr ⟨ini, tv, h, EA, ec, LA, lc, bk, h1, ⟨hl.own.kept hk' (by simp) (by simp), hl.len, hl.lo, Nat.le_trans hl.hi hk.size, fun k x y z e1 e2 => (hl.rows k x y z e1 e2).keptT hk' (by simp) (by simp), hl.oe.kept hk' (by simp) (by simp), hl.ol.kept hk' (by simp) (by simp)⟩, h2⟩
def HunksPost (a b : List (List UInt8)) (ar : Nat) (w : World) (r : Ending) (w' : World) : Prop := ∃ A cp, r = .returned (.tuple #[.slice A (hunksP a b ar).length cp, .int .i64 0]) ∧ (hunksP a b ar).length ≤ cp ∧ cp ≤ maxLen ∧ HIn w' w'.heap.size A (hunksP a b ar) ∧ Below w.heap.size w w'
set_option maxHeartbeats 4000000 in
set_option maxRecDepth 100000 in
theorem hunks_any (a b : List (List UInt8)) (Aa Ab : Option Addr) (ca cb B ar : Nat) (w : World) (hr : Reads w B 1 Aa a.length (strL a)) (hrb : Reads w B 1 Ab b.length (strL b)) (hB : B ≤ w.heap.size) (hca : a.length ≤ ca) (hal : a.length ≤ 4000) (hcb : b.length ≤ cb) (hbl : b.length ≤ 4000) (har : ar ≤ 10)
    (hsa : ∀ s ∈ a, s.length ≤ maxLen) (hsb : ∀ s ∈ b, s.length ≤ maxLen) :
    Calls Tryd.prog 13 #[.slice Aa a.length ca, .slice Ab b.length cb, .int .i64 (ar : Int)] w (HunksPost a b ar w) := by
  have HP := Lib.hid (show HunksPost a b ar w = fun r w' => ∃ A cp, r = .returned (.tuple #[.slice A (hunksP a b ar).length cp, .int .i64 0]) ∧ (hunksP a b ar).length ≤ cp ∧ cp ≤ maxLen ∧ HIn w' w'.heap.size A (hunksP a b ar) ∧ Below w.heap.size w w' from rfl)
  rw [HP.out]
  clear HP
  have u1 : decide ((ar : Int) < 0) = false := decide_eq_false (by omega)
  have u2 : decide ((10 : Int) < (ar : Int)) = false := decide_eq_false (by omega)
  have u3 : ¬ ((10 : Int) < (ar : Int)) := by omega
  go_enter Tryd.func13, Tryd.ntmps13
  go_wp2_with fail
  refine (diff_any a b Aa Ab ca cb B w hr hrb hB hal hbl hsa hsb).mono ?_
  rintro r w1 ⟨As, cs, rfl, hos, hb1⟩
  go_wp2_with fail
  clear u1 u2 u3
  have hbk : Blk (w1.alloc (.cells #[.slice Aa a.length ca, .slice Ab b.length cb, .int .i64 0, .int .i64 0, .int .i64 (ar : Int), .slice none 0 0, .bool false, .int .i64 0] 65)) w1.heap.size 65 (cutC (.slice Aa a.length ca) (.slice Ab b.length cb) 0 0 ar (.slice none 0 0) false 0) := Blk.new _ _ _
  have hz1 := hb1.size
  have hc0 : CutS (w1.alloc (.cells #[.slice Aa a.length ca, .slice Ab b.length cb, .int .i64 0, .int .i64 0, .int .i64 (ar : Int), .slice none 0 0, .bool false, .int .i64 0] 65)) w1.heap.size (w1.heap.size + 1) (.slice Aa a.length ca) (.slice Ab b.length cb) ar ⟨0, 0, [], false, 0⟩ none 0 0 := ⟨hbk, .inl ⟨rfl, rfl, rfl⟩, by simp⟩
  have hr1 := (hr.below (hb1.mono hB)).alloc (Nat.le_trans hB hz1) (.cells #[.slice Aa a.length ca, .slice Ab b.length cb, .int .i64 0, .int .i64 0, .int .i64 (ar : Int), .slice none 0 0, .bool false, .int .i64 0] 65)
  have hrb1 := (hrb.below (hb1.mono hB)).alloc (Nat.le_trans hB hz1) (.cells #[.slice Aa a.length ca, .slice Ab b.length cb, .int .i64 0, .int .i64 0, .int .i64 (ar : Int), .slice none 0 0, .bool false, .int .i64 0] 65)
  have hE := (diffP_of a b).2.2.2
  have hrs1 := (hos.reads).alloc (Nat.le_refl _) (.cells #[.slice Aa a.length ca, .slice Ab b.length cb, .int .i64 0, .int .i64 0, .int .i64 (ar : Int), .slice none 0 0, .bool false, .int .i64 0] 65)
  have hbl1 : Below w.heap.size w (w1.alloc (.cells #[.slice Aa a.length ca, .slice Ab b.length cb, .int .i64 0, .int .i64 0, .int .i64 (ar : Int), .slice none 0 0, .bool false, .int .i64 0] 65)) := hb1.alloc hz1 _
  have hzq : (w1.alloc (.cells #[.slice Aa a.length ca, .slice Ab b.length cb, .int .i64 0, .int .i64 0, .int .i64 (ar : Int), .slice none 0 0, .bool false, .int .i64 0] 65)).heap.size ≥ w1.heap.size + 1 := by simp
  have hI := CInv.start a b
  have HH := Lib.hid (show hunksP a b ar = (editsP a b ar ⟨0, 0, [], false, 0⟩ (diffP a b)).out from rfl)
  clear hbk hos hb1 hr hrb
  obtain ⟨HS, hHS⟩ : ∃ x, hunksP a b ar = x := ⟨_, rfl⟩
  rw [hHS] at HH
  have HHS := Lib.hid hHS
  clear hHS
  generalize w1.alloc (.cells #[.slice Aa a.length ca, .slice Ab b.length cb, .int .i64 0, .int .i64 0, .int .i64 (ar : Int), .slice none 0 0, .bool false, .int .i64 0] 65) = w2 at *
  generalize diffP a b = E at *
  generalize w1.heap.size = q at *
  go_loopw [35] (fun i wr => ∃ k c A cp p, k ≤ E.length ∧ i = .int .i64 (k : Nat) ∧ CutS wr q (q + 1) (.slice Aa a.length ca) (.slice Ab b.length cb) ar c A cp p ∧ CInv a b c k (E.drop k) ∧ (editsP a b ar c (E.drop k)).out = HS ∧ Kept (q + 1) E3 [q] w2 wr) (fun i _ => E.length - (intOf i).toNat)
  case atStart => exact ⟨0, _, none, 0, 0, Nat.zero_le _, rfl, hc0, by simpa using hI, by simpa using HH.out.symm, Kept.refl _ _ _ _⟩
  case round =>
    obtain ⟨k, c, A, cp, p, hk, rfl, hc, hI, hed, hkp⟩ := hrel
    have hz2 := hkp.size
    by_cases hlt : k < E.length
    · obtain ⟨e, he⟩ : ∃ e, E[k]? = some e := ⟨_, List.getElem?_eq_getElem hlt⟩
      have hdr : E.drop k = e :: E.drop (k + 1) := List.drop_eq_getElem?_toList_append.trans (by rw [he]; rfl)
      have hrs := hrs1.below (hkp.below (B := q) (by omega) (by omega) (by simp))
      obtain ⟨gs, os, hAs, hgs, hcs⟩ := hrs.at0 (by omega) (by omega)
      subst hAs
      have HL1 := Lib.hid (load_edit_at hcs he)
      have HD := Lib.hid hdr
      rw [hdr] at hI hed
      have HED := Lib.hid hed
      have hkb : k ≤ 8000 := by omega
      have hI2 := fun last => hI.next (ar := ar) har last
      have ha2 := hr1.below (hkp.below (B := B) (by omega) (by omega) (by simp; omega))
      have hb2 := hrb1.below (hkp.below (B := B) (by omega) (by omega) (by simp; omega))
      have hlast : ((k : Int) + 1 == (E.length : Int)) = (E.drop (k + 1)).isEmpty := by
        cases hx : E.drop (k + 1) with
        | nil =>
          have := congrArg List.length hx
          simp at this
          have h2 : (k : Int) + 1 = (E.length : Int) := by omega
          simp [h2]
        | cons y t =>
          have := congrArg List.length hx
          simp at this
          have h2 : ¬ ((k : Int) + 1 = (E.length : Int)) := by omega
          simp [h2]
      have HCALL := Lib.hid (show ∀ W, Keep Nothing wr W → Calls Tryd.prog 29 #[.pointer (some ⟨q, 0, none⟩), .agg (edC e), .bool (E.drop (k + 1)).isEmpty] W (EditPost a b q (q + 1) (.slice Aa a.length ca) (.slice Ab b.length cb) ar c e (E.drop (k + 1)).isEmpty W) from fun W hW =>
        edit_any a b q (q + 1) B Aa Ab ca cb ar k c e (E.drop (k + 1)) A cp (E.drop (k + 1)).isEmpty W p (hc.keepN hW) hI hkb (ha2.below (hW.below (by omega) (fun _ _ h => h))) (hb2.below (hW.below (by omega) (fun _ _ h => h))) (by omega) (by omega) hca hal hcb hbl har)
      clear hed hdr he hcs hrs hc
      generalize hL : (E.drop (k + 1)).isEmpty = lst at *
      have HLS := Lib.hid hL
      clear hL
      go_wp2_with (first | (refine wpList_load rfl rfl rfl HL1.out ?_) | (refine wpList_storeBlk rfl rfl (vs := edC e) rfl rfl (Blk.new _ _ _) rfl info_edit (edC_one e) ?_; intro w3 hx3 hk3 hz3; have HL3 := Lib.hid (load_edC hx3)) | (refine wpList_load rfl rfl rfl HL3.out ?_))
      have hkN := Keep.ofNew (S := Nothing) hk3
      refine (HCALL.out w3 hkN).mono ?_
      rintro r w4 ⟨A4, cp4, p4, rfl, hc4, k4⟩
      go_wp2_with fail
      go_roundw
      case rel =>
        refine ⟨k + 1, _, A4, cp4, p4, by omega, by go_num, hc4, hI2 lst, ?_, (hkp.trans (Kept.ofKeep hkN (fun _ _ h => absurd h (fun h => h)))).trans k4⟩
        have := HED.out
        rw [editsP, HLS.out] at this
        exact this
      case measure => simp [intOf]; omega
    · have hkE : k = E.length := by omega
      have hd : E.drop k = [] := by rw [hkE]; simp
      rw [hd] at hed
      rw [editsP] at hed
      have HED := Lib.hid hed
      have c5 := hc.blk.cell 5
      simp [cutC] at c5
      clear hed hd hkE
      go_wp2_with fail
      go_ret2
      have hrow := hc.row
      rw [HED.out] at hrow ⊢
      obtain ⟨xs, hown⟩ := hrow.own
      rw [HHS.out]
      exact ⟨A, cp, rfl, hown.cap_le.1, hown.cap_le.2, hrow.reads, hbl1.trans (hkp.below (by omega) (by omega) (by simp; omega))⟩
end Go.Proofs.YtlcidbbpjlpmjaaDoor
