/-
  The cutter's state in memory; contracts of cutter.begin and cutter.edit. No statement of the seat is proved here.
-/
import Derived.Test.YtlcidbbpjlpmjaaDoorQh
namespace Go.Proofs.YtlcidbbpjlpmjaaDoor
open Go.RowKit

def cutC (av bv : Value) (i j ar : Nat) (ov : Value) (opn : Bool) (uns : Nat) : Array Value := #[av, bv, .int .i64 (i : Int), .int .i64 (j : Int), .int .i64 (ar : Int), ov, .bool opn, .int .i64 (uns : Int)]
/-- A row of hunks, the last of which may still grow. -/
def HR (w : World) (base : Nat) (A : Option Addr) (cp : Nat) (hs : List HkD) (p : Nat) : Prop := (hs = [] ∧ A = none ∧ cp = 0) ∨ ∃ ini tv h EA ec LA lc bk, hs = ini ++ [h] ∧ HL w base bk A cp ini tv h EA ec LA lc ∧ NotB EA h.eds.length ec p
theorem HR.own {w : World} {base p : Nat} {A : Option Addr} {cp : Nat} {hs : List HkD} (h : HR w base A cp hs p) : ∃ xs, Own w base 38 4 A hs.length cp xs := by
  rcases h with ⟨rfl, rfl, rfl⟩ | ⟨ini, tv, x, EA, ec, LA, lc, bk, rfl, h, _⟩
  · exact ⟨[], Own.nil _ _ _ _⟩
  · exact ⟨_, by simpa using h.own⟩
theorem RowsB.keptT {w w' : World} {lo hi bk : Nat} {h : HkD} {ev lv : Value} {E : List TypeId} (hr : RowsB w lo hi h ev lv) (hk : Kept bk E [] w w') (h1 : 67 ∉ E) (h2 : 9 ∉ E) : RowsB w' lo hi h ev lv := by
  obtain ⟨A, c, A', c', e1, e2, o1, o2⟩ := hr
  exact ⟨A, c, A', c', e1, e2, ⟨o1.1.kept hk h1 (by simp), o1.2⟩, ⟨o2.1.kept hk h2 (by simp), o2.2⟩⟩
theorem HR.flat {w : World} {base p : Nat} {A : Option Addr} {cp : Nat} {hs : List HkD} (h : HR w base A cp hs p) : ∃ tv, tv.length = hs.length ∧ Own w base 38 4 A hs.length cp (hkLs hs tv) ∧ ∀ (k : Nat) x y z, hs[k]? = some x → tv[k]? = some (y, z) → RowsB w base w.heap.size x y z := by
  rcases h with ⟨rfl, rfl, rfl⟩ | ⟨ini, tv, x, EA, ec, LA, lc, bk, rfl, h, _⟩
  · exact ⟨[], rfl, Own.nil _ _ _ _, by simp⟩
  · have hl := h.len
    refine ⟨tv ++ [(.slice EA x.eds.length ec, .slice LA x.ls.length lc)], by simp [hl], ?_, fun k u y z h1 h2 => ?_⟩
    · rw [hkLs_snoc hl]
      simpa using h.own
    · rcases Nat.lt_or_ge k ini.length with q | q
      · rw [List.getElem?_append_left q] at h1
        rw [List.getElem?_append_left (by omega)] at h2
        obtain ⟨A, c, A', c', e1, e2, o1, o2⟩ := h.rows k u y z h1 h2
        exact ⟨A, c, A', c', e1, e2, o1.more h.hi, o2.more h.hi⟩
      · rw [List.getElem?_append_right q] at h1
        rw [List.getElem?_append_right (by omega), hl] at h2
        have h0 : k - ini.length = 0 := by
          rcases Nat.eq_zero_or_pos (k - ini.length) with q | q
          · exact q
          · rw [List.getElem?_eq_none (by simp; omega)] at h1; cases h1
        rw [h0] at h1 h2
        simp only [List.getElem?_cons_zero, Option.some.injEq, Prod.mk.injEq] at h1 h2
        obtain ⟨rfl, rfl⟩ := h2
        subst h1
        exact ⟨EA, ec, LA, lc, rfl, rfl, OwnB.of_own (h.oe.mono h.lo) (Nat.le_refl _), OwnB.of_own (h.ol.mono h.lo) (Nat.le_refl _)⟩
theorem HL.drew {w : World} {base bk c ec lc : Nat} {A EA LA : Option Addr} {ini : List HkD} {tv : List (Value × Value)} {h : HkD} (hh : HL w base bk A c ini tv h EA ec LA lc) : HL w.drew base bk A c ini tv h EA ec LA lc := ⟨hh.own, hh.len, hh.lo, hh.hi, hh.rows, hh.oe, hh.ol⟩
theorem HL.drewN {w : World} {base bk c ec lc : Nat} {A EA LA : Option Addr} {ini : List HkD} {tv : List (Value × Value)} {h : HkD} (hh : HL w base bk A c ini tv h EA ec LA lc) (n : Nat) : HL (w.drewN n) base bk A c ini tv h EA ec LA lc := ⟨hh.own, hh.len, hh.lo, hh.hi, hh.rows, hh.oe, hh.ol⟩
theorem HL.set {w : World} {base bk c ec lc : Nat} {A EA LA : Option Addr} {ini : List HkD} {tv : List (Value × Value)} {h : HkD} (hh : HL w base bk A c ini tv h EA ec LA lc) {p : Addr} {cs : Array Value} (hp : Blk w p.block 65 cs) (u : Value) : HL (w.setCell p u) base bk A c ini tv h EA ec LA lc := by
  refine ⟨hh.own.setCell hp (by decide) u, hh.len, hh.lo, by simpa [World.setCell] using hh.hi, fun k x y z h1 h2 => ?_, hh.oe.setCell hp (by decide) u, hh.ol.setCell hp (by decide) u⟩
  obtain ⟨A, c, A', c', e1, e2, o1, o2⟩ := hh.rows k x y z h1 h2
  exact ⟨A, c, A', c', e1, e2, o1.setCell hp (by decide) u, o2.setCell hp (by decide) u⟩
structure CutS (w : World) (q base : Nat) (av bv : Value) (ar : Nat) (c : CutD) (A : Option Addr) (cp : Nat) (p : Nat) : Prop where
  blk : Blk w q 65 (cutC av bv c.i c.j ar (.slice A c.out.length cp) c.opn c.uns)
  row : HR w base A cp c.out p
  lo : base ≤ w.heap.size
def newH (a b : Nat) : HkD := ⟨a, b, [], []⟩
theorem build_hk (i j : Int) (w : World) : (Instr.build 38 #[(0, .int .i64 i), (1, .int .i64 j)]).run Tryd.prog w = .ok (.agg #[.int .i64 i, .int .i64 j, .slice none 0 0, .slice none 0 0]) w := by kernel_rfl
theorem zero_hk (w : World) : (zeroValue 38).run Tryd.prog w = .ok (.agg #[.int .i64 0, .int .i64 0, .slice none 0 0, .slice none 0 0]) w := by kernel_rfl
theorem hkn_one (i j : Int) : ∀ v ∈ [Value.int .i64 i, Value.int .i64 j, Value.slice none 0 0, Value.slice none 0 0], v.oneCell' = true := by
  intro v hv
  simp only [List.mem_cons, List.not_mem_nil, or_false] at hv
  rcases hv with rfl | rfl | rfl | rfl <;> rfl
def BegPost (a : List (List UInt8)) (q base : Nat) (av bv : Value) (ar : Nat) (c : CutD) (p : Nat) (w : World) (r : Ending) (w' : World) : Prop := ∃ A cp, r = .returned (.tuple #[]) ∧ CutS w' q base av bv ar (beginP a ar c) A cp p ∧ (beginP a ar c).out ≠ [] ∧ Kept base E3 [q] w w' ∧ (∀ ps, Blk w p 67 ps → Blk w' p 67 ps)
set_option maxHeartbeats 4000000 in
set_option maxRecDepth 100000 in
theorem begin_any (a : List (List UInt8)) (q base B : Nat) (Aa : Option Addr) (ca : Nat) (bv : Value) (ar : Nat) (c : CutD) (A : Option Addr) (cp : Nat) (w : World) (p : Nat) (hp : p < w.heap.size) (hc : CutS w q base (.slice Aa a.length ca) bv ar c A cp p) (hr : Reads w B 1 Aa a.length (strL a)) (hB : B ≤ base) (hqB : B ≤ q)
    (hca : a.length ≤ ca) (hal : a.length ≤ 4000) (hi : c.i ≤ a.length) (hj : c.j ≤ 4000) (hui : c.uns ≤ c.i) (huj : c.uns ≤ c.j) (har : ar ≤ 10) (ho : c.out.length ≤ 10000) (hop : c.opn = true → c.out ≠ []) :
    Calls Tryd.prog 55 #[.pointer (some ⟨q, 0, none⟩)] w (BegPost a q base (.slice Aa a.length ca) bv ar c p w) := by
  have HP := Lib.hid (show BegPost a q base (.slice Aa a.length ca) bv ar c p w = fun r w' => ∃ A cp, r = .returned (.tuple #[]) ∧ CutS w' q base (.slice Aa a.length ca) bv ar (beginP a ar c) A cp p ∧ (beginP a ar c).out ≠ [] ∧ Kept base E3 [q] w w' ∧ (∀ ps, Blk w p 67 ps → Blk w' p 67 ps) from rfl)
  rw [HP.out]
  clear HP
  obtain ⟨i, j, out, opn, uns⟩ := c
  simp only at hi hj hui huj ho hop
  cases opn with
  | true =>
    have c6 := hc.blk.cell 6
    simp [cutC] at c6
    go_enter Tryd.func55, Tryd.ntmps55
    go_wp2_with fail
    refine bodyPost_ret (results_none rfl _ _ _) rfl ?_
    exact ⟨rfl, ⟨A, cp, by simpa [beginP] using hc⟩, by simpa [beginP] using hop, Kept.refl _ _ _ _, fun _ h => h⟩
  | false =>
    have hb := hc.blk
    have hrow := hc.row
    have hz := hc.lo
    simp only [cutC] at hb
    clear hc hop
    have c4 := hb.cell 4
    have c6 := hb.cell 6
    have c7 := hb.cell 7
    simp at c4 c6 c7
    have hmin : (if uns < ar then (uns : Int) else (ar : Int)) = ((min ar uns : Nat) : Int) := by split <;> omega
    obtain ⟨m, hm⟩ : ∃ m, min ar uns = m := ⟨_, rfl⟩
    have hmi : m ≤ i := by omega
    have hmj : m ≤ j := by omega
    have hm10 : m ≤ 10 := by omega
    rw [hm] at hmin
    have HM := Lib.hid hm
    clear hm
    obtain ⟨tv, htl, hown, hrows⟩ := hrow.flat
    obtain ⟨k, hk⟩ : ∃ k, i - m = k := ⟨_, rfl⟩
    obtain ⟨k2, hk2⟩ : ∃ k2, j - m = k2 := ⟨_, rfl⟩
    have HB := Lib.hid hb
    have HW := Lib.hid hrows
    clear hrow hb hrows
    go_enter Tryd.func55, Tryd.ntmps55
    go_wp2_with fail
    go_quiet (fail)
    go_wp2_with fail
    have hb0 := HB.out.drewN nq
    have hown0 := hown.drewN nq
    have k0 : Kept base E3 [q] w (w.drewN nq) := (Kept.refl _ _ _ _).drewN nq
    have HW0 := Lib.hid (show ∀ (k : Nat) x y z, out[k]? = some x → tv[k]? = some (y, z) → RowsB (w.drewN nq) base (w.drewN nq).heap.size x y z from HW.out)
    have hz0 : base ≤ (w.drewN nq).heap.size := hz
    have hr0 := hr.drewN nq
    have HPB := Lib.hid (show ∀ ps, Blk w p 67 ps → Blk (w.drewN nq) p 67 ps from fun _ h => h)
    have hp0 : p < (w.drewN nq).heap.size := hp
    clear c4 c6 c7 hown HW HB
    generalize w.drewN nq = w0 at *
    have c0 := hb0.cell 0
    have c2 := hb0.cell 2
    have c3 := hb0.cell 3
    have c5 := hb0.cell 5
    simp at c0 c2 c3 c5
    have hwi : IntKind.i64.wrap ((i : Int) - (m : Int)) = (k : Int) := by rw [IntWalk.i64_in _ (by omega)]; omega
    have hwj : IntKind.i64.wrap ((j : Int) - (m : Int)) = (k2 : Int) := by rw [IntWalk.i64_in _ (by omega)]; omega
    have hm1 : out.length + 1 ≤ maxLen := by unfold maxLen; omega
    have hm2 : (out.length + 1) * 64 ≤ 140737488355328 := by omega
    have s1 : k ≤ i := by omega
    have s2 : i ≤ ca := by omega
    have s3 : (k : Int) ≤ (i : Int) := by omega
    have s4 : (i : Int) ≤ (ca : Int) := by omega
    have s5 : ((i : Int) - (k : Int)).toNat = m := by omega
    have s6 : i - k = m := by omega
    have HS := Lib.hid (show k + m = i from by omega)
    have HK1 := Lib.hid hk
    have HK2 := Lib.hid hk2
    clear hk hk2
    have HNH := Lib.hid (show hkL (newH k k2) (.slice none 0 0) (.slice none 0 0) = [.int .i64 (k : Int), .int .i64 (k2 : Int), .slice none 0 0, .slice none 0 0] from rfl)
    have c5a := (hb0.drew.alloc (.cells #[.int .i64 (k : Int), .int .i64 (k2 : Int), .slice none 0 0, .slice none 0 0] 38)).cell 5
    have c5b := (hb0.alloc (.cells #[.int .i64 (k : Int), .int .i64 (k2 : Int), .slice none 0 0, .slice none 0 0] 38)).cell 5
    simp at c5a c5b
    go_region_law (first | ((refine step_append_sl (by rfl) elemHunk (by rfl) (by rfl) (by exact hown0.alloc _) (by rfl) (Reads.of_blk (n := 1) (xs := [.int .i64 (k : Int), .int .i64 (k2 : Int), .slice none 0 0, .slice none 0 0]) (heap_alloc_new _ _) rfl rfl) (hkn_one _ _) hm1 hm2 (by simp [World.drew]; omega) ?_); intro A' c' w2 ho2 hk2; have hb2 := hk2.blk (hb0.drew.alloc _) (by simp) (by decide); have c52 := hb2.cell 5; have f52 := hb2.frozen 5; simp at c52; have hb3 := hb2.set_ 5 (.slice A' (out.length + 1) c'); have c63 := hb3.cell 6; have f63 := hb3.frozen 6; simp at hb3 c63; have HB3 := Lib.hid hb3; clear hb3))
    all_goals
      go_wp2_with fail
      clear c52 f52 c63 f63 c0 c2 c3 c5 c5a c5b
      have hb4 := HB3.out.set_ 6 (.bool true)
      simp at hb4
      have k2' : Kept base E3 [q] w0 w2 := (((Kept.refl base E3 [q] w0).drew).alloc _).trans (Kept.mono hk2 (Nat.le_refl _) (by simp) (by simp))
      have k4 : Kept base E3 [q] w (((w2.setCell ⟨q, 5, none⟩ (.slice A' (out.length + 1) c'))).setCell ⟨q, 6, none⟩ (.bool true)) := ((k0.trans k2').setCell (p := ⟨q, 5, none⟩) (.inl (by simp)) _).setCell (p := ⟨q, 6, none⟩) (.inl (by simp)) _
      have hl4 : HL (((w2.setCell ⟨q, 5, none⟩ (.slice A' (out.length + 1) c'))).setCell ⟨q, 6, none⟩ (.bool true)) base w0.heap.size A' c' out tv (newH k k2) none 0 none 0 := by
        refine HL.set (HL.set (cs := _) ⟨ho2, htl, hz0, ?_, fun j x y z h1 h2 => (HW0.out j x y z h1 h2).keptT (((Kept.refl base [38] [] w0).drew.alloc _).trans hk2) (by decide) (by decide), Own.nil _ _ _ _, Own.nil _ _ _ _⟩ (p := ⟨q, 5, none⟩) hb2 _) (p := ⟨q, 6, none⟩) HB3.out _
        have := hk2.size
        simp [World.drew] at this
        omega
      have HPB5 := Lib.hid (show ∀ ps, Blk w p 67 ps → Blk ((w2.setCell ⟨q, 5, none⟩ (.slice A' (out.length + 1) c')).setCell ⟨q, 6, none⟩ (.bool true)) p 67 ps from fun ps h => by
        have h2 := hk2.blk ((HPB.out ps h).drew.alloc _) (by simp) (by decide)
        have hne := h2.ne_ hb2 (by decide)
        exact (h2.far (p := ⟨q, 5, none⟩) hne _).far (p := ⟨q, 6, none⟩) hne _)
      have hz5 : p < ((w2.setCell ⟨q, 5, none⟩ (.slice A' (out.length + 1) c')).setCell ⟨q, 6, none⟩ (.bool true)).heap.size := by
        have := hk2.size
        simp [World.setCell, World.drew] at this ⊢
        omega
      generalize (w2.setCell ⟨q, 5, none⟩ (.slice A' (out.length + 1) c')).setCell ⟨q, 6, none⟩ (.bool true) = w5 at *
      clear hb2 HB3 ho2 hk2 k2' HW0 hown0 hb0
      have c0 := hb4.cell 0
      have c2 := hb4.cell 2
      simp at c0 c2
      have HB4 := Lib.hid hb4
      clear hb4
      have hr5 := hr.below (k4.below hB (by omega) (by simp; omega))
      have hln : ((a.drop k).take m).length = m := by have := HS.out; simp; omega
      have HSR := Lib.hid (show ∀ L, ((a.drop k).take m ≠ [] → L = Option.map (fun x => x.add k) Aa) → (a.drop k).take m ≠ [] → Src w5.drew base L ((a.drop k).take m).length (strL ((a.drop k).take m)) from by
        intro L hL hne
        have hmp : 0 < ((a.drop k).take m).length := List.length_pos_iff.2 hne
        have hq := HS.out
        rw [hL hne]
        have r1 := (hr5.cut (k := k) (by omega) hca).front (k := m) (by omega)
        rw [if_neg (by omega), Nat.mul_one, Nat.mul_one] at r1
        rw [hln]
        refine Src.of_reads (B := B) (by simpa [strL, List.map_drop, List.map_take] using r1.drew) hB (fun h => by omega))
      have HPUT := Lib.hid (show ∀ L lc, ((a.drop k).take m ≠ [] → L = Option.map (fun x => x.add k) Aa) → Calls Tryd.prog 54 #[.pointer (some ⟨q, 0, none⟩), .int .i64 0, .slice L m lc] w5.drew (PutPost base w0.heap.size A' c' out tv (newH k k2) 0 ((a.drop k).take m) p w5.drew) from by
        intro L lc hL
        have hp := put_any q base w0.heap.size A' c' out tv (newH k k2) none 0 none 0 0 ((a.drop k).take m) L lc _ w5.drew HB4.out.drew rfl hl4.drew (HSR.out L hL) (by simp [newH]) (by simp [newH]) (by omega) (by omega) p hz5 (by simp [NotB, Value.ownBlock])
        rw [hln] at hp
        exact hp)
      have HCK := Lib.hid (show ca = k → (a.drop k).take m = [] from fun h => List.eq_nil_of_length_eq_zero (by have := HS.out; omega))
      refine wp_region_still_tail 16 (by kernel_rfl) (by kernel_rfl) ?_; simp only [List.take_succ_cons, List.take_zero, List.drop_succ_cons, List.drop_zero]; repeat (first | ((with_reducible refine wpStill_step (fun K hK => ?_)); go_simp; with_reducible refine hK _ ?_; clear hK K) | ((with_reducible refine wpStill_skip ?_ ?_); (focus rfl)))
      (with_reducible refine wpStill_nil ?_); change wpList _ _ _ _ _ w5.drew
      go_wp2_with fail
      all_goals
        refine (HPUT.out _ _ (by first | exact fun _ => rfl | exact fun h => absurd (HCK.out (by omega)) h)).mono ?_
        rintro r w6 ⟨EA, ec, LA, lc, rfl, hl6, k6, n6, b6⟩
        go_wp2_with fail
        refine bodyPost_end (results_none rfl _ _ _) rfl ?_
        have hbp : beginP a ar ⟨i, j, out, false, uns⟩ = ⟨i, j, out ++ [putH (newH k k2) 0 ((a.drop k).take m)], true, uns⟩ := by
          simp only [beginP, HM.out, HK1.out, HK2.out]
          simp [newH]
        rw [hbp]
        refine ⟨A', c', rfl, ⟨?_, .inr ⟨out, tv, _, EA, ec, LA, lc, _, rfl, hl6, n6⟩, Nat.le_trans hl6.lo hl6.hi⟩, by simp, k4.drew.trans (Kept.mono k6 (Nat.le_refl _) (by simp) (by simp)), fun ps h => b6 ps (HPB5.out ps h).drew⟩
        simpa [cutC] using k6.blk HB4.out.drew (by simp) (by decide)
end Go.Proofs.YtlcidbbpjlpmjaaDoor
