/-
  Plain: the hunk that leads back; put of the reference: a hunk by value. No statement of the seat is proved here.
-/
import Derived.Test.YtlcidbbpjlpmjaaDoorRa
import Derived.Test.YtlcidbbpjlpmjaaDoorQx
namespace Go.Proofs.YtlcidbbpjlpmjaaDoor
open Go.RowKit

structure RevD where
  h : HkD
  gone : List (List UInt8)
  come : List (List UInt8)
def flushR (s : RevD) : HkD := putH (putH s.h 1 s.gone) 2 s.come
def revStep (s : RevD) (e : EdD) (x : List (List UInt8)) : RevD :=
  if e.op = 0 then ⟨putH (flushR s) 0 x, [], []⟩ else if e.op = 1 then ⟨s.h, s.gone, s.come ++ x⟩ else ⟨s.h, s.gone ++ x, s.come⟩
def revL : List EdD → List (List UInt8) → RevD → RevD
  | [], _, s => s
  | e :: l, row, s => revL l (row.drop e.n) (revStep s e (row.take e.n))
def backP (h : HkD) : HkD := flushR (revL h.eds h.ls ⟨newH h.b h.a, [], []⟩)

def hkV (h : HkD) (EA : Option Addr) (ec : Nat) (LA : Option Addr) (lc : Nat) : Array Value := #[.int .i64 (h.a : Int), .int .i64 (h.b : Int), .slice EA h.eds.length ec, .slice LA h.ls.length lc]
theorem hkV_one (h : HkD) (EA : Option Addr) (ec : Nat) (LA : Option Addr) (lc : Nat) : ∀ v ∈ (hkV h EA ec LA lc).toList, v.oneCell' = true := by
  intro v hv
  simp only [hkV, List.mem_cons, List.not_mem_nil, or_false] at hv
  rcases hv with rfl | rfl | rfl | rfl <;> rfl
theorem load_hkV {w : World} {g : Nat} {h : HkD} {EA LA : Option Addr} {ec lc : Nat} (x : Blk w g 38 (hkV h EA ec LA lc)) : (Instr.loadAt 38 (.pointer (some ⟨g, 0, none⟩))).run Tryd.prog w = .ok (.agg (hkV h EA ec LA lc)) w :=
  run_loadAt_blk (P := Tryd.prog) x 0 (hkV h EA ec LA lc) Tryd.underlying38 rfl info_hunk (by simp [hkV])
theorem loadVar_hkV {w : World} {g : Nat} {h : HkD} {EA LA : Option Addr} {ec lc : Nat} (x : Blk w g 38 (hkV h EA ec LA lc)) : (loadVar 38 ⟨g, 0, none⟩).run Tryd.prog w = .ok (.agg (hkV h EA ec LA lc)) w :=
  run_loadVar_cells w _ (hkV h EA ec LA lc) Tryd.underlying38 rfl info_hunk (fun j v hj => by rw [add_at, x.cell, ← hj]; simp)
def PutV (z : Nat) (h : HkD) (EA : Option Addr) (ec : Nat) (LA : Option Addr) (lcc : Nat) (op : Nat) (l : List (List UInt8)) (w : World) (r : Ending) (w' : World) : Prop := ∃ EB ec' LB lc', r = .returned (.agg (hkV (putH h op l) EB ec' LB lc')) ∧ Own w' z 67 2 EB (putH h op l).eds.length ec' (edLs (putH h op l).eds) ∧ Own w' z 9 1 LB (putH h op l).ls.length lc' (strL (putH h op l).ls) ∧ Kept z [67, 9] [] w w' ∧ PutF w.heap.size EA h.eds.length ec LA h.ls.length lcc EB (putH h op l).eds.length ec' LB (putH h op l).ls.length lc' w w'
set_option maxHeartbeats 2000000 in
set_option maxRecDepth 100000 in
theorem rput_any (z : Nat) (h : HkD) (EA : Option Addr) (ec : Nat) (LA : Option Addr) (lcc : Nat) (op : Nat) (l : List (List UInt8)) (L : Option Addr) (lc : Nat) (w : World) (hz : z ≤ w.heap.size)
    (oe : Own w z 67 2 EA h.eds.length ec (edLs h.eds)) (ol : Own w z 9 1 LA h.ls.length lcc (strL h.ls)) (hs0 : l ≠ [] → Src w z L l.length (strL l)) (hn1 : h.eds.length ≤ 100000000) (hn2 : h.ls.length ≤ 100000000) (hn3 : l.length ≤ 100000000) :
    Calls Tryd.prog 35 #[.agg (hkV h EA ec LA lcc), .int .i64 (op : Int), .slice L l.length lc] w (PutV z h EA ec LA lcc op l w) := by
  go_enter Tryd.func35, Tryd.ntmps35
  go_upto_region 1 with (first | (refine wpList_boxed rfl rfl rfl ?_) | (refine wpList_allocAgg rfl rfl (zero_hk _) ?_))
  have x1 : Blk ((w.alloc (.cells (hkV h EA ec LA lcc) 38)).alloc (.cells #[.int .i64 0, .int .i64 0, .slice none 0 0, .slice none 0 0] 38)) w.heap.size 38 (hkV h EA ec LA lcc) := (Blk.new _ _ _).alloc _
  have x2 : Blk ((w.alloc (.cells (hkV h EA ec LA lcc) 38)).alloc (.cells #[.int .i64 0, .int .i64 0, .slice none 0 0, .slice none 0 0] 38)) (w.heap.size + 1) 38 #[.int .i64 0, .int .i64 0, .slice none 0 0, .slice none 0 0] := by
    have := Blk.new (w.alloc (.cells (hkV h EA ec LA lcc) 38)) 38 #[.int .i64 0, .int .i64 0, .slice none 0 0, .slice none 0 0]
    rwa [show (w.alloc (.cells (hkV h EA ec LA lcc) 38)).heap.size = w.heap.size + 1 by simp] at this
  have k1 : Keep Nothing w ((w.alloc (.cells (hkV h EA ec LA lcc) 38)).alloc (.cells #[.int .i64 0, .int .i64 0, .slice none 0 0, .slice none 0 0] 38)) := ((Keep.refl _ w).alloc _).alloc _
  have oe1 := (oe.alloc (.cells (hkV h EA ec LA lcc) 38)).alloc (.cells #[.int .i64 0, .int .i64 0, .slice none 0 0, .slice none 0 0] 38)
  have ol1 := (ol.alloc (.cells (hkV h EA ec LA lcc) 38)).alloc (.cells #[.int .i64 0, .int .i64 0, .slice none 0 0, .slice none 0 0] 38)
  have z1 : w.heap.size + 2 = ((w.alloc (.cells (hkV h EA ec LA lcc) 38)).alloc (.cells #[.int .i64 0, .int .i64 0, .slice none 0 0, .slice none 0 0] 38)).heap.size := by simp
  clear oe ol
  generalize (w.alloc (.cells (hkV h EA ec LA lcc) 38)).alloc (.cells #[.int .i64 0, .int .i64 0, .slice none 0 0, .slice none 0 0] 38) = w1 at *
  by_cases hl : l = []
  · have HPH := Lib.hid (show putH h op l = h from by unfold putH; rw [if_pos hl])
    subst hl
    have L1 := Lib.hid (load_hkV x1)
    have X2 := Lib.hid x2
    have HE := Lib.hid oe1
    have HO := Lib.hid ol1
    clear x1 x2 hs0 oe1 ol1
    go_wp2_with (first | (refine wpList_load rfl rfl rfl L1.out ?_) | (refine wpList_storeBlk rfl rfl (vs := hkV h EA ec LA lcc) rfl rfl X2.out rfl info_hunk (hkV_one h EA ec LA lcc) ?_; intro w3 hx3 hk3 hz3))
    refine bodyPost_ret (results_cell rfl _ _ rfl (loadVar_hkV hx3)) rfl ?_
    have kk : Kept z [67, 9] [] w w3 := (Kept.ofKeep k1 (fun _ _ h => absurd h (fun h => h))).lift (Kept.ofKeep (base := z) (E := []) (G := [w.heap.size + 1]) hk3 (by unfold Only; simp)) (Nat.le_refl _) (by simp) (by simp)
    unfold PutV
    rw [HPH.out]
    exact ⟨EA, ec, LA, lcc, rfl, HE.out.keepOnly hk3 X2.out (by decide), HO.out.keepOnly hk3 X2.out (by decide), kk, fun p hp _ h1 h2 => ⟨(hk3.block p (by omega) (by unfold Only; omega)).trans (k1.block p hp (fun h => h)), h1, h2⟩⟩
  · have hs := hs0 hl
    clear hs0
    have HPH := Lib.hid (show putH h op l = ⟨h.a, h.b, h.eds ++ [⟨op, l.length⟩], h.ls ++ l⟩ from by unfold putH; rw [if_neg hl])
    have hlp : 0 < l.length := List.length_pos_iff.2 hl
    have hlI : (0 : Int) < (l.length : Int) := by omega
    obtain ⟨B0, hr0⟩ := hs.reads
    obtain ⟨ad, rfl, _⟩ := hr0.2 hlp
    clear hr0 hl
    have c2 : w1.cell? ⟨w.heap.size, 2, none⟩ = some (.slice EA h.eds.length ec) := x1.cell 2
    have hs1 : Src w1 z (some ad) l.length (strL l) := hs.kept (bk := z) (E := []) (Kept.ofKeep k1 (fun _ _ h => absurd h (fun h => h))) (Nat.le_refl _) hz (by simp)
    have HE := Lib.hid (show ∀ A1 c1 w2, Own w2 z 67 2 A1 (h.eds.length + 1) c1 (edLs h.eds ++ edL ⟨op, l.length⟩) → Kept z [67] [] (w1.alloc (.cells #[.int .i64 (op : Int), .int .i64 (l.length : Int)] 67)) w2 → (∀ p, p < (w1.alloc (.cells #[.int .i64 (op : Int), .int .i64 (l.length : Int)] 67)).heap.size → NotB EA h.eds.length ec p → w2.heap[p]? = (w1.alloc (.cells #[.int .i64 (op : Int), .int .i64 (l.length : Int)] 67)).heap[p]? ∧ NotB A1 (h.eds.length + 1) c1 p) →
        w2.cell? ⟨w.heap.size, 2, none⟩ = some (.slice EA h.eds.length ec) ∧ w2.frozen? ⟨w.heap.size, 2, none⟩ = false ∧ (w2.setCell ⟨w.heap.size, 2, none⟩ (.slice A1 (h.eds.length + 1) c1)).cell? ⟨w.heap.size, 3, none⟩ = some (.slice LA h.ls.length lcc) ∧
        Hid (Blk (w2.setCell ⟨w.heap.size, 2, none⟩ (.slice A1 (h.eds.length + 1) c1)) w.heap.size 38 #[.int .i64 (h.a : Int), .int .i64 (h.b : Int), .slice A1 (h.eds.length + 1) c1, .slice LA h.ls.length lcc]) ∧ Hid (Blk (w2.setCell ⟨w.heap.size, 2, none⟩ (.slice A1 (h.eds.length + 1) c1)) (w.heap.size + 1) 38 #[.int .i64 0, .int .i64 0, .slice none 0 0, .slice none 0 0]) ∧
        Hid (Own (w2.setCell ⟨w.heap.size, 2, none⟩ (.slice A1 (h.eds.length + 1) c1)) z 67 2 A1 (h.eds.length + 1) c1 (edLs (h.eds ++ [⟨op, l.length⟩]))) ∧ Hid (Own (w2.setCell ⟨w.heap.size, 2, none⟩ (.slice A1 (h.eds.length + 1) c1)) z 9 1 LA h.ls.length lcc (strL h.ls)) ∧ Hid (Src (w2.setCell ⟨w.heap.size, 2, none⟩ (.slice A1 (h.eds.length + 1) c1)) z (some ad) l.length (strL l)) ∧
        Hid (Kept z [67] [] w (w2.setCell ⟨w.heap.size, 2, none⟩ (.slice A1 (h.eds.length + 1) c1))) ∧ Hid (∀ p, p < w.heap.size → NotB EA h.eds.length ec p → (w2.setCell ⟨w.heap.size, 2, none⟩ (.slice A1 (h.eds.length + 1) c1)).heap[p]? = w.heap[p]? ∧ NotB A1 (h.eds.length + 1) c1 p) from by
      intro A1 c1 w2 o1 k2 n2
      have y1 := k2.blk (x1.alloc (.cells #[.int .i64 (op : Int), .int .i64 (l.length : Int)] 67)) (by simp) (by decide)
      have y2 := k2.blk (x2.alloc (.cells #[.int .i64 (op : Int), .int .i64 (l.length : Int)] 67)) (by simp) (by decide)
      have q1 := y1.set_ 2 (.slice A1 (h.eds.length + 1) c1)
      rw [show edLs h.eds ++ edL ⟨op, l.length⟩ = edLs (h.eds ++ [⟨op, l.length⟩]) from (edLs_snoc _ _).symm] at o1
      have kk : Kept z [67] [] w w2 := (((Kept.ofKeep k1 (fun _ _ h => absurd h (fun h => h))).alloc _).trans k2)
      refine ⟨y1.cell 2, y1.frozen 2, q1.cell 3, Lib.hid ?_, Lib.hid (y2.far (by simp) _), Lib.hid (o1.setCell (p := ⟨w.heap.size, 2, none⟩) y1 (by decide) _), Lib.hid (((ol1.alloc _).kept k2 (by decide) (by simp)).setCell (p := ⟨w.heap.size, 2, none⟩) y1 (by decide) _), Lib.hid (Src.setCell (p := ⟨w.heap.size, 2, none⟩) (hs1.kept (bk := z) (E := [67]) (((Kept.refl _ _ _ _).alloc _).trans k2) (Nat.le_refl _) (by omega) (by decide)) y1 hz _), Lib.hid (kk.setCell (p := ⟨w.heap.size, 2, none⟩) (.inr (Nat.le_refl _)) _), Lib.hid fun p hp hn => ?_⟩
      · simpa [hkV] using q1
      · obtain ⟨m1, m2⟩ := n2 p (by simp; omega) hn
        refine ⟨?_, m2⟩
        rw [Below.heap_setCell _ _ _ _ (by simp; omega), m1]
        exact (k1.alloc _).block p hp (fun h => h))
    clear x1 x2 hs1 hs ol1
    go_wp2_with (first | (at_builtin; refine wpList_append_slf rfl elemEdit rfl rfl (n := h.eds.length) (xs := edLs h.eds) (oe1.alloc _) (by omega) rfl (Reads.of_blk (n := 1) (xs := edL ⟨op, l.length⟩) (heap_alloc_new _ _) rfl rfl) (edL_one ⟨op, l.length⟩) (by unfold maxLen; omega) (by omega) (by simp; omega) ?_; intro A1 c1 w2 o1 k2 n2; obtain ⟨d1, d2, d3, X1, X2, HO1, HO2, HS1, HK1, HN1⟩ := HE.out A1 c1 w2 o1 k2 n2; clear o1 k2 n2) | (at_builtin; obtain ⟨B2, hr2⟩ := HS1.out.reads; refine wpList_append_slf rfl elemStr rfl rfl (n := h.ls.length) (xs := strL h.ls) HO2.out hlp rfl hr2 (strL_one l) (by unfold maxLen; omega) (by omega) (Nat.le_trans hz HK1.out.size) ?_; intro A2 c22 w4 o2 k4 n4; have y3 := k4.blk X1.out (by simp) (by decide); have y4 := k4.blk X2.out (by simp) (by decide); have y5 := HO1.out.kept k4 (by decide) (by simp); have e1 := y3.cell 3; have e2 := y3.frozen 3; simp at e1; have q3 := y3.set_ 3 (.slice A2 (h.ls.length + l.length) c22); simp at q3; have L1 := Lib.hid (load_hkV (h := ⟨h.a, h.b, h.eds ++ [⟨op, l.length⟩], h.ls ++ l⟩) (EA := A1) (ec := c1) (LA := A2) (lc := c22) (by simpa [hkV] using q3)); have X3 := Lib.hid (y4.far (p := ⟨w.heap.size, 3, none⟩) (by simp) (.slice A2 (h.ls.length + l.length) c22)); have HO3 := Lib.hid (y5.setCell (p := ⟨w.heap.size, 3, none⟩) y3 (by decide) (.slice A2 (h.ls.length + l.length) c22)); have HO4 := Lib.hid (o2.setCell (p := ⟨w.heap.size, 3, none⟩) y3 (by decide) (.slice A2 (h.ls.length + l.length) c22)); have HK4 := Lib.hid k4; have HN4 := Lib.hid n4; clear y3 y4 y5 q3 o2 k4 n4) | (refine wpList_load rfl rfl rfl L1.out ?_) | (refine wpList_storeBlk rfl rfl (vs := hkV ⟨h.a, h.b, h.eds ++ [⟨op, l.length⟩], h.ls ++ l⟩ A1 c1 A2 c22) rfl rfl X3.out rfl info_hunk (hkV_one _ _ _ _ _) ?_; intro w6 hx6 hk6 hz6))
    refine bodyPost_ret (results_cell rfl _ _ rfl (loadVar_hkV hx6)) rfl ?_
    have k6 : Keep (Only (w.heap.size + 1)) (w4.setCell ⟨w.heap.size, 3, none⟩ (.slice A2 (h.ls.length + l.length) c22)) w6 := hk6
    unfold PutV
    rw [HPH.out]
    have kk : Kept z [67, 9] [] w w6 := (((Kept.mono HK1.out (Nat.le_refl _) (by simp) (by simp)).trans (Kept.mono HK4.out (Nat.le_refl _) (by simp) (by simp))).setCell (p := ⟨w.heap.size, 3, none⟩) (.inr (Nat.le_refl _)) _).lift (Kept.ofKeep (base := z) (E := []) (G := [w.heap.size + 1]) k6 (by unfold Only; simp)) (Nat.le_refl _) (by simp) (by simp)
    refine ⟨A1, c1, A2, c22, rfl, ?_, ?_, kk, fun p hp _ h1 h2 => ?_⟩
    · simpa using HO3.out.keepOnly k6 X3.out (by decide)
    · simpa [strL] using HO4.out.keepOnly k6 X3.out (by decide)
    · obtain ⟨m1, m2⟩ := HN1.out p hp h1
      obtain ⟨m3, m4⟩ := HN4.out p (Nat.lt_of_lt_of_le hp HK1.out.size) h2
      refine ⟨?_, by simpa using m2, by simpa using m4⟩
      rw [k6.block p (by have := HK1.out.size; have := HK4.out.size; simp [World.setCell] at *; omega) (by unfold Only; omega), Below.heap_setCell _ _ _ _ (by simp; omega), m3, m1]
end Go.Proofs.YtlcidbbpjlpmjaaDoor
