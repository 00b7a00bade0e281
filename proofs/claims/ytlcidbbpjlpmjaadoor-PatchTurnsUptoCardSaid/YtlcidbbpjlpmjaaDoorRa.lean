/-
  put of the cutter and of the reference, with a frame that names the blocks; two rows of one kind held apart. No statement of the seat is proved here.
-/
import Derived.Test.YtlcidbbpjlpmjaaDoorQl
namespace Go.Proofs.YtlcidbbpjlpmjaaDoor
open Go.RowKit

/-- Two rows that are not in one block. -/
def Apart (A : Option Addr) (n c : Nat) (A' : Option Addr) (n' c' : Nat) : Prop := ∀ k, (Value.slice A n c).ownBlock = some k → NotB A' n' c' k
/-- The old blocks that are neither g nor those of two rows are as they were, and are not those of the new rows either. -/
def PutF (g : Nat) (EA : Option Addr) (en ec : Nat) (LA : Option Addr) (ln lc : Nat) (EB : Option Addr) (en' ec' : Nat) (LB : Option Addr) (ln' lc' : Nat) (w w' : World) : Prop := ∀ p, p < w.heap.size → p ≠ g → NotB EA en ec p → NotB LA ln lc p → w'.heap[p]? = w.heap[p]? ∧ NotB EB en' ec' p ∧ NotB LB ln' lc' p
theorem PutF.same (g : Nat) (EA : Option Addr) (en ec : Nat) (LA : Option Addr) (ln lc : Nat) (w : World) : PutF g EA en ec LA ln lc EA en ec LA ln lc w w := fun _ _ _ h1 h2 => ⟨rfl, h1, h2⟩
def PutQ (base bk g : Nat) (c : Nat) (ini : List HkD) (tv : List (Value × Value)) (h : HkD) (EA : Option Addr) (ec : Nat) (LA : Option Addr) (lcc : Nat) (op : Nat) (l : List (List UInt8)) (w : World) (r : Ending) (w' : World) : Prop := ∃ EB ec' LB lc', r = .returned (.tuple #[]) ∧ HL w' base bk (some ⟨g, 0, none⟩) c ini tv (putH h op l) EB ec' LB lc' ∧ Kept base E3 [] w w' ∧ PutF g EA h.eds.length ec LA h.ls.length lcc EB (putH h op l).eds.length ec' LB (putH h op l).ls.length lc' w w'
set_option maxHeartbeats 2000000 in
set_option maxRecDepth 100000 in
theorem putq_any (q base bk g : Nat) (c : Nat) (ini : List HkD) (tv : List (Value × Value)) (h : HkD) (EA : Option Addr) (ec : Nat) (LA : Option Addr) (lcc : Nat) (op : Nat) (l : List (List UInt8)) (L : Option Addr) (lc : Nat) (cs : Array Value) (w : World)
    (hq : Blk w q 65 cs) (h5 : cs[5]? = some (.slice (some ⟨g, 0, none⟩) (ini.length + 1) c)) (hh : HL w base bk (some ⟨g, 0, none⟩) c ini tv h EA ec LA lcc) (hs0 : l ≠ [] → Src w base L l.length (strL l)) (hn1 : h.eds.length ≤ 100000000) (hn2 : h.ls.length ≤ 100000000) (hn3 : l.length ≤ 100000000) (hn4 : ini.length ≤ 100000000) :
    Calls Tryd.prog 54 #[.pointer (some ⟨q, 0, none⟩), .int .i64 (op : Int), .slice L l.length lc] w (PutQ base bk g c ini tv h EA ec LA lcc op l w) := by
  have HP := Lib.hid (show PutQ base bk g c ini tv h EA ec LA lcc op l w = fun r w' => ∃ EB ec' LB lc', r = .returned (.tuple #[]) ∧ HL w' base bk (some ⟨g, 0, none⟩) c ini tv (putH h op l) EB ec' LB lc' ∧ Kept base E3 [] w w' ∧ PutF g EA h.eds.length ec LA h.ls.length lcc EB (putH h op l).eds.length ec' LB (putH h op l).ls.length lc' w w' from rfl)
  rw [HP.out]
  clear HP
  by_cases hl : l = []
  · subst hl
    go_enter Tryd.func54, Tryd.ntmps54
    go_wp2_with fail
    refine bodyPost_ret (results_none rfl _ _ _) rfl ?_
    exact ⟨EA, ec, LA, lcc, rfl, by simpa [putH] using hh, Kept.refl _ _ _ _, by simpa [putH] using PutF.same _ _ _ _ _ _ _ _⟩
  · have hs := hs0 hl
    clear hs0
    have HPH := Lib.hid (show putH h op l = ⟨h.a, h.b, h.eds ++ [⟨op, l.length⟩], h.ls ++ l⟩ from by unfold putH; rw [if_neg hl])
    have hlp : 0 < l.length := List.length_pos_iff.2 hl
    have hb0 : ((l.length : Int) == 0) = false := beq_eq_false_iff_ne.2 (by omega)
    obtain ⟨g', hg0, hg⟩ := hh.adr
    injection hg0 with hg0
    injection hg0 with hg0
    subst hg0
    obtain ⟨B0, hr0⟩ := hs.reads
    obtain ⟨ad, rfl, _⟩ := hr0.2 hlp
    have z1 := hh.lo
    have z2 := hh.hi
    have c5 := (hq.cell 5).trans h5
    have c2 := (hh.at_ 2 (by omega) _ rfl).1
    have hw1 : IntKind.i64.wrap ((ini.length : Int) + 1 - 1) = (ini.length : Int) := by rw [IntWalk.i64_in _ (by omega)]; omega
    have hw2 : IntKind.i64.wrap (ini.length : Int) = (ini.length : Int) := IntWalk.i64_in _ (by omega)
    have hw3 : (ini.length : Int) < (ini.length : Int) + 1 := by omega
    have HO1 := Lib.hid (show ∀ W n, W = (w.drewN n).alloc (.cells #[.int .i64 (op : Int), .int .i64 (l.length : Int)] 67) → Own W bk 67 2 EA h.eds.length ec (edLs h.eds) ∧ bk ≤ W.heap.size from by
      rintro W n rfl
      exact ⟨(hh.oe.drewN n).alloc _, by simp [World.drewN]; omega⟩)
    have HE1 := Lib.hid (show ∀ W n A1 c1 w1, W = (w.drewN n).alloc (.cells #[.int .i64 (op : Int), .int .i64 (l.length : Int)] 67) → Own w1 bk 67 2 A1 (h.eds.length + 1) c1 (edLs h.eds ++ edL ⟨op, l.length⟩) → Kept bk [67] [] W w1 → (∀ p, p < W.heap.size → NotB EA h.eds.length ec p → w1.heap[p]? = W.heap[p]? ∧ NotB A1 (h.eds.length + 1) c1 p) →
        w1.cell? ⟨g, ini.length * 4 + 2, none⟩ = some (.slice EA h.eds.length ec) ∧ w1.frozen? ⟨g, ini.length * 4 + 2, none⟩ = false ∧ (w1.setCell ⟨g, ini.length * 4 + 2, none⟩ (.slice A1 (h.eds.length + 1) c1)).cell? ⟨g, ini.length * 4 + 3, none⟩ = some (.slice LA h.ls.length lcc) ∧
        Hid (HL (w1.setCell ⟨g, ini.length * 4 + 2, none⟩ (.slice A1 (h.eds.length + 1) c1)) base bk (some ⟨g, 0, none⟩) c ini tv ⟨h.a, h.b, h.eds ++ [⟨op, l.length⟩], h.ls⟩ A1 c1 LA lcc) ∧ Hid (Kept base E3 [] w (w1.setCell ⟨g, ini.length * 4 + 2, none⟩ (.slice A1 (h.eds.length + 1) c1))) ∧ Hid (Src (w1.setCell ⟨g, ini.length * 4 + 2, none⟩ (.slice A1 (h.eds.length + 1) c1)) base (some ad) l.length (strL l)) ∧ Hid (∀ p, p < w.heap.size → p ≠ g → NotB EA h.eds.length ec p → (w1.setCell ⟨g, ini.length * 4 + 2, none⟩ (.slice A1 (h.eds.length + 1) c1)).heap[p]? = w.heap[p]? ∧ NotB A1 (h.eds.length + 1) c1 p) from by
      rintro W n A1 c1 w1 rfl o1 k1 n1
      have k0 : Kept bk [67] [] w w1 := (((Kept.refl _ _ _ _).drewN n).alloc _).trans k1
      rw [show edLs h.eds ++ edL ⟨op, l.length⟩ = edLs (h.eds ++ [⟨op, l.length⟩]) from (edLs_snoc _ _).symm] at o1
      obtain ⟨d1, d2, d3, d4⟩ := hh.eds k0 o1
      obtain ⟨cs1, hb1⟩ := (hh.own.kept k0 (by decide) (by simp)).hid_blk
      refine ⟨d1, d2, (d3.at_ 3 (by omega) _ rfl).1, Lib.hid d3, Lib.hid d4, Lib.hid ((hs.kept k0 z1 (by omega) (by decide)).setCell (p := ⟨g, ini.length * 4 + 2, none⟩) hb1 hg _), Lib.hid ?_⟩
      intro p hp hpg hnp
      obtain ⟨m1, m2⟩ := n1 p (by simp [World.drewN]; omega) hnp
      refine ⟨?_, m2⟩
      rw [Below.heap_setCell _ _ _ _ (by exact hpg), m1]
      exact (((Keep.refl Nothing w).drewN n).alloc _).block p hp (fun h => h))
    clear hh hs hq h5 hl hr0
    go_enter Tryd.func54, Tryd.ntmps54
    go_wp2_with fail
    go_quiet (fail)
    go_wp2_with (first | (at_builtin; refine wpList_append_slf rfl elemEdit rfl rfl (n := h.eds.length) (xs := edLs h.eds) (HO1.out _ nq rfl).1 (by omega) rfl (Reads.of_blk (n := 1) (xs := edL ⟨op, l.length⟩) (heap_alloc_new _ _) rfl rfl) (edL_one ⟨op, l.length⟩) (by unfold maxLen; omega) (by omega) (HO1.out _ nq rfl).2 ?_; intro A1 c1 w1 o1 k1 n1; obtain ⟨d1, d2, d3, HL2, HK2, HS2, HN2⟩ := HE1.out _ nq A1 c1 w1 rfl o1 k1 n1; clear o1 k1 n1) | (at_builtin; obtain ⟨B2, hr2⟩ := HS2.out.reads; refine wpList_append_slf rfl elemStr rfl rfl (n := h.ls.length) (xs := strL h.ls) HL2.out.ol hlp rfl hr2 (strL_one l) (by unfold maxLen; omega) (by omega) HL2.out.hi ?_; intro A2 c22 w3 o3 k3 n3; obtain ⟨f1, f2, HL3, HK3⟩ := HL2.out.lns k3 o3; have HL3 := Lib.hid HL3; have HK3 := Lib.hid HK3; have HN3 := Lib.hid n3))
    refine bodyPost_end (results_none rfl _ _ _) rfl ?_
    rw [HPH.out]
    refine ⟨rfl, A1, c1, A2, c22, HL3.out, HK2.out.trans HK3.out, fun p hp hpg h1 h2 => ?_⟩
    obtain ⟨m1, m2⟩ := HN2.out p hp hpg h1
    obtain ⟨m3, m4⟩ := HN3.out p (Nat.lt_of_lt_of_le hp HK2.out.size) h2
    refine ⟨?_, by simpa using m2, by simpa using m4⟩
    rw [Below.heap_setCell _ _ _ _ (by exact hpg), m3, m1]
end Go.Proofs.YtlcidbbpjlpmjaaDoor
