/-
  The rows of patch.back: how they grow. No statement of the seat is proved here.
-/
import Derived.Test.YtlcidbbpjlpmjaaDoorRc
namespace Go.Proofs.YtlcidbbpjlpmjaaDoor
open Go.RowKit

structure New (w w' : World) (g : Nat) (t : TypeId) (cs : Array Value) : Prop where
  blk : Blk w' g t cs
  size : w'.heap.size = g + 1
  old : ∀ {b t' cs'}, Blk w b t' cs' → Blk w' b t' cs'
  keep : Keep Nothing w w'
theorem new_at {w w' : World} {g : Nat} {t : TypeId} {cs : Array Value} (hz : w.heap.size = g) (hw : w.alloc (.cells cs t) = w') : New w w' g t cs := by
  subst hz
  subst hw
  exact ⟨Blk.new _ _ _, by simp, fun h => h.alloc _, (Keep.refl _ _).alloc _⟩
def sumN (l : List EdD) : Nat := (l.map EdD.n).sum
theorem Apart.symm {A A' : Option Addr} {n c n' c' : Nat} (h : Apart A n c A' n' c') : Apart A' n' c' A n c := fun k hk hk' => h k hk' hk
theorem BK.keepN {w w' : World} {z q bp bg bc g c : Nat} {s : RevD} {cs : Array Value} {EA : Option Addr} {ec : Nat} {LA : Option Addr} {lc : Nat} {GA : Option Addr} {gc : Nat} {CA : Option Addr} {cc : Nat} (h : BK w z q bp bg bc g c s cs EA ec LA lc GA gc CA cc) (k : Keep Nothing w w') : BK w' z q bp bg bc g c s cs EA ec LA lc GA gc CA cc := by
  have hb : ∀ {A : Option Addr} {n c' : Nat} {e : TypeId} {size b : Nat} {xs : List Value}, Own w b e size A n c' xs → Own w' b e size A n c' xs := fun o => o.sameB fun k' hk => k.block k' (o.blockAt k' hk).2.1 (fun h => h)
  exact ⟨h.bp.keep k (fun h => h), h.cut.keep k (fun h => h), h.c5, ⟨hb h.hl.own, h.hl.len, h.hl.lo, Nat.le_trans h.hl.hi k.size, fun k x y z h => by simp at h, hb h.hl.oe, hb h.hl.ol⟩, h.bg.keep k (fun h => h), h.bc.keep k (fun h => h), hb h.og, hb h.oc, h.a1, h.a2, h.a3⟩
theorem Own.grownB {w w1 : World} {b : Nat} {e : TypeId} {size : Nat} {A CA A1 : Option Addr} {n c m cc m1 c1 : Nat} {xs : List Value} (o : Own w b e size A n c xs) (ap : Apart CA m cc A n c) (n1 : ∀ p, p < w.heap.size → NotB CA m cc p → w1.heap[p]? = w.heap[p]? ∧ NotB A1 m1 c1 p) : Own w1 b e size A n c xs ∧ Apart A n c A1 m1 c1 :=
  ⟨o.sameB fun k hk => (n1 k (o.blockAt k hk).2.1 (ap.symm k hk)).1, fun k hk => (n1 k (o.blockAt k hk).2.1 (ap.symm k hk)).2⟩
theorem BK.growC {w w1 : World} {z q bp bg bc g c : Nat} {s : RevD} {cs : Array Value} {EA : Option Addr} {ec : Nat} {LA : Option Addr} {lc : Nat} {GA : Option Addr} {gc : Nat} {CA : Option Addr} {cc : Nat} (h : BK w z q bp bg bc g c s cs EA ec LA lc GA gc CA cc) (hne : bg ≠ bc) {l : List (List UInt8)} {A1 : Option Addr} {c1 : Nat}
    (o1 : Own w1 z 9 1 A1 (s.come.length + l.length) c1 (strL s.come ++ strL l)) (k1 : Kept z [9] [] w w1) (n1 : ∀ p, p < w.heap.size → NotB CA s.come.length cc p → w1.heap[p]? = w.heap[p]? ∧ NotB A1 (s.come.length + l.length) c1 p) :
    w1.cell? ⟨bc, 0, none⟩ = some (.slice CA s.come.length cc) ∧ w1.frozen? ⟨bc, 0, none⟩ = false ∧ BK (w1.setCell ⟨bc, 0, none⟩ (.slice A1 (s.come.length + l.length) c1)) z q bp bg bc g c ⟨s.h, s.gone, s.come ++ l⟩ cs EA ec LA lc GA gc A1 c1 := by
  have xc := k1.blk h.bc (by simp) (by decide)
  have xg := k1.blk h.bg (by simp) (by decide)
  have xp := k1.blk h.bp (by simp) (by decide)
  have xq := k1.blk h.cut (by simp) (by decide)
  obtain ⟨og, ag⟩ := h.og.grownB h.a3.symm n1
  obtain ⟨ol, al⟩ := h.hl.ol.grownB h.a2 n1
  have hl1 : HL w1 z z (some ⟨g, 0, none⟩) c [] [] s.h EA ec LA lc := ⟨h.hl.own.kept k1 (by decide) (by simp), h.hl.len, h.hl.lo, Nat.le_trans h.hl.hi k1.size, fun k x y z h => by simp at h, h.hl.oe.kept k1 (by decide) (by simp), ol⟩
  refine ⟨xc.cell 0, xc.frozen 0, xp.far (p := ⟨bc, 0, none⟩) (xp.ne_ xc (by decide)) _, xq.far (p := ⟨bc, 0, none⟩) (xq.ne_ xc (by decide)) _, h.c5, hl1.setT (p := ⟨bc, 0, none⟩) xc (by decide) (by decide) (by decide) _, xg.far (p := ⟨bc, 0, none⟩) hne _, ?_, og.setCell (p := ⟨bc, 0, none⟩) xc (by decide) _, ?_, h.a1, ?_, ?_⟩
  · simpa using xc.set_ 0 (.slice A1 (s.come.length + l.length) c1)
  · simpa [strL] using o1.setCell (p := ⟨bc, 0, none⟩) xc (by decide) _
  · simpa using al.symm
  · simpa using ag
theorem BK.growG {w w1 : World} {z q bp bg bc g c : Nat} {s : RevD} {cs : Array Value} {EA : Option Addr} {ec : Nat} {LA : Option Addr} {lc : Nat} {GA : Option Addr} {gc : Nat} {CA : Option Addr} {cc : Nat} (h : BK w z q bp bg bc g c s cs EA ec LA lc GA gc CA cc) (hne : bg ≠ bc) {l : List (List UInt8)} {A1 : Option Addr} {c1 : Nat}
    (o1 : Own w1 z 9 1 A1 (s.gone.length + l.length) c1 (strL s.gone ++ strL l)) (k1 : Kept z [9] [] w w1) (n1 : ∀ p, p < w.heap.size → NotB GA s.gone.length gc p → w1.heap[p]? = w.heap[p]? ∧ NotB A1 (s.gone.length + l.length) c1 p) :
    w1.cell? ⟨bg, 0, none⟩ = some (.slice GA s.gone.length gc) ∧ w1.frozen? ⟨bg, 0, none⟩ = false ∧ BK (w1.setCell ⟨bg, 0, none⟩ (.slice A1 (s.gone.length + l.length) c1)) z q bp bg bc g c ⟨s.h, s.gone ++ l, s.come⟩ cs EA ec LA lc A1 c1 CA cc := by
  have xc := k1.blk h.bc (by simp) (by decide)
  have xg := k1.blk h.bg (by simp) (by decide)
  have xp := k1.blk h.bp (by simp) (by decide)
  have xq := k1.blk h.cut (by simp) (by decide)
  obtain ⟨oc, ac⟩ := h.oc.grownB h.a3 n1
  obtain ⟨ol, al⟩ := h.hl.ol.grownB h.a1 n1
  have hl1 : HL w1 z z (some ⟨g, 0, none⟩) c [] [] s.h EA ec LA lc := ⟨h.hl.own.kept k1 (by decide) (by simp), h.hl.len, h.hl.lo, Nat.le_trans h.hl.hi k1.size, fun k x y z h => by simp at h, h.hl.oe.kept k1 (by decide) (by simp), ol⟩
  refine ⟨xg.cell 0, xg.frozen 0, xp.far (p := ⟨bg, 0, none⟩) (xp.ne_ xg (by decide)) _, xq.far (p := ⟨bg, 0, none⟩) (xq.ne_ xg (by decide)) _, h.c5, hl1.setT (p := ⟨bg, 0, none⟩) xg (by decide) (by decide) (by decide) _, ?_, xc.far (p := ⟨bg, 0, none⟩) (Ne.symm hne) _, ?_, oc.setCell (p := ⟨bg, 0, none⟩) xg (by decide) _, ?_, h.a2, ?_⟩
  · simpa using xg.set_ 0 (.slice A1 (s.gone.length + l.length) c1)
  · simpa [strL] using o1.setCell (p := ⟨bg, 0, none⟩) xg (by decide) _
  · simpa using al.symm
  · simpa using ac.symm
theorem flushR_len (s : RevD) : (flushR s).eds.length ≤ s.h.eds.length + 2 ∧ (flushR s).ls.length = s.h.ls.length + s.gone.length + s.come.length := by
  obtain ⟨a1, a2⟩ := putH_len s.h 1 s.gone
  obtain ⟨b1, b2⟩ := putH_len (putH s.h 1 s.gone) 2 s.come
  unfold flushR
  omega
theorem elemStr_row {h : List (List UInt8)} {m k : Nat} : strL ((h.drop m).take k) = (strL (h.drop m)).take (k * 1) := by simp [strL, List.map_take]
end Go.Proofs.YtlcidbbpjlpmjaaDoor
