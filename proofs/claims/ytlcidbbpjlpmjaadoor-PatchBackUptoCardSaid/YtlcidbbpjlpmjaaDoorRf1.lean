/-
  The rows of the reference's Reverse: how they grow. No statement of the seat is proved here.
-/
import Derived.Test.YtlcidbbpjlpmjaaDoorRe
namespace Go.Proofs.YtlcidbbpjlpmjaaDoor
open Go.RowKit

/-- A hunk's rows, and the lines gone and come, all apart. -/
structure RV (w : World) (z : Nat) (s : RevD) (EA : Option Addr) (ec : Nat) (LA : Option Addr) (lc : Nat) (GA : Option Addr) (gc : Nat) (CA : Option Addr) (cc : Nat) : Prop where
  lo : z ≤ w.heap.size
  oe : Own w z 67 2 EA s.h.eds.length ec (edLs s.h.eds)
  ol : Own w z 9 1 LA s.h.ls.length lc (strL s.h.ls)
  og : Own w z 9 1 GA s.gone.length gc (strL s.gone)
  oc : Own w z 9 1 CA s.come.length cc (strL s.come)
  a1 : Apart GA s.gone.length gc LA s.h.ls.length lc
  a2 : Apart CA s.come.length cc LA s.h.ls.length lc
  a3 : Apart GA s.gone.length gc CA s.come.length cc
variable {w w' w1 : World} {z : Nat} {s : RevD} {EA LA GA CA : Option Addr} {ec lc gc cc : Nat}
theorem RV.same (h : RV w z s EA ec LA lc GA gc CA cc) (hz : w.heap.size ≤ w'.heap.size) (hb : ∀ k, z ≤ k → k < w.heap.size → (∃ cs t, w.heap[k]? = some (.cells cs t (0, 0)) ∧ (t = 67 ∨ t = 9)) → w'.heap[k]? = w.heap[k]?) : RV w' z s EA ec LA lc GA gc CA cc :=
  ⟨Nat.le_trans h.lo hz, h.oe.same fun k a b ⟨cs, c⟩ => hb k a b ⟨cs, _, c, .inl rfl⟩, h.ol.same fun k a b ⟨cs, c⟩ => hb k a b ⟨cs, _, c, .inr rfl⟩, h.og.same fun k a b ⟨cs, c⟩ => hb k a b ⟨cs, _, c, .inr rfl⟩, h.oc.same fun k a b ⟨cs, c⟩ => hb k a b ⟨cs, _, c, .inr rfl⟩, h.a1, h.a2, h.a3⟩
theorem RV.keepN (h : RV w z s EA ec LA lc GA gc CA cc) (k : Keep Nothing w w') : RV w' z s EA ec LA lc GA gc CA cc := h.same k.size fun i _ hi _ => k.block i hi (fun h => h)
theorem RV.box {b : Nat} {cs : Array Value} (h : RV w z s EA ec LA lc GA gc CA cc) (hb : Blk w b 38 cs) (k : Keep (Only b) w w') : RV w' z s EA ec LA lc GA gc CA cc :=
  h.same k.size fun i _ hi ⟨cs', t, hc, ht⟩ => k.block i hi (by
    unfold Only
    rintro rfl
    unfold Blk at hb
    rw [hb] at hc
    injection hc with hc
    injection hc with _ hc
    rcases ht with rfl | rfl
    · exact absurd hc (by decide)
    · exact absurd hc (by decide))
theorem Own.putV {EB : Option Addr} {en' ec' : Nat} {LB : Option Addr} {ln' lc' n : Nat} {xs : List Value}
    (og : Own w z 9 1 GA n gc xs) (oe : Own w z 67 2 EA s.h.eds.length ec (edLs s.h.eds)) (ap : Apart GA n gc LA s.h.ls.length lc) (f : PutF w.heap.size EA s.h.eds.length ec LA s.h.ls.length lc EB en' ec' LB ln' lc' w w') :
    Own w' z 9 1 GA n gc xs ∧ Apart GA n gc LB ln' lc' := by
  have key : ∀ k, (Value.slice GA n gc).ownBlock = some k → w'.heap[k]? = w.heap[k]? ∧ NotB LB ln' lc' k := fun k hk => by
    obtain ⟨m1, m2, m3⟩ := f k (og.blockAt k hk).2.1 (Nat.ne_of_lt (og.blockAt k hk).2.1) (og.notB oe (by decide) k hk) (ap k hk)
    exact ⟨m1, m3⟩
  exact ⟨og.sameB fun k hk => (key k hk).1, fun k hk => (key k hk).2⟩
theorem RV.put (h : RV w z s EA ec LA lc GA gc CA cc) {op : Nat} {l : List (List UInt8)} {EB : Option Addr} {eb : Nat} {LB : Option Addr} {lb : Nat} (oe : Own w' z 67 2 EB (putH s.h op l).eds.length eb (edLs (putH s.h op l).eds)) (ol : Own w' z 9 1 LB (putH s.h op l).ls.length lb (strL (putH s.h op l).ls)) (k : Kept z [67, 9] [] w w') (f : PutF w.heap.size EA s.h.eds.length ec LA s.h.ls.length lc EB (putH s.h op l).eds.length eb LB (putH s.h op l).ls.length lb w w') :
    RV w' z ⟨putH s.h op l, s.gone, s.come⟩ EB eb LB lb GA gc CA cc := by
  obtain ⟨o1, p1⟩ := h.og.putV h.oe h.a1 f
  obtain ⟨o2, p2⟩ := h.oc.putV h.oe h.a2 f
  exact ⟨Nat.le_trans h.lo k.size, oe, ol, o1, o2, p1, p2, h.a3⟩
theorem RV.growC (h : RV w z s EA ec LA lc GA gc CA cc) {l : List (List UInt8)} {A1 : Option Addr} {c1 : Nat}
    (o1 : Own w1 z 9 1 A1 (s.come.length + l.length) c1 (strL s.come ++ strL l)) (k1 : Kept z [9] [] w w1) (n1 : ∀ p, p < w.heap.size → NotB CA s.come.length cc p → w1.heap[p]? = w.heap[p]? ∧ NotB A1 (s.come.length + l.length) c1 p) :
    RV w1 z ⟨s.h, s.gone, s.come ++ l⟩ EA ec LA lc GA gc A1 c1 := by
  obtain ⟨og, ag⟩ := h.og.grownB h.a3.symm n1
  obtain ⟨ol, al⟩ := h.ol.grownB h.a2 n1
  exact ⟨Nat.le_trans h.lo k1.size, h.oe.kept k1 (by decide) (by simp), ol, og, by simpa [strL] using o1, h.a1, by simpa using al.symm, by simpa using ag⟩
theorem RV.growG (h : RV w z s EA ec LA lc GA gc CA cc) {l : List (List UInt8)} {A1 : Option Addr} {c1 : Nat}
    (o1 : Own w1 z 9 1 A1 (s.gone.length + l.length) c1 (strL s.gone ++ strL l)) (k1 : Kept z [9] [] w w1) (n1 : ∀ p, p < w.heap.size → NotB GA s.gone.length gc p → w1.heap[p]? = w.heap[p]? ∧ NotB A1 (s.gone.length + l.length) c1 p) :
    RV w1 z ⟨s.h, s.gone ++ l, s.come⟩ EA ec LA lc A1 c1 CA cc := by
  obtain ⟨oc, ac⟩ := h.oc.grownB h.a3 n1
  obtain ⟨ol, al⟩ := h.ol.grownB h.a1 n1
  exact ⟨Nat.le_trans h.lo k1.size, h.oe.kept k1 (by decide) (by simp), ol, by simpa [strL] using o1, oc, by simpa using al.symm, h.a2, by simpa using ac.symm⟩
theorem RV.flushed (h : RV w z s EA ec LA lc GA gc CA cc) : RV w z ⟨s.h, [], []⟩ EA ec LA lc none 0 none 0 :=
  ⟨h.lo, h.oe, h.ol, Own.nil _ _ _ _, Own.nil _ _ _ _, Apart.nil _ _ _, Apart.nil _ _ _, Apart.nil _ _ _⟩
/-- A Hunk's box turned to another one. -/
theorem kept_box {b : Nat} {wa wb : World} {E : List TypeId} (k : Kept z E [b] w wa) (kb : Keep (Only b) wa wb) : Kept z E [b] w wb :=
  k.trans (Kept.ofKeep kb (by unfold Only; simp))
theorem back_flush (h : HkD) (TG : RevD) (ht : revL h.eds h.ls ⟨newH h.b h.a, [], []⟩ = TG) : backP h = flushR TG := by unfold backP; rw [ht]
end Go.Proofs.YtlcidbbpjlpmjaaDoor
