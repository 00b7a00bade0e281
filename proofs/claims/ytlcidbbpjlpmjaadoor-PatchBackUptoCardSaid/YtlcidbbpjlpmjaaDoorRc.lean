/-
  Contract of the closure in patch.back. No statement of the seat is proved here.
-/
import Derived.Test.YtlcidbbpjlpmjaaDoorRb
namespace Go.Proofs.YtlcidbbpjlpmjaaDoor
open Go.RowKit

theorem Own.sameB {w w' : World} {base : Nat} {e : TypeId} {size : Nat} {A : Option Addr} {n c : Nat} {xs : List Value} (h : Own w base e size A n c xs) (hk : ∀ k, (Value.slice A n c).ownBlock = some k → w'.heap[k]? = w.heap[k]?) : Own w' base e size A n c xs := by
  refine ⟨h.1, ?_⟩
  rcases h.2 with hv | ⟨g, cap, cur, hv, hbg, hg, hr⟩
  · exact .inl hv
  · exact .inr ⟨g, cap, cur, hv, hbg, (hk g (by rw [hv]; rfl)).trans hg, hr⟩
theorem Own.notB {w : World} {b b' : Nat} {e e' : TypeId} {size size' : Nat} {A A' : Option Addr} {n c n' c' : Nat} {xs ys : List Value} (h : Own w b e size A n c xs) (h' : Own w b' e' size' A' n' c' ys) (hne : e ≠ e') : ∀ k, (Value.slice A n c).ownBlock = some k → NotB A' n' c' k := by
  intro k hk hk'
  obtain ⟨_, _, cs, h1⟩ := h.blockAt k hk
  obtain ⟨_, _, cs', h2⟩ := h'.blockAt k hk'
  rw [h1] at h2
  injection h2 with h2
  injection h2 with _ h2
  exact hne h2
theorem Own.ne_blk {w : World} {b g : Nat} {e t : TypeId} {size : Nat} {A : Option Addr} {n c : Nat} {xs : List Value} {cs : Array Value} (h : Own w b e size A n c xs) (x : Blk w g t cs) (hne : t ≠ e) : ∀ k, (Value.slice A n c).ownBlock = some k → k ≠ g := by
  rintro k hk rfl
  obtain ⟨_, _, cs', h1⟩ := h.blockAt k hk
  unfold Blk at x
  rw [x] at h1
  injection h1 with h1
  injection h1 with _ h1
  exact hne h1
/-- A row of strings that stands apart from what put turns. -/
theorem Own.putF {w w' : World} {z b g : Nat} {s : HkD} {EA : Option Addr} {ec : Nat} {LA : Option Addr} {lc : Nat} {EB : Option Addr} {en' ec' : Nat} {LB : Option Addr} {ln' lc' : Nat} {GA : Option Addr} {n gc : Nat} {xs : List Value} {cs : Array Value}
    (og : Own w b 9 1 GA n gc xs) (hg : Blk w g 38 cs) (oe : Own w z 67 2 EA s.eds.length ec (edLs s.eds)) (ap : Apart GA n gc LA s.ls.length lc) (f : PutF g EA s.eds.length ec LA s.ls.length lc EB en' ec' LB ln' lc' w w') :
    Own w' b 9 1 GA n gc xs ∧ Apart GA n gc LB ln' lc' := by
  have key : ∀ k, (Value.slice GA n gc).ownBlock = some k → w'.heap[k]? = w.heap[k]? ∧ NotB LB ln' lc' k := fun k hk => by
    obtain ⟨m1, m2, m3⟩ := f k (og.blockAt k hk).2.1 (og.ne_blk hg (by decide) k hk) (og.notB oe (by decide) k hk) (ap k hk)
    exact ⟨m1, m3⟩
  exact ⟨og.sameB fun k hk => (key k hk).1, fun k hk => (key k hk).2⟩
theorem Src.own {w : World} {b n c : Nat} {A : Option Addr} {xs : List Value} (h : Own w b 9 1 A n c xs) (base : Nat) : Src w base A n xs := by
  refine ⟨_, h.reads, fun ad had => .inr ?_⟩
  rcases h.2 with ⟨hv, _⟩ | ⟨g, cap, cur, hv, _, hg, _⟩
  · injection hv with hv; rw [hv] at had; cases had
  · injection hv with hv
    rw [hv] at had
    injection had with had
    subst had
    exact ⟨cur, hg⟩
theorem Apart.nil (A : Option Addr) (n c : Nat) : Apart none 0 0 A n c := fun k hk => by simp [Value.ownBlock] at hk
theorem HL.setT {w : World} {z g c ec lc : Nat} {EA LA : Option Addr} {h : HkD} (hh : HL w z z (some ⟨g, 0, none⟩) c [] [] h EA ec LA lc) {p : Addr} {t : TypeId} {cs : Array Value} (hp : Blk w p.block t cs) (h1 : t ≠ 38) (h2 : t ≠ 67) (h3 : t ≠ 9) (u : Value) : HL (w.setCell p u) z z (some ⟨g, 0, none⟩) c [] [] h EA ec LA lc :=
  ⟨hh.own.setCell hp h1 u, hh.len, hh.lo, by simpa [World.setCell] using hh.hi, fun k x y z h => by simp at h, hh.oe.setCell hp h2 u, hh.ol.setCell hp h3 u⟩
structure BK (w : World) (z q bp bg bc g c : Nat) (s : RevD) (cs : Array Value) (EA : Option Addr) (ec : Nat) (LA : Option Addr) (lc : Nat) (GA : Option Addr) (gc : Nat) (CA : Option Addr) (cc : Nat) : Prop where
  bp : Blk w bp 63 #[.pointer (some ⟨q, 0, none⟩)]
  cut : Blk w q 65 cs
  c5 : cs[5]? = some (.slice (some ⟨g, 0, none⟩) 1 c)
  hl : HL w z z (some ⟨g, 0, none⟩) c [] [] s.h EA ec LA lc
  bg : Blk w bg 22 #[.slice GA s.gone.length gc]
  bc : Blk w bc 22 #[.slice CA s.come.length cc]
  og : Own w z 9 1 GA s.gone.length gc (strL s.gone)
  oc : Own w z 9 1 CA s.come.length cc (strL s.come)
  a1 : Apart GA s.gone.length gc LA s.h.ls.length lc
  a2 : Apart CA s.come.length cc LA s.h.ls.length lc
  a3 : Apart GA s.gone.length gc CA s.come.length cc
/-- The cutter's hunk turned by a put: all else of the state stands. -/
theorem BK.put {w w' : World} {z q bp bg bc g c : Nat} {s : RevD} {cs : Array Value} {EA : Option Addr} {ec : Nat} {LA : Option Addr} {lc : Nat} {GA : Option Addr} {gc : Nat} {CA : Option Addr} {cc : Nat} (h : BK w z q bp bg bc g c s cs EA ec LA lc GA gc CA cc)
    {op : Nat} {l : List (List UInt8)} {EB : Option Addr} {eb : Nat} {LB : Option Addr} {lb : Nat} (hl : HL w' z z (some ⟨g, 0, none⟩) c [] [] (putH s.h op l) EB eb LB lb) (k : Kept z E3 [] w w') (f : PutF g EA s.h.eds.length ec LA s.h.ls.length lc EB (putH s.h op l).eds.length eb LB (putH s.h op l).ls.length lb w w') :
    BK w' z q bp bg bc g c ⟨putH s.h op l, s.gone, s.come⟩ cs EB eb LB lb GA gc CA cc := by
  obtain ⟨csg, hb⟩ := h.hl.own.hid_blk
  obtain ⟨o1, p1⟩ := h.og.putF hb h.hl.oe h.a1 f
  obtain ⟨o2, p2⟩ := h.oc.putF hb h.hl.oe h.a2 f
  exact ⟨k.blk h.bp (by simp) (by decide), k.blk h.cut (by simp) (by decide), h.c5, hl, k.blk h.bg (by simp) (by decide), k.blk h.bc (by simp) (by decide), o1, o2, p1, p2, h.a3⟩
def FlushPost (z q bp bg bc g c : Nat) (s : RevD) (cs : Array Value) (w : World) (r : Ending) (w' : World) : Prop := ∃ EB eb LB lb, r = .returned (.tuple #[]) ∧ BK w' z q bp bg bc g c ⟨flushR s, [], []⟩ cs EB eb LB lb none 0 none 0 ∧ Kept z E3 [bg, bc] w w'
theorem putH_len (h : HkD) (op : Nat) (l : List (List UInt8)) : (putH h op l).eds.length ≤ h.eds.length + 1 ∧ (putH h op l).ls.length = h.ls.length + l.length := by
  unfold putH
  split
  next hl => subst hl; simp
  next => simp
set_option maxHeartbeats 2000000 in
set_option maxRecDepth 100000 in
theorem flush_any (z q bp bg bc g c : Nat) (s : RevD) (cs : Array Value) (EA : Option Addr) (ec : Nat) (LA : Option Addr) (lc : Nat) (GA : Option Addr) (gc : Nat) (CA : Option Addr) (cc : Nat) (w : World) (h : BK w z q bp bg bc g c s cs EA ec LA lc GA gc CA cc) (hne : bg ≠ bc)
    (hn1 : s.h.eds.length + 2 ≤ 100000000) (hn2 : s.h.ls.length + s.gone.length + s.come.length ≤ 100000000) :
    Calls Tryd.prog 57 #[.pointer (some ⟨bp, 0, none⟩), .pointer (some ⟨bg, 0, none⟩), .pointer (some ⟨bc, 0, none⟩)] w (FlushPost z q bp bg bc g c s cs w) := by
  have HP1 := Lib.hid (putq_any q z z g c [] [] s.h EA ec LA lc 1 s.gone GA gc cs w h.cut h.c5 h.hl (fun _ => Src.own h.og z) (by omega) (by omega) (by omega) (by simp))
  have c1 : w.cell? ⟨bp, 0, none⟩ = some (.pointer (some ⟨q, 0, none⟩)) := h.bp.cell 0
  have c2 : w.cell? ⟨bg, 0, none⟩ = some (.slice GA s.gone.length gc) := h.bg.cell 0
  have H := Lib.hid h
  clear h
  go_enter Tryd.func57, Tryd.ntmps57
  go_wp2_with (go_at_call 54; refine HP1.out.mono ?_)
  rintro _ w1 ⟨EB, eb, LB, lb, rfl, hl1, k1, f1⟩
  have h1 := H.out.put hl1 k1 f1
  obtain ⟨q1, q2⟩ := putH_len s.h 1 s.gone
  have HP2 := Lib.hid (putq_any q z z g c [] [] (putH s.h 1 s.gone) EB eb LB lb 2 s.come CA cc cs w1 h1.cut h1.c5 h1.hl (fun _ => Src.own h1.oc z) (by omega) (by omega) (by omega) (by simp))
  have c3 : w1.cell? ⟨bp, 0, none⟩ = some (.pointer (some ⟨q, 0, none⟩)) := h1.bp.cell 0
  have c4 : w1.cell? ⟨bc, 0, none⟩ = some (.slice CA s.come.length cc) := h1.bc.cell 0
  have H1 := Lib.hid h1
  have K1 := Lib.hid k1
  clear h1 k1 f1 hl1 c1 c2 HP1 H
  go_wp2_with (go_at_call 54; refine HP2.out.mono ?_)
  rintro _ w2 ⟨EC, e2, LC, l2, rfl, hl2, k2, f2⟩
  have h2 := H1.out.put hl2 k2 f2
  have c5 : w2.cell? ⟨bg, 0, none⟩ = some (.slice GA s.gone.length gc) := h2.bg.cell 0
  have c6 : w2.frozen? ⟨bg, 0, none⟩ = false := h2.bg.frozen 0
  have y1 := h2.bg.set_ 0 (.slice none 0 0)
  have y2 := h2.bc.far (p := ⟨bg, 0, none⟩) (Ne.symm hne) (.slice none 0 0)
  have c7 : (w2.setCell ⟨bg, 0, none⟩ (.slice none 0 0)).cell? ⟨bc, 0, none⟩ = some (.slice CA s.come.length cc) := y2.cell 0
  have c8 := y2.frozen 0
  have Y1 := Lib.hid y1
  have Y2 := Lib.hid y2
  have H2 := Lib.hid h2
  have K2 := Lib.hid k2
  clear h2 k2 f2 hl2 c3 c4 HP2 y1 y2
  go_wp2_with fail
  refine bodyPost_ret (results_none rfl _ _ _) rfl ?_
  have X2 := Y2.out
  have h2 := H2.out
  have x3 : Blk (w2.setCell ⟨bg, 0, none⟩ (.slice none 0 0)) bp 63 #[.pointer (some ⟨q, 0, none⟩)] := h2.bp.far (h2.bp.ne_ h2.bg (by decide)) _
  have x4 : Blk (w2.setCell ⟨bg, 0, none⟩ (.slice none 0 0)) q 65 cs := h2.cut.far (h2.cut.ne_ h2.bg (by decide)) _
  have x5 := h2.hl.setT (p := ⟨bg, 0, none⟩) h2.bg (by decide) (by decide) (by decide) (.slice none 0 0)
  refine ⟨EC, e2, LC, l2, rfl, ⟨x3.far (x3.ne_ X2 (by decide)) _, x4.far (x4.ne_ X2 (by decide)) _, h2.c5, x5.setT (p := ⟨bc, 0, none⟩) X2 (by decide) (by decide) (by decide) _, ?_, ?_, Own.nil _ _ _ _, Own.nil _ _ _ _, Apart.nil _ _ _, Apart.nil _ _ _, Apart.nil _ _ _⟩, ?_⟩
  · simpa using Y1.out.far (p := ⟨bc, 0, none⟩) hne (.slice none 0 0)
  · simpa using X2.set_ 0 (.slice none 0 0)
  · exact ((Kept.mono (K1.out.trans K2.out) (Nat.le_refl _) (by simp) (by simp)).setCell (p := ⟨bg, 0, none⟩) (.inl (by simp)) _).setCell (p := ⟨bc, 0, none⟩) (.inl (by simp)) _
end Go.Proofs.YtlcidbbpjlpmjaaDoor
