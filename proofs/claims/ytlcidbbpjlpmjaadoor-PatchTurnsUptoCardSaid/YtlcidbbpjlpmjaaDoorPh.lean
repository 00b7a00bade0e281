/-
  Hunks with any places, in memory: a row of hunks whose last one is being read. No statement of the seat is proved here.
-/
import Derived.Test.YtlcidbbpjlpmjaaDoorPb
import Derived.Test.YtlcidbbpjlpmjaaDoorQs
import Derived.Test.YtlcidbbpjlpmjaaDoorQw
namespace Go.Proofs.YtlcidbbpjlpmjaaDoor
open Go.RowKit

def newQ (a b : Int) : HkQ := ⟨a, b, [], []⟩
def hkQ (h : HkQ) (ev lv : Value) : List Value := [.int .i64 h.a, .int .i64 h.b, ev, lv]
theorem hkQ_len (h : HkQ) (ev lv : Value) : (hkQ h ev lv).length = 4 := rfl
def hkQs (hs : List HkQ) (tv : List (Value × Value)) : List Value := (hs.zip tv).flatMap fun x => hkQ x.1 x.2.1 x.2.2
theorem hkQs_len {hs : List HkQ} {tv : List (Value × Value)} (h : tv.length = hs.length) : (hkQs hs tv).length = hs.length * 4 := by
  unfold hkQs
  rw [flatn_len (C := 4) (fun x => rfl), List.length_zip, h, Nat.min_self]
theorem hkQs_snoc {hs : List HkQ} {tv : List (Value × Value)} (h : tv.length = hs.length) (x : HkQ) (ev lv : Value) : hkQs (hs ++ [x]) (tv ++ [(ev, lv)]) = hkQs hs tv ++ hkQ x ev lv := by
  unfold hkQs
  rw [List.zip_append h.symm]
  simp
def RowsQ (w : World) (lo hi : Nat) (h : HkQ) (ev lv : Value) : Prop := ∃ A c A' c', ev = .slice A h.eds.length c ∧ lv = .slice A' h.ls.length c' ∧ OwnB w lo hi 67 2 A h.eds.length c (edLs h.eds) ∧ OwnB w lo hi 9 1 A' h.ls.length c' (strL h.ls)
/-- Hunks ini, tv (their rows), and behind them h, whose rows may still grow. -/
structure HQ (w : World) (base bk : Nat) (A : Option Addr) (c : Nat) (ini : List HkQ) (tv : List (Value × Value)) (h : HkQ) (EA : Option Addr) (ec : Nat) (LA : Option Addr) (lc : Nat) : Prop where
  own : Own w base 38 4 A (ini.length + 1) c (hkQs ini tv ++ hkQ h (.slice EA h.eds.length ec) (.slice LA h.ls.length lc))
  len : tv.length = ini.length
  lo : base ≤ bk
  hi : bk ≤ w.heap.size
  rows : ∀ (k : Nat) x y z, ini[k]? = some x → tv[k]? = some (y, z) → RowsQ w base bk x y z
  oe : Own w bk 67 2 EA h.eds.length ec (edLs h.eds)
  ol : Own w bk 9 1 LA h.ls.length lc (strL h.ls)
theorem hq_set2 (xs : List Value) (h : HkQ) (ev lv u : Value) (k : Nat) (hx : xs.length = k * 4) : (xs ++ hkQ h ev lv).set (k * 4 + 2) u = xs ++ hkQ h u lv := by
  rw [List.set_append_right _ _ (by omega), hx, Nat.add_sub_cancel_left]
  rfl
theorem hq_set3 (xs : List Value) (h : HkQ) (ev lv u : Value) (k : Nat) (hx : xs.length = k * 4) : (xs ++ hkQ h ev lv).set (k * 4 + 3) u = xs ++ hkQ h ev u := by
  rw [List.set_append_right _ _ (by omega), hx, Nat.add_sub_cancel_left]
  rfl
theorem hq_at (xs : List Value) (h : HkQ) (ev lv : Value) (k j : Nat) (hx : xs.length = k * 4) : (xs ++ hkQ h ev lv)[k * 4 + j]? = (hkQ h ev lv)[j]? := by
  rw [List.getElem?_append_right (by omega), hx, Nat.add_sub_cancel_left]
theorem RowsQ.kept {w w' : World} {lo hi bk : Nat} {h : HkQ} {ev lv : Value} {E : List TypeId} (hr : RowsQ w lo hi h ev lv) (hk : Kept bk E [] w w') (hb : hi ≤ bk) : RowsQ w' lo hi h ev lv := by
  obtain ⟨A, c, A', c', e1, e2, o1, o2⟩ := hr
  exact ⟨A, c, A', c', e1, e2, o1.kept hk hb (by simp), o2.kept hk hb (by simp)⟩
theorem RowsQ.setCell {w : World} {lo hi : Nat} {h : HkQ} {ev lv : Value} (hr : RowsQ w lo hi h ev lv) {p : Addr} {cs : Array Value} (hp : Blk w p.block 38 cs) (u : Value) : RowsQ (w.setCell p u) lo hi h ev lv := by
  obtain ⟨A, c, A', c', e1, e2, o1, o2⟩ := hr
  exact ⟨A, c, A', c', e1, e2, o1.setCell hp (by decide) u, o2.setCell hp (by decide) u⟩
section
variable {w w1 : World} {base bk g c ec lc : Nat} {ini : List HkQ} {tv : List (Value × Value)} {h : HkQ} {EA LA : Option Addr}
theorem HQ.adr {A : Option Addr} (hh : HQ w base bk A c ini tv h EA ec LA lc) : ∃ g, A = some ⟨g, 0, none⟩ ∧ base ≤ g := hh.own.adrn (by omega)
theorem HQ.at_ (hh : HQ w base bk (some ⟨g, 0, none⟩) c ini tv h EA ec LA lc) (j : Nat) (hj : j < 4) (u : Value) (hu : (hkQ h (.slice EA h.eds.length ec) (.slice LA h.ls.length lc))[j]? = some u) : w.cell? ⟨g, ini.length * 4 + j, none⟩ = some u ∧ w.frozen? ⟨g, ini.length * 4 + j, none⟩ = false :=
  ⟨(World.ownsRow.cellAt hh.own (ini.length * 4 + j) (by omega)).trans ((hq_at _ _ _ _ _ _ (hkQs_len hh.len)).trans hu), World.ownsRow.frozenAt hh.own (ini.length * 4 + j)⟩
theorem HQ.kept (hh : HQ w base bk (some ⟨g, 0, none⟩) c ini tv h EA ec LA lc) {E : List TypeId} (hk : Kept bk E [] w w1) (hE : 38 ∉ E) (oe : Own w1 bk 67 2 EA h.eds.length ec (edLs h.eds)) (ol : Own w1 bk 9 1 LA h.ls.length lc (strL h.ls)) : HQ w1 base bk (some ⟨g, 0, none⟩) c ini tv h EA ec LA lc :=
  ⟨hh.own.kept hk hE (by simp), hh.len, hh.lo, Nat.le_trans hh.hi hk.size, fun k x y z h1 h2 => (hh.rows k x y z h1 h2).kept hk (Nat.le_refl _), oe, ol⟩
theorem HQ.eds (hh : HQ w base bk (some ⟨g, 0, none⟩) c ini tv h EA ec LA lc) (k1 : Kept bk [67] [] w w1) {A1 : Option Addr} {c1 : Nat} {e : EdD} (o1 : Own w1 bk 67 2 A1 (h.eds.length + 1) c1 (edLs (h.eds ++ [e]))) :
    w1.cell? ⟨g, ini.length * 4 + 2, none⟩ = some (.slice EA h.eds.length ec) ∧ w1.frozen? ⟨g, ini.length * 4 + 2, none⟩ = false ∧
    HQ (w1.setCell ⟨g, ini.length * 4 + 2, none⟩ (.slice A1 (h.eds.length + 1) c1)) base bk (some ⟨g, 0, none⟩) c ini tv ⟨h.a, h.b, h.eds ++ [e], h.ls⟩ A1 c1 LA lc ∧ Kept base E3 [] w (w1.setCell ⟨g, ini.length * 4 + 2, none⟩ (.slice A1 (h.eds.length + 1) c1)) := by
  have hx := hkQs_len hh.len
  have own1 := hh.own.kept k1 (by decide) (by simp)
  obtain ⟨cs, hb⟩ := own1.hid_blk
  have ht := Own.turn own1 (ini.length * 4 + 2) (.slice A1 (h.eds.length + 1) c1) (hq_set2 _ _ _ _ _ _ hx)
  have ol1 := hh.ol.kept k1 (by decide) (by simp)
  refine ⟨(World.ownsRow.cellAt own1 (ini.length * 4 + 2) (by omega)).trans (hq_at _ _ _ _ _ _ hx), World.ownsRow.frozenAt own1 _, ⟨?_, hh.len, hh.lo, ?_, ?_, ?_, ?_⟩, ?_⟩
  · simpa [hkQ] using ht.1
  · have := hh.hi; have := k1.size; simp [World.setCell]; omega
  · intro k x y z h1 h2
    exact ((hh.rows k x y z h1 h2).kept k1 (Nat.le_refl _)).setCell (p := ⟨g, ini.length * 4 + 2, none⟩) hb _
  · simpa using o1.setCell (p := ⟨g, ini.length * 4 + 2, none⟩) hb (by decide) _
  · exact ol1.setCell (p := ⟨g, ini.length * 4 + 2, none⟩) hb (by decide) _
  · exact (Kept.mono k1 hh.lo (by simp) (by simp)).trans (Kept.mono ht.2 (Nat.le_refl _) (by simp) (by simp))
theorem HQ.lns (hh : HQ w base bk (some ⟨g, 0, none⟩) c ini tv h EA ec LA lc) (k1 : Kept bk [9] [] w w1) {A1 : Option Addr} {c1 : Nat} {l : List (List UInt8)} (o1 : Own w1 bk 9 1 A1 (h.ls.length + l.length) c1 (strL h.ls ++ strL l)) :
    w1.cell? ⟨g, ini.length * 4 + 3, none⟩ = some (.slice LA h.ls.length lc) ∧ w1.frozen? ⟨g, ini.length * 4 + 3, none⟩ = false ∧
    HQ (w1.setCell ⟨g, ini.length * 4 + 3, none⟩ (.slice A1 (h.ls.length + l.length) c1)) base bk (some ⟨g, 0, none⟩) c ini tv ⟨h.a, h.b, h.eds, h.ls ++ l⟩ EA ec A1 c1 ∧ Kept base E3 [] w (w1.setCell ⟨g, ini.length * 4 + 3, none⟩ (.slice A1 (h.ls.length + l.length) c1)) := by
  have hx := hkQs_len hh.len
  have own1 := hh.own.kept k1 (by decide) (by simp)
  obtain ⟨cs, hb⟩ := own1.hid_blk
  have ht := Own.turn own1 (ini.length * 4 + 3) (.slice A1 (h.ls.length + l.length) c1) (hq_set3 _ _ _ _ _ _ hx)
  have oe1 := hh.oe.kept k1 (by decide) (by simp)
  refine ⟨(World.ownsRow.cellAt own1 (ini.length * 4 + 3) (by omega)).trans (hq_at _ _ _ _ _ _ hx), World.ownsRow.frozenAt own1 _, ⟨?_, hh.len, hh.lo, ?_, ?_, ?_, ?_⟩, ?_⟩
  · simpa [hkQ] using ht.1
  · have := hh.hi; have := k1.size; simp [World.setCell]; omega
  · intro k x y z h1 h2
    exact ((hh.rows k x y z h1 h2).kept k1 (Nat.le_refl _)).setCell (p := ⟨g, ini.length * 4 + 3, none⟩) hb _
  · exact oe1.setCell (p := ⟨g, ini.length * 4 + 3, none⟩) hb (by decide) _
  · simpa [strL] using o1.setCell (p := ⟨g, ini.length * 4 + 3, none⟩) hb (by decide) _
  · exact (Kept.mono k1 hh.lo (by simp) (by simp)).trans (Kept.mono ht.2 (Nat.le_refl _) (by simp) (by simp))
end
/-- A row of hunks, the last of which may still grow. -/
def HS (w : World) (base : Nat) (A : Option Addr) (cp : Nat) (hs : List HkQ) : Prop := (hs = [] ∧ A = none ∧ cp = 0) ∨ ∃ ini tv h EA ec LA lc bk, hs = ini ++ [h] ∧ HQ w base bk A cp ini tv h EA ec LA lc
theorem HS.own {w : World} {base : Nat} {A : Option Addr} {cp : Nat} {hs : List HkQ} (h : HS w base A cp hs) : ∃ xs, Own w base 38 4 A hs.length cp xs := by
  rcases h with ⟨rfl, rfl, rfl⟩ | ⟨ini, tv, x, EA, ec, LA, lc, bk, rfl, h⟩
  · exact ⟨[], Own.nil _ _ _ _⟩
  · exact ⟨_, by simpa using h.own⟩
theorem RowsQ.keptT {w w' : World} {lo hi bk : Nat} {h : HkQ} {ev lv : Value} {E : List TypeId} (hr : RowsQ w lo hi h ev lv) (hk : Kept bk E [] w w') (h1 : 67 ∉ E) (h2 : 9 ∉ E) : RowsQ w' lo hi h ev lv := by
  obtain ⟨A, c, A', c', e1, e2, o1, o2⟩ := hr
  exact ⟨A, c, A', c', e1, e2, ⟨o1.1.kept hk h1 (by simp), o1.2⟩, ⟨o2.1.kept hk h2 (by simp), o2.2⟩⟩
theorem HS.flat {w : World} {base : Nat} {A : Option Addr} {cp : Nat} {hs : List HkQ} (h : HS w base A cp hs) : ∃ tv, tv.length = hs.length ∧ Own w base 38 4 A hs.length cp (hkQs hs tv) ∧ ∀ (k : Nat) x y z, hs[k]? = some x → tv[k]? = some (y, z) → RowsQ w base w.heap.size x y z := by
  rcases h with ⟨rfl, rfl, rfl⟩ | ⟨ini, tv, x, EA, ec, LA, lc, bk, rfl, h⟩
  · exact ⟨[], rfl, Own.nil _ _ _ _, by simp⟩
  · have hl := h.len
    refine ⟨tv ++ [(.slice EA x.eds.length ec, .slice LA x.ls.length lc)], by simp [hl], ?_, fun k u y z h1 h2 => ?_⟩
    · rw [hkQs_snoc hl]
      simpa using h.own
    · rcases Nat.lt_or_ge k ini.length with q | q
      · rw [List.getElem?_append_left q] at h1
        rw [List.getElem?_append_left (by omega)] at h2
        obtain ⟨A, c, A', c', e1, e2, o1, o2⟩ := h.rows k u y z h1 h2
        exact ⟨A, c, A', c', e1, e2, o1.more h.hi, o2.more h.hi⟩
      · rw [List.getElem?_append_right q] at h1
        rw [List.getElem?_append_right (by omega), hl] at h2
        have h0 : k - ini.length = 0 := by
          rcases Nat.eq_zero_or_pos (k - ini.length) with q | q
          · exact q
          · rw [List.getElem?_eq_none (by simp; omega)] at h1; cases h1
        rw [h0] at h1 h2
        simp only [List.getElem?_cons_zero, Option.some.injEq, Prod.mk.injEq] at h1 h2
        obtain ⟨rfl, rfl⟩ := h2
        subst h1
        exact ⟨EA, ec, LA, lc, rfl, rfl, OwnB.of_own (h.oe.mono h.lo) (Nat.le_refl _), OwnB.of_own (h.ol.mono h.lo) (Nat.le_refl _)⟩
theorem HQ.keepN {w w' : World} {base bk c ec lc : Nat} {A EA LA : Option Addr} {ini : List HkQ} {tv : List (Value × Value)} {h : HkQ} (hl : HQ w base bk A c ini tv h EA ec LA lc) (hk : Keep Nothing w w') : HQ w' base bk A c ini tv h EA ec LA lc := by
  have hk' : Kept 0 [] [] w w' := Kept.ofKeep hk (fun _ _ h => absurd h (fun h => h))
  exact ⟨hl.own.kept hk' (by simp) (by simp), hl.len, hl.lo, Nat.le_trans hl.hi hk.size, fun k x y z e1 e2 => (hl.rows k x y z e1 e2).keptT hk' (by simp) (by simp), hl.oe.kept hk' (by simp) (by simp), hl.ol.kept hk' (by simp) (by simp)⟩
theorem HS.keepN {w w' : World} {base : Nat} {A : Option Addr} {cp : Nat} {hs : List HkQ} (h : HS w base A cp hs) (hk : Keep Nothing w w') : HS w' base A cp hs := by
  have hk' : Kept 0 [] [] w w' := Kept.ofKeep hk (fun _ _ h => absurd h (fun h => h))
  rcases h with q1 | ⟨ini, tv, h, EA, ec, LA, lc, bk, h1, hl⟩
  · exact .inl q1
  · exact .inr ⟨ini, tv, h, EA, ec, LA, lc, bk, h1, ⟨hl.own.kept hk' (by simp) (by simp), hl.len, hl.lo, Nat.le_trans hl.hi hk.size, fun k x y z e1 e2 => (hl.rows k x y z e1 e2).keptT hk' (by simp) (by simp), hl.oe.kept hk' (by simp) (by simp), hl.ol.kept hk' (by simp) (by simp)⟩⟩
theorem HS.pushNew {w w2 : World} {base : Nat} {A : Option Addr} {cp : Nat} {i j : Int} {hs : List HkQ} {tv : List (Value × Value)} (hb : base ≤ w.heap.size) (hl : tv.length = hs.length) (hr : ∀ (k : Nat) x y z, hs[k]? = some x → tv[k]? = some (y, z) → RowsQ w base w.heap.size x y z) (hk : Kept base [38] [] w w2) (ho : Own w2 base 38 4 A (hs.length + 1) cp (hkQs hs tv ++ hkQ (newQ i j) (.slice none 0 0) (.slice none 0 0))) : HS w2 base A cp (hs ++ [newQ i j]) :=
  .inr ⟨hs, tv, newQ i j, none, 0, none, 0, w.heap.size, rfl, ⟨ho, hl, hb, hk.size, fun k x y z h1 h2 => (hr k x y z h1 h2).keptT hk (by decide) (by decide), Own.nil _ _ _ _, Own.nil _ _ _ _⟩⟩
theorem HQ.inc {w : World} {base bk g ge c ec lc op n : Nat} {LA : Option Addr} {ini : List HkQ} {tv : List (Value × Value)} {a b : Int} {es : List EdD} {ls : List (List UInt8)} (hh : HQ w base bk (some ⟨g, 0, none⟩) c ini tv ⟨a, b, es ++ [⟨op, n⟩], ls⟩ (some ⟨ge, 0, none⟩) ec LA lc) :
    HQ (w.setCell ⟨ge, es.length * 2 + 1, none⟩ (.int .i64 ((n + 1 : Nat) : Int))) base bk (some ⟨g, 0, none⟩) c ini tv ⟨a, b, es ++ [⟨op, n + 1⟩], ls⟩ (some ⟨ge, 0, none⟩) ec LA lc ∧ Kept base E3 [] w (w.setCell ⟨ge, es.length * 2 + 1, none⟩ (.int .i64 ((n + 1 : Nat) : Int))) ∧
    w.cell? ⟨ge, es.length * 2, none⟩ = some (.int .i64 (op : Int)) ∧ w.cell? ⟨ge, es.length * 2 + 1, none⟩ = some (.int .i64 (n : Int)) ∧ w.frozen? ⟨ge, es.length * 2 + 1, none⟩ = false := by
  have hL : (edLs es).length = es.length * 2 := flatn_len edL_len es
  have hset : (edLs (es ++ [⟨op, n⟩])).set (es.length * 2 + 1) (.int .i64 ((n + 1 : Nat) : Int)) = edLs (es ++ [⟨op, n + 1⟩]) := by
    rw [edLs_snoc, edLs_snoc, List.set_append_right _ _ (by rw [hL]; omega), hL, Nat.add_sub_cancel_left]
    rfl
  have hlen : (⟨a, b, es ++ [⟨op, n⟩], ls⟩ : HkQ).eds.length = es.length + 1 := by simp
  have oe := hh.oe
  rw [hlen] at oe
  have ht := Own.turn oe (es.length * 2 + 1) (.int .i64 ((n + 1 : Nat) : Int)) hset
  obtain ⟨cs, hb⟩ := oe.hid_blk
  obtain ⟨e1, e2⟩ := edLs_at (l := es ++ [⟨op, n⟩]) (k := es.length) (e := ⟨op, n⟩) (by simp)
  refine ⟨⟨?_, hh.len, hh.lo, ?_, fun k x y z h1 h2 => (hh.rows k x y z h1 h2).kept ht.2 (Nat.le_refl _), ?_, ?_⟩, Kept.mono ht.2 hh.lo (by simp) (by simp), ?_, ?_, World.ownsRow.frozenAt oe _⟩
  · have := hh.own.setCell (p := ⟨ge, es.length * 2 + 1, none⟩) hb (by decide) (.int .i64 ((n + 1 : Nat) : Int))
    simpa [hkQ] using this
  · have := hh.hi
    simpa [World.setCell] using this
  · simpa using ht.1
  · exact hh.ol.setCell (p := ⟨ge, es.length * 2 + 1, none⟩) hb (by decide) _
  · exact (World.ownsRow.cellAt oe (es.length * 2) (by omega)).trans e1
  · exact (World.ownsRow.cellAt oe (es.length * 2 + 1) (by omega)).trans e2
theorem hkQs_toI (hs : List HkQ) (tv : List (Value × Value)) : hkQs hs tv = hkIs (hs.map HkQ.toI) tv := by
  unfold hkQs hkIs
  induction hs generalizing tv with
  | nil => rfl
  | cons x hs ih =>
    cases tv with
    | nil => rfl
    | cons y tv =>
      rw [List.zip_cons_cons, List.flatMap_cons, ih, List.map_cons, List.zip_cons_cons, List.flatMap_cons]
      rfl
/-- .. read as hunks. -/
theorem HS.reads {w : World} {base : Nat} {A : Option Addr} {cp : Nat} {hs : List HkQ} (h : HS w base A cp hs) : HII w w.heap.size A (hs.map HkQ.toI) := by
  obtain ⟨tv, h1, h2, h3⟩ := h.flat
  refine ⟨tv, by simp [h1], ?_, fun k x y z e1 e2 => ?_⟩
  · have := h2.reads
    rw [hkQs_toI] at this
    rw [List.length_map]
    exact this
  · rw [List.getElem?_map] at e1
    obtain ⟨q, hq, rfl⟩ := Option.map_eq_some_iff.1 e1
    obtain ⟨A, c, A', c', e1, e2, o1, o2⟩ := h3 k q y z hq e2
    have r1 := o1.1.reads
    rw [edLs_toI] at r1
    refine ⟨A, c, A', c', ?_, e2, ?_, o2.1.cap_le.1, o2.1.cap_le.2, ?_, o2.1.reads⟩
    · rw [e1]; simp [HkQ.toI]
    · have := o1.1.cap_le.1; simpa [HkQ.toI] using this
    · simpa [HkQ.toI] using r1
end Go.Proofs.YtlcidbbpjlpmjaaDoor
