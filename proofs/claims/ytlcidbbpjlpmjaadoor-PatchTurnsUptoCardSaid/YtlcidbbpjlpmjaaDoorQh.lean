/-
  Hunks in memory: a row of hunks whose last one is being written; contract of cutter.put. No statement of the seat is proved here.
-/
import Derived.Test.YtlcidbbpjlpmjaaDoorQe
import Derived.Test.YtlcidbbpjlpmjaaDoorQn
import Derived.Deep.QuietTactic
namespace Go.Proofs.YtlcidbbpjlpmjaaDoor
open Go.RowKit

def hkL (h : HkD) (ev lv : Value) : List Value := [.int .i64 (h.a : Int), .int .i64 (h.b : Int), ev, lv]
theorem hkL_len (h : HkD) (ev lv : Value) : (hkL h ev lv).length = 4 := rfl
def hkLs (hs : List HkD) (tv : List (Value × Value)) : List Value := (hs.zip tv).flatMap fun x => hkL x.1 x.2.1 x.2.2
theorem hkLs_len {hs : List HkD} {tv : List (Value × Value)} (h : tv.length = hs.length) : (hkLs hs tv).length = hs.length * 4 := by
  unfold hkLs
  rw [flatn_len (C := 4) (fun x => rfl), List.length_zip, h, Nat.min_self]
theorem hkLs_snoc {hs : List HkD} {tv : List (Value × Value)} (h : tv.length = hs.length) (x : HkD) (ev lv : Value) : hkLs (hs ++ [x]) (tv ++ [(ev, lv)]) = hkLs hs tv ++ hkL x ev lv := by
  unfold hkLs
  rw [List.zip_append h.symm]
  simp
theorem elemHunk : Elem Tryd.prog 25 38 4 64 := by
  refine ⟨Tryd.underlying25, ?_, by decide⟩
  obtain ⟨i, hi, h1, h2, h3⟩ := info_parts (show (Tryd.prog.info? 38).map (fun i => (i.zero, i.size, i.bytes)) = some (some (.agg #[.int .i64 0, .int .i64 0, .slice none 0 0, .slice none 0 0]), 4, 64) by kernel_rfl)
  exact ⟨i, _, hi, h1, h2, h3, rfl⟩
theorem elemStr : Elem Tryd.prog 22 9 1 16 := by
  refine ⟨Tryd.underlying22, ?_, by decide⟩
  obtain ⟨i, hi, h1, h2, h3⟩ := info_parts (show (Tryd.prog.info? 9).map (fun i => (i.zero, i.size, i.bytes)) = some (some (.string ByteArray.empty), 1, 16) by kernel_rfl)
  exact ⟨i, _, hi, h1, h2, h3, rfl⟩
theorem strL_one (l : List (List UInt8)) : ∀ v ∈ strL l, v.oneCell' = true := by
  intro v hv
  obtain ⟨s, _, rfl⟩ := List.mem_map.1 hv
  rfl
/-- An own row whose block lies below hi. -/
def OwnB (w : World) (lo hi : Nat) (e : TypeId) (size : Nat) (A : Option Addr) (n c : Nat) (xs : List Value) : Prop := Own w lo e size A n c xs ∧ ∀ k, (Value.slice A n c).ownBlock = some k → k < hi
section
variable {w w' : World} {lo hi bk : Nat} {e : TypeId} {size n c : Nat} {A : Option Addr} {xs : List Value}
theorem OwnB.of_own (h : Own w lo e size A n c xs) (hz : w.heap.size ≤ hi) : OwnB w lo hi e size A n c xs := ⟨h, fun k hk => Nat.lt_of_lt_of_le (h.blockAt k hk).2.1 hz⟩
theorem OwnB.more {hi' : Nat} (h : OwnB w lo hi e size A n c xs) (hh : hi ≤ hi') : OwnB w lo hi' e size A n c xs := ⟨h.1, fun k hk => Nat.lt_of_lt_of_le (h.2 k hk) hh⟩
theorem OwnB.kept {E : List TypeId} {G : List Nat} (h : OwnB w lo hi e size A n c xs) (hk : Kept bk E G w w') (hb : hi ≤ bk) (hG : ∀ g ∈ G, ∃ t cs, Blk w g t cs ∧ t ≠ e) : OwnB w' lo hi e size A n c xs := by
  refine ⟨⟨h.1.1, ?_⟩, h.2⟩
  rcases h.1.2 with hv | ⟨g, cap, cur, hv, hbg, hg, hr⟩
  · exact .inl hv
  · refine .inr ⟨g, cap, cur, hv, hbg, (hk.block g (Array.getElem?_eq_some_iff.1 hg).1 ?_).trans hg, hr⟩
    have hgh : g < hi := h.2 g (by rw [hv]; rfl)
    rintro (q | ⟨q, _⟩)
    · obtain ⟨t, cs', hb2, ht⟩ := hG g q
      unfold Blk at hb2
      rw [hb2] at hg
      injection hg with hg
      injection hg with _ hg
      exact ht hg
    · omega
theorem OwnB.setCell (h : OwnB w lo hi e size A n c xs) {p : Addr} {t : TypeId} {cs : Array Value} (hp : Blk w p.block t cs) (ht : t ≠ e) (u : Value) : OwnB (w.setCell p u) lo hi e size A n c xs := ⟨h.1.setCell hp ht u, h.2⟩
theorem Own.hid_blk {g : Nat} (h : Own w lo e size (some ⟨g, 0, none⟩) n c xs) : ∃ cs, Blk w g e cs := by
  obtain ⟨_, _, cs, h3⟩ := h.blockAt g rfl
  exact ⟨cs, h3⟩
end
def RowsB (w : World) (lo hi : Nat) (h : HkD) (ev lv : Value) : Prop := ∃ A c A' c', ev = .slice A h.eds.length c ∧ lv = .slice A' h.ls.length c' ∧ OwnB w lo hi 67 2 A h.eds.length c (edLs h.eds) ∧ OwnB w lo hi 9 1 A' h.ls.length c' (strL h.ls)
/-- Hunks ini, tv (their rows), and behind them h, whose rows may still grow. -/
structure HL (w : World) (base bk : Nat) (A : Option Addr) (c : Nat) (ini : List HkD) (tv : List (Value × Value)) (h : HkD) (EA : Option Addr) (ec : Nat) (LA : Option Addr) (lc : Nat) : Prop where
  own : Own w base 38 4 A (ini.length + 1) c (hkLs ini tv ++ hkL h (.slice EA h.eds.length ec) (.slice LA h.ls.length lc))
  len : tv.length = ini.length
  lo : base ≤ bk
  hi : bk ≤ w.heap.size
  rows : ∀ (k : Nat) x y z, ini[k]? = some x → tv[k]? = some (y, z) → RowsB w base bk x y z
  oe : Own w bk 67 2 EA h.eds.length ec (edLs h.eds)
  ol : Own w bk 9 1 LA h.ls.length lc (strL h.ls)
/-- Lines that may be put. -/
def Src (w : World) (base : Nat) (L : Option Addr) (n : Nat) (xs : List Value) : Prop := ∃ B, Reads w B 1 L n xs ∧ ∀ ad, L = some ad → ad.block < base ∨ ∃ cs, Blk w ad.block 9 cs
theorem Src.same {w w' : World} {base n : Nat} {L : Option Addr} {xs : List Value} (h : Src w base L n xs) (hk : ∀ g, (g < base ∨ ∃ cs, Blk w g 9 cs) → w'.heap[g]? = w.heap[g]?) : Src w' base L n xs := by
  obtain ⟨B, ⟨h1, h2⟩, h3⟩ := h
  refine ⟨B, ⟨h1, fun hn => ?_⟩, fun ad he => ?_⟩
  · obtain ⟨ad, e, hb, hc⟩ := h2 hn
    refine ⟨ad, e, hb, fun j u hu => ?_⟩
    rw [World.cell?_of_block (w := w) (by rw [block_of_add]; exact hk _ (h3 ad e))]
    exact hc j u hu
  · rcases h3 ad he with q | ⟨cs, q⟩
    · exact .inl q
    · exact .inr ⟨cs, (hk _ (.inr ⟨cs, q⟩)).trans q⟩
theorem Src.kept {w w' : World} {base bk n : Nat} {L : Option Addr} {xs : List Value} {E : List TypeId} (h : Src w base L n xs) (hk : Kept bk E [] w w') (hb : base ≤ bk) (hz : base ≤ w.heap.size) (hE : 9 ∉ E) : Src w' base L n xs :=
  h.same fun g hg => by
    rcases hg with q | ⟨cs, q⟩
    · exact hk.block g (by omega) (fun t => by
        rcases t with t | ⟨t, _⟩
        · simp at t
        · omega)
    · exact (hk.blk q (by simp) hE).trans q.symm
theorem Src.setCell {w : World} {base n : Nat} {L : Option Addr} {xs : List Value} (h : Src w base L n xs) {p : Addr} {cs : Array Value} (hp : Blk w p.block 38 cs) (hb : base ≤ p.block) (u : Value) : Src (w.setCell p u) base L n xs :=
  h.same fun g hg => by
    rcases hg with q | ⟨cs', q⟩
    · exact Below.heap_setCell w p u g (by omega)
    · exact Below.heap_setCell w p u g (fun e => by
        rw [← e] at hp
        exact absurd rfl (hp.ne_ q (by decide)))
theorem Src.reads {w : World} {base n : Nat} {L : Option Addr} {xs : List Value} (h : Src w base L n xs) : ∃ B, Reads w B 1 L n xs := by
  obtain ⟨B, h1, _⟩ := h
  exact ⟨B, h1⟩
theorem Src.of_reads {w : World} {base B n : Nat} {L : Option Addr} {xs : List Value} (h : Reads w B 1 L n xs) (hb : B ≤ base) (hL : n = 0 → L = none ∨ ∃ ad, L = some ad ∧ ad.block < base) : Src w base L n xs := by
  refine ⟨B, h, fun ad he => .inl ?_⟩
  rcases Nat.eq_zero_or_pos n with q | q
  · rcases hL q with e | ⟨ad', e, hl⟩
    · rw [e] at he; cases he
    · rw [e] at he
      injection he with he
      rw [← he]; exact hl
  · obtain ⟨ad', e, hl, _⟩ := h.2 q
    rw [e] at he
    injection he with he
    rw [← he]; omega
abbrev E3 : List TypeId := [67, 9, 38]
theorem hk_set2 (xs : List Value) (h : HkD) (ev lv u : Value) (k : Nat) (hx : xs.length = k * 4) : (xs ++ hkL h ev lv).set (k * 4 + 2) u = xs ++ hkL h u lv := by
  rw [List.set_append_right _ _ (by omega), hx, Nat.add_sub_cancel_left]
  rfl
theorem hk_set3 (xs : List Value) (h : HkD) (ev lv u : Value) (k : Nat) (hx : xs.length = k * 4) : (xs ++ hkL h ev lv).set (k * 4 + 3) u = xs ++ hkL h ev u := by
  rw [List.set_append_right _ _ (by omega), hx, Nat.add_sub_cancel_left]
  rfl
theorem hk_at (xs : List Value) (h : HkD) (ev lv : Value) (k j : Nat) (hx : xs.length = k * 4) : (xs ++ hkL h ev lv)[k * 4 + j]? = (hkL h ev lv)[j]? := by
  rw [List.getElem?_append_right (by omega), hx, Nat.add_sub_cancel_left]
theorem RowsB.kept {w w' : World} {lo hi bk : Nat} {h : HkD} {ev lv : Value} {E : List TypeId} (hr : RowsB w lo hi h ev lv) (hk : Kept bk E [] w w') (hb : hi ≤ bk) : RowsB w' lo hi h ev lv := by
  obtain ⟨A, c, A', c', e1, e2, o1, o2⟩ := hr
  exact ⟨A, c, A', c', e1, e2, o1.kept hk hb (by simp), o2.kept hk hb (by simp)⟩
theorem RowsB.setCell {w : World} {lo hi : Nat} {h : HkD} {ev lv : Value} (hr : RowsB w lo hi h ev lv) {p : Addr} {cs : Array Value} (hp : Blk w p.block 38 cs) (u : Value) : RowsB (w.setCell p u) lo hi h ev lv := by
  obtain ⟨A, c, A', c', e1, e2, o1, o2⟩ := hr
  exact ⟨A, c, A', c', e1, e2, o1.setCell hp (by decide) u, o2.setCell hp (by decide) u⟩
section
variable {w w1 : World} {base bk g c ec lc : Nat} {ini : List HkD} {tv : List (Value × Value)} {h : HkD} {EA LA : Option Addr}
theorem HL.adr {A : Option Addr} (hh : HL w base bk A c ini tv h EA ec LA lc) : ∃ g, A = some ⟨g, 0, none⟩ ∧ base ≤ g := hh.own.adrn (by omega)
theorem HL.at_ (hh : HL w base bk (some ⟨g, 0, none⟩) c ini tv h EA ec LA lc) (j : Nat) (hj : j < 4) (u : Value) (hu : (hkL h (.slice EA h.eds.length ec) (.slice LA h.ls.length lc))[j]? = some u) : w.cell? ⟨g, ini.length * 4 + j, none⟩ = some u ∧ w.frozen? ⟨g, ini.length * 4 + j, none⟩ = false :=
  ⟨(World.ownsRow.cellAt hh.own (ini.length * 4 + j) (by omega)).trans ((hk_at _ _ _ _ _ _ (hkLs_len hh.len)).trans hu), World.ownsRow.frozenAt hh.own (ini.length * 4 + j)⟩
theorem HL.kept (hh : HL w base bk (some ⟨g, 0, none⟩) c ini tv h EA ec LA lc) {E : List TypeId} (hk : Kept bk E [] w w1) (hE : 38 ∉ E) (oe : Own w1 bk 67 2 EA h.eds.length ec (edLs h.eds)) (ol : Own w1 bk 9 1 LA h.ls.length lc (strL h.ls)) : HL w1 base bk (some ⟨g, 0, none⟩) c ini tv h EA ec LA lc :=
  ⟨hh.own.kept hk hE (by simp), hh.len, hh.lo, Nat.le_trans hh.hi hk.size, fun k x y z h1 h2 => (hh.rows k x y z h1 h2).kept hk (Nat.le_refl _), oe, ol⟩
theorem HL.eds (hh : HL w base bk (some ⟨g, 0, none⟩) c ini tv h EA ec LA lc) (k1 : Kept bk [67] [] w w1) {A1 : Option Addr} {c1 : Nat} {e : EdD} (o1 : Own w1 bk 67 2 A1 (h.eds.length + 1) c1 (edLs (h.eds ++ [e]))) :
    w1.cell? ⟨g, ini.length * 4 + 2, none⟩ = some (.slice EA h.eds.length ec) ∧ w1.frozen? ⟨g, ini.length * 4 + 2, none⟩ = false ∧
    HL (w1.setCell ⟨g, ini.length * 4 + 2, none⟩ (.slice A1 (h.eds.length + 1) c1)) base bk (some ⟨g, 0, none⟩) c ini tv ⟨h.a, h.b, h.eds ++ [e], h.ls⟩ A1 c1 LA lc ∧ Kept base E3 [] w (w1.setCell ⟨g, ini.length * 4 + 2, none⟩ (.slice A1 (h.eds.length + 1) c1)) := by
  have hx := hkLs_len hh.len
  have own1 := hh.own.kept k1 (by decide) (by simp)
  obtain ⟨cs, hb⟩ := own1.hid_blk
  have ht := Own.turn own1 (ini.length * 4 + 2) (.slice A1 (h.eds.length + 1) c1) (hk_set2 _ _ _ _ _ _ hx)
  have ol1 := hh.ol.kept k1 (by decide) (by simp)
  refine ⟨(World.ownsRow.cellAt own1 (ini.length * 4 + 2) (by omega)).trans (hk_at _ _ _ _ _ _ hx), World.ownsRow.frozenAt own1 _, ⟨?_, hh.len, hh.lo, ?_, ?_, ?_, ?_⟩, ?_⟩
  · simpa [hkL] using ht.1
  · have := hh.hi; have := k1.size; simp [World.setCell]; omega
  · intro k x y z h1 h2
    exact ((hh.rows k x y z h1 h2).kept k1 (Nat.le_refl _)).setCell (p := ⟨g, ini.length * 4 + 2, none⟩) hb _
  · simpa using o1.setCell (p := ⟨g, ini.length * 4 + 2, none⟩) hb (by decide) _
  · exact ol1.setCell (p := ⟨g, ini.length * 4 + 2, none⟩) hb (by decide) _
  · exact (Kept.mono k1 hh.lo (by simp) (by simp)).trans (Kept.mono ht.2 (Nat.le_refl _) (by simp) (by simp))
theorem HL.lns (hh : HL w base bk (some ⟨g, 0, none⟩) c ini tv h EA ec LA lc) (k1 : Kept bk [9] [] w w1) {A1 : Option Addr} {c1 : Nat} {l : List (List UInt8)} (o1 : Own w1 bk 9 1 A1 (h.ls.length + l.length) c1 (strL h.ls ++ strL l)) :
    w1.cell? ⟨g, ini.length * 4 + 3, none⟩ = some (.slice LA h.ls.length lc) ∧ w1.frozen? ⟨g, ini.length * 4 + 3, none⟩ = false ∧
    HL (w1.setCell ⟨g, ini.length * 4 + 3, none⟩ (.slice A1 (h.ls.length + l.length) c1)) base bk (some ⟨g, 0, none⟩) c ini tv ⟨h.a, h.b, h.eds, h.ls ++ l⟩ EA ec A1 c1 ∧ Kept base E3 [] w (w1.setCell ⟨g, ini.length * 4 + 3, none⟩ (.slice A1 (h.ls.length + l.length) c1)) := by
  have hx := hkLs_len hh.len
  have own1 := hh.own.kept k1 (by decide) (by simp)
  obtain ⟨cs, hb⟩ := own1.hid_blk
  have ht := Own.turn own1 (ini.length * 4 + 3) (.slice A1 (h.ls.length + l.length) c1) (hk_set3 _ _ _ _ _ _ hx)
  have oe1 := hh.oe.kept k1 (by decide) (by simp)
  refine ⟨(World.ownsRow.cellAt own1 (ini.length * 4 + 3) (by omega)).trans (hk_at _ _ _ _ _ _ hx), World.ownsRow.frozenAt own1 _, ⟨?_, hh.len, hh.lo, ?_, ?_, ?_, ?_⟩, ?_⟩
  · simpa [hkL] using ht.1
  · have := hh.hi; have := k1.size; simp [World.setCell]; omega
  · intro k x y z h1 h2
    exact ((hh.rows k x y z h1 h2).kept k1 (Nat.le_refl _)).setCell (p := ⟨g, ini.length * 4 + 3, none⟩) hb _
  · exact oe1.setCell (p := ⟨g, ini.length * 4 + 3, none⟩) hb (by decide) _
  · simpa [strL] using o1.setCell (p := ⟨g, ini.length * 4 + 3, none⟩) hb (by decide) _
  · exact (Kept.mono k1 hh.lo (by simp) (by simp)).trans (Kept.mono ht.2 (Nat.le_refl _) (by simp) (by simp))
end
section
variable {P : Program}
/-- p is not the block of this row. -/
def NotB (A : Option Addr) (n c p : Nat) : Prop := (Value.slice A n c).ownBlock ≠ some p
theorem run_append_slf {w : World} {t e ty : TypeId} {size bytes : Nat} (H : Elem P t e size bytes) {base : Nat} {A : Option Addr} {n c : Nat} {xs : List Value} (hown : Own w base e size A n c xs)
    {B : Nat} {ad : Addr} {m d : Nat} {news : List Value} (hm : 0 < m) (hr : Reads w B size (some ad) m news) (h1 : ∀ u ∈ news, u.oneCell' = true)
    (h63 : n + m ≤ maxLen) (hbytes : (n + m) * bytes ≤ 140737488355328) (hbase : base ≤ w.heap.size) :
    ∃ A' c' w', (Builtin.append_ #[t, t] ty #[.slice A n c, .slice (some ad) m d]).run P w = .ok (.slice A' (n + m) c') w' ∧ Own w' base e size A' (n + m) c' (xs ++ news) ∧ Kept base [e] [] w w' ∧ ∀ p, p < w.heap.size → NotB A n c p → w'.heap[p]? = w.heap[p]? ∧ NotB A' (n + m) c' p := by
  obtain ⟨ht, ⟨i, z, hi, hz, hsize, hby, hzs⟩, hpos⟩ := H
  have hcells : ∀ j u, news[j]? = some u → w.cell? (ad.add j) = some u := by
    obtain ⟨ad', h, _, hc⟩ := hr.2 hm
    injection h with h
    subst h
    exact hc
  obtain ⟨v', w', hrun, h2, h3, _, h5⟩ := run_append_own_at (P := P) w base t ty e i z size bytes ht hi hz hsize hby hzs hpos _ n xs hown ad m d news hr.1 hcells h1 h63 hbytes hbase
  obtain ⟨A', c', rfl⟩ := slice_of_own h2
  refine ⟨A', c', w', hrun, h2, Kept.of_grown hown h3 (by simp), fun p hp hn => ⟨h3.block p hp (fun e => hn e.symm), ?_⟩⟩
  unfold NotB at hn ⊢
  rcases h5 with q | q
  · rw [q]; exact hn
  · rw [q]
    intro e
    injection e with e
    omega
theorem wpList_append_slf {ops : Array Oper} {rest : List Oper} {o : Oper} {a : Act} {w : World} {Q : Exit → Act → World → Prop} (hgd : o.guard = none) {s x : Operand} {t e : TypeId} {size bytes : Nat} (H : Elem P t e size bytes)
    (ho : o.op = .call { callee := .builtin .append, args := #[s, x], argTypes := #[t, t] }) {base : Nat} {A : Option Addr} {n c : Nat} {xs : List Value} (hs : a.eval s = .slice A n c) (hown : Own w base e size A n c xs)
    {B : Nat} {S : Addr} {m d : Nat} {news : List Value} (hm : 0 < m) (hx : a.eval x = .slice (some S) m d) (hr : Reads w B size (some S) m news) (h1 : ∀ u ∈ news, u.oneCell' = true)
    (h63 : n + m ≤ maxLen) (hbytes : (n + m) * bytes ≤ 140737488355328) (hbase : base ≤ w.heap.size)
    (h : ∀ A' c' w', Own w' base e size A' (n + m) c' (xs ++ news) → Kept base [e] [] w w' → (∀ p, p < w.heap.size → NotB A n c p → w'.heap[p]? = w.heap[p]? ∧ NotB A' (n + m) c' p) → wpList P ops Q rest (a.put o.dst (.slice A' (n + m) c')) w') : wpList P ops Q (o :: rest) a w := by
  obtain ⟨A', c', w', hrun, h2, h3, h4⟩ := run_append_slf (ty := o.type) (d := d) H hown hm hr h1 h63 hbytes hbase
  exact wpList_plain hgd fun _ hK => wp_append_run ho hs hx hrun (hK _ _ (h A' c' w' h2 h3 h4))
end
def PutPost (base bk : Nat) (A : Option Addr) (c : Nat) (ini : List HkD) (tv : List (Value × Value)) (h : HkD) (op : Nat) (l : List (List UInt8)) (p : Nat) (w : World) (r : Ending) (w' : World) : Prop := ∃ EA ec LA lc, r = .returned (.tuple #[]) ∧ HL w' base bk A c ini tv (putH h op l) EA ec LA lc ∧ Kept base E3 [] w w' ∧ NotB EA (putH h op l).eds.length ec p ∧ (∀ ps, Blk w p 67 ps → Blk w' p 67 ps)
set_option maxHeartbeats 2000000 in
set_option maxRecDepth 100000 in
theorem put_any (q base bk : Nat) (A : Option Addr) (c : Nat) (ini : List HkD) (tv : List (Value × Value)) (h : HkD) (EA : Option Addr) (ec : Nat) (LA : Option Addr) (lcc : Nat) (op : Nat) (l : List (List UInt8)) (L : Option Addr) (lc : Nat) (cs : Array Value) (w : World)
    (hq : Blk w q 65 cs) (h5 : cs[5]? = some (.slice A (ini.length + 1) c)) (hh : HL w base bk A c ini tv h EA ec LA lcc) (hs0 : l ≠ [] → Src w base L l.length (strL l)) (hn1 : h.eds.length ≤ 1000000) (hn2 : h.ls.length ≤ 1000000) (hn3 : l.length ≤ 1000000) (hn4 : ini.length ≤ 1000000) (p : Nat) (hp : p < w.heap.size) (hnp : NotB EA h.eds.length ec p) :
    Calls Tryd.prog 54 #[.pointer (some ⟨q, 0, none⟩), .int .i64 (op : Int), .slice L l.length lc] w (PutPost base bk A c ini tv h op l p w) := by
  have HP := Lib.hid (show PutPost base bk A c ini tv h op l p w = fun r w' => ∃ EA ec LA lc, r = .returned (.tuple #[]) ∧ HL w' base bk A c ini tv (putH h op l) EA ec LA lc ∧ Kept base E3 [] w w' ∧ NotB EA (putH h op l).eds.length ec p ∧ (∀ ps, Blk w p 67 ps → Blk w' p 67 ps) from rfl)
  rw [HP.out]
  clear HP
  by_cases hl : l = []
  · subst hl
    go_enter Tryd.func54, Tryd.ntmps54
    go_wp2_with fail
    refine bodyPost_ret (results_none rfl _ _ _) rfl ?_
    exact ⟨EA, ec, LA, lcc, rfl, by simpa [putH] using hh, Kept.refl _ _ _ _, by simpa [putH] using hnp, fun _ h => h⟩
  · have hs := hs0 hl
    clear hs0
    have HPH := Lib.hid (show putH h op l = ⟨h.a, h.b, h.eds ++ [⟨op, l.length⟩], h.ls ++ l⟩ from by unfold putH; rw [if_neg hl])
    have hlp : 0 < l.length := List.length_pos_iff.2 hl
    have hb0 : ((l.length : Int) == 0) = false := beq_eq_false_iff_ne.2 (by omega)
    obtain ⟨g, rfl, hg⟩ := hh.adr
    have z1 := hh.lo
    have z2 := hh.hi
    have c5 := (hq.cell 5).trans h5
    have c2 := (hh.at_ 2 (by omega) _ rfl).1
    have hw1 : IntKind.i64.wrap ((ini.length : Int) + 1 - 1) = (ini.length : Int) := by rw [IntWalk.i64_in _ (by omega)]; omega
    have hw2 : IntKind.i64.wrap (ini.length : Int) = (ini.length : Int) := IntWalk.i64_in _ (by omega)
    have hw3 : (ini.length : Int) < (ini.length : Int) + 1 := by omega
    have HO1 := Lib.hid (show ∀ W n, W = (w.drewN n).alloc (.cells #[.int .i64 (op : Int), .int .i64 (l.length : Int)] 67) → Own W bk 67 2 EA h.eds.length ec (edLs h.eds) ∧ bk ≤ W.heap.size from by
      rintro W n rfl
      exact ⟨(hh.oe.drewN n).alloc _, by simp [World.drewN]; omega⟩)
    have HE1 := Lib.hid (show ∀ W n A1 c1 w1, W = (w.drewN n).alloc (.cells #[.int .i64 (op : Int), .int .i64 (l.length : Int)] 67) → Own w1 bk 67 2 A1 (h.eds.length + 1) c1 (edLs h.eds ++ edL ⟨op, l.length⟩) → Kept bk [67] [] W w1 → (∀ p, p < W.heap.size → NotB EA h.eds.length ec p → w1.heap[p]? = W.heap[p]? ∧ NotB A1 (h.eds.length + 1) c1 p) →
        w1.cell? ⟨g, ini.length * 4 + 2, none⟩ = some (.slice EA h.eds.length ec) ∧ w1.frozen? ⟨g, ini.length * 4 + 2, none⟩ = false ∧ (w1.setCell ⟨g, ini.length * 4 + 2, none⟩ (.slice A1 (h.eds.length + 1) c1)).cell? ⟨g, ini.length * 4 + 3, none⟩ = some (.slice LA h.ls.length lcc) ∧
        Hid (HL (w1.setCell ⟨g, ini.length * 4 + 2, none⟩ (.slice A1 (h.eds.length + 1) c1)) base bk (some ⟨g, 0, none⟩) c ini tv ⟨h.a, h.b, h.eds ++ [⟨op, l.length⟩], h.ls⟩ A1 c1 LA lcc) ∧ Hid (Kept base E3 [] w (w1.setCell ⟨g, ini.length * 4 + 2, none⟩ (.slice A1 (h.eds.length + 1) c1))) ∧ Hid (Src (w1.setCell ⟨g, ini.length * 4 + 2, none⟩ (.slice A1 (h.eds.length + 1) c1)) base L l.length (strL l)) ∧ Hid (NotB A1 (h.eds.length + 1) c1 p ∧ ∀ ps, Blk w p 67 ps → Blk (w1.setCell ⟨g, ini.length * 4 + 2, none⟩ (.slice A1 (h.eds.length + 1) c1)) p 67 ps) from by
      rintro W n A1 c1 w1 rfl o1 k1 n1
      have k0 : Kept bk [67] [] w w1 := (((Kept.refl _ _ _ _).drewN n).alloc _).trans k1
      rw [show edLs h.eds ++ edL ⟨op, l.length⟩ = edLs (h.eds ++ [⟨op, l.length⟩]) from (edLs_snoc _ _).symm] at o1
      obtain ⟨d1, d2, d3, d4⟩ := hh.eds k0 o1
      obtain ⟨cs1, hb1⟩ := (hh.own.kept k0 (by decide) (by simp)).hid_blk
      refine ⟨d1, d2, (d3.at_ 3 (by omega) _ rfl).1, Lib.hid d3, Lib.hid d4, Lib.hid ((hs.kept k0 z1 (by omega) (by decide)).setCell (p := ⟨g, ini.length * 4 + 2, none⟩) hb1 hg _), Lib.hid ?_⟩
      obtain ⟨m1, m2⟩ := n1 p (by simp [World.drewN]; omega) hnp
      refine ⟨m2, fun ps hps => ?_⟩
      have hps1 : Blk w1 p 67 ps := m1.trans ((hps.drewN n).alloc _)
      exact hps1.far (p := ⟨g, ini.length * 4 + 2, none⟩) (hps1.ne_ hb1 (by decide)) _)
    clear hh hs hq h5 hl
    go_enter Tryd.func54, Tryd.ntmps54
    go_wp2_with fail
    go_quiet (fail)
    go_wp2_with (first | (at_builtin; refine wpList_append_slf rfl elemEdit rfl rfl (n := h.eds.length) (xs := edLs h.eds) (HO1.out _ nq rfl).1 (by omega) rfl (Reads.of_blk (n := 1) (xs := edL ⟨op, l.length⟩) (heap_alloc_new _ _) rfl rfl) (edL_one ⟨op, l.length⟩) (by unfold maxLen; omega) (by omega) (HO1.out _ nq rfl).2 ?_; intro A1 c1 w1 o1 k1 n1; obtain ⟨d1, d2, d3, HL2, HK2, HS2, HN2⟩ := HE1.out _ nq A1 c1 w1 rfl o1 k1 n1; clear o1 k1 n1) | (at_builtin; obtain ⟨B2, hr2⟩ := HS2.out.reads; refine wpList_append_sl rfl elemStr rfl rfl (n := h.ls.length) (xs := strL h.ls) HL2.out.ol rfl hr2 (strL_one l) (by unfold maxLen; omega) (by omega) HL2.out.hi ?_; intro A2 c22 w3 o3 k3; obtain ⟨f1, f2, HL3, HK3⟩ := HL2.out.lns k3 o3; have HL3 := Lib.hid HL3; have HK3 := Lib.hid HK3; have HQ3 := Lib.hid (show ∀ ps, Blk w p 67 ps → Blk (w3.setCell ⟨g, ini.length * 4 + 3, none⟩ (.slice A2 (h.ls.length + l.length) c22)) p 67 ps from fun ps hps => by
          have q1 := k3.blk (HN2.out.2 ps hps) (by simp) (by decide)
          obtain ⟨cs1, hb1⟩ := (HL2.out.own.kept k3 (by decide) (by simp)).hid_blk
          exact q1.far (p := ⟨g, ini.length * 4 + 3, none⟩) (q1.ne_ hb1 (by decide)) _)))
    refine bodyPost_end (results_none rfl _ _ _) rfl ?_
    rw [HPH.out]
    exact ⟨rfl, A1, c1, ⟨A2, c22, HL3.out⟩, HK2.out.trans HK3.out, by simpa using HN2.out.1, HQ3.out⟩
end Go.Proofs.YtlcidbbpjlpmjaaDoor
