/-
  Contract of the reference's Hunks. No statement of the seat is proved here.
-/
import Derived.Test.YtlcidbbpjlpmjaaDoorQl
import Derived.Test.YtlcidbbpjlpmjaaDoorQr
namespace Go.Proofs.YtlcidbbpjlpmjaaDoor
open Go.RowKit

theorem step_append_slf {P : Program} {ops : Array Oper} {o : Oper} {a : Act} {w : World} {K : Act → World → Prop} {Q : Exit → Act → World → Prop} {E : Prop} (hgd : o.guard = none) {s x : Operand} {t e : TypeId} {size bytes : Nat} (H : Elem P t e size bytes)
    (ho : o.op = .call { callee := .builtin .append, args := #[s, x], argTypes := #[t, t] }) {base : Nat} {A : Option Addr} {n c : Nat} {xs : List Value} (hs : a.eval s = .slice A n c) (hown : Own w base e size A n c xs)
    {B : Nat} {S : Addr} {m d : Nat} {news : List Value} (hm : 0 < m) (hx : a.eval x = .slice (some S) m d) (hr : Reads w B size (some S) m news) (h1 : ∀ u ∈ news, u.oneCell' = true)
    (h63 : n + m ≤ maxLen) (hbytes : (n + m) * bytes ≤ 140737488355328) (hbase : base ≤ w.heap.size)
    (h : ∀ A' c' w', Own w' base e size A' (n + m) c' (xs ++ news) → Kept base [e] [] w w' → (∀ p, p < w.heap.size → NotB A n c p → w'.heap[p]? = w.heap[p]? ∧ NotB A' (n + m) c' p) → K (a.put o.dst (.slice A' (n + m) c')) w') : if Region.wanted o (yielded ops a.tmps) = true then Oper.wp P o a w K Q else E := by
  have hw : Region.wanted o (yielded ops a.tmps) = true := by simp [Region.wanted, hgd]
  rw [if_pos hw]
  obtain ⟨A', c', w', hrun, h2, h3, h4⟩ := run_append_slf (ty := o.type) (d := d) H hown hm hr h1 h63 hbytes hbase
  exact wp_append_run ho hs hx hrun (h A' c' w' h2 h3 h4)
theorem HL.keepN {w w' : World} {base bk c ec lc : Nat} {A EA LA : Option Addr} {ini : List HkD} {tv : List (Value × Value)} {h : HkD} (hl : HL w base bk A c ini tv h EA ec LA lc) (hk : Keep Nothing w w') : HL w' base bk A c ini tv h EA ec LA lc := by
  have hk' : Kept 0 [] [] w w' := Kept.ofKeep hk (fun _ _ h => absurd h (fun h => h))
  exact ⟨hl.own.kept hk' (by simp) (by simp), hl.len, hl.lo, Nat.le_trans hl.hi hk.size, fun k x y z e1 e2 => (hl.rows k x y z e1 e2).keptT hk' (by simp) (by simp), hl.oe.kept hk' (by simp) (by simp), hl.ol.kept hk' (by simp) (by simp)⟩
/-- What an append to the last hunk's edits leaves, its store behind it. -/
theorem HL.edsStep {w0 w w1 : World} {base bk g c ec lc p : Nat} {EA LA : Option Addr} {ini : List HkD} {tv : List (Value × Value)} {h : HkD} {e x : EdD} (hl : HL w base bk (some ⟨g, 0, none⟩) c ini tv h EA ec LA lc) (hn : NotB EA h.eds.length ec p) (hp : Blk w p 67 (edC x)) (hk0 : Kept base E3 [] w0 w) {A1 : Option Addr} {c1 : Nat}
    (o1 : Own w1 bk 67 2 A1 (h.eds.length + 1) c1 (edLs h.eds ++ edL e)) (k1 : Kept bk [67] [] w w1) (n1 : ∀ p, p < w.heap.size → NotB EA h.eds.length ec p → w1.heap[p]? = w.heap[p]? ∧ NotB A1 (h.eds.length + 1) c1 p) :
    w1.cell? ⟨g, ini.length * 4 + 2, none⟩ = some (.slice EA h.eds.length ec) ∧ w1.frozen? ⟨g, ini.length * 4 + 2, none⟩ = false ∧
    Hid (HL (w1.setCell ⟨g, ini.length * 4 + 2, none⟩ (.slice A1 (h.eds.length + 1) c1)) base bk (some ⟨g, 0, none⟩) c ini tv ⟨h.a, h.b, h.eds ++ [e], h.ls⟩ A1 c1 LA lc ∧ NotB A1 (h.eds.length + 1) c1 p ∧ Blk (w1.setCell ⟨g, ini.length * 4 + 2, none⟩ (.slice A1 (h.eds.length + 1) c1)) p 67 (edC x) ∧ Kept base E3 [] w0 (w1.setCell ⟨g, ini.length * 4 + 2, none⟩ (.slice A1 (h.eds.length + 1) c1))) := by
  rw [← edLs_snoc] at o1
  obtain ⟨d1, d2, d3, d4⟩ := hl.eds k1 o1
  obtain ⟨cs1, hb1⟩ := (hl.own.kept k1 (by decide) (by simp)).hid_blk
  obtain ⟨m1, m2⟩ := n1 p hp.lt hn
  have hps1 : Blk w1 p 67 (edC x) := m1.trans hp
  exact ⟨d1, d2, Lib.hid ⟨d3, m2, hps1.far (p := ⟨g, ini.length * 4 + 2, none⟩) (hps1.ne_ hb1 (by decide)) _, hk0.trans d4⟩⟩
/-- .. to its lines. -/
theorem HL.lnsStep {w0 w w1 : World} {base bk g c ec lc p : Nat} {EA LA : Option Addr} {ini : List HkD} {tv : List (Value × Value)} {h : HkD} {x : EdD} {l : List (List UInt8)} (hl : HL w base bk (some ⟨g, 0, none⟩) c ini tv h EA ec LA lc) (hp : Blk w p 67 (edC x)) (hk0 : Kept base E3 [] w0 w) {A1 : Option Addr} {c1 : Nat}
    (o1 : Own w1 bk 9 1 A1 (h.ls.length + l.length) c1 (strL h.ls ++ strL l)) (k1 : Kept bk [9] [] w w1) :
    w1.cell? ⟨g, ini.length * 4 + 3, none⟩ = some (.slice LA h.ls.length lc) ∧ w1.frozen? ⟨g, ini.length * 4 + 3, none⟩ = false ∧
    Hid (HL (w1.setCell ⟨g, ini.length * 4 + 3, none⟩ (.slice A1 (h.ls.length + l.length) c1)) base bk (some ⟨g, 0, none⟩) c ini tv ⟨h.a, h.b, h.eds, h.ls ++ l⟩ EA ec A1 c1 ∧ Blk (w1.setCell ⟨g, ini.length * 4 + 3, none⟩ (.slice A1 (h.ls.length + l.length) c1)) p 67 (edC x) ∧ Kept base E3 [] w0 (w1.setCell ⟨g, ini.length * 4 + 3, none⟩ (.slice A1 (h.ls.length + l.length) c1))) := by
  obtain ⟨d1, d2, d3, d4⟩ := hl.lns k1 o1
  obtain ⟨cs1, hb1⟩ := (hl.own.kept k1 (by decide) (by simp)).hid_blk
  have hps1 := k1.blk hp (by simp) (by decide)
  exact ⟨d1, d2, Lib.hid ⟨d3, hps1.far (p := ⟨g, ini.length * 4 + 3, none⟩) (hps1.ne_ hb1 (by decide)) _, hk0.trans d4⟩⟩
theorem HL.lnsStep' {w0 w w1 : World} {base bk g c ec lc p m : Nat} {EA LA : Option Addr} {ini : List HkD} {tv : List (Value × Value)} {h : HkD} {x : EdD} {l : List (List UInt8)} (hm : l.length = m) (hl : HL w base bk (some ⟨g, 0, none⟩) c ini tv h EA ec LA lc) (hp : Blk w p 67 (edC x)) (hk0 : Kept base E3 [] w0 w) {A1 : Option Addr} {c1 : Nat}
    (o1 : Own w1 bk 9 1 A1 (h.ls.length + m) c1 (strL h.ls ++ strL l)) (k1 : Kept bk [9] [] w w1) :
    w1.cell? ⟨g, ini.length * 4 + 3, none⟩ = some (.slice LA h.ls.length lc) ∧ w1.frozen? ⟨g, ini.length * 4 + 3, none⟩ = false ∧
    Hid (HL (w1.setCell ⟨g, ini.length * 4 + 3, none⟩ (.slice A1 (h.ls.length + m) c1)) base bk (some ⟨g, 0, none⟩) c ini tv ⟨h.a, h.b, h.eds, h.ls ++ l⟩ EA ec A1 c1 ∧ Blk (w1.setCell ⟨g, ini.length * 4 + 3, none⟩ (.slice A1 (h.ls.length + m) c1)) p 67 (edC x) ∧ Kept base E3 [] w0 (w1.setCell ⟨g, ini.length * 4 + 3, none⟩ (.slice A1 (h.ls.length + m) c1))) := by
  subst hm
  exact hl.lnsStep hp hk0 o1 k1
theorem refP_del {a b : List (List UInt8)} {ar i j : Nat} {out ini : List HkD} {opn : Bool} {h : HkD} {e : EdD} {l : List (List UInt8)} (hop : e.op = 1) (ho : (if opn = true then out else out ++ [newH i j]) = ini ++ [h]) (hl : (a.drop i).take e.n = l) (hln : l.length = e.n) (hn : 1 ≤ e.n) (more : Bool) :
    refP a b ar ⟨i, j, out, opn⟩ e more = ⟨i + e.n, j, ini ++ [⟨h.a, h.b, h.eds ++ [e], h.ls ++ l⟩], true⟩ := by
  obtain ⟨eo, en⟩ := e
  simp only at hop hl hln hn
  subst hop
  have hne : l ≠ [] := fun q => by rw [q] at hln; simp at hln; omega
  unfold newH at ho
  simp [refP, ho, hl, putL_snoc, putH, hne, hln]
theorem refP_ins {a b : List (List UInt8)} {ar i j : Nat} {out ini : List HkD} {opn : Bool} {h : HkD} {e : EdD} {l : List (List UInt8)} (hop : e.op = 2) (ho : (if opn = true then out else out ++ [newH i j]) = ini ++ [h]) (hl : (b.drop j).take e.n = l) (hln : l.length = e.n) (hn : 1 ≤ e.n) (more : Bool) :
    refP a b ar ⟨i, j, out, opn⟩ e more = ⟨i, j + e.n, ini ++ [⟨h.a, h.b, h.eds ++ [e], h.ls ++ l⟩], true⟩ := by
  obtain ⟨eo, en⟩ := e
  simp only at hop hl hln hn
  subst hop
  have hne : l ≠ [] := fun q => by rw [q] at hln; simp at hln; omega
  unfold newH at ho
  simp [refP, ho, hl, putL_snoc, putH, hne, hln]
theorem refP_k1 {a b : List (List UInt8)} {ar i j : Nat} {out ini : List HkD} {h : HkD} {uns : EdD} {l : List (List UInt8)} (hop : uns.op = 0) (ho : out = ini ++ [h]) (hl : (a.drop i).take uns.n = l) (hln : l.length = uns.n) (hn : 1 ≤ uns.n) (h2 : uns.n ≤ 2 * ar) :
    refP a b ar ⟨i, j, out, true⟩ uns true = ⟨i + uns.n, j + uns.n, ini ++ [⟨h.a, h.b, h.eds ++ [uns], h.ls ++ l⟩], true⟩ := by
  obtain ⟨eo, en⟩ := uns
  simp only at hop hl hln hn h2
  subst hop
  have hne : l ≠ [] := fun q => by rw [q] at hln; simp at hln; omega
  simp [refP, h2, ho, hl, putL_snoc, putH, hne, hln]
theorem info_hunk : (Tryd.prog.info? 38).map (·.size) = some 4 := by kernel_rfl
theorem putL_nil (l : List HkD) (op : Nat) : putL l op [] = l := by
  rcases List.eq_nil_or_concat l with rfl | ⟨r, y, rfl⟩
  · rfl
  · rw [List.concat_eq_append, putL_snoc]
    simp [putH]
theorem refP_k2 {a b : List (List UInt8)} {ar i j mm : Nat} {out : List HkD} {opn more : Bool} {e : EdD} (hop : e.op = 0) (hn : ¬ (opn = true ∧ more = true ∧ e.n ≤ 2 * ar)) (hm : min ar e.n = mm) :
    refP a b ar ⟨i, j, out, opn⟩ e more = ⟨i + e.n, j + e.n, (if opn = true then putL out 0 ((a.drop i).take mm) else out) ++ (if more = true then [putH (newH (i + e.n - mm) (j + e.n - mm)) 0 ((a.drop (i + e.n - mm)).take mm)] else []), more⟩ := by
  obtain ⟨eo, en⟩ := e
  simp only at hop hn hm
  subst hop
  unfold refP newH
  simp only [if_true]
  rw [if_neg hn, hm]
theorem HR.keepN {w w' : World} {base p : Nat} {A : Option Addr} {cp : Nat} {hs : List HkD} (h : HR w base A cp hs p) (hk : Keep Nothing w w') : HR w' base A cp hs p := by
  have hk' : Kept 0 [] [] w w' := Kept.ofKeep hk (fun _ _ h => absurd h (fun h => h))
  rcases h with q1 | ⟨ini, tv, h, EA, ec, LA, lc, bk, h1, hl, h2⟩
  · exact .inl q1
  · exact .inr ⟨ini, tv, h, EA, ec, LA, lc, bk, h1, ⟨hl.own.kept hk' (by simp) (by simp), hl.len, hl.lo, Nat.le_trans hl.hi hk.size, fun k x y z e1 e2 => (hl.rows k x y z e1 e2).keptT hk' (by simp) (by simp), hl.oe.kept hk' (by simp) (by simp), hl.ol.kept hk' (by simp) (by simp)⟩, h2⟩
theorem HR.fresh {w : World} {base p q : Nat} {A : Option Addr} {cp : Nat} {hs : List HkD} (h : HR w base A cp hs p) (hq : w.heap.size ≤ q) : HR w base A cp hs q := by
  rcases h with q1 | ⟨ini, tv, h, EA, ec, LA, lc, bk, h1, hl, _⟩
  · exact .inl q1
  · refine .inr ⟨ini, tv, h, EA, ec, LA, lc, bk, h1, hl, fun e => ?_⟩
    have := (hl.oe.blockAt _ e).2.1
    omega
theorem HR.pushNew {w w2 : World} {base p : Nat} {A : Option Addr} {cp i j : Nat} {hs : List HkD} {tv : List (Value × Value)} (hb : base ≤ w.heap.size) (hl : tv.length = hs.length) (hr : ∀ (k : Nat) x y z, hs[k]? = some x → tv[k]? = some (y, z) → RowsB w base w.heap.size x y z) (hk : Kept base [38] [] w w2) (ho : Own w2 base 38 4 A (hs.length + 1) cp (hkLs hs tv ++ hkL (newH i j) (.slice none 0 0) (.slice none 0 0))) : HR w2 base A cp (hs ++ [newH i j]) p :=
  .inr ⟨hs, tv, newH i j, none, 0, none, 0, w.heap.size, rfl, ⟨ho, hl, hb, hk.size, fun k x y z h1 h2 => (hr k x y z h1 h2).keptT hk (by decide) (by decide), Own.nil _ _ _ _, Own.nil _ _ _ _⟩, by simp [NotB, Value.ownBlock]⟩
/-- A whole hunk put behind a row. -/
theorem HR.pushH {w w2 : World} {base bk p : Nat} {A EA LA : Option Addr} {cp ec lc : Nat} {hs : List HkD} {tv : List (Value × Value)} {h : HkD} (hb : base ≤ bk) (hbk : bk ≤ w.heap.size) (hl : tv.length = hs.length) (hr : ∀ (k : Nat) x y z, hs[k]? = some x → tv[k]? = some (y, z) → RowsB w base bk x y z) (oe : Own w bk 67 2 EA h.eds.length ec (edLs h.eds)) (ol : Own w bk 9 1 LA h.ls.length lc (strL h.ls)) (hp : p < bk) (hk : Kept base [38] [] w w2)
    (ho : Own w2 base 38 4 A (hs.length + 1) cp (hkLs hs tv ++ hkL h (.slice EA h.eds.length ec) (.slice LA h.ls.length lc))) : HR w2 base A cp (hs ++ [h]) p :=
  .inr ⟨hs, tv, h, EA, ec, LA, lc, bk, rfl, ⟨ho, hl, hb, Nat.le_trans hbk hk.size, fun k x y z h1 h2 => (hr k x y z h1 h2).keptT hk (by decide) (by decide), oe.kept hk (by decide) (by simp), ol.kept hk (by decide) (by simp)⟩, fun e => by
    have := (oe.blockAt _ e).1
    omega⟩
theorem Keep.thenNew {a b c : World} {bk : Nat} {E : List TypeId} (h : Keep Nothing a b) (k : Kept bk E [] b c) (hb : a.heap.size ≤ bk) : Keep Nothing a c :=
  h.then_ k fun i hi q => by
    rcases q with q | ⟨q, _⟩
    · simp at q
    · omega
/-- What stays so while a script is taken to hunks as the reference does it. -/
structure RInv (a b : List (List UInt8)) (c : RefD) (k : Nat) (rest : List EdD) : Prop where
  ai : c.i + fromA rest = a.length
  bj : c.j + fromB rest = b.length
  op : c.opn = true → c.out ≠ []
  ol : c.out.length ≤ k
  bd : ∀ h ∈ c.out, h.eds.length ≤ 2 * k ∧ h.ls.length ≤ c.i + c.j + 10 * k
  al : ∀ e ∈ rest, 1 ≤ e.n ∧ e.op ≤ 2
theorem RInv.start (a b : List (List UInt8)) : RInv a b ⟨0, 0, [], false⟩ 0 (diffP a b) :=
  ⟨by simpa using (diffP_of a b).2.1, by simpa using (diffP_of a b).2.2.1, fun q => by simp at q, Nat.zero_le _, by simp, altern_all _ (diffP_of a b).1⟩
theorem RInv.next {a b : List (List UInt8)} {c : RefD} {k ar : Nat} {e : EdD} {rest : List EdD} (h : RInv a b c k (e :: rest)) (har : ar ≤ 10) (more : Bool) : RInv a b (refP a b ar c e more) (k + 1) rest := by
  obtain ⟨ai, bj, op, ol, bd, al⟩ := h
  have hn := al e (by simp)
  have al' : ∀ e ∈ rest, 1 ≤ e.n ∧ e.op ≤ 2 := fun x hx => al x (by simp [hx])
  simp only [fromA, fromB, List.map_cons, List.sum_cons] at ai bj
  unfold refP
  by_cases h0 : e.op = 0
  · rw [h0] at ai bj
    simp at ai bj
    simp only [h0, if_true]
    split
    · rename_i q
      refine ⟨by simp [fromA]; omega, by simp [fromB]; omega, fun _ => putL_ne _ _ _ (op q.1), by simp [putL_len]; omega, fun x hx => ?_, al'⟩
      have := putL_bd _ _ _ _ _ bd x hx
      simp at this ⊢
      omega
    · refine ⟨by simp [fromA]; omega, by simp [fromB]; omega, ?_, ?_, fun x hx => ?_, al'⟩
      · intro hm
        simp only at hm
        simp [hm]
      · simp only [List.length_append]
        have e1 : (if c.opn = true then putL c.out 0 ((a.drop c.i).take (min ar e.n)) else c.out).length = c.out.length := by split <;> simp [putL_len]
        rw [e1]
        split <;> simp <;> omega
      · simp only [List.mem_append] at hx
        rcases hx with hx | hx
        · split at hx
          · have := putL_bd _ _ _ _ _ bd x hx
            simp at this ⊢
            omega
          · have := bd x hx
            simp at this ⊢
            omega
        · split at hx
          · have hx := List.mem_singleton.1 hx
            subst hx
            have := putH_bd ⟨c.i + e.n - min ar e.n, c.j + e.n - min ar e.n, [], []⟩ 0 ((a.drop (c.i + e.n - min ar e.n)).take (min ar e.n))
            simp at this ⊢
            omega
          · simp at hx
  · have hb2 : ∀ h ∈ (if c.opn = true then c.out else c.out ++ [⟨c.i, c.j, [], []⟩]), h.eds.length ≤ 2 * k ∧ h.ls.length ≤ c.i + c.j + 10 * k := by
      intro h hh
      split at hh
      · exact bd h hh
      · rcases List.mem_append.1 hh with hh | hh
        · exact bd h hh
        · have := List.mem_singleton.1 hh
          subst this
          simp
    have hbl : (if c.opn = true then c.out else c.out ++ [⟨c.i, c.j, [], []⟩]).length ≤ c.out.length + 1 := by split <;> simp
    have hbn : (if c.opn = true then c.out else c.out ++ [⟨c.i, c.j, [], []⟩]) ≠ [] := by
      split
      · exact op (by assumption)
      · simp
    by_cases h1 : e.op = 1
    · rw [h1] at ai bj
      simp at ai bj
      simp only [h1]
      refine ⟨by simp [fromA]; omega, by simp [fromB]; omega, fun _ => by simpa using putL_ne _ _ _ hbn, by simp [putL_len]; omega, fun x hx => ?_, al'⟩
      have := putL_bd _ _ _ _ _ hb2 x (by simpa using hx)
      simp at this ⊢
      omega
    · have h2 : e.op = 2 := by omega
      rw [h2] at ai bj
      simp at ai bj
      simp only [h2]
      refine ⟨by simp [fromA]; omega, by simp [fromB]; omega, fun _ => by simpa using putL_ne _ _ _ hbn, by simp [putL_len]; omega, fun x hx => ?_, al'⟩
      have := putL_bd _ _ _ _ _ hb2 x (by simpa using hx)
      simp at this ⊢
      omega
end Go.Proofs.YtlcidbbpjlpmjaaDoor
