/-
  A row of hunks out of the arguments; how long a hunk's text, and a hunk that was turned about, may be. No statement of the seat is proved here.
-/
import Derived.Test.YtlcidbbpjlpmjaaDoorRj
import Derived.Lib.ItoaLen
namespace Go.Proofs.YtlcidbbpjlpmjaaDoor
open Go.RowKit

theorem revStep_len (s : RevD) (e : EdD) (x : List (List UInt8)) : (revStep s e x).h.eds.length ≤ s.h.eds.length + 3 ∧ (revStep s e x).h.ls.length + (revStep s e x).gone.length + (revStep s e x).come.length = s.h.ls.length + s.gone.length + s.come.length + x.length := by
  unfold revStep
  obtain ⟨f1, f2⟩ := flushR_len s
  obtain ⟨p1, p2⟩ := putH_len (flushR s) 0 x
  split
  · simp only [List.length_nil]; omega
  · split
    · simp only [List.length_append]; omega
    · simp only [List.length_append]; omega
theorem revL_len : ∀ (l : List EdD) (row : List (List UInt8)) (s : RevD), (revL l row s).h.eds.length ≤ s.h.eds.length + 3 * l.length ∧ (revL l row s).h.ls.length + (revL l row s).gone.length + (revL l row s).come.length ≤ s.h.ls.length + s.gone.length + s.come.length + row.length
  | [], row, s => by simp [revL]
  | e :: l, row, s => by
    rw [revL]
    obtain ⟨a1, a2⟩ := revL_len l (row.drop e.n) (revStep s e (row.take e.n))
    obtain ⟨b1, b2⟩ := revStep_len s e (row.take e.n)
    simp only [List.length_take, List.length_drop, List.length_cons] at *
    omega
theorem back_len (h : HkD) : (backP h).eds.length ≤ 3 * h.eds.length + 2 ∧ (backP h).ls.length ≤ h.ls.length := by
  obtain ⟨a1, a2⟩ := revL_len h.eds h.ls ⟨newH h.b h.a, [], []⟩
  unfold backP
  obtain ⟨f1, f2⟩ := flushR_len (revL h.eds h.ls ⟨newH h.b h.a, [], []⟩)
  have n1 : (newH h.b h.a).eds.length = 0 := rfl
  have n2 : (newH h.b h.a).ls.length = 0 := rfl
  simp only [List.length_nil] at a1 a2
  omega
theorem linesT_len {op : Int} {N : Nat} : ∀ {l : List (List UInt8)}, (∀ s ∈ l, s.length ≤ N) → (linesT op l).length ≤ l.length * (N + 4)
  | [], _ => by simp [linesT]
  | s :: l, h => by
    have h1 := linesT_len (op := op) (l := l) fun t ht => h t (List.mem_cons_of_mem _ ht)
    have h2 := h s List.mem_cons_self
    have h3 : (tailT s).length ≤ 3 := by unfold tailT; split <;> simp [lacks]
    unfold linesT at h1 ⊢
    rw [List.flatMap_cons, List.length_append, List.length_cons, Nat.succ_mul]
    simp only [lineT, List.length_cons, List.length_append]
    omega
theorem bodyT_len {N : Nat} : ∀ {eds : List EdI} {ls : List (List UInt8)}, (∀ s ∈ ls, s.length ≤ N) → (bodyT eds ls).length ≤ ls.length * (N + 4)
  | [], ls, _ => by simp [bodyT]
  | e :: eds, ls, h => by
    rw [bodyT, List.length_append]
    have h1 := linesT_len (op := e.op) (l := ls.take e.n.toNat) fun s hs => h s (List.mem_of_mem_take hs)
    have h2 := bodyT_len (eds := eds) (ls := ls.drop e.n.toNat) fun s hs => h s (List.mem_of_mem_drop hs)
    have h3 : (ls.take e.n.toNat).length + (ls.drop e.n.toNat).length = ls.length := by
      rw [← List.length_append, List.take_append_drop]
    have h4 : (ls.take e.n.toNat).length * (N + 4) + (ls.drop e.n.toNat).length * (N + 4) = ls.length * (N + 4) := by
      rw [← Nat.add_mul, h3]
    omega
theorem hkT_len {N : Nat} {h : HkI} (h2 : h.ls.length ≤ N) (h3 : ∀ s ∈ h.ls, s.length ≤ N) (hN : N ≤ 1048576) : (hkT h).length ≤ 200 + h.ls.length * (N + 4) := by
  unfold hkT
  cases hm : mayP h with
  | none => simp
  | some c =>
    simp only
    obtain ⟨hE, hall, _, hpl, hlin⟩ := mayP_eds hm
    obtain ⟨p1, p2, p3, p4⟩ := places_le hpl
    have hb := bodyT_len (eds := h.eds) h3
    have hs : c.k + c.d ≤ 1048576 ∧ c.k + c.n ≤ 1048576 := by unfold Cnt.all at hall; omega
    have i1 := Lib.itoa_length_le h.a (by omega) (by omega)
    have i2 := Lib.itoa_length_le h.b (by omega) (by omega)
    have i3 := Lib.itoa_length_le ((c.k + c.d : Nat) : Int) (by omega) (by omega)
    have i4 := Lib.itoa_length_le ((c.k + c.n : Nat) : Int) (by omega) (by omega)
    unfold headT
    simp only [List.length_append, List.length_cons, List.length_nil]
    omega
/-- A row of the call's own, of hunks whose rows stand below B. -/
def HM (w : World) (z B : Nat) (A : Option Addr) (cp : Nat) (hs : List HkI) : Prop := ∃ tv : List (Value × Value), tv.length = hs.length ∧ Own w z 38 4 A hs.length cp (hkIs hs tv) ∧ ∀ (k : Nat) x y u, hs[k]? = some x → tv[k]? = some (y, u) → RowsI w B x y u
theorem HM.nil (w : World) (z B : Nat) : HM w z B none 0 [] := ⟨[], rfl, Own.nil _ _ _ _, by simp⟩
theorem RowsI.below {w w' : World} {B : Nat} {h : HkI} {ev lv : Value} (hr : RowsI w B h ev lv) (hb : Below B w w') : RowsI w' B h ev lv := hr.keep fun _ hp => hb.cell hp
theorem HM.below {w w' : World} {z B : Nat} {A : Option Addr} {cp : Nat} {hs : List HkI} (h : HM w z B A cp hs) (hB : B ≤ w.heap.size) (hb : Below w.heap.size w w') : HM w' z B A cp hs := by
  obtain ⟨tv, h1, h2, h3⟩ := h
  exact ⟨tv, h1, h2.below hb, fun k x y u e1 e2 => (h3 k x y u e1 e2).below (hb.mono hB)⟩
theorem HM.reads {w : World} {z B : Nat} {A : Option Addr} {cp : Nat} {hs : List HkI} (h : HM w z B A cp hs) (hB : B ≤ w.heap.size) : HII w w.heap.size A hs := by
  obtain ⟨tv, h1, h2, h3⟩ := h
  refine ⟨tv, h1, h2.reads, fun k x y u e1 e2 => ?_⟩
  obtain ⟨A, c, A', c', q1, q2, q3, q4, q5, q6, q7⟩ := h3 k x y u e1 e2
  exact ⟨A, c, A', c', q1, q2, q3, q4, q5, q6.more hB, q7.more hB⟩
theorem hkIs_snoc {hs : List HkI} {tv : List (Value × Value)} (h : tv.length = hs.length) (x : HkI) (ev lv : Value) : hkIs (hs ++ [x]) (tv ++ [(ev, lv)]) = hkIs hs tv ++ hkI x ev lv := by
  unfold hkIs
  rw [List.zip_append h.symm, List.flatMap_append]
  simp
theorem HM.push {w w2 : World} {z B : Nat} {A1 : Option Addr} {c1 : Nat} {hs : List HkI} {tv : List (Value × Value)} {x : HkI} {ev lv : Value} (hB : B ≤ z) (hz : z ≤ w.heap.size) (hl : tv.length = hs.length) (hr : ∀ (k : Nat) x y u, hs[k]? = some x → tv[k]? = some (y, u) → RowsI w B x y u)
    (hx : RowsI w B x ev lv) (hk : Kept z [38] [] w w2) (ho : Own w2 z 38 4 A1 (hs.length + 1) c1 (hkIs hs tv ++ hkI x ev lv)) : HM w2 z B A1 c1 (hs ++ [x]) := by
  have hb : Below B w w2 := hk.below hB (by omega) (by simp)
  refine ⟨tv ++ [(ev, lv)], by simp [hl], ?_, fun k u y v h1 h2 => ?_⟩
  · rw [hkIs_snoc hl]
    simpa using ho
  · rcases Nat.lt_or_ge k hs.length with q | q
    · rw [List.getElem?_append_left q] at h1
      rw [List.getElem?_append_left (by omega)] at h2
      exact (hr k u y v h1 h2).below hb
    · rw [List.getElem?_append_right q] at h1
      rw [List.getElem?_append_right (by omega), hl] at h2
      have h0 : k - hs.length = 0 := by
        rcases Nat.eq_zero_or_pos (k - hs.length) with q | q
        · exact q
        · rw [List.getElem?_eq_none (by simp; omega)] at h1; cases h1
      rw [h0] at h1 h2
      simp only [List.getElem?_cons_zero, Option.some.injEq, Prod.mk.injEq] at h1 h2
      obtain ⟨rfl, rfl⟩ := h2
      subst h1
      exact hx.below hb
/-- One hunk cut out of a row. -/
theorem HII.one {w : World} {B g off : Nat} {l : List HkI} (h : HII w B (some ⟨g, off, none⟩) l) {k : Nat} {x : HkI} (hx : l[k]? = some x) : HII w B (some ⟨g, off + k * 4, none⟩) [x] ∧ ∃ ev lv, RowsI w B x ev lv ∧ ∀ W, Below B w W → (Instr.loadAt 38 (.pointer (some ⟨g, off + k * 4, none⟩))).run Tryd.prog W = .ok (.agg #[.int .i64 x.a, .int .i64 x.b, ev, lv]) W := by
  obtain ⟨tv, h1, h2, h3⟩ := h
  have hlt : k < l.length := (List.getElem?_eq_some_iff.1 hx).1
  obtain ⟨⟨y, z⟩, hy⟩ : ∃ y, tv[k]? = some y := ⟨_, List.getElem?_eq_getElem (by omega)⟩
  have hr := h3 k x y z hx hy
  obtain ⟨g', off', hA, hg, hc⟩ := h2.at0 (by omega) (by omega)
  injection hA with hA
  injection hA with q1 q2
  subst q1 q2
  refine ⟨⟨[(y, z)], rfl, ⟨rfl, fun _ => ⟨_, rfl, hg, fun j u hj => ?_⟩⟩, fun j a b c e1 e2 => ?_⟩, y, z, hr, fun W hb => ?_⟩
  · rw [add_at]
    have hj' : (hkI x y z)[j]? = some u := by simpa [hkIs] using hj
    have := hc _ _ (hkIs_at hx hy j u hj')
    rwa [← Nat.add_assoc] at this
  · cases j with
    | zero =>
      simp only [List.getElem?_cons_zero, Option.some.injEq, Prod.mk.injEq] at e1 e2
      obtain ⟨rfl, rfl⟩ := e2
      subst e1
      exact hr
    | succ j => simp at e1
  · refine run_loadAt_cells W _ #[.int .i64 x.a, .int .i64 x.b, y, z] Tryd.underlying38 rfl info_hunk (fun j v hj => ?_)
    rw [add_at, hb.cell hg]
    have hj' : (hkI x y z)[j]? = some v := by simpa [hkI] using hj
    have := hc _ _ (hkIs_at hx hy j v hj')
    rwa [← Nat.add_assoc] at this
end Go.Proofs.YtlcidbbpjlpmjaaDoor
