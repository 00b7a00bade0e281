/-
  Arguments opened: hunks, with bounds out of their bulk. No statement of the seat is proved here.
-/
import Derived.Test.YtlcidbbpjlpmjaaDoorTo
namespace Go.Proofs.YtlcidbbpjlpmjaaDoor
open Go.ChangeShapes Go.WideShapes Go.ChangeAt Go.RowKit Go.Deep

theorem slice_is {H : Type} {enc : TypeId × Value → H} {w : World} {base : Nat} {spare : Nat → Bool} {held : Bool} {t e : TypeId} {fuel : Nat} {v : Value} {x : DataW H × List MemPlace} (ht : Tryd.prog.underlying t = some (.slice e)) (h : DataW.trod enc Tryd.prog w base spare held fuel t [v] = some x) : ∃ A len cap, v = .slice A len cap := by
  rcases open_slice ht h with ⟨hcs, _⟩ | ⟨a, len, cap, m, n, D, Pl, hcs, _⟩
  · simp at hcs; exact ⟨_, _, _, hcs⟩
  · simp at hcs; exact ⟨_, _, _, hcs⟩
section
variable {H : Type} {enc : TypeId × Value → H} {w : World} {base : Nat} {spare : Nat → Bool} {held : Bool}
theorem cells_int : Tryd.prog.cellsOf 3 = 1 := by kernel_rfl
theorem cells_edit : Tryd.prog.cellsOf 67 = 2 := by kernel_rfl
theorem cells_hunk : Tryd.prog.cellsOf 38 = 4 := by kernel_rfl
theorem cells_edits : Tryd.prog.cellsOf 36 = 1 := by kernel_rfl
theorem cells_strs : Tryd.prog.cellsOf 22 = 1 := by kernel_rfl
theorem one_at {cs : List Value} {i n : Nat} (hl : cs.length = n) (hi : i < n) : ∃ v, (cs.drop i).take 1 = [v] ∧ cs[i]? = some v := by
  have hlt : i < cs.length := by omega
  refine ⟨cs[i], ?_, List.getElem?_eq_getElem hlt⟩
  rw [List.drop_eq_getElem_cons hlt]
  rfl
theorem cut_at {cs : List Value} {i k : Nat} {l : List Value} (h : (cs.drop i).take k = l) : cs.drop i = l ++ cs.drop (i + k) := by
  rw [← h, ← List.drop_drop, List.take_append_drop]
set_option maxRecDepth 100000 in
theorem open_edit {n : Nat} {cs : List Value} {y : DataW H × List MemPlace} (h : DataW.trod enc Tryd.prog w base spare held n 67 cs = some y) : ∃ x : EdI, cs = edI x := by
  obtain ⟨xs, m, _, _, hlen, hxl, hx⟩ := DataW.trod_struct Tryd.underlying67 h
  rw [cells_edit] at hlen
  have h0 := hx 0 _ rfl
  have h1 := hx 1 _ rfl
  have hxl' : xs.length = 2 := hxl
  rw [List.getElem?_eq_getElem (by omega)] at h0 h1
  have h0 : DataW.trod enc Tryd.prog w base spare held m 3 ((cs.drop 0).take (Tryd.prog.cellsOf 3)) = _ := h0
  have h1 : DataW.trod enc Tryd.prog w base spare held m 3 ((cs.drop 1).take (Tryd.prog.cellsOf 3)) = _ := h1
  rw [cells_int] at h0 h1
  obtain ⟨v, e0, e0'⟩ := one_at (i := 0) hlen (by omega)
  obtain ⟨u, e1, e1'⟩ := one_at (i := 1) hlen (by omega)
  rw [e0] at h0
  rw [e1] at h1
  obtain ⟨a, e2, _, hw⟩ := DataW.trod_int Tryd.underlying3 h0
  obtain ⟨b, e3, _, hw2⟩ := DataW.trod_int Tryd.underlying3 h1
  simp only [List.cons.injEq, and_true] at e2 e3
  subst e2 e3
  refine ⟨⟨a, b⟩, ?_⟩
  have d1 := cut_at e0
  have d2 := cut_at e1
  rw [List.drop_of_length_le (show cs.length ≤ 1 + 1 by omega), List.append_nil] at d2
  have : cs = cs.drop 0 := rfl
  rw [this, d1, d2]
  rfl
/-- A hunk's bounds. -/
structure HkSmall (N : Nat) (h : HkI) : Prop where
  n1 : h.eds.length ≤ N
  n2 : h.ls.length ≤ N
  n3 : ∀ s ∈ h.ls, s.length ≤ N
set_option maxRecDepth 100000 in
theorem open_hunk {N n : Nat} {cs : List Value} {y : DataW H × List MemPlace} (h : DataW.trod enc Tryd.prog w base spare held n 38 cs = some y) (hb : Rows.uptoBulk y.1 ≤ N) : ∃ x : HkI × Value × Value, cs = hkI x.1 x.2.1 x.2.2 ∧ RowsI w w.heap.size x.1 x.2.1 x.2.2 ∧ HkSmall N x.1 := by
  obtain ⟨xs, m, _, hy, hlen, hxl, hx⟩ := DataW.trod_struct Tryd.underlying38 h
  rw [hy] at hb
  rw [cells_hunk] at hlen
  have h0 := hx 0 _ rfl
  have h1 := hx 1 _ rfl
  have h2 := hx 2 _ rfl
  have h3 := hx 3 _ rfl
  have hxl' : xs.length = 4 := hxl
  have g2 := bulk_agg (i := 2) hb (List.getElem?_eq_getElem (by omega))
  have g3 := bulk_agg (i := 3) hb (List.getElem?_eq_getElem (by omega))
  rw [List.getElem?_eq_getElem (by omega)] at h0 h1 h2 h3
  have h0 : DataW.trod enc Tryd.prog w base spare held m 3 ((cs.drop 0).take (Tryd.prog.cellsOf 3)) = _ := h0
  have h1 : DataW.trod enc Tryd.prog w base spare held m 3 ((cs.drop 1).take (Tryd.prog.cellsOf 3)) = _ := h1
  have h2 : DataW.trod enc Tryd.prog w base spare held m 36 ((cs.drop 2).take (Tryd.prog.cellsOf 36)) = _ := h2
  have h3 : DataW.trod enc Tryd.prog w base spare held m 22 ((cs.drop 3).take (Tryd.prog.cellsOf 22)) = _ := h3
  rw [cells_int] at h0 h1
  rw [cells_edits] at h2
  rw [cells_strs] at h3
  obtain ⟨v0, e0, _⟩ := one_at (i := 0) hlen (by omega)
  obtain ⟨v1, e1, _⟩ := one_at (i := 1) hlen (by omega)
  obtain ⟨v2, e2, _⟩ := one_at (i := 2) hlen (by omega)
  obtain ⟨v3, e3, _⟩ := one_at (i := 3) hlen (by omega)
  rw [e0] at h0
  rw [e1] at h1
  rw [e2] at h2
  rw [e3] at h3
  obtain ⟨a, f0, _, hw⟩ := DataW.trod_int Tryd.underlying3 h0
  obtain ⟨b, f1, _, hw2⟩ := DataW.trod_int Tryd.underlying3 h1
  obtain ⟨EA, el, ec, rfl⟩ := slice_is Tryd.underlying36 h2
  obtain ⟨LA, ll, lc, rfl⟩ := slice_is Tryd.underlying22 h3
  obtain ⟨es, rfl, hre, hce, hme, hNe, _⟩ := open_listB (N := N) (f := edI) (V := fun _ => True) Tryd.underlying36 cells_edit (by decide) edI_len (fun _ _ _ h _ => by obtain ⟨x, hx⟩ := open_edit h; exact ⟨x, hx, trivial⟩) h2 g2
  obtain ⟨ls, hl1, hrl, hcl, hml, hNl, hVl⟩ := open_listB (N := N) (f := fun s : List UInt8 => [strC s]) (V := fun s => s.length ≤ N) Tryd.underlying22 cells_str (by decide) (fun _ => rfl) (fun _ _ _ h hb => open_str h hb) h3 g3
  subst hl1
  rw [flat_strL] at hrl
  simp only [List.cons.injEq, and_true] at f0 f1
  subst f0 f1
  refine ⟨(⟨a, b, es, ls⟩, .slice EA es.length ec, .slice LA ls.length lc), ?_, ⟨EA, ec, LA, lc, rfl, rfl, hce, hcl, hml, hre, hrl⟩, ⟨hNe, hNl, hVl⟩⟩
  have d0 := cut_at e0
  have d1 := cut_at e1
  have d2 := cut_at e2
  have d3 := cut_at e3
  rw [List.drop_of_length_le (show cs.length ≤ 3 + 1 by omega), List.append_nil] at d3
  have : cs = cs.drop 0 := rfl
  rw [this, d0, d1, d2, d3]
  rfl
theorem opened_hunks {N : Nat} {A : Option Addr} {len cap : Nat} {d : DataW H} {p : List MemPlace} (h : DataW.Trod enc Tryd.prog w base spare held 25 (.slice A len cap) d p) (hb : Rows.uptoBulk d ≤ N) :
    ∃ l : List HkI, l.length = len ∧ HII w w.heap.size A l ∧ l.length ≤ cap ∧ cap ≤ maxLen ∧ l.length ≤ N ∧ ∀ x ∈ l, HkSmall N x := by
  obtain ⟨fuel, hf⟩ := h
  obtain ⟨l, h1, h2, h3, h4, h5, h6⟩ := open_listB (N := N) (f := fun x : HkI × Value × Value => hkI x.1 x.2.1 x.2.2) (V := fun x => RowsI w w.heap.size x.1 x.2.1 x.2.2 ∧ HkSmall N x.1) Tryd.underlying25 cells_hunk (by decide) (fun _ => rfl) (fun _ _ _ h hb => open_hunk h hb) (by simpa [Value.cells] using hf) hb
  subst h1
  have hz : (l.map (·.1)).zip (l.map (·.2)) = l := by
    clear h2 h3 h4 h5 h6 hf
    induction l with
    | nil => rfl
    | cons x l ih => simp [ih]
  refine ⟨l.map (·.1), by simp, ⟨l.map (·.2), by simp, ?_, fun k x y z e1 e2 => ?_⟩, by simpa using h3, h4, by simpa using h5, fun x hx => ?_⟩
  · unfold hkIs
    rw [hz, List.length_map]
    exact h2
  · rw [List.getElem?_map, Option.map_eq_some_iff] at e1 e2
    obtain ⟨u, e3, rfl⟩ := e1
    obtain ⟨v, e4, e5⟩ := e2
    rw [e3] at e4
    injection e4 with e4
    subst e4
    have := (h6 u (List.mem_of_getElem? e3)).1
    rw [e5] at this
    exact this
  · obtain ⟨u, hu, rfl⟩ := List.mem_map.1 hx
    exact (h6 u hu).2
end
end Go.Proofs.YtlcidbbpjlpmjaaDoor
