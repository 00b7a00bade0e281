/-
  Arguments opened: Ids in a slice, commits. No statement of the seat is proved here.
-/
import Derived.Test.YtppmolneklidfaaRow0
import Derived.Test.YtppmolneklidfaaCom
namespace Go.Proofs.Ytppmolneklidfaa
open Go.ChangeShapes Go.WideShapes Go.ChangeAt Go.RowKit Go.Deep

theorem slice_is {H : Type} {enc : TypeId × Value → H} {w : World} {base : Nat} {spare : Nat → Bool} {held : Bool} {t e : TypeId} {fuel : Nat} {v : Value} {x : DataW H × List MemPlace} (ht : Try.prog.underlying t = some (.slice e)) (h : DataW.trod enc Try.prog w base spare held fuel t [v] = some x) : ∃ A len cap, v = .slice A len cap := by
  rcases open_slice ht h with ⟨hcs, _⟩ | ⟨a, len, cap, m, n, D, Pl, hcs, _⟩
  · simp at hcs; exact ⟨_, _, _, hcs⟩
  · simp at hcs; exact ⟨_, _, _, hcs⟩
section
variable {H : Type} {enc : TypeId × Value → H} {w : World} {base : Nat} {spare : Nat → Bool} {held : Bool}
theorem open_ids {A : Option Addr} {len cap : Nat} {fuel : Nat} {x : DataW H × List MemPlace} (h : DataW.trod enc Try.prog w base spare held fuel 43 [.slice A len cap] = some x) :
    ∃ l : List Id, l.length = len ∧ Reads w w.heap.size 32 A l.length (idLs l) ∧ l.length ≤ cap ∧ cap ≤ maxLen := by
  obtain ⟨l, h1, h2, h3, h4, _⟩ := open_list (f := idL) (V := fun _ => True) Try.underlying43 cells_id (by decide) idL_len (fun _ _ _ h => by obtain ⟨i, hi⟩ := open_id h; exact ⟨i, hi, trivial⟩) h
  subst h1
  exact ⟨l, rfl, h2, h3, h4⟩
theorem cells_com : Try.prog.cellsOf 45 = 36 := by kernel_rfl
theorem cells_str : Try.prog.cellsOf 9 = 1 := by kernel_rfl
theorem cells_int : Try.prog.cellsOf 3 = 1 := by kernel_rfl
theorem cells_i64 : Try.prog.cellsOf 2 = 1 := by kernel_rfl
theorem cells_ids : Try.prog.cellsOf 43 = 1 := by kernel_rfl
theorem cells_bytes : Try.prog.cellsOf 23 = 1 := by kernel_rfl
theorem split_at (cs : List Value) (n : Nat) (c : List Value) (h : cs.drop n = c) : cs = cs.take n ++ c := by rw [← h, List.take_append_drop]
set_option maxRecDepth 100000 in
theorem open_com {n : Nat} {cs : List Value} {y : DataW H × List MemPlace} (h : DataW.trod enc Try.prog w base spare held n 45 cs = some y) :
    ∃ (d : ComD) (A : Option Addr) (c : Nat), cs = comL d.tree (.slice A d.parents.length c) d.author d.time d.msg ∧ Reads w w.heap.size 32 A d.parents.length (idLs d.parents) ∧ d.parents.length ≤ c ∧ c ≤ maxLen ∧ d.author.size ≤ maxLen ∧ d.msg.size ≤ maxLen ∧ (Lit.int .i64 d.time).wf = true := by
  obtain ⟨xs, m, _, _, hlen, hxl, hx⟩ := DataW.trod_struct Try.underlying45 h
  rw [cells_com] at hlen
  have h0 := hx 0 _ rfl
  have h1 := hx 1 _ rfl
  have h2 := hx 2 _ rfl
  have h3 := hx 3 _ rfl
  have h4 := hx 4 _ rfl
  have hxl' : xs.length = 5 := hxl
  rw [List.getElem?_eq_getElem (by omega)] at h0 h1 h2 h3 h4
  obtain ⟨c0, c1, c2, c3, e⟩ : ∃ c0 c1 c2 c3, cs.drop 32 = [c0, c1, c2, c3] := by
    have hl : (cs.drop 32).length = 4 := by simp [hlen]
    match cs.drop 32, hl with
    | [c0, c1, c2, c3], _ => exact ⟨c0, c1, c2, c3, rfl⟩
  have hcs := split_at cs 32 _ e
  have hl0 : (cs.take 32).length = 32 := by simp [hlen]
  have d1 : cs.drop 33 = [c1, c2, c3] := by rw [show 33 = 32 + 1 from rfl, ← List.drop_drop, e]; rfl
  have d2 : cs.drop 34 = [c2, c3] := by rw [show 34 = 32 + 2 from rfl, ← List.drop_drop, e]; rfl
  have d3 : cs.drop 35 = [c3] := by rw [show 35 = 32 + 3 from rfl, ← List.drop_drop, e]; rfl
  have h0 : DataW.trod enc Try.prog w base spare held m 42 ((cs.drop 0).take (Try.prog.cellsOf 42)) = _ := h0
  have h1 : DataW.trod enc Try.prog w base spare held m 43 ((cs.drop 32).take (Try.prog.cellsOf 43)) = _ := h1
  have h2 : DataW.trod enc Try.prog w base spare held m 9 ((cs.drop 33).take (Try.prog.cellsOf 9)) = _ := h2
  have h3 : DataW.trod enc Try.prog w base spare held m 2 ((cs.drop 34).take (Try.prog.cellsOf 2)) = _ := h3
  have h4 : DataW.trod enc Try.prog w base spare held m 9 ((cs.drop 35).take (Try.prog.cellsOf 9)) = _ := h4
  rw [cells_id] at h0
  rw [cells_ids, e] at h1
  rw [cells_str, d1] at h2
  rw [cells_i64, d2] at h3
  rw [cells_str, d3] at h4
  simp only [List.take_succ_cons, List.take_zero, List.drop_zero] at h0 h1 h2 h3 h4
  obtain ⟨i, e0⟩ := open_id h0
  obtain ⟨A, len, cap, rfl⟩ := slice_is Try.underlying43 h1
  obtain ⟨l, rfl, hr, hc, hm⟩ := open_ids h1
  obtain ⟨au, e2, _, ha⟩ := DataW.trod_string Try.underlying9 h2
  obtain ⟨tm, e3, _, ht⟩ := DataW.trod_int Try.underlying2 h3
  obtain ⟨ms, e4, _, hms⟩ := DataW.trod_string Try.underlying9 h4
  simp only [List.cons.injEq, and_true] at e2 e3 e4
  subst e2 e3 e4
  refine ⟨⟨i, l, au, tm, ms⟩, A, cap, ?_, hr, hc, hm, ha, hms, ht⟩
  rw [hcs, e0]
  rfl
set_option maxRecDepth 100000 in
theorem opened_com {b0 : Nat} {r : Reach} {v : Value} {d : DataW H} {p : List MemPlace} (hv : Value.okWide Try.prog w r b0 45 v) (h : DataW.Trod enc Try.prog w base spare held 45 v d p) :
    ∃ (d : ComD) (A : Option Addr) (c : Nat), v = .agg (comC d.tree (.slice A d.parents.length c) d.author d.time d.msg) ∧ Reads w w.heap.size 32 A d.parents.length (idLs d.parents) ∧ d.parents.length ≤ c ∧ c ≤ maxLen ∧ d.author.size ≤ maxLen ∧ d.msg.size ≤ maxLen ∧ (Lit.int .i64 d.time).wf = true := by
  obtain ⟨cs, rfl, _⟩ := okWide_struct Try.underlying45 hv
  obtain ⟨fuel, hf⟩ := h
  obtain ⟨d, A, c, h1, h2⟩ := open_com hf
  refine ⟨d, A, c, ?_, h2⟩
  have h1 : cs.toList = _ := h1
  unfold comC
  rw [← h1]
end
end Go.Proofs.Ytppmolneklidfaa
