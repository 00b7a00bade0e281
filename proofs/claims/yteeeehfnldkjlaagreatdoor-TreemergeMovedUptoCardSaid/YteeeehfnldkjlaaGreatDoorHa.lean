/-
  An append of a text to a row of bytes, beside another row. No statement of the seat is proved here.
-/
import Derived.Test.YteeeehfnldkjlaaGreatDoorTZ19
namespace Go.Proofs.YteeeehfnldkjlaaGreatDoor
open Go.RowKit
theorem run_append_strf {w : World} {t u e ty : TypeId} (H : Elem Tryz.prog t e 1 1) (hz0 : (Tryz.prog.info? e).bind (·.zero) = some (.int .u8 0)) (hu : Tryz.prog.underlying u = some .string) {base : Nat} {A : Option Addr} {n c : Nat} {xs : List Value} (hown : Own w base e 1 A n c xs) (hn0 : 0 < n)
    {s : ByteArray} (h63 : n + s.size ≤ maxLen) (hbytes : n + s.size ≤ 140737488355328) (hbase : base ≤ w.heap.size) :
    ∃ A' c' w', (Builtin.append_ #[t, u] ty #[.slice A n c, .string s]).run Tryz.prog w = .ok (.slice A' (n + s.size) c') w' ∧ Own w' base e 1 A' (n + s.size) c' (xs ++ Lib.strCells s) ∧ Kept base [e] [] w w' ∧ ∀ p, p < w.heap.size → NotB A n c p → w'.heap[p]? = w.heap[p]? ∧ NotB A' (n + s.size) c' p := by
  obtain ⟨ht, ⟨i, z, hi, hz, hsize, hby, hzs⟩, hpos⟩ := H
  have hz' : i.zero = some (.int .u8 0) := by rw [hi] at hz0; simpa using hz0
  have hsmall : n + s.size ≤ 9223372036854775807 := by simp only [maxLen] at h63; omega
  have hxl : xs.length = n := by simpa using hown.1
  obtain ⟨v', w', hrun, h2, h3, _⟩ := Lib.run_append_own_string (P := Tryz.prog) w base t u ty e i ht hu hi hz' hsize hby _ n xs hown s h63 hbytes hbase
  obtain ⟨A', c', rfl⟩ := slice_of_own h2
  refine ⟨A', c', w', hrun, h2, Kept.of_grown hown h3 (by simp), fun p hp hn => ⟨h3.block p hp (fun e => hn e.symm), ?_⟩⟩
  rcases hown.2 with ⟨_, h0⟩ | ⟨g, cap, cur, e1, hbg, hg, hnc, hcm, hcs, htake⟩
  · omega
  · injection e1 with e1 _ e2
    subst e1 e2
    by_cases hroom : n + s.size ≤ c
    · have hr := Lib.run_append_room_string (P := Tryz.prog) (ty := ty) w t u e i ht hu hi hsize g n c cur hg s hroom (by rw [hcs, Nat.mul_one]; exact hroom)
      rw [hrun] at hr
      injection hr with q1 _
      injection q1 with q1
      subst q1
      exact hn
    · have holds : ∀ j u, xs[j]? = some u → w.cell? ((⟨g, 0, none⟩ : Addr).add j) = some u := World.ownsRow.cells (g := g) hown rfl
      have hr := Lib.run_append_grow_string (P := Tryz.prog) w t u ty e i (.int .u8 0) ht hu hi hz' ⟨g, 0, none⟩ n c xs (by rw [hsize]; simpa using hxl) holds s (by omega) (by omega) (by rw [hby]; exact growslice_fits (by omega) (by omega))
      rw [hrun] at hr
      injection hr with q1 _
      injection q1 with q1
      subst q1
      intro q
      injection q with q
      have : w.heap.size = p := q
      omega
theorem wpList_append_strf {ops : Array Oper} {rest : List Oper} {o : Oper} {a : Act} {w : World} {Q : Exit → Act → World → Prop} (hgd : o.guard = none) {s x : Operand} {t u e : TypeId} (H : Elem Tryz.prog t e 1 1) (hz0 : (Tryz.prog.info? e).bind (·.zero) = some (.int .u8 0)) (hu : Tryz.prog.underlying u = some .string)
    (ho : o.op = .call { callee := .builtin .append, args := #[s, x], argTypes := #[t, u] }) {base : Nat} {A : Option Addr} {n c : Nat} {xs : List Value} (hs : a.eval s = .slice A n c) (hown : Own w base e 1 A n c xs) (hn0 : 0 < n)
    {st : ByteArray} (hx : a.eval x = .string st) (h63 : n + st.size ≤ maxLen) (hbytes : n + st.size ≤ 140737488355328) (hbase : base ≤ w.heap.size)
    (h : ∀ A' c' w', Own w' base e 1 A' (n + st.size) c' (xs ++ Lib.strCells st) → Kept base [e] [] w w' → (∀ p, p < w.heap.size → NotB A n c p → w'.heap[p]? = w.heap[p]? ∧ NotB A' (n + st.size) c' p) → wpList Tryz.prog ops Q rest (a.put o.dst (.slice A' (n + st.size) c')) w') : wpList Tryz.prog ops Q (o :: rest) a w := by
  obtain ⟨A', c', w', hrun, h2, h3, h4⟩ := run_append_strf (ty := o.type) (u := u) H hz0 hu hown hn0 (s := st) h63 hbytes hbase
  exact wpList_plain hgd fun _ hK => wp_append_run ho hs hx hrun (hK _ _ (h A' c' w' h2 h3 h4))
end Go.Proofs.YteeeehfnldkjlaaGreatDoor
