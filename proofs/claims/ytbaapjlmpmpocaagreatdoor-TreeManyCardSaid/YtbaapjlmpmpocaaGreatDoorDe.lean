/-
  A row of files beside a map that turns; the rows of files below each directory. No statement of the seat is proved here.
-/
import Derived.Test.YtbaapjlmpmpocaaGreatDoorDT28
import Derived.Test.YtbaapjlmpmpocaaGreatDoorDT05
import Derived.Test.YtbaapjlmpmpocaaGreatDoorDT15
namespace Go.Proofs.YtbaapjlmpmpocaaGreatDoor
open Go.RowKit Go.Maps

section
variable {w w' : World} {z B m : Nat} {A : Option Addr} {l : List FileD}
/-- A row of files below z, not in block m; their bytes lie below B. -/
def LI (w : World) (z B m : Nat) (A : Option Addr) (l : List FileD) : Prop := ∃ tv : List Value, tv.length = l.length ∧ Reads w z 3 A l.length (filesL l tv) ∧ (∀ a, A = some a → 0 < l.length → a.block ≠ m) ∧ ∀ (k : Nat) x y, l[k]? = some x → tv[k]? = some y → DataR w B x y
theorem LI.keep (h : LI w z B m A l) (hk : ∀ k, k < z → k ≠ m → w'.heap[k]? = w.heap[k]?) (hBm : B ≤ m) (hBz : B ≤ z) : LI w' z B m A l := by
  obtain ⟨tv, h1, h2, h3, h4⟩ := h
  refine ⟨tv, h1, ⟨h2.1, fun q => ?_⟩, h3, fun k x y e1 e2 => (h4 k x y e1 e2).keep fun p hp => World.cell?_of_block (hk _ (by omega) (by omega))⟩
  obtain ⟨ad, rfl, hz, hc⟩ := h2.2 q
  refine ⟨ad, rfl, hz, fun j u hu => ?_⟩
  rw [← hc j u hu]
  have e : (ad.add j).block = ad.block := by unfold Addr.add; split <;> rfl
  exact World.cell?_of_block (hk _ (by rw [e]; exact hz) (by rw [e]; exact h3 _ rfl q))
theorem LI.fi (h : LI w z B m A l) (hBz : B ≤ z) : FI w z A l := by
  obtain ⟨tv, h1, h2, h3, h4⟩ := h
  exact ⟨tv, h1, h2, fun k x y e1 e2 => (h4 k x y e1 e2).more hBz⟩
theorem LI.at_ (h : LI w z B m A l) (hBz : B ≤ z) {k : Nat} {x : FileD} (hx : l[k]? = some x) : ∃ g off DA dc, A = some ⟨g, off, none⟩ ∧ g < z ∧ (Instr.loadAt 27 (.pointer (some ⟨g, off + k * 3, none⟩))).run Tryz.prog w = .ok (.agg (fileC x DA dc)) w ∧ DataR w B x (.slice DA x.d.length dc) := by
  obtain ⟨g, off, DA, dc, rfl, hg, hl, _, _, e2, _, _, _⟩ := (h.fi hBz).at_ hx
  obtain ⟨tv, h1, h2, h3, h4⟩ := h
  have hlt : k < l.length := (List.getElem?_eq_some_iff.1 hx).1
  obtain ⟨y, hy⟩ : ∃ y, tv[k]? = some y := ⟨_, List.getElem?_eq_getElem (by omega)⟩
  obtain ⟨g', off', q, hg', hc⟩ := h2.at0 (by omega) (by omega)
  injection q with q
  injection q with q1 q2
  subst q1 q2
  have e3 := hc _ _ (filesL_at hx hy 2 _ rfl)
  rw [← Nat.add_assoc, e2] at e3
  injection e3 with e3
  subst e3
  exact ⟨g, off, DA, dc, rfl, hg, hl, h4 k x _ hx hy⟩
theorem LI.ofFO {z0 : Nat} {c : Nat} (h : FO w z0 B A c l) (hz : ∀ a, A = some a → a.block ≠ m) : LI w w.heap.size B m A l := by
  obtain ⟨tv, h1, h2, h3⟩ := h
  exact ⟨tv, h1, h2.reads, fun a ha _ => hz a ha, h3⟩
theorem VM.ne {b n : Nat} {f : Mp} (h : VM w b n f) {g : Nat} {t : TypeId} {cs : Array Value} (hb : Blk w g t cs) : g ≠ b := by
  obtain ⟨D, ⟨es, clock, q, _⟩, _⟩ := h
  rintro rfl
  rw [show w.heap[g]? = some (.cells cs t (0, 0)) from hb] at q
  cases q
/-- The rows of files below each directory of l, as the map f tells them. -/
def DirRows (w : World) (z B : Nat) (f : Mp) (l : List FileD) : Prop :=
  ∃ row : Pth → Option Addr × Nat, (∀ d, f d = if underP l d = [] then none else some (.slice (row d).1 (underP l d).length (row d).2)) ∧ (∀ d, underP l d = [] → row d = (none, 0)) ∧ (∀ d, FO w z B (row d).1 (row d).2 (underP l d)) ∧ ∀ d e, d ≠ e → Apart (row d).1 (row e).1
variable {f : Mp}
theorem DirRows.nil_ (w : World) (z B : Nat) : DirRows w z B mpNil [] :=
  ⟨fun _ => (none, 0), fun _ => rfl, fun _ _ => rfl, fun _ => FO.nil_ w z B, fun _ _ _ => Apart.none_ _⟩
theorem DirRows.same (h : DirRows w z B f l) (hk : ∀ a, z ≤ a → a < w.heap.size → (∃ cs, Blk w a 27 cs) → w'.heap[a]? = w.heap[a]?) (hb : Below B w w') : DirRows w' z B f l := by
  obtain ⟨row, h1, h2, h3, h4⟩ := h
  exact ⟨row, h1, h2, fun d => (h3 d).same1 (fun a ha => hk _ ((h3 d).lt a ha).1 ((h3 d).lt a ha).2.1 ((h3 d).lt a ha).2.2) hb, h4⟩
theorem DirRows.flat (h : DirRows w z B f l) {x : FileD} (hx : ∀ d, inDir d x = none) : DirRows w z B f (l ++ [x]) := by
  obtain ⟨row, h1, h2, h3, h4⟩ := h
  have e : ∀ d, underP (l ++ [x]) d = underP l d := fun d => by rw [under_snoc, hx d, Option.toList_none, List.append_nil]
  exact ⟨row, fun d => by rw [e]; exact h1 d, fun d => by rw [e]; exact h2 d, fun d => by rw [e]; exact h3 d, h4⟩
theorem DirRows.push (h : DirRows w z B f l) (d : Pth) (hBz : B ≤ z) (hz : z ≤ w.heap.size) : ∃ A c tv, (f d).getD (.slice none 0 0) = .slice A (underP l d).length c ∧ tv.length = (underP l d).length ∧ Own w z 27 3 A (underP l d).length c (filesL (underP l d) tv) ∧ (∀ (k : Nat) x y, (underP l d)[k]? = some x → tv[k]? = some y → DataR w B x y) ∧
    ∀ (x y : FileD) (D : Option Addr) (dd : Nat), inDir d x = some y → (∀ e, e ≠ d → inDir e x = none) → DataR w B y (.slice D y.d.length dd) → ∀ w9 A9 c9, Own w9 z 27 3 A9 ((underP l d).length + 1) c9 (filesL (underP l d) tv ++ (fileC y D dd).toList) → Kept z [27] [] (w.alloc (.cells (fileC y D dd) 27)) w9 →
      (∀ p, p < (w.alloc (.cells (fileC y D dd) 27)).heap.size → NotB A (underP l d).length c p → w9.heap[p]? = (w.alloc (.cells (fileC y D dd) 27)).heap[p]? ∧ NotB A9 ((underP l d).length + 1) c9 p) →
      DirRows w9 z B (mput f d (.slice A9 ((underP l d).length + 1) c9)) (l ++ [x]) ∧ Below z w w9 := by
  obtain ⟨row, h1, h2, h3, h4⟩ := h
  obtain ⟨tv, t1, t2, t3⟩ := h3 d
  refine ⟨(row d).1, (row d).2, tv, ?_, t1, t2, t3, fun x y D dd hx hne hy w9 A9 c9 o9 k9 n9 => ?_⟩
  · rw [h1 d]
    split
    · rename_i q
      rw [h2 d q, q]
      rfl
    · rfl
  have hb : Below z w w9 := ((Below.refl z w).alloc hz _).trans (k9.below (Nat.le_refl _) (by simp; omega) (by simp))
  have hd : underP (l ++ [x]) d = underP l d ++ [y] := by rw [under_snoc, hx]; rfl
  have ho : ∀ e, e ≠ d → underP (l ++ [x]) e = underP l e := fun e q => by rw [under_snoc, hne e q]; simp
  obtain ⟨row', r1, r2⟩ : ∃ r : Pth → Option Addr × Nat, r d = (A9, c9) ∧ ∀ e, e ≠ d → r e = row e := ⟨fun e => if e = d then (A9, c9) else row e, if_pos rfl, fun e q => if_neg q⟩
  have key : ∀ e, e ≠ d → Apart (row e).1 A9 := fun e q => (apart_push (h4 e d q) (fun a ha => by have := ((h3 e).lt a ha).2.1; simp; omega) n9).2
  refine ⟨⟨row', fun e => ?_, fun e => ?_, fun e => ?_, fun e e' hee => ?_⟩, hb⟩
  · unfold mput
    by_cases q : e = d
    · subst q
      rw [if_pos rfl, hd, if_neg (by simp), List.length_append, r1]
      rfl
    · rw [if_neg q, ho e q, r2 e q]
      exact h1 e
  · by_cases q : e = d
    · subst q
      rw [hd]
      intro r
      simp at r
    · rw [ho e q, r2 e q]
      exact h2 e
  · by_cases q : e = d
    · subst q
      rw [hd, r1]
      exact FO.snoc t1 t3 hy o9 (hb.mono hBz)
    · rw [ho e q, r2 e q]
      have ap := h4 e d q
      obtain ⟨q1, _⟩ := apart_push ap (fun a ha => by have := ((h3 e).lt a ha).2.1; simp; omega) n9
      refine (h3 e).same1 (fun a ha => ?_) (hb.mono hBz)
      rw [q1 a ha]
      exact Below.heap_alloc w _ _ ((h3 e).lt a ha).2.1
  · by_cases q : e = d
    · subst q
      rw [r1, r2 e' (Ne.symm hee)]
      exact fun a c ha hc r => key e' (Ne.symm hee) c a hc ha r.symm
    · rw [r2 e q]
      by_cases q' : e' = d
      · subst q'
        rw [r1]
        exact key e q
      · rw [r2 e' q']
        exact h4 e e' hee
end
end Go.Proofs.YtbaapjlmpmpocaaGreatDoor
