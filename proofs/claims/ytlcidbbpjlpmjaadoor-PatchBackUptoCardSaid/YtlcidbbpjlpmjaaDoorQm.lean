/-
  A dictionary: a map from texts to numbers that the call made, each text by its first place. No statement of the seat is proved here.
-/
import Derived.Test.YtlcidbbpjlpmjaaDoorOwn
import Derived.Maps.OwnSet
namespace Go.Proofs.YtlcidbbpjlpmjaaDoor
open Go.RowKit Go.Maps

def strC (s : List UInt8) : Value := .string ⟨s.toArray⟩
def keyS (s : List UInt8) : Lit := .string s
theorem keyS_inj {s t : List UInt8} (h : keyS s = keyS t) : s = t := by
  unfold keyS at h
  injection h
theorem keyS_is (s : List UInt8) : WideAt.IsKeyLit (keyS s) := trivial
/-- The dictionary's next state. -/
def dict1 (d : List (List UInt8)) (s : List UInt8) : List (List UInt8) := if s ∈ d then d else d ++ [s]
def dict (d : List (List UInt8)) : List (List UInt8) → List (List UInt8)
  | [] => d
  | s :: l => dict (dict1 d s) l
theorem dict_snoc (d l : List (List UInt8)) (s : List UInt8) : dict d (l ++ [s]) = dict1 (dict d l) s := by
  induction l generalizing d with
  | nil => rfl
  | cons x l ih => rw [List.cons_append, dict, dict, ih]
theorem dict1_front (d : List (List UInt8)) (s : List UInt8) : ∃ t, dict1 d s = d ++ t := by
  unfold dict1
  split
  · exact ⟨[], by simp⟩
  · exact ⟨[s], rfl⟩
theorem dict_front (d l : List (List UInt8)) : ∃ t, dict d l = d ++ t := by
  induction l generalizing d with
  | nil => exact ⟨[], by simp [dict]⟩
  | cons x l ih =>
    obtain ⟨t, ht⟩ := ih (dict1 d x)
    obtain ⟨u, hu⟩ := dict1_front d x
    exact ⟨u ++ t, by rw [dict, ht, hu, List.append_assoc]⟩
theorem dict1_mem (d : List (List UInt8)) (s : List UInt8) : s ∈ dict1 d s := by
  unfold dict1
  split
  · assumption
  · simp
theorem dict_mem (d l : List (List UInt8)) : ∀ s ∈ l, s ∈ dict d l := by
  induction l generalizing d with
  | nil => simp
  | cons x l ih =>
    intro s hs
    rw [dict]
    rcases List.mem_cons.1 hs with rfl | hs
    · obtain ⟨t, ht⟩ := dict_front (dict1 d s) l
      rw [ht]
      exact List.mem_append_left _ (dict1_mem d s)
    · exact ih _ s hs
theorem idx_front {d t : List (List UInt8)} {s : List UInt8} (h : s ∈ d) : (d ++ t).idxOf s = d.idxOf s := by
  rw [List.idxOf_append]
  simp [h]
theorem idx_inj {d : List (List UInt8)} {s t : List UInt8} (hs : s ∈ d) (h : d.idxOf s = d.idxOf t) : s = t := by
  have h1 := List.idxOf_lt_length_of_mem hs
  have h2 : d[d.idxOf s] = s := List.getElem_idxOf h1
  have h3 : d[d.idxOf t]'(by rw [← h]; exact h1) = t := List.getElem_idxOf (by rw [← h]; exact h1)
  rw [← h2, ← h3]
  congr 1
theorem dict_len (d l : List (List UInt8)) : (dict d l).length ≤ d.length + l.length := by
  induction l generalizing d with
  | nil => simp [dict]
  | cons x l ih =>
    have h := ih (dict1 d x)
    have h1 : (dict1 d x).length ≤ d.length + 1 := by
      unfold dict1
      split <;> simp
    rw [dict]
    simp at h ⊢
    omega

/-- The dictionary d stands in block b. -/
def Dict (P : Program) (k e : TypeId) (w : World) (b : Nat) (d : List (List UInt8)) : Prop :=
  ∃ D : DataW Unit, w.ownsMap P k (plainElem P e) b d.length D ∧ Tidy D ∧ Maps.size D = d.length ∧ (∀ s, has D (keyS s) = decide (s ∈ d)) ∧ ∀ s ∈ d, D.atKey (keyS s) (.lit (.int .i64 0)) = .lit (.int .i64 (d.idxOf s : Nat))
section
variable {P : Program} {k e : TypeId} {w w' : World} {b : Nat} {d : List (List UInt8)}
theorem Dict.made (w : World) (P : Program) (k e : TypeId) : Dict P k e (w.alloc (.map #[] 0)) w.heap.size [] :=
  ⟨.map [], World.ownsMap_made _ _ _ _, tidy_empty, rfl, fun s => by simp [has_eq], fun s hs => absurd hs (by simp)⟩
theorem Dict.lt (h : Dict P k e w b d) : b < w.heap.size := by
  obtain ⟨D, h1, _⟩ := h
  exact h1.lt
theorem Dict.kept {row : Option Nat} (h : Dict P k e w b d) (hg : w.grownBy w' row) (hne : some b ≠ row) : Dict P k e w' b d := by
  obtain ⟨D, h1, h2⟩ := h
  exact ⟨D, h1.kept hg hne, h2⟩
theorem Dict.block (h : Dict P k e w b d) (hb : w'.heap[b]? = w.heap[b]?) : Dict P k e w' b d := by
  obtain ⟨D, ⟨es, clock, q1, q2⟩, h2⟩ := h
  exact ⟨D, ⟨es, clock, hb.trans q1, q2⟩, h2⟩
theorem Dict.alloc (h : Dict P k e w b d) (o : Obj) : Dict P k e (w.alloc o) b d := h.kept (World.grownBy_alloc w o none) (by simp)
theorem Dict.setCell (h : Dict P k e w b d) {p : Addr} (hp : b ≠ p.block) (u : Value) : Dict P k e (w.setCell p u) b d := by
  obtain ⟨D, h1, h2⟩ := h
  exact ⟨D, h1.setCell hp u, h2⟩
theorem Dict.put {D : DataW Unit} {s : List UInt8} (h1 : w'.ownsMap P k (plainElem P e) b (d.length + 1) (D.put (keyS s) (.lit (.int .i64 (d.length : Nat))))) (ht : Tidy D) (hs : Maps.size D = d.length) (hh : ∀ s, has D (keyS s) = decide (s ∈ d)) (ha : ∀ s ∈ d, D.atKey (keyS s) (.lit (.int .i64 0)) = .lit (.int .i64 (d.idxOf s : Nat)))
    (hn : s ∉ d) : Dict P k e w' b (d ++ [s]) := by
  have hh0 : has D (keyS s) = false := by rw [hh]; simpa using hn
  refine ⟨_, by simpa using h1, ht.put (keyS_is s) _, ?_, fun t => ?_, fun t hm => ?_⟩
  · rw [size_put ht, hh0]
    simp [hs]
  · by_cases hst : t = s
    · subst hst
      rw [has_put_same ht.isMap (keyS_is t)]
      simp
    · rw [has_put_other (fun q => hst (keyS_inj q)), hh]
      simp [hst]
  · by_cases hst : t = s
    · subst hst
      rw [atKey_put_same ht.isMap (keyS_is t), List.idxOf_append]
      simp [hn]
    · have hm' : t ∈ d := by
        rcases List.mem_append.1 hm with q | q
        · exact q
        · exact absurd (List.mem_singleton.1 q) hst
      rw [atKey_put_other (fun q => hst (keyS_inj q)), ha t hm', idx_front hm']
end
end Go.Proofs.YtlcidbbpjlpmjaaDoor
