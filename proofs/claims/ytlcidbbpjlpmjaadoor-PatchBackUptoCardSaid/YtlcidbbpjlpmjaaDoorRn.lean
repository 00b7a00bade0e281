/-
  Plain: hunks done on lines. No statement of the seat is proved here.
-/
import Derived.Test.YtlcidbbpjlpmjaaDoorRg
namespace Go.Proofs.YtlcidbbpjlpmjaaDoor
open Go.RowKit

/-- The lines that edits take from, and those that they make. -/
def oldL : List EdD → List (List UInt8) → List (List UInt8)
  | [], _ => []
  | e :: es, ls => (if e.op = 2 then [] else ls.take e.n) ++ oldL es (ls.drop e.n)
def newL : List EdD → List (List UInt8) → List (List UInt8)
  | [], _ => []
  | e :: es, ls => (if e.op = 1 then [] else ls.take e.n) ++ newL es (ls.drop e.n)
/-- Lines that stand at a place. -/
def okA (a : List (List UInt8)) (p : Nat) (xs : List (List UInt8)) : Prop := (a.drop p).take xs.length = xs
instance (a : List (List UInt8)) (p : Nat) (xs : List (List UInt8)) : Decidable (okA a p xs) := by unfold okA; exact inferInstance
theorem take_app {α : Type} {l x y : List α} : l.take (x.length + y.length) = x ++ y ↔ l.take x.length = x ∧ (l.drop x.length).take y.length = y := by
  rw [List.take_add]
  constructor
  · intro h
    have hl := congrArg List.length h
    simp only [List.length_append, List.length_take, List.length_drop] at hl
    exact List.append_inj h (by rw [List.length_take]; omega)
  · rintro ⟨h1, h2⟩
    rw [h1, h2]
theorem okA_app {a : List (List UInt8)} {p : Nat} {x y : List (List UInt8)} : okA a p (x ++ y) ↔ okA a p x ∧ okA a (p + x.length) y := by
  unfold okA
  rw [List.length_append, take_app, List.drop_drop]
theorem okA_nil (a : List (List UInt8)) (p : Nat) : okA a p [] := by simp [okA]
theorem okA_len {a : List (List UInt8)} {p : Nat} {xs : List (List UInt8)} (h : okA a p xs) : xs = [] ∨ p + xs.length ≤ a.length := by
  have hl := congrArg List.length h
  simp only [List.length_take, List.length_drop] at hl
  rcases xs with _ | ⟨x, r⟩
  · exact .inl rfl
  · refine .inr ?_
    simp only [List.length_cons] at *
    omega
/-- One hunk done: an error, or the place behind it and what has come out. -/
def stepA (a : List (List UInt8)) (h : HkD) (p : Nat) (out : List (List UInt8)) : Except Nat (Nat × List (List UInt8)) :=
  if h.a < p then .error 18
  else if h.a ≤ a.length ∧ h.b = out.length + (h.a - p) ∧ okA a h.a (oldL h.eds h.ls) then .ok (h.a + (oldL h.eds h.ls).length, out ++ (a.drop p).take (h.a - p) ++ newL h.eds h.ls)
  else .error 28
def applyL (a : List (List UInt8)) : List HkD → Nat → List (List UInt8) → Except Nat (List (List UInt8))
  | [], p, out => .ok (out ++ a.drop p)
  | h :: hs, p, out => match stepA a h p out with
    | .error e => .error e
    | .ok x => applyL a hs x.1 x.2
def applyP (a : List (List UInt8)) (l : List HkI) : Except Nat (List (List UInt8)) := if l.all okH = true then applyL a (l.map HkI.toD) 0 [] else .error 1
theorem newL_len : ∀ (es : List EdD) (ls : List (List UInt8)), (newL es ls).length ≤ ls.length
  | [], ls => by simp [newL]
  | e :: es, ls => by
    have h := newL_len es (ls.drop e.n)
    rw [newL, List.length_append]
    rw [List.length_drop] at h
    split
    · simp only [List.length_nil]; omega
    · rw [List.length_take]; omega
theorem oldL_len : ∀ (es : List EdD) (ls : List (List UInt8)), (oldL es ls).length ≤ ls.length
  | [], ls => by simp [oldL]
  | e :: es, ls => by
    have h := oldL_len es (ls.drop e.n)
    rw [oldL, List.length_append]
    rw [List.length_drop] at h
    split
    · simp only [List.length_nil]; omega
    · rw [List.length_take]; omega
theorem cnt_sides {len : Nat} : ∀ {l : List EdI} {p : Option Int} {c c' : Cnt} {ls : List (List UInt8)}, edsP len p c l = some c' → c.all + ls.length = len → c'.k + c'.d = c.k + c.d + (oldL (l.map EdI.toD) ls).length ∧ c'.k + c'.n = c.k + c.n + (newL (l.map EdI.toD) ls).length
  | [], _, c, c', ls, h, _ => by
    unfold edsP at h
    injection h with h
    subst h
    simp [oldL, newL]
  | e :: l, p, c, c', ls, h, hc => by
    unfold edsP at h
    split at h
    · cases h
    next hb =>
      simp only [Bool.not_eq_true] at hb
      obtain ⟨h1, h2, h3, h4, _⟩ := badE_false hb
      obtain ⟨n, hn⟩ : ∃ n : Nat, e.n = (n : Int) := ⟨e.n.toNat, by omega⟩
      have ha : (addE c e).all = c.all + e.n.toNat := addE_all
      have hnt : e.n.toNat = n := by omega
      obtain ⟨q1, q2⟩ := cnt_sides (ls := ls.drop n) h (by rw [ha, List.length_drop]; omega)
      have ht : (EdI.toD e).n = n := hnt
      rw [List.map_cons, oldL, newL, List.length_append, List.length_append, ht]
      have hlt : (ls.take n).length = n := by rw [List.length_take]; omega
      have hop : e.op = 0 ∨ e.op = 1 ∨ e.op = 2 := by omega
      rcases hop with q | q | q
      · have ho : (EdI.toD e).op = 0 := by simp [EdI.toD, q]
        have had : addE c e = ⟨c.k + n, c.d, c.n⟩ := by unfold addE; simp [q, hnt]
        rw [ho, if_neg (by decide), if_neg (by decide), hlt]
        rw [had] at q1 q2
        simp only at q1 q2
        omega
      · have ho : (EdI.toD e).op = 1 := by simp [EdI.toD, q]
        have had : addE c e = ⟨c.k, c.d + n, c.n⟩ := by unfold addE; simp [q, hnt]
        rw [ho, if_neg (by decide), if_pos rfl, hlt]
        rw [had] at q1 q2
        simp only [List.length_nil] at q1 q2 ⊢
        omega
      · have ho : (EdI.toD e).op = 2 := by simp [EdI.toD, q]
        have had : addE c e = ⟨c.k, c.d, c.n + n⟩ := by unfold addE; simp [q, hnt]
        rw [ho, if_pos rfl, if_neg (by decide), hlt]
        rw [had] at q1 q2
        simp only [List.length_nil] at q1 q2 ⊢
        omega
theorem sides_of {h : HkI} {t : Cnt} (hm : mayP h = some t) : t.k + t.d = (oldL h.toD.eds h.toD.ls).length ∧ t.k + t.n = (newL h.toD.eds h.toD.ls).length := by
  obtain ⟨h1, _⟩ := mayP_eds hm
  have := cnt_sides (ls := h.ls) h1 (by simp [cnt0, Cnt.all])
  simpa [cnt0, HkI.toD] using this
end Go.Proofs.YtlcidbbpjlpmjaaDoor
