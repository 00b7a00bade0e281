/-
  Plain law: scripts as runs; a script does not hang on the names of the lines; hunks step by step, as the program and as the reference make them: the same. No statement of the seat is proved here.
-/
import Derived.Test.YtlcidbbpjlpmjaaDoorQd1
namespace Go.Proofs.YtlcidbbpjlpmjaaDoor

section
variable {α β : Type} [DecidableEq α] [DecidableEq β]
theorem lcs_map (f : α → β) : ∀ (n : Nat) (l m : List α), l.length + m.length ≤ n → (∀ x ∈ l, ∀ y ∈ m, f x = f y → x = y) → lcs (l.map f) (m.map f) = lcs l m
  | 0, l, m, h, _ => by
    have h1 : l = [] := List.eq_nil_of_length_eq_zero (by omega)
    subst h1
    simp [lcs_nil_left]
  | n + 1, [], m, _, _ => by simp [lcs_nil_left]
  | n + 1, x :: l, [], _, _ => by simp [lcs_nil_right]
  | n + 1, x :: l, y :: m, h, hi => by
    simp only [List.length_cons] at h
    have e1 := lcs_map f n l m (by omega) (fun a ha b hb => hi a (by simp [ha]) b (by simp [hb]))
    have e2 := lcs_map f n l (y :: m) (by simp; omega) (fun a ha b hb => hi a (by simp [ha]) b hb)
    have e3 := lcs_map f n (x :: l) m (by simp; omega) (fun a ha b hb => hi a ha b (by simp [hb]))
    simp only [List.map_cons] at e2 e3 ⊢
    rw [lcs_cons, lcs_cons, e1, e2, e3]
    by_cases hxy : x = y
    · subst hxy; simp
    · have : f x ≠ f y := fun q => hxy (hi x (by simp) y (by simp) q)
      simp [hxy, this]
theorem steps_map (f : α → β) : ∀ (n : Nat) (l m : List α), l.length + m.length ≤ n → (∀ x ∈ l, ∀ y ∈ m, f x = f y → x = y) → steps (l.map f) (m.map f) = steps l m
  | _, [], [], _, _ => by simp [steps]
  | n, [], y :: m, h, hi => by
    have e := steps_map f (n - 1) [] m (by simp at h ⊢; omega) (by simp)
    simp only [List.map_nil, List.map_cons] at e ⊢
    rw [steps, steps, e]
  | n, x :: l, [], h, hi => by
    have e := steps_map f (n - 1) l [] (by simp at h ⊢; omega) (by simp)
    simp only [List.map_nil, List.map_cons] at e ⊢
    rw [steps, steps, e]
  | n, x :: l, y :: m, h, hi => by
    simp only [List.length_cons] at h
    have e1 := steps_map f (n - 1) l m (by omega) (fun a ha b hb => hi a (by simp [ha]) b (by simp [hb]))
    have e2 := steps_map f (n - 1) l (y :: m) (by simp; omega) (fun a ha b hb => hi a (by simp [ha]) b hb)
    have e3 := steps_map f (n - 1) (x :: l) m (by simp; omega) (fun a ha b hb => hi a ha b (by simp [hb]))
    have l2 := lcs_map f _ l (y :: m) (Nat.le_refl _) (fun a ha b hb => hi a (by simp [ha]) b hb)
    have l3 := lcs_map f _ (x :: l) (y :: m) (Nat.le_refl _) hi
    simp only [List.map_cons] at e2 e3 l2 l3 ⊢
    rw [steps, steps, e1, e2, e3, l2, l3]
    by_cases hxy : x = y
    · subst hxy; simp
    · have : f x ≠ f y := fun q => hxy (hi x (by simp) y (by simp) q)
      simp [hxy, this]
termination_by n => n
decreasing_by all_goals (simp at h; omega)
end

structure EdD where
  op : Nat
  n : Nat
/-- A step put behind a script. -/
def addP : List EdD → Nat → List EdD
  | [], op => [⟨op, 1⟩]
  | [e], op => if e.op = op then [⟨e.op, e.n + 1⟩] else [e, ⟨op, 1⟩]
  | e :: f :: l, op => e :: addP (f :: l) op
theorem addP_snoc (l : List EdD) (e : EdD) (op : Nat) : addP (l ++ [e]) op = if e.op = op then l ++ [⟨e.op, e.n + 1⟩] else l ++ [e] ++ [⟨op, 1⟩] := by
  induction l with
  | nil => simp [addP]
  | cons x l ih =>
    cases l with
    | nil =>
      simp only [List.cons_append, List.nil_append, addP]
      split <;> rfl
    | cons y l =>
      simp only [List.cons_append, addP] at ih ⊢
      rw [ih]
      split <;> simp
/-- Steps as a script. -/
def script (s : List Nat) : List EdD := s.foldl addP []
theorem script_snoc (s : List Nat) (op : Nat) : script (s ++ [op]) = addP (script s) op := by simp [script, List.foldl_append]

/-! ### What a script of steps is -/
/-- How many lines of the first side a script takes, and of the second. -/
def fromA (l : List EdD) : Nat := (l.map fun e => if e.op = 2 then 0 else e.n).sum
def fromB (l : List EdD) : Nat := (l.map fun e => if e.op = 1 then 0 else e.n).sum
/-- No two neighbours alike; each run has a line; ops up to 2. -/
def altern : List EdD → Prop
  | [] => True
  | [e] => 1 ≤ e.n ∧ e.op ≤ 2
  | e :: f :: l => 1 ≤ e.n ∧ e.op ≤ 2 ∧ e.op ≠ f.op ∧ altern (f :: l)
theorem fromA_app (l m : List EdD) : fromA (l ++ m) = fromA l + fromA m := by simp [fromA]
theorem fromB_app (l m : List EdD) : fromB (l ++ m) = fromB l + fromB m := by simp [fromB]
theorem fromA_add (l : List EdD) (op : Nat) : fromA (addP l op) = fromA l + if op = 2 then 0 else 1 := by
  rcases List.eq_nil_or_concat l with rfl | ⟨l', e, rfl⟩
  · simp [addP, fromA]
  · rw [List.concat_eq_append, addP_snoc]
    split
    · rename_i h
      subst h
      rw [fromA_app, fromA_app]
      simp only [fromA, List.map_cons, List.map_nil, List.sum_cons, List.sum_nil]
      split <;> omega
    · rw [fromA_app]
      simp [fromA]
theorem fromB_add (l : List EdD) (op : Nat) : fromB (addP l op) = fromB l + if op = 1 then 0 else 1 := by
  rcases List.eq_nil_or_concat l with rfl | ⟨l', e, rfl⟩
  · simp [addP, fromB]
  · rw [List.concat_eq_append, addP_snoc]
    split
    · rename_i h
      subst h
      rw [fromB_app, fromB_app]
      simp only [fromB, List.map_cons, List.map_nil, List.sum_cons, List.sum_nil]
      split <;> omega
    · rw [fromB_app]
      simp [fromB]
theorem altern_snoc (l : List EdD) (e f : EdD) (h : altern (l ++ [e])) (hf : 1 ≤ f.n ∧ f.op ≤ 2) : (e.op = f.op → altern (l ++ [f])) ∧ (e.op ≠ f.op → altern (l ++ [e] ++ [f])) := by
  induction l with
  | nil =>
    simp only [List.nil_append, altern, List.cons_append] at h ⊢
    exact ⟨fun _ => hf, fun q => ⟨h.1, h.2, q, hf⟩⟩
  | cons x l ih =>
    cases l with
    | nil =>
      simp only [List.nil_append, List.cons_append, altern] at h ih ⊢
      exact ⟨fun q => ⟨h.1, h.2.1, q ▸ h.2.2.1, hf⟩, fun q => ⟨h.1, h.2.1, h.2.2.1, h.2.2.2.1, h.2.2.2.2, q, hf⟩⟩
    | cons y l =>
      simp only [List.cons_append, altern] at h ih ⊢
      have ih := ih h.2.2.2
      exact ⟨fun q => ⟨h.1, h.2.1, h.2.2.1, ih.1 q⟩, fun q => ⟨h.1, h.2.1, h.2.2.1, ih.2 q⟩⟩
theorem altern_add (l : List EdD) (op : Nat) (h : altern l) (ho : op ≤ 2) : altern (addP l op) := by
  rcases List.eq_nil_or_concat l with rfl | ⟨l', e, rfl⟩
  · simp only [addP, altern]
    exact ⟨Nat.le_refl _, ho⟩
  · rw [List.concat_eq_append] at h ⊢
    rw [addP_snoc]
    split
    · rename_i q
      exact (altern_snoc l' e ⟨e.op, e.n + 1⟩ h ⟨by simp, by rw [q]; exact ho⟩).1 rfl
    · rename_i q
      exact (altern_snoc l' e ⟨op, 1⟩ h ⟨by simp, ho⟩).2 q
theorem addP_len (l : List EdD) (op : Nat) : (addP l op).length ≤ l.length + 1 := by
  rcases List.eq_nil_or_concat l with rfl | ⟨l', e, rfl⟩
  · simp [addP]
  · rw [List.concat_eq_append, addP_snoc]
    split <;> simp
theorem script_of (s : List Nat) (hs : ∀ x ∈ s, x ≤ 2) : altern (script s) ∧ fromA (script s) = (s.filter (· ≠ 2)).length ∧ fromB (script s) = (s.filter (· ≠ 1)).length ∧ (script s).length ≤ s.length := by
  rcases List.eq_nil_or_concat s with rfl | ⟨s', x, rfl⟩
  · exact ⟨trivial, rfl, rfl, Nat.le_refl _⟩
  · rw [List.concat_eq_append] at hs ⊢
    have ih := script_of s' (fun y hy => hs y (by simp [hy]))
    have hx := hs x (by simp)
    have hl := addP_len (script s') x
    rw [script_snoc]
    refine ⟨altern_add _ _ ih.1 hx, ?_, ?_, by simp; omega⟩
    · rw [fromA_add, ih.2.1, List.filter_append, List.length_append]
      by_cases q : x = 2 <;> simp [q]
    · rw [fromB_add, ih.2.2.1, List.filter_append, List.length_append]
      by_cases q : x = 1 <;> simp [q]
termination_by s.length
decreasing_by subst_vars; simp
section
variable {α : Type} [DecidableEq α]
theorem steps_of : ∀ (n : Nat) (l m : List α), l.length + m.length ≤ n → (∀ x ∈ steps l m, x ≤ 2) ∧ ((steps l m).filter (· ≠ 2)).length = l.length ∧ ((steps l m).filter (· ≠ 1)).length = m.length ∧ (steps l m).length ≤ l.length + m.length
  | _, [], [], _ => by simp [steps]
  | n, [], y :: m, h => by
    have e := steps_of (n - 1) ([] : List α) m (by simp at h ⊢; omega)
    rw [steps]
    simp at e h ⊢
    exact ⟨e.1, e.2.1, e.2.2.1, e.2.2.2⟩
  | n, x :: l, [], h => by
    have e := steps_of (n - 1) l ([] : List α) (by simp at h ⊢; omega)
    rw [steps]
    simp at e h ⊢
    exact ⟨e.1, e.2.1, e.2.2.1, e.2.2.2⟩
  | n, x :: l, y :: m, h => by
    simp only [List.length_cons] at h
    have e1 := steps_of (n - 1) l m (by omega)
    have e2 := steps_of (n - 1) l (y :: m) (by simp; omega)
    have e3 := steps_of (n - 1) (x :: l) m (by simp; omega)
    rw [steps]
    simp at e1 e2 e3
    split
    · simp
      exact ⟨e1.1, e1.2.1, e1.2.2.1, by omega⟩
    · split
      · simp
        exact ⟨e2.1, e2.2.1, e2.2.2.1, by omega⟩
      · simp
        exact ⟨e3.1, e3.2.1, e3.2.2.1, by omega⟩
termination_by n => n
decreasing_by all_goals (simp at h; omega)
/-- The script that leads from lines to other ones. -/
def diffP (a b : List α) : List EdD := script (steps a b)
theorem diffP_of (a b : List α) : altern (diffP a b) ∧ fromA (diffP a b) = a.length ∧ fromB (diffP a b) = b.length ∧ (diffP a b).length ≤ a.length + b.length := by
  have h1 := steps_of _ a b (Nat.le_refl _)
  have h2 := script_of (steps a b) h1.1
  exact ⟨h2.1, h2.2.1.trans h1.2.1, h2.2.2.1.trans h1.2.2.1, Nat.le_trans h2.2.2.2 h1.2.2.2⟩
end

/-! ### Hunks -/
structure HkD where
  a : Nat
  b : Nat
  eds : List EdD
  ls : List (List UInt8)
/-- Lines put into a hunk. -/
def putH (h : HkD) (op : Nat) (l : List (List UInt8)) : HkD := if l = [] then h else ⟨h.a, h.b, h.eds ++ [⟨op, l.length⟩], h.ls ++ l⟩
/-- .. into the last one. -/
def putL : List HkD → Nat → List (List UInt8) → List HkD
  | [], _, _ => []
  | [h], op, l => [putH h op l]
  | h :: k :: r, op, l => h :: putL (k :: r) op l
theorem putL_snoc (r : List HkD) (h : HkD) (op : Nat) (l : List (List UInt8)) : putL (r ++ [h]) op l = r ++ [putH h op l] := by
  induction r with
  | nil => rfl
  | cons x r ih =>
    cases r with
    | nil => rfl
    | cons y r =>
      simp only [List.cons_append, putL] at ih ⊢
      rw [ih]
structure CutD where
  i : Nat
  j : Nat
  out : List HkD
  opn : Bool
  uns : Nat
section
variable (a b : List (List UInt8)) (around : Nat)
def beginP (c : CutD) : CutD := if c.opn = true then c else ⟨c.i, c.j, c.out ++ [putH ⟨c.i - min around c.uns, c.j - min around c.uns, [], []⟩ 0 ((a.drop (c.i - min around c.uns)).take (min around c.uns))], true, c.uns⟩
def editP (c : CutD) (e : EdD) (last : Bool) : CutD :=
  if e.op = 0 then
    if c.opn = true ∧ last = false ∧ e.n ≤ 2 * around then ⟨c.i + e.n, c.j + e.n, putL c.out 0 ((a.drop c.i).take e.n), true, e.n⟩
    else if c.opn = true then ⟨c.i + e.n, c.j + e.n, putL c.out 0 ((a.drop c.i).take (min around e.n)), false, e.n⟩
    else ⟨c.i + e.n, c.j + e.n, c.out, false, e.n⟩
  else if e.op = 1 then ⟨c.i + e.n, c.j, putL (beginP a around c).out 1 ((a.drop c.i).take e.n), true, c.uns⟩
  else ⟨c.i, c.j + e.n, putL (beginP a around c).out 2 ((b.drop c.j).take e.n), true, c.uns⟩
def editsP (c : CutD) : List EdD → CutD
  | [] => c
  | e :: l => editsP (editP a b around c e l.isEmpty) l
/-- The hunks. -/
def hunksP : List HkD := (editsP a b around ⟨0, 0, [], false, 0⟩ (diffP a b)).out

/-! ### As the reference makes them -/
structure RefD where
  i : Nat
  j : Nat
  out : List HkD
  opn : Bool
def refP (c : RefD) (e : EdD) (more : Bool) : RefD :=
  if e.op = 0 then
    if c.opn = true ∧ more = true ∧ e.n ≤ 2 * around then ⟨c.i + e.n, c.j + e.n, putL c.out 0 ((a.drop c.i).take e.n), true⟩
    else
      ⟨c.i + e.n, c.j + e.n, (if c.opn = true then putL c.out 0 ((a.drop c.i).take (min around e.n)) else c.out) ++
        (if more = true then [putH ⟨c.i + e.n - min around e.n, c.j + e.n - min around e.n, [], []⟩ 0 ((a.drop (c.i + e.n - min around e.n)).take (min around e.n))] else []), more⟩
  else if e.op = 1 then ⟨c.i + e.n, c.j, putL (if c.opn = true then c.out else c.out ++ [⟨c.i, c.j, [], []⟩]) 1 ((a.drop c.i).take e.n), true⟩
  else ⟨c.i, c.j + e.n, putL (if c.opn = true then c.out else c.out ++ [⟨c.i, c.j, [], []⟩]) 2 ((b.drop c.j).take e.n), true⟩
def refsP (c : RefD) : List EdD → RefD
  | [] => c
  | e :: l => refsP (refP a b around c e (!l.isEmpty)) l

/-- The two stand alike: the same places, and .. -/
def Alike (c : CutD) (r : RefD) : Prop := c.i = r.i ∧ c.j = r.j ∧ ((c.opn = true ∧ r.opn = true ∧ c.out = r.out) ∨ (c.opn = false ∧ r.opn = true ∧ r.out = (beginP a around c).out) ∨ (c.opn = false ∧ r.opn = false ∧ c.out = r.out ∧ c.uns = 0))
theorem alike_go : ∀ (l : List EdD) (c : CutD) (r : RefD), Alike a around c r → altern l → (∀ e, l.head? = some e → e.op = 0 → c.opn = false → r.opn = true → False) → (l = [] → c.out = r.out) → (editsP a b around c l).out = (refsP a b around r l).out
  | [], c, r, _, _, _, hx => hx rfl
  | e :: l, c, r, h, ha, hk, _ => by
    obtain ⟨hi, hj, h3⟩ := h
    have hal : altern l := by
      cases l with
      | nil => trivial
      | cons f l => exact ha.2.2.2
    have hen : 1 ≤ e.n := by
      cases l with
      | nil => exact ha.1
      | cons f l => exact ha.1
    have hnx : e.op = 0 → ∀ f, l.head? = some f → f.op = 0 → False := by
      intro q f hf q2
      cases l with
      | nil => cases hf
      | cons g l =>
        injection hf with hf
        subst hf
        exact ha.2.2.1 (q.trans q2.symm)
    rw [editsP, refsP]
    by_cases h0 : e.op = 0
    · have hk' : c.opn = false → r.opn = true → False := hk e rfl h0
      by_cases ho : c.opn = true
      · obtain ⟨hro, hout⟩ : r.opn = true ∧ c.out = r.out := by
          rcases h3 with q | q | q
          · exact q.2
          · rw [ho] at q; exact absurd q.1 (by simp)
          · rw [ho] at q; exact absurd q.1 (by simp)
        cases hl : l with
        | nil => simp [editP, refP, h0, ho, hro, hout, hi, editsP, refsP]
        | cons f l' =>
          rw [← hl]
          have hle : l.isEmpty = false := by rw [hl]; rfl
          by_cases hb : e.n ≤ 2 * around
          · refine alike_go l _ _ ?_ hal ?_ ?_
            · simp [editP, refP, h0, ho, hro, hout, hi, hj, hle, hb, Alike]
            · intro g hg q q1
              simp [editP, h0, ho, hle, hb] at q1
            · intro q; rw [hl] at q; cases q
          · refine alike_go l _ _ ?_ hal ?_ ?_
            · simp [editP, refP, h0, ho, hro, hout, hi, hj, hle, hb, Alike, beginP]
            · intro g hg q
              exact absurd q (fun q => hnx h0 g hg q)
            · intro q; rw [hl] at q; cases q
      · have ho' : c.opn = false := by simpa using ho
        obtain ⟨hro, hout, hu⟩ : r.opn = false ∧ c.out = r.out ∧ c.uns = 0 := by
          rcases h3 with q | q | q
          · exact absurd q.1 ho
          · exact absurd q.2.1 (fun q1 => hk' ho' q1)
          · exact q.2
        cases hl : l with
        | nil => simp [editP, refP, h0, ho', hro, hout, editsP, refsP]
        | cons f l' =>
          rw [← hl]
          have hle : l.isEmpty = false := by rw [hl]; rfl
          refine alike_go l _ _ ?_ hal ?_ ?_
          · simp [editP, refP, h0, ho', hro, hout, hi, hj, hle, Alike, beginP]
          · intro g hg q
            exact absurd q (fun q => hnx h0 g hg q)
          · intro q; rw [hl] at q; cases q
    · have hbeg : (beginP a around c).out = if r.opn = true then r.out else r.out ++ [⟨r.i, r.j, [], []⟩] := by
        rcases h3 with q | q | q
        · simp [beginP, q.1, q.2.1, q.2.2]
        · simp [q.2.1, q.2.2]
        · simp [beginP, q.1, q.2.1, q.2.2.1, q.2.2.2, hi, hj, putH]
      by_cases h1 : e.op = 1
      · refine alike_go l _ _ ?_ hal ?_ ?_
        · simp [editP, refP, h1, hi, hj, Alike, hbeg]
        · intro g hg q q1
          simp [editP, h1] at q1
        · intro q; simp [editP, refP, h1, hi, hbeg]
      · refine alike_go l _ _ ?_ hal ?_ ?_
        · simp [editP, refP, h0, h1, hi, hj, Alike, hbeg]
        · intro g hg q q1
          simp [editP, h0, h1] at q1
        · intro q; simp [editP, refP, h0, h1, hj, hbeg]
theorem hunks_ref : hunksP a b around = (refsP a b around ⟨0, 0, [], false⟩ (diffP a b)).out :=
  alike_go a b around _ _ _ ⟨rfl, rfl, .inr (.inr ⟨rfl, rfl, rfl, rfl⟩)⟩ (diffP_of a b).1 (fun _ _ _ _ q => by cases q) (fun _ => rfl)
end
end Go.Proofs.YtlcidbbpjlpmjaaDoor
