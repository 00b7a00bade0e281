/-
  PatchBack: the walk of the law, its row, its card (second form).
  Joined of: Ka, Na, Nb, Kb, Kc, Ng, Nd, Pj, Kd, Tf, Te, Rk, Pi, Pf, Nw, By, Laid, Laid5, LawPk.
-/
import Derived.Test.YtlcidbbpjlpmjaaDoorQd2
import Derived.Test.YtlcidbbpjlpmjaaDoorRn
import Derived.Test.YtlcidbbpjlpmjaaDoorRb
import Derived.Test.YtlcidbbpjlpmjaaDoorRj
import Derived.Test.YtlcidbbpjlpmjaaDoorPb
import Derived.Test.YtlcidbbpjlpmjaaDoorRg
import Derived.Test.YtlcidbbpjlpmjaaDoorRm
import Derived.Test.YtlcidbbpjlpmjaaDoorPc
import Derived.Test.YtlcidbbpjlpmjaaDoorTd
import Derived.Test.YtlcidbbpjlpmjaaDoorQl
import Derived.Test.YtlcidbbpjlpmjaaDoorQw
import Derived.Lib.ItoaLen
import Derived.Test.YtlcidbbpjlpmjaaDoorRl
import Derived.Test.YtlcidbbpjlpmjaaDoorOwn
import Derived.Lib.SmallJoins
import Derived.Lib.AtoiErrMem
import Derived.Test.YtlcidbbpjlpmjaaDoorRows
import Derived.LaidMore
import Derived.LaidSub
import Derived.Lib.LaidTab
import Derived.Lib.ItoaNum
import Derived.ProofKit
import Derived.OpenShut
import Derived.Deep.DeepHandedRow
import Derived.Test.YtlcidbbpjlpmjaaDoorPd
import Derived.Stop.LaidErr
import Derived.Shelf.Vars
import Derived.Test.YtlcidbbpjlpmjaaDoorRp
import Derived.Test.YtlcidbbpjlpmjaaDoorRf
import Derived.Test.YtlcidbbpjlpmjaaDoorPe
import Derived.Test.YtlcidbbpjlpmjaaDoorCards
import Derived.Test.YtlcidbbpjlpmjaaDoorTie
import Derived.SevenTiedAt
import Derived.BigRegion
namespace Go.Proofs.YtlcidbbpjlpmjaaDoor

section
variable {α : Type} [DecidableEq α]
theorem steps_follow : ∀ (n : Nat) (l m : List α), l.length + m.length ≤ n → ∀ pre suf, steps l m = pre ++ 0 :: suf → l[(pre.filter (· ≠ 2)).length]? = m[(pre.filter (· ≠ 1)).length]?
  | _, [], [], _, pre, suf, h => by simp [steps] at h
  | n, [], y :: m, hn, pre, suf, h => by
    rw [steps] at h
    cases pre with
    | nil => simp at h
    | cons p pre =>
      simp only [List.cons_append, List.cons.injEq] at h
      obtain ⟨rfl, h⟩ := h
      have e := steps_follow (n - 1) [] m (by simp at hn ⊢; omega) pre suf h
      simpa using e
  | n, x :: l, [], hn, pre, suf, h => by
    rw [steps] at h
    cases pre with
    | nil => simp at h
    | cons p pre =>
      simp only [List.cons_append, List.cons.injEq] at h
      obtain ⟨rfl, h⟩ := h
      have e := steps_follow (n - 1) l [] (by simp at hn ⊢; omega) pre suf h
      simpa using e
  | n, x :: l, y :: m, hn, pre, suf, h => by
    simp only [List.length_cons] at hn
    rw [steps] at h
    split at h
    · rename_i hxy
      subst hxy
      cases pre with
      | nil => simp
      | cons p pre =>
        simp only [List.cons_append, List.cons.injEq] at h
        obtain ⟨rfl, h⟩ := h
        have e := steps_follow (n - 1) l m (by omega) pre suf h
        simpa using e
    · split at h
      · cases pre with
        | nil => simp at h
        | cons p pre =>
          simp only [List.cons_append, List.cons.injEq] at h
          obtain ⟨rfl, h⟩ := h
          have e := steps_follow (n - 1) l (y :: m) (by simp; omega) pre suf h
          simpa using e
      · cases pre with
        | nil => simp at h
        | cons p pre =>
          simp only [List.cons_append, List.cons.injEq] at h
          obtain ⟨rfl, h⟩ := h
          have e := steps_follow (n - 1) (x :: l) m (by simp; omega) pre suf h
          simpa using e
termination_by n => n
decreasing_by all_goals (simp at hn; omega)
theorem steps_one {x : α} {l m : List α} (h : lcs l m < lcs (x :: l) m) (suf : List Nat) : steps (x :: l) m ≠ 1 :: suf := by
  intro q
  cases m with
  | nil => rw [lcs_nil_right, lcs_nil_right] at h; omega
  | cons y m =>
    rw [steps] at q
    split at q
    · simp at q
    · rw [if_neg (by omega)] at q
      simp at q
theorem steps_no21 : ∀ (n : Nat) (l m : List α), l.length + m.length ≤ n → ∀ pre suf, steps l m ≠ pre ++ 2 :: 1 :: suf
  | _, [], [], _, pre, suf => by simp [steps]
  | n, [], y :: m, hn, pre, suf => by
    intro h
    rw [steps] at h
    cases pre with
    | nil =>
      simp only [List.nil_append, List.cons.injEq, true_and] at h
      cases m with
      | nil => simp [steps] at h
      | cons z m => simp [steps] at h
    | cons p pre =>
      simp only [List.cons_append, List.cons.injEq] at h
      exact steps_no21 (n - 1) [] m (by simp at hn ⊢; omega) pre suf h.2
  | n, x :: l, [], hn, pre, suf => by
    intro h
    rw [steps] at h
    cases pre with
    | nil => simp at h
    | cons p pre =>
      simp only [List.cons_append, List.cons.injEq] at h
      exact steps_no21 (n - 1) l [] (by simp at hn ⊢; omega) pre suf h.2
  | n, x :: l, y :: m, hn, pre, suf => by
    intro h
    simp only [List.length_cons] at hn
    rw [steps] at h
    split at h
    · cases pre with
      | nil => simp at h
      | cons p pre =>
        simp only [List.cons_append, List.cons.injEq] at h
        exact steps_no21 (n - 1) l m (by omega) pre suf h.2
    · rename_i hxy
      split at h
      · cases pre with
        | nil => simp at h
        | cons p pre =>
          simp only [List.cons_append, List.cons.injEq] at h
          exact steps_no21 (n - 1) l (y :: m) (by simp; omega) pre suf h.2
      · rename_i hne
        cases pre with
        | nil =>
          simp only [List.nil_append, List.cons.injEq, true_and] at h
          refine steps_one ?_ suf h
          have h1 := lcs_left l (y :: m) x
          have h2 := lcs_right l m y
          have h3 := lcs_cons x y l m
          rw [if_neg hxy] at h3
          omega
        | cons p pre =>
          simp only [List.cons_append, List.cons.injEq] at h
          exact steps_no21 (n - 1) (x :: l) m (by simp; omega) pre suf h.2
termination_by n => n
decreasing_by all_goals (simp at hn; omega)
end

/-- As altern, and no insertion ahead of a deletion. -/
def canE : List EdD → Prop
  | [] => True
  | [e] => 1 ≤ e.n ∧ e.op ≤ 2
  | e :: f :: l => 1 ≤ e.n ∧ e.op ≤ 2 ∧ e.op ≠ f.op ∧ ¬ (e.op = 2 ∧ f.op = 1) ∧ canE (f :: l)
theorem canE.altern : ∀ {l : List EdD}, canE l → altern l
  | [], _ => trivial
  | [_], h => h
  | _ :: _ :: _, h => ⟨h.1, h.2.1, h.2.2.1, canE.altern h.2.2.2.2⟩
theorem canE.head {e : EdD} : ∀ {l : List EdD}, canE (e :: l) → 1 ≤ e.n ∧ e.op ≤ 2
  | [], h => h
  | _ :: _, h => ⟨h.1, h.2.1⟩
theorem canE.tail {e : EdD} : ∀ {l : List EdD}, canE (e :: l) → canE l
  | [], _ => trivial
  | _ :: _, h => h.2.2.2.2
theorem canE.next {e : EdD} : ∀ {l : List EdD}, canE (e :: l) → ∀ f, l.head? = some f → e.op ≠ f.op ∧ ¬ (e.op = 2 ∧ f.op = 1)
  | [], _, _, h => by cases h
  | g :: l, h, f, hf => by
    injection hf with hf
    subst hf
    exact ⟨h.2.2.1, h.2.2.2.1⟩
theorem canE_cons {e : EdD} {l : List EdD} (h1 : 1 ≤ e.n ∧ e.op ≤ 2) (h2 : canE l) (h3 : ∀ f, l.head? = some f → e.op ≠ f.op ∧ ¬ (e.op = 2 ∧ f.op = 1)) : canE (e :: l) := by
  cases l with
  | nil => exact h1
  | cons f l => exact ⟨h1.1, h1.2, (h3 f rfl).1, (h3 f rfl).2, h2⟩
theorem canE_snoc (l : List EdD) (e f : EdD) (h : canE (l ++ [e])) (hf : 1 ≤ f.n ∧ f.op ≤ 2) : (e.op = f.op → canE (l ++ [f])) ∧ (e.op ≠ f.op → ¬ (e.op = 2 ∧ f.op = 1) → canE (l ++ [e] ++ [f])) := by
  induction l with
  | nil =>
    simp only [List.nil_append, canE, List.cons_append] at h ⊢
    exact ⟨fun _ => hf, fun q q2 => ⟨h.1, h.2, q, q2, hf⟩⟩
  | cons x l ih =>
    cases l with
    | nil =>
      simp only [List.nil_append, List.cons_append, canE] at h ih ⊢
      exact ⟨fun q => ⟨h.1, h.2.1, q ▸ h.2.2.1, q ▸ h.2.2.2.1, hf⟩, fun q q2 => ⟨h.1, h.2.1, h.2.2.1, h.2.2.2.1, h.2.2.2.2.1, h.2.2.2.2.2, q, q2, hf⟩⟩
    | cons y l =>
      simp only [List.cons_append, canE] at h ih ⊢
      have ih := ih h.2.2.2.2
      exact ⟨fun q => ⟨h.1, h.2.1, h.2.2.1, h.2.2.2.1, ih.1 q⟩, fun q q2 => ⟨h.1, h.2.1, h.2.2.1, h.2.2.2.1, ih.2 q q2⟩⟩
section
variable {α : Type} [DecidableEq α]
/-- A script's kept runs stand in both texts. -/
def followP (a b : List α) : Nat → Nat → List EdD → Prop
  | _, _, [] => True
  | i, j, e :: l => (e.op = 0 → (a.drop i).take e.n = (b.drop j).take e.n) ∧ followP a b (i + if e.op = 2 then 0 else e.n) (j + if e.op = 1 then 0 else e.n) l
omit [DecidableEq α] in
theorem followP_snoc (a b : List α) (e : EdD) : ∀ (l : List EdD) (i j : Nat), followP a b i j (l ++ [e]) ↔ followP a b i j l ∧ (e.op = 0 → (a.drop (i + fromA l)).take e.n = (b.drop (j + fromB l)).take e.n)
  | [], i, j => by simp [followP, fromA, fromB]
  | f :: l, i, j => by
    have ih := followP_snoc a b e l (i + if f.op = 2 then 0 else f.n) (j + if f.op = 1 then 0 else f.n)
    have e1 : fromA (f :: l) = (if f.op = 2 then 0 else f.n) + fromA l := by simp [fromA]
    have e2 : fromB (f :: l) = (if f.op = 1 then 0 else f.n) + fromB l := by simp [fromB]
    rw [List.cons_append, followP, followP, ih, e1, e2, and_assoc, Nat.add_assoc, Nat.add_assoc]
omit [DecidableEq α] in
theorem script_can (a b : List α) (s : List Nat) (hs : ∀ x ∈ s, x ≤ 2) (hf : ∀ pre suf, s = pre ++ 0 :: suf → a[(pre.filter (· ≠ 2)).length]? = b[(pre.filter (· ≠ 1)).length]?) (hn : ∀ pre suf, s ≠ pre ++ 2 :: 1 :: suf) :
    followP a b 0 0 (script s) ∧ canE (script s) ∧ (script s).getLast?.map EdD.op = s.getLast? := by
  rcases List.eq_nil_or_concat s with rfl | ⟨s', x, rfl⟩
  · exact ⟨trivial, trivial, rfl⟩
  · rw [List.concat_eq_append] at hs hf hn ⊢
    obtain ⟨i1, i2, i3⟩ := script_can a b s' (fun y hy => hs y (by simp [hy])) (fun pre suf h => hf pre (suf ++ [x]) (by rw [h]; simp)) (fun pre suf h => hn pre (suf ++ [x]) (by rw [h]; simp))
    obtain ⟨_, j1, j2, _⟩ := script_of s' (fun y hy => hs y (by simp [hy]))
    have hx := hs x (by simp)
    have h0 : x = 0 → a[fromA (script s')]? = b[fromB (script s')]? := fun q => by
      rw [j1, j2]
      exact hf s' [] (by rw [q])
    rw [script_snoc]
    generalize hS : script s' = S at *
    rcases List.eq_nil_or_concat S with rfl | ⟨S', e, rfl⟩
    · refine ⟨⟨fun q => ?_, trivial⟩, ⟨Nat.le_refl _, hx⟩, by simp [addP]⟩
      have q : x = 0 := q
      have := h0 q
      simp only [fromA, fromB, List.map_nil, List.sum_nil] at this
      simp only [List.drop_zero]
      rw [List.take_add_one, List.take_add_one, this]
      rfl
    · rw [List.concat_eq_append] at i1 i2 i3 h0 ⊢
      rw [addP_snoc]
      rw [followP_snoc] at i1
      have hl : s'.getLast? = some e.op := by rw [← i3]; simp
      split
      · rename_i hop
        refine ⟨(followP_snoc a b _ S' 0 0).2 ⟨i1.1, fun q => ?_⟩, (canE_snoc S' e ⟨e.op, e.n + 1⟩ i2 ⟨by simp, by rw [hop]; exact hx⟩).1 rfl, by simp [hop]⟩
        have q : e.op = 0 := q
        have h1 := i1.2 q
        have h2 := h0 (by omega)
        rw [fromA_app, fromB_app] at h2
        simp only [fromA, fromB, List.map_cons, List.map_nil, List.sum_cons, List.sum_nil, q] at h2
        simp only [Nat.zero_add] at h1 ⊢
        rw [List.take_add_one, List.take_add_one, h1, List.getElem?_drop, List.getElem?_drop]
        congr 2
      · rename_i hop
        refine ⟨(followP_snoc a b _ _ 0 0).2 ⟨(followP_snoc a b _ _ 0 0).2 i1, fun q => ?_⟩, (canE_snoc S' e ⟨x, 1⟩ i2 ⟨by simp, hx⟩).2 hop (fun q => ?_), by simp⟩
        · have q : x = 0 := q
          have h2 := h0 q
          simp only [Nat.zero_add]
          rw [List.take_add_one, List.take_add_one, List.take_zero, List.take_zero, List.getElem?_drop, List.getElem?_drop, Nat.add_zero, Nat.add_zero, h2]
        · obtain ⟨q1, q2⟩ := q
          have q2 : x = 1 := q2
          rcases List.eq_nil_or_concat s' with rfl | ⟨s2, z, rfl⟩
          · simp at hl
          · rw [List.concat_eq_append] at hl hn
            simp at hl
            exact hn s2 [] (by rw [hl, q1, q2]; simp)
termination_by s.length
decreasing_by subst_vars; simp
theorem diffP_can (a b : List α) : followP a b 0 0 (diffP a b) ∧ canE (diffP a b) := by
  have h1 := steps_of _ a b (Nat.le_refl _)
  have h2 := script_can a b (steps a b) h1.1 (fun pre suf h => steps_follow _ a b (Nat.le_refl _) pre suf h) (fun pre suf h => steps_no21 _ a b (Nat.le_refl _) pre suf h)
  exact ⟨h2.1, h2.2.1⟩
end
end Go.Proofs.YtlcidbbpjlpmjaaDoor
namespace Go.Proofs.YtlcidbbpjlpmjaaDoor

section
variable {α : Type} [DecidableEq α]
theorem lcs_skip_left {x : α} {l m : List α} (h : x ∉ m) : lcs (x :: l) m = lcs l m := by
  induction m with
  | nil => simp [lcs_nil_right]
  | cons y m ih =>
    have hxy : x ≠ y := fun q => h (by simp [q])
    rw [lcs_cons, if_neg hxy, ih (fun q => h (by simp [q]))]
    have := lcs_right l m y
    omega
theorem lcs_skip_right {y : α} : ∀ {l m : List α}, y ∉ l → lcs l (y :: m) = lcs l m
  | [], m, _ => by simp [lcs_nil_left]
  | x :: l, m, h => by
    have hxy : ¬ x = y := fun q => h (by simp [q])
    rw [lcs_cons, if_neg hxy, lcs_skip_right (l := l) (fun q => h (by simp [q]))]
    have := lcs_left l m x
    omega
/-- Lines that are alike but for single ones, which are new. -/
def Apart1 : List (α × α) → Prop
  | [] => True
  | p :: ps => Apart1 ps ∧ p.1 ∉ ps.map (·.1) ∧ p.1 ∉ ps.map (·.2) ∧ (p.1 ≠ p.2 → p.2 ∉ ps.map (·.1) ∧ ∀ q, ps.head? = some q → q.1 = q.2)
def flagSteps (ps : List (α × α)) : List Nat := ps.flatMap fun p => if p.1 = p.2 then [0] else [1, 2]
theorem steps_apart : ∀ (ps : List (α × α)), Apart1 ps → steps (ps.map (·.1)) (ps.map (·.2)) = flagSteps ps
  | [], _ => by simp [steps, flagSteps]
  | (x, y) :: ps, h => by
    obtain ⟨h1, h2, h3, h4⟩ := h
    have ih := steps_apart ps h1
    simp only [List.map_cons]
    by_cases hxy : x = y
    · subst hxy
      rw [steps, if_pos rfl, ih]
      simp [flagSteps]
    · obtain ⟨h5, h6⟩ := h4 hxy
      have hx : x ∉ y :: ps.map (·.2) := fun q => by
        rcases List.mem_cons.1 q with q | q
        · exact hxy q
        · exact h3 q
      have hrest : steps (ps.map (·.1)) (y :: ps.map (·.2)) = 2 :: steps (ps.map (·.1)) (ps.map (·.2)) := by
        cases ps with
        | nil => simp [steps]
        | cons q ps =>
          obtain ⟨u, v⟩ := q
          have huv : u = v := h6 _ rfl
          subst huv
          simp only [List.map_cons] at h5 ⊢
          obtain ⟨g1, g2, g3, _⟩ := h1
          have hyu : ¬ u = y := fun q => h5 (by simp [q])
          rw [steps, if_neg hyu, if_neg]
          rw [lcs_skip_right (fun q => h5 (List.mem_cons_of_mem _ q)), lcs_skip_right h5, lcs_cons, if_pos rfl, lcs_skip_right g2]
          omega
      rw [steps, if_neg hxy, if_pos (lcs_skip_left hx).symm, hrest, ih]
      simp [flagSteps, hxy]
/-- The script's runs, with k kept lines ahead. -/
def runsOf : Nat → List (α × α) → List EdD
  | k, [] => if k = 0 then [] else [⟨0, k⟩]
  | k, p :: ps => if p.1 = p.2 then runsOf (k + 1) ps else (if k = 0 then [] else [⟨0, k⟩]) ++ ⟨1, 1⟩ :: ⟨2, 1⟩ :: runsOf 0 ps
theorem addP_ne {r : List EdD} {op : Nat} (h : ∀ e, r.getLast? = some e → e.op ≠ op) : addP r op = r ++ [⟨op, 1⟩] := by
  rcases List.eq_nil_or_concat r with rfl | ⟨r', e, rfl⟩
  · rfl
  · rw [List.concat_eq_append] at h ⊢
    rw [addP_snoc, if_neg (h e (by simp))]
theorem fold_runs : ∀ (ps : List (α × α)) (k : Nat) (pre : List EdD), (∀ e, pre.getLast? = some e → e.op = 2) → (flagSteps ps).foldl addP (pre ++ if k = 0 then [] else [⟨0, k⟩]) = pre ++ runsOf k ps
  | [], k, pre, _ => by simp [flagSteps, runsOf]
  | p :: ps, k, pre, h => by
    rw [runsOf]
    by_cases hp : p.1 = p.2
    · rw [if_pos hp, show flagSteps (p :: ps) = 0 :: flagSteps ps by simp [flagSteps, hp], List.foldl_cons]
      have ih := fold_runs ps (k + 1) pre h
      rw [if_neg (by omega)] at ih
      rw [← ih]
      congr 1
      by_cases hk : k = 0
      · subst hk
        rw [if_pos rfl, List.append_nil, addP_ne (fun e he => by rw [h e he]; omega)]
      · rw [if_neg hk, addP_snoc, if_pos rfl]
    · rw [if_neg hp, show flagSteps (p :: ps) = 1 :: 2 :: flagSteps ps by simp [flagSteps, hp], List.foldl_cons, List.foldl_cons]
      have ih := fold_runs ps 0 (pre ++ (if k = 0 then [] else [⟨0, k⟩]) ++ [⟨1, 1⟩] ++ [⟨2, 1⟩]) (fun e he => by simp at he; rw [← he])
      rw [if_pos rfl, List.append_nil] at ih
      have h1 : addP (pre ++ if k = 0 then [] else [⟨0, k⟩]) 1 = (pre ++ if k = 0 then [] else [⟨0, k⟩]) ++ [⟨1, 1⟩] := addP_ne (fun e he => by
        by_cases hk : k = 0
        · subst hk
          rw [if_pos rfl, List.append_nil] at he
          rw [h e he]; omega
        · rw [if_neg hk] at he
          simp at he
          rw [← he]; simp)
      rw [h1, addP_snoc, if_neg (by simp), ih]
      simp
theorem diffP_apart (ps : List (α × α)) (h : Apart1 ps) : diffP (ps.map (·.1)) (ps.map (·.2)) = runsOf 0 ps := by
  unfold diffP script
  rw [steps_apart ps h]
  simpa using fold_runs ps 0 [] (by simp)
/-- Changed lines stand at least five apart, the first one at least g ahead. -/
def FarP : Nat → List (α × α) → Prop
  | _, [] => True
  | g, p :: ps => if p.1 = p.2 then FarP (g - 1) ps else g = 0 ∧ FarP 5 ps
end
/-- The hunk of one changed line. -/
def hkP (a : List (List UInt8)) (p n m : Nat) (x y : List UInt8) : HkD := putH (putH (putH (putH ⟨p - n, p - n, [], []⟩ 0 ((a.drop (p - n)).take n)) 1 [x]) 2 [y]) 0 ((a.drop (p + 1)).take m)
theorem hkP_more (a : List (List UInt8)) (p n m : Nat) (x y : List UInt8) : putH (hkP a p n 0 x y) 0 ((a.drop (p + 1)).take m) = hkP a p n m x y := by
  have h0 : ∀ h : HkD, putH h 0 [] = h := fun h => by simp [putH]
  unfold hkP
  rw [List.take_zero, h0]
def GoodK (a b : List (List UInt8)) (h : HkD) : Prop := ∃ p n m x y, a[p]? = some x ∧ b[p]? = some y ∧ x ≠ y ∧ n ≤ p ∧ p + 1 + m ≤ a.length ∧ h = hkP a p n m x y
section
variable (a b : List (List UInt8))
theorem edits_change {c : CutD} {x y : List UInt8} {l : List EdD} (ho : c.opn = false) (hij : c.i = c.j) (hx : (a.drop c.i).take 1 = [x]) (hy : (b.drop c.i).take 1 = [y]) :
    editsP a b 2 c (⟨1, 1⟩ :: ⟨2, 1⟩ :: l) = editsP a b 2 ⟨c.i + 1, c.j + 1, c.out ++ [hkP a c.i (min 2 c.uns) 0 x y], true, c.uns⟩ l := by
  rw [editsP, editsP]
  congr 1
  simp [editP, beginP, ho, putL_snoc, hx, ← hij, hy, hkP, putH]
theorem edits_runs : ∀ (ps : List (List UInt8 × List UInt8)) (k : Nat) (c : CutD), c.i = c.j → a.drop (c.i + k) = ps.map (·.1) → b.drop (c.i + k) = ps.map (·.2) → c.i + k ≤ a.length → (c.opn = false → c.uns ≤ c.i) →
    FarP (if c.opn = true then 5 - k else 0) ps →
    (c.opn = true → ∃ r p n x y, c.out = r ++ [hkP a p n 0 x y] ∧ (∀ h ∈ r, GoodK a b h) ∧ p + 1 = c.i ∧ a[p]? = some x ∧ b[p]? = some y ∧ x ≠ y ∧ n ≤ p) →
    (c.opn = false → ∀ h ∈ c.out, GoodK a b h) →
    (∀ h ∈ (editsP a b 2 c (runsOf k ps)).out, GoodK a b h) ∧ ((editsP a b 2 c (runsOf k ps)).out = [] → c.out = [] ∧ ∀ p ∈ ps, p.1 = p.2)
  | [], k, c, hij, ha, hb, hle, hu, hf, hopn, hcl => by
    rw [runsOf]
    by_cases hk : k = 0
    · rw [if_pos hk, editsP]
      refine ⟨?_, fun h => ⟨h, by simp⟩⟩
      cases hc : c.opn
      · exact hcl hc
      · obtain ⟨r, p, n, x, y, hr, hg, hp, hx, hy, hxy, hn⟩ := hopn hc
        intro h hh
        rw [hr, List.mem_append, List.mem_singleton] at hh
        rcases hh with hh | rfl
        · exact hg h hh
        · exact ⟨p, n, 0, x, y, hx, hy, hxy, hn, by omega, rfl⟩
    · rw [if_neg hk, editsP, editsP]
      cases hc : c.opn
      · simp only [editP, hc, List.isEmpty_nil]
        exact ⟨by simpa using hcl hc, fun h => ⟨by simpa using h, by simp⟩⟩
      · obtain ⟨r, p, n, x, y, hr, hg, hp, hx, hy, hxy, hn⟩ := hopn hc
        have hout : (editP a b 2 c ⟨0, k⟩ ([] : List EdD).isEmpty).out = r ++ [hkP a p n (min 2 k) x y] := by
          simp only [editP, hc, List.isEmpty_nil]
          simp [hr, putL_snoc, ← hp, hkP_more]
        rw [hout]
        refine ⟨fun h hh => ?_, fun h => by simp at h⟩
        rw [List.mem_append, List.mem_singleton] at hh
        rcases hh with hh | rfl
        · exact hg h hh
        · exact ⟨p, n, min 2 k, x, y, hx, hy, hxy, hn, by omega, rfl⟩
  | q :: ps, k, c, hij, ha, hb, hle, hu, hf, hopn, hcl => by
    have hlt : c.i + k < a.length := by
      have := congrArg List.length ha
      simp at this
      omega
    have hax : a.drop (c.i + (k + 1)) = ps.map (·.1) := by rw [← Nat.add_assoc, ← List.drop_drop, ha]; rfl
    have hbx : b.drop (c.i + (k + 1)) = ps.map (·.2) := by rw [← Nat.add_assoc, ← List.drop_drop, hb]; rfl
    rw [runsOf]
    by_cases hq : q.1 = q.2
    · rw [if_pos hq]
      rw [FarP, if_pos hq] at hf
      have ih := edits_runs ps (k + 1) c hij hax hbx (by omega) hu (by
        cases hc : c.opn
        · rw [hc] at hf; simpa using hf
        · rw [hc] at hf; simpa [Nat.sub_sub] using hf) hopn hcl
      exact ⟨ih.1, fun h => ⟨(ih.2 h).1, fun p hp => by
        rcases List.mem_cons.1 hp with rfl | hp
        · exact hq
        · exact (ih.2 h).2 p hp⟩⟩
    · rw [if_neg hq]
      rw [FarP, if_neg hq] at hf
      obtain ⟨hf0, hf5⟩ := hf
      have hx1 : ∀ i, i = c.i + k → (a.drop i).take 1 = [q.1] := fun i hi => by rw [hi, ha]; rfl
      have hy1 : ∀ i, i = c.i + k → (b.drop i).take 1 = [q.2] := fun i hi => by rw [hi, hb]; rfl
      have hxs : a[c.i + k]? = some q.1 := by rw [← List.head?_drop, ha]; rfl
      have hys : b[c.i + k]? = some q.2 := by rw [← List.head?_drop, hb]; rfl
      -- the state ahead of the change: closed, all of it good
      have main : ∀ d : CutD, d.opn = false → d.i = d.j → d.i = c.i + k → d.uns ≤ d.i → (∀ h ∈ d.out, GoodK a b h) →
          (∀ h ∈ (editsP a b 2 d (⟨1, 1⟩ :: ⟨2, 1⟩ :: runsOf 0 ps)).out, GoodK a b h) ∧ ((editsP a b 2 d (⟨1, 1⟩ :: ⟨2, 1⟩ :: runsOf 0 ps)).out = [] → False) := by
        intro d hd1 hd2 hd3 hd4 hd5
        rw [edits_change a b hd1 hd2 (hx1 _ hd3) (hy1 _ hd3)]
        have ih := edits_runs ps 0 ⟨d.i + 1, d.j + 1, d.out ++ [hkP a d.i (min 2 d.uns) 0 q.1 q.2], true, d.uns⟩ (by simp [hd2]) (by rw [← hax]; congr 1; simp only; omega) (by rw [← hbx]; congr 1; simp only; omega) (by simp only; omega) (by simp) (by simpa using hf5)
          (fun _ => ⟨d.out, d.i, min 2 d.uns, q.1, q.2, rfl, hd5, rfl, by rw [hd3]; exact hxs, by rw [hd3]; exact hys, hq, by omega⟩) (by simp)
        refine ⟨ih.1, fun h => ?_⟩
        have := (ih.2 h).1
        simp at this
      by_cases hk : k = 0
      · rw [if_pos hk, List.nil_append]
        have hc : c.opn = false := by
          cases hc : c.opn
          · rfl
          · rw [hc, if_pos rfl] at hf0; omega
        obtain ⟨m1, m2⟩ := main c hc hij (by omega) (hu hc) (hcl hc)
        exact ⟨m1, fun h => (m2 h).elim⟩
      · rw [if_neg hk, List.singleton_append, editsP]
        cases hc : c.opn
        · have he : editP a b 2 c ⟨0, k⟩ (List.isEmpty (⟨1, 1⟩ :: ⟨2, 1⟩ :: runsOf 0 ps)) = ⟨c.i + k, c.j + k, c.out, false, k⟩ := by simp [editP, hc]
          rw [he]
          obtain ⟨m1, m2⟩ := main ⟨c.i + k, c.j + k, c.out, false, k⟩ rfl (by simp [hij]) rfl (by simp) (hcl hc)
          exact ⟨m1, fun h => (m2 h).elim⟩
        · rw [hc, if_pos rfl] at hf0
          obtain ⟨r, p, n, x, y, hr, hg, hp, hx, hy, hxy, hn⟩ := hopn hc
          have he : editP a b 2 c ⟨0, k⟩ (List.isEmpty (⟨1, 1⟩ :: ⟨2, 1⟩ :: runsOf 0 ps)) = ⟨c.i + k, c.j + k, r ++ [hkP a p n (min 2 k) x y], false, k⟩ := by
            have h4 : ¬ k ≤ 4 := by omega
            simp [editP, hc, h4, hr, putL_snoc, ← hp, hkP_more]
          rw [he]
          obtain ⟨m1, m2⟩ := main ⟨c.i + k, c.j + k, r ++ [hkP a p n (min 2 k) x y], false, k⟩ rfl (by simp [hij]) rfl (by simp) (fun h hh => by
            rw [List.mem_append, List.mem_singleton] at hh
            rcases hh with hh | rfl
            · exact hg h hh
            · exact ⟨p, n, min 2 k, x, y, hx, hy, hxy, hn, by omega, rfl⟩)
          exact ⟨m1, fun h => (m2 h).elim⟩
end
/-- Of two such texts each hunk is that of one changed line; without a hunk they are the same. -/
theorem hunks_apart (ps : List (List UInt8 × List UInt8)) (h1 : Apart1 ps) (h2 : FarP 0 ps) : (∀ h ∈ hunksP (ps.map (·.1)) (ps.map (·.2)) 2, GoodK (ps.map (·.1)) (ps.map (·.2)) h) ∧ (hunksP (ps.map (·.1)) (ps.map (·.2)) 2 = [] → ∀ p ∈ ps, p.1 = p.2) := by
  unfold hunksP
  rw [diffP_apart ps h1]
  have := edits_runs (ps.map (·.1)) (ps.map (·.2)) ps 0 ⟨0, 0, [], false, 0⟩ rfl (by simp) (by simp) (by simp) (by simp) (by simpa using h2) (by simp) (by simp)
  exact ⟨this.1, fun h => (this.2 h).2⟩
end Go.Proofs.YtlcidbbpjlpmjaaDoor
namespace Go.Proofs.YtlcidbbpjlpmjaaDoor
open Go.RowKit

theorem edsP_of {len : Nat} : ∀ (l : List EdD) (p : Option Int) (c : Cnt), altern l → (∀ e, l.head? = some e → p ≠ some (e.op : Int)) → c.all + sumN l ≤ len → ∃ c', edsP len p c (l.map EdD.toI) = some c' ∧ c'.all = c.all + sumN l ∧ c'.turns = (c.turns || l.any (fun e => decide (e.op ≠ 0)))
  | [], p, c, _, _, _ => ⟨c, rfl, by simp [sumN], by simp⟩
  | e :: l, p, c, ha, hp, hs => by
    have he : 1 ≤ e.n ∧ e.op ≤ 2 := by
      cases l with
      | nil => exact ha
      | cons f l => exact ⟨ha.1, ha.2.1⟩
    have hl : altern l ∧ ∀ f, l.head? = some f → (some (e.toI.op) : Option Int) ≠ some (f.op : Int) := by
      cases l with
      | nil => exact ⟨trivial, by simp⟩
      | cons f l =>
        refine ⟨ha.2.2.2, fun g hg => ?_⟩
        injection hg with hg
        subst hg
        intro q
        injection q with q
        exact ha.2.2.1 (by have : (e.op : Int) = (f.op : Int) := q; omega)
    have hsum : sumN (e :: l) = e.n + sumN l := by simp [sumN]
    have hall : (addE c e.toI).all = c.all + e.n := by rw [addE_all]; rfl
    rw [hsum] at hs
    obtain ⟨c', h1, h2, h3⟩ := edsP_of (len := len) l (some e.toI.op) (addE c e.toI) hl.1 hl.2 (by rw [hall]; omega)
    have hb : badE len p c e.toI = false := by
      have hpp := hp e rfl
      have e1 : e.toI.op = (e.op : Int) := rfl
      have e2 : e.toI.n = (e.n : Int) := rfl
      simp only [badE, Bool.or_eq_false_iff, decide_eq_false_iff_not, e1, e2]
      exact ⟨by omega, by omega, by omega, by omega, hpp⟩
    refine ⟨c', ?_, by omega, ?_⟩
    · rw [List.map_cons, edsP, hb]
      simpa using h1
    · rw [h3, addE_turns (by show (1 : Int) ≤ (e.n : Int); omega), List.any_cons, Bool.or_assoc]
      congr 2
      have e1 : e.toI.op = (e.op : Int) := rfl
      rw [e1]
      exact decide_eq_decide.2 (by omega)
theorem okH_of (h : HkD) (h1 : h.a ≤ 999999999) (h2 : h.b ≤ 999999999) (h3 : altern h.eds) (h4 : sumN h.eds = h.ls.length) (h5 : h.eds.any (fun e => decide (e.op ≠ 0)) = true) (h6 : ∀ s ∈ h.ls, lineP s = true) : okH h.toI = true := by
  obtain ⟨c', e1, e2, e3⟩ := edsP_of (len := h.ls.length) h.eds none cnt0 h3 (by simp) (by simp [cnt0, Cnt.all]; omega)
  have hp : placesP h.toI = true := by
    unfold placesP
    have a1 : h.toI.a = (h.a : Int) := rfl
    have a2 : h.toI.b = (h.b : Int) := rfl
    rw [a1, a2]
    simp
    omega
  have ht : c'.turns = true := by rw [e3, h5]; simp
  have hall : c'.all = h.ls.length := by rw [e2, h4]; simp [cnt0, Cnt.all]
  have hl : h.ls.all lineP = true := List.all_eq_true.2 h6
  unfold okH mayP
  rw [if_pos hp]
  have hle : h.toI.ls = h.ls := rfl
  have hee : h.toI.eds = h.eds.map EdD.toI := rfl
  rw [hle, hee, e1]
  simp only [ht, hall, hl]
  simp
theorem toI_toD (h : HkD) : h.toI.toD = h := by
  cases h with
  | mk a b eds ls =>
    simp only [HkD.toI, HkI.toD, Int.toNat_natCast, List.map_map]
    congr 1
    have : ∀ l : List EdD, l.map (EdI.toD ∘ EdD.toI) = l := fun l => by
      induction l with
      | nil => rfl
      | cons e l ih => rw [List.map_cons, ih]; simp [EdI.toD, EdD.toI]
    exact this eds
theorem oldL_run (A rest : List (List UInt8)) (eds : List EdD) : oldL ((if A.length = 0 then [] else [⟨0, A.length⟩]) ++ eds) (A ++ rest) = A ++ oldL eds rest := by
  cases A with
  | nil => simp
  | cons x A =>
    rw [if_neg (by simp), List.singleton_append, oldL, if_neg (by simp)]
    simp only
    rw [List.take_left' rfl, List.drop_left' rfl]
theorem newL_run (A rest : List (List UInt8)) (eds : List EdD) : newL ((if A.length = 0 then [] else [⟨0, A.length⟩]) ++ eds) (A ++ rest) = A ++ newL eds rest := by
  cases A with
  | nil => simp
  | cons x A =>
    rw [if_neg (by simp), List.singleton_append, newL, if_neg (by simp)]
    simp only
    rw [List.take_left' rfl, List.drop_left' rfl]
theorem applyP_one (a : List (List UInt8)) (p n m : Nat) (x y : List UInt8) (hx : a[p]? = some x) (hn : n ≤ p) (hm : p + 1 + m ≤ a.length) (hl : a.length ≤ 999999999) (hla : ∀ s ∈ a, lineP s = true) (hy : lineP y = true) :
    applyP a [(hkP a p n m x y).toI] = .ok (a.set p y) := by
  obtain ⟨A, hA⟩ : ∃ A, (a.drop (p - n)).take n = A := ⟨_, rfl⟩
  obtain ⟨B, hB⟩ : ∃ B, (a.drop (p + 1)).take m = B := ⟨_, rfl⟩
  have lA : A.length = n := by rw [← hA, List.length_take, List.length_drop]; omega
  have lB : B.length = m := by rw [← hB, List.length_take, List.length_drop]; omega
  have hmem : ∀ s ∈ A ++ [x] ++ B, s ∈ a := fun s hs => by
    rw [List.mem_append, List.mem_append, List.mem_singleton] at hs
    rcases hs with (hs | rfl) | hs
    · rw [← hA] at hs; exact List.mem_of_mem_drop (List.mem_of_mem_take hs)
    · exact List.mem_of_getElem? hx
    · rw [← hB] at hs; exact List.mem_of_mem_drop (List.mem_of_mem_take hs)
  have hk : hkP a p n m x y = ⟨p - n, p - n, (if n = 0 then [] else [⟨0, n⟩]) ++ [⟨1, 1⟩, ⟨2, 1⟩] ++ (if m = 0 then [] else [⟨0, m⟩]), A ++ [x, y] ++ B⟩ := by
    unfold hkP
    rw [hA, hB]
    rcases A with _ | ⟨a1, A⟩
    · have hn0 : n = 0 := by simpa using lA.symm
      rcases B with _ | ⟨b1, B⟩
      · have hm0 : m = 0 := by simpa using lB.symm
        simp [putH, hn0, hm0]
      · have hm0 : ¬ m = 0 := by rw [← lB]; simp
        simp only [List.length_cons] at lB
        simp [putH, hn0, hm0, lB]
    · have hn0 : ¬ n = 0 := by rw [← lA]; simp
      simp only [List.length_cons] at lA
      rcases B with _ | ⟨b1, B⟩
      · have hm0 : m = 0 := by simpa using lB.symm
        simp [putH, hn0, hm0, lA]
      · have hm0 : ¬ m = 0 := by rw [← lB]; simp
        simp only [List.length_cons] at lB
        simp [putH, hn0, hm0, lA, lB]
  have hok : okH (hkP a p n m x y).toI = true := by
    rw [hk]
    refine okH_of _ (by simp only; omega) (by simp only; omega) ?_ ?_ ?_ ?_
    · by_cases q1 : n = 0 <;> by_cases q2 : m = 0 <;> simp [q1, q2, altern] <;> omega
    · by_cases q1 : n = 0 <;> by_cases q2 : m = 0 <;> simp [q1, q2, sumN, lA, lB] <;> omega
    · simp
    · intro s hs
      simp only [List.mem_append, List.mem_cons, List.not_mem_nil, or_false] at hs
      rcases hs with (hs | rfl | rfl) | hs
      · exact hla s (hmem s (by simp [hs]))
      · exact hla s (hmem s (by simp))
      · exact hy
      · exact hla s (hmem s (by simp [hs]))
  have hold : oldL (hkP a p n m x y).eds (hkP a p n m x y).ls = A ++ ([x] ++ B) := by
    have e1 := oldL_run A ([x, y] ++ B) ([⟨1, 1⟩, ⟨2, 1⟩] ++ ((if B.length = 0 then [] else [⟨0, B.length⟩]) ++ []))
    have e2 := oldL_run B [] []
    rw [lA, lB] at e1
    rw [lB] at e2
    rw [hk]
    simp only [List.append_nil, List.append_assoc] at e1 e2 ⊢
    rw [e1]
    simp [oldL, e2]
  have hnew : newL (hkP a p n m x y).eds (hkP a p n m x y).ls = A ++ ([y] ++ B) := by
    have e1 := newL_run A ([x, y] ++ B) ([⟨1, 1⟩, ⟨2, 1⟩] ++ ((if B.length = 0 then [] else [⟨0, B.length⟩]) ++ []))
    have e2 := newL_run B [] []
    rw [lA, lB] at e1
    rw [lB] at e2
    rw [hk]
    simp only [List.append_nil, List.append_assoc] at e1 e2 ⊢
    rw [e1]
    simp [newL, e2]
  have hat : okA a (p - n) (A ++ ([x] ++ B)) := by
    rw [okA_app, okA_app]
    refine ⟨?_, ?_, ?_⟩
    · unfold okA; rw [lA, hA]
    · unfold okA
      rw [lA, show p - n + n = p by omega, List.length_singleton, List.take_one, List.head?_drop, hx]
      rfl
    · unfold okA
      rw [lA, show p - n + n + [x].length = p + 1 by simp; omega, lB, hB]
  have hpl : (hkP a p n m x y).a = p - n ∧ (hkP a p n m x y).b = p - n := by rw [hk]; exact ⟨rfl, rfl⟩
  unfold applyP
  rw [List.all_cons, hok, List.all_nil, Bool.and_true, if_pos rfl, List.map_cons, List.map_nil, toI_toD, applyL]
  have hs : stepA a (hkP a p n m x y) 0 [] = .ok (p - n + (A ++ ([x] ++ B)).length, [] ++ (a.drop 0).take (p - n) ++ (A ++ ([y] ++ B))) := by
    unfold stepA
    rw [if_neg (by omega), hold, hnew, hpl.1, hpl.2, if_pos ⟨by omega, by simp, hat⟩]
    rfl
  rw [hs]
  simp only [applyL]
  congr 1
  have hlen : p - n + (A ++ ([x] ++ B)).length = p + 1 + m := by simp [lA, lB]; omega
  have htk : a.take (p - n) ++ A = a.take p := by
    rw [← hA, ← List.take_add, show p - n + n = p by omega]
  have hdr : B ++ a.drop (p + 1 + m) = a.drop (p + 1) := by
    rw [← hB, show a.drop (p + 1 + m) = (a.drop (p + 1)).drop m by rw [List.drop_drop], List.take_append_drop]
  rw [hlen, List.drop_zero, List.nil_append, List.set_eq_take_append_cons_drop, if_pos (by omega), ← htk, ← hdr]
  simp
end Go.Proofs.YtlcidbbpjlpmjaaDoor
namespace Go.Proofs.YtlcidbbpjlpmjaaDoor
open Go.RowKit

abbrev Pc := Nat × List (List UInt8)
def pcE (p : Pc) : EdD := ⟨p.1, p.2.length⟩
def eOf (ps : List Pc) : List EdD := ps.map pcE
def lOf (ps : List Pc) : List (List UInt8) := ps.flatMap (·.2)
def hkOf (a b : Nat) (ps : List Pc) : HkD := ⟨a, b, eOf ps, lOf ps⟩
def oldS (ps : List Pc) : List (List UInt8) := ps.flatMap fun p => if p.1 = 2 then [] else p.2
def newS (ps : List Pc) : List (List UInt8) := ps.flatMap fun p => if p.1 = 1 then [] else p.2
theorem eOf_app (x y : List Pc) : eOf (x ++ y) = eOf x ++ eOf y := by simp [eOf]
theorem oldS_app (x y : List Pc) : oldS (x ++ y) = oldS x ++ oldS y := by simp [oldS]
theorem newS_app (x y : List Pc) : newS (x ++ y) = newS x ++ newS y := by simp [newS]
theorem putH_ne (a b : Nat) (ps : List Pc) (op : Nat) {x : List (List UInt8)} (h : x ≠ []) : putH (hkOf a b ps) op x = hkOf a b (ps ++ [(op, x)]) := by
  unfold putH
  rw [if_neg h]
  simp [hkOf, eOf, lOf, pcE]
theorem putH_nil (h : HkD) (op : Nat) : putH h op [] = h := by simp [putH]
theorem oldL_of : ∀ ps : List Pc, oldL (eOf ps) (lOf ps) = oldS ps
  | [] => rfl
  | p :: ps => by
    have ih := oldL_of ps
    have e1 : eOf (p :: ps) = pcE p :: eOf ps := rfl
    have e2 : lOf (p :: ps) = p.2 ++ lOf ps := by simp [lOf]
    have e3 : oldS (p :: ps) = (if p.1 = 2 then [] else p.2) ++ oldS ps := by simp [oldS]
    rw [e1, e2, e3, oldL, show (pcE p).n = p.2.length from rfl, List.take_left' rfl, List.drop_left' rfl, ih]
    rfl
theorem newL_of : ∀ ps : List Pc, newL (eOf ps) (lOf ps) = newS ps
  | [] => rfl
  | p :: ps => by
    have ih := newL_of ps
    have e1 : eOf (p :: ps) = pcE p :: eOf ps := rfl
    have e2 : lOf (p :: ps) = p.2 ++ lOf ps := by simp [lOf]
    have e3 : newS (p :: ps) = (if p.1 = 1 then [] else p.2) ++ newS ps := by simp [newS]
    rw [e1, e2, e3, newL, show (pcE p).n = p.2.length from rfl, List.take_left' rfl, List.drop_left' rfl, ih]
    rfl
theorem sumN_of : ∀ ps : List Pc, sumN (eOf ps) = (lOf ps).length
  | [] => rfl
  | p :: ps => by
    have ih := sumN_of ps
    have e1 : sumN (eOf (p :: ps)) = p.2.length + sumN (eOf ps) := by simp [sumN, eOf, pcE]
    have e2 : lOf (p :: ps) = p.2 ++ lOf ps := by simp [lOf]
    rw [e1, e2, List.length_append, ih]
theorem revL_of : ∀ (ps : List Pc) (s : RevD), revL (eOf ps) (lOf ps) s = ps.foldl (fun s p => revStep s (pcE p) p.2) s
  | [], s => rfl
  | p :: ps, s => by
    have e1 : eOf (p :: ps) = pcE p :: eOf ps := rfl
    have e2 : lOf (p :: ps) = p.2 ++ lOf ps := by simp [lOf]
    rw [e1, e2, revL, show (pcE p).n = p.2.length from rfl, List.take_left' rfl, List.drop_left' rfl, revL_of ps, List.foldl_cons]
def swp (p : Pc) : Pc := (if p.1 = 0 then 0 else 3 - p.1, p.2)
/-- The pieces that lead back. -/
def swapP : List Pc → List Pc
  | [] => []
  | [p] => [swp p]
  | p :: q :: ps => if p.1 = 1 ∧ q.1 = 2 then (1, q.2) :: (2, p.2) :: swapP ps else swp p :: swapP (q :: ps)
theorem swp_swp {p : Pc} (h : p.1 ≤ 2) : swp (swp p) = p := by
  obtain ⟨o, x⟩ := p
  have h : o ≤ 2 := h
  have ho : o = 0 ∨ o = 1 ∨ o = 2 := by omega
  rcases ho with rfl | rfl | rfl <;> simp [swp]
theorem swapP_cons {p : Pc} {ps : List Pc} (h : p.1 = 1 → ∀ q, ps.head? = some q → q.1 ≠ 2) : swapP (p :: ps) = swp p :: swapP ps := by
  cases ps with
  | nil => rfl
  | cons q ps =>
    rw [swapP, if_neg]
    rintro ⟨h1, h2⟩
    exact h h1 q rfl h2
theorem swp_zero {p : Pc} (h : p.1 = 0) : swp p = p := by
  obtain ⟨o, x⟩ := p
  simp only at h
  subst h
  rfl
/-- The ways a row of pieces goes on. -/
theorem can_ways {p : Pc} {ps : List Pc} (h : canE (eOf (p :: ps))) :
    (p.1 = 0 ∧ ∀ q, ps.head? = some q → q.1 = 1 ∨ q.1 = 2) ∨ ((p.1 = 1 ∨ p.1 = 2) ∧ ∀ q, ps.head? = some q → q.1 = 0) ∨ (p.1 = 1 ∧ ∃ q r, ps = q :: r ∧ q.1 = 2) := by
  have h1 := (canE.head (e := pcE p) (l := eOf ps) h).2
  have h1' : p.1 ≤ 2 := h1
  cases ps with
  | nil =>
    rcases Nat.eq_zero_or_pos p.1 with q | q
    · exact .inl ⟨q, by simp⟩
    · exact .inr (.inl ⟨by omega, by simp⟩)
  | cons q r =>
    have h2 := canE.next (e := pcE p) (l := eOf (q :: r)) h (pcE q) rfl
    have h3 : q.1 ≤ 2 := (canE.head (e := pcE q) (l := eOf r) (canE.tail (e := pcE p) (l := eOf (q :: r)) h)).2
    have h4 : p.1 ≠ q.1 := h2.1
    have h5 : ¬ (p.1 = 2 ∧ q.1 = 1) := h2.2
    by_cases hp : p.1 = 0
    · exact .inl ⟨hp, fun s hs => by injection hs with hs; subst hs; omega⟩
    · by_cases hq : q.1 = 0
      · exact .inr (.inl ⟨by omega, fun s hs => by injection hs with hs; subst hs; exact hq⟩)
      · exact .inr (.inr ⟨by omega, q, r, rfl, by omega⟩)
theorem rev_swap (a b : Nat) : ∀ (n : Nat) (ps qs : List Pc), ps.length ≤ n → canE (eOf ps) → flushR (ps.foldl (fun s p => revStep s (pcE p) p.2) ⟨hkOf a b qs, [], []⟩) = hkOf a b (qs ++ swapP ps)
  | _, [], qs, _, _ => by simp [flushR, putH_nil, swapP]
  | n + 1, p :: ps, qs, hn, hc => by
    have hn' : ps.length ≤ n := by simpa using hn
    have hx : 1 ≤ p.2.length := (canE.head (e := pcE p) (l := eOf ps) hc).1
    have hp0 : p.2 ≠ [] := fun q => by rw [q] at hx; simp at hx
    have ht : canE (eOf ps) := canE.tail (e := pcE p) (l := eOf ps) hc
    rw [List.foldl_cons]
    rcases can_ways hc with ⟨h0, hq⟩ | ⟨h0, hq⟩ | ⟨h0, q, r, rfl, hq⟩
    · have e1 : revStep ⟨hkOf a b qs, [], []⟩ (pcE p) p.2 = ⟨hkOf a b (qs ++ [p]), [], []⟩ := by
        unfold revStep
        rw [if_pos (show (pcE p).op = 0 from h0)]
        simp only [flushR, putH_nil]
        rw [putH_ne _ _ _ _ hp0]
        congr 3
        obtain ⟨o, x⟩ := p
        simp only at h0
        rw [h0]
      rw [e1, rev_swap a b n ps _ hn' ht, swapP_cons (fun q => by omega), swp_zero h0]
      simp
    · -- a change of one kind, behind which lines are kept or the end is
      have e2 : flushR (revStep ⟨hkOf a b qs, [], []⟩ (pcE p) p.2) = hkOf a b (qs ++ [swp p]) := by
        unfold revStep swp
        rw [if_neg (show ¬ (pcE p).op = 0 from by show ¬ p.1 = 0; omega), if_neg (show ¬ p.1 = 0 by omega)]
        rcases h0 with h0 | h0
        · rw [if_pos (show (pcE p).op = 1 from h0), h0]
          simp only [flushR, putH_nil, List.nil_append]
          exact putH_ne _ _ _ _ hp0
        · rw [if_neg (show ¬ (pcE p).op = 1 from by show ¬ p.1 = 1; omega), h0]
          simp only [flushR, putH_nil, List.nil_append]
          exact putH_ne _ _ _ _ hp0
      rw [swapP_cons (fun _ q hqs => by rw [hq q hqs]; omega)]
      cases ps with
      | nil => rw [List.foldl_nil, e2, swapP]
      | cons q r =>
        have hq0 := hq q rfl
        have hqx : 1 ≤ q.2.length := (canE.head (e := pcE q) (l := eOf r) ht).1
        have hqn : q.2 ≠ [] := fun e => by rw [e] at hqx; simp at hqx
        have e3 : ∀ s : RevD, revStep s (pcE q) q.2 = ⟨putH (flushR s) 0 q.2, [], []⟩ := fun s => by
          unfold revStep
          rw [if_pos (show (pcE q).op = 0 from hq0)]
        rw [List.foldl_cons, e3, e2, putH_ne _ _ _ _ hqn]
        have e4 : ((0, q.2) : Pc) = q := by
          obtain ⟨o, x⟩ := q
          simp only at hq0
          rw [hq0]
        rw [e4, rev_swap a b n r _ (by simp at hn'; omega) (canE.tail (e := pcE q) (l := eOf r) ht), swapP_cons (p := q) (fun e => by omega), swp_zero hq0]
        simp
    · have hqx : 1 ≤ q.2.length := (canE.head (e := pcE q) (l := eOf r) ht).1
      have hqn : q.2 ≠ [] := fun e => by rw [e] at hqx; simp at hqx
      have htr : canE (eOf r) := canE.tail (e := pcE q) (l := eOf r) ht
      rw [List.foldl_cons]
      have e2 : revStep (revStep ⟨hkOf a b qs, [], []⟩ (pcE p) p.2) (pcE q) q.2 = ⟨hkOf a b qs, q.2, p.2⟩ := by
        unfold revStep
        rw [if_neg (show ¬ (pcE p).op = 0 from by show ¬ p.1 = 0; omega), if_pos (show (pcE p).op = 1 from h0), if_neg (show ¬ (pcE q).op = 0 from by show ¬ q.1 = 0; omega), if_neg (show ¬ (pcE q).op = 1 from by show ¬ q.1 = 1; omega)]
        simp
      have e5 : flushR ⟨hkOf a b qs, q.2, p.2⟩ = hkOf a b (qs ++ [(1, q.2), (2, p.2)]) := by
        simp only [flushR]
        rw [putH_ne _ _ _ _ hqn, putH_ne _ _ _ _ hp0]
        simp
      rw [e2, swapP, if_pos ⟨h0, hq⟩]
      cases r with
      | nil => rw [List.foldl_nil, e5, swapP]
      | cons t r =>
        have ht0 : t.1 = 0 := by
          rcases can_ways ht with ⟨k, _⟩ | ⟨_, k⟩ | ⟨k, _⟩
          · omega
          · exact k t rfl
          · omega
        have htx : 1 ≤ t.2.length := (canE.head (e := pcE t) (l := eOf r) htr).1
        have htn : t.2 ≠ [] := fun e => by rw [e] at htx; simp at htx
        have e3 : ∀ s : RevD, revStep s (pcE t) t.2 = ⟨putH (flushR s) 0 t.2, [], []⟩ := fun s => by
          unfold revStep
          rw [if_pos (show (pcE t).op = 0 from ht0)]
        rw [List.foldl_cons, e3, e5, putH_ne _ _ _ _ htn]
        have e4 : ((0, t.2) : Pc) = t := by
          obtain ⟨o, x⟩ := t
          simp only at ht0
          rw [ht0]
        rw [e4, rev_swap a b n r _ (by simp at hn'; omega) (canE.tail (e := pcE t) (l := eOf r) htr), swapP_cons (p := t) (fun e => by omega), swp_zero ht0]
        simp
theorem back_of (a b : Nat) {ps : List Pc} (hc : canE (eOf ps)) : backP (hkOf a b ps) = hkOf b a (swapP ps) := by
  have h := rev_swap b a _ ps [] (Nat.le_refl _) hc
  unfold backP
  have e : newH (hkOf a b ps).b (hkOf a b ps).a = hkOf b a [] := rfl
  rw [e, show (hkOf a b ps).eds = eOf ps from rfl, show (hkOf a b ps).ls = lOf ps from rfl, revL_of, h, List.nil_append]
theorem swap_head {p : Pc} {ps : List Pc} (h : canE (eOf (p :: ps))) : ∃ q r, swapP (p :: ps) = q :: r ∧ (p.1 = 0 → q = p) ∧ (p.1 ≠ 0 → q.1 ≠ 0) := by
  rcases can_ways h with ⟨h0, _⟩ | ⟨h0, hq⟩ | ⟨h0, q, r, rfl, hq⟩
  · exact ⟨_, _, swapP_cons (fun e => by omega), fun _ => swp_zero h0, fun e => absurd h0 e⟩
  · exact ⟨_, _, swapP_cons (fun _ q hqs => by rw [hq q hqs]; omega), fun e => by omega, fun _ => by unfold swp; simp only; rw [if_neg (by omega)]; omega⟩
  · exact ⟨_, _, by rw [swapP, if_pos ⟨h0, hq⟩], fun e => by omega, fun _ => by simp⟩
theorem swap_can : ∀ (n : Nat) (ps : List Pc), ps.length ≤ n → canE (eOf ps) → canE (eOf (swapP ps)) ∧ swapP (swapP ps) = ps
  | _, [], _, _ => ⟨trivial, rfl⟩
  | n + 1, p :: ps, hn, hc => by
    have hn' : ps.length ≤ n := by simpa using hn
    have hx : 1 ≤ p.2.length ∧ p.1 ≤ 2 := canE.head (e := pcE p) (l := eOf ps) hc
    have ht : canE (eOf ps) := canE.tail (e := pcE p) (l := eOf ps) hc
    obtain ⟨i1, i2⟩ := swap_can n ps hn' ht
    have hok : 1 ≤ (pcE (swp p)).n ∧ (pcE (swp p)).op ≤ 2 := ⟨hx.1, by show (if p.1 = 0 then 0 else 3 - p.1) ≤ 2; split <;> omega⟩
    rcases can_ways hc with ⟨h0, hq⟩ | ⟨h0, hq⟩ | ⟨h0, q, r, rfl, hq⟩
    · rw [swapP_cons (fun e => by omega), swp_zero h0]
      refine ⟨canE_cons hx i1 fun f hf => ?_, ?_⟩
      · cases ps with
        | nil => cases hf
        | cons t r =>
          obtain ⟨t', r', e1, _, e3⟩ := swap_head ht
          rw [e1] at hf
          injection hf with hf
          subst hf
          have := e3 (by have := hq t rfl; omega)
          have h1 : (pcE p).op = 0 := h0
          have h2 : (pcE t').op = t'.1 := rfl
          omega
      · rw [swapP_cons (fun e => by omega), swp_zero h0, i2]
    · rw [swapP_cons (fun _ q hqs => by rw [hq q hqs]; omega)]
      have hs0 : (swp p).1 ≠ 0 := by unfold swp; simp only; rw [if_neg (by omega)]; omega
      have hh : ∀ f, (swapP ps).head? = some f → f.1 = 0 := fun f hf => by
        cases ps with
        | nil => cases hf
        | cons t r =>
          obtain ⟨t', r', e1, e2, _⟩ := swap_head ht
          rw [e1] at hf
          injection hf with hf
          subst hf
          rw [e2 (hq t rfl)]
          exact hq t rfl
      refine ⟨canE_cons hok i1 fun f hf => ?_, ?_⟩
      · unfold eOf at hf
        rw [List.head?_map, Option.map_eq_some_iff] at hf
        obtain ⟨t, ht', rfl⟩ := hf
        have := hh t ht'
        have h1 : (pcE (swp p)).op = (swp p).1 := rfl
        have h2 : (pcE t).op = t.1 := rfl
        omega
      · rw [swapP_cons (fun _ f hf => by rw [hh f hf]; omega), swp_swp hx.2, i2]
    · have hqx : 1 ≤ q.2.length ∧ q.1 ≤ 2 := canE.head (e := pcE q) (l := eOf r) ht
      have htr : canE (eOf r) := canE.tail (e := pcE q) (l := eOf r) ht
      obtain ⟨k1, k2⟩ := swap_can n r (by simp at hn'; omega) htr
      have hr0 : ∀ t, r.head? = some t → t.1 = 0 := fun t hte => by
        rcases can_ways ht with ⟨k, _⟩ | ⟨_, k⟩ | ⟨k, _⟩
        · omega
        · exact k t hte
        · omega
      have hh : ∀ f, (swapP r).head? = some f → f.1 = 0 := fun f hf => by
        cases r with
        | nil => cases hf
        | cons t r =>
          obtain ⟨t', r', e1, e2, _⟩ := swap_head htr
          rw [e1] at hf
          injection hf with hf
          subst hf
          rw [e2 (hr0 t rfl)]
          exact hr0 t rfl
      rw [swapP, if_pos ⟨h0, hq⟩]
      refine ⟨canE_cons (e := pcE (1, q.2)) ⟨hqx.1, show 1 ≤ 2 by decide⟩ (canE_cons (e := pcE (2, p.2)) ⟨hx.1, show 2 ≤ 2 by decide⟩ k1 fun f hf => ?_) fun f hf => ?_, ?_⟩
      · have hf : (eOf (swapP r)).head? = some f := hf
        unfold eOf at hf
        rw [List.head?_map, Option.map_eq_some_iff] at hf
        obtain ⟨t, ht', rfl⟩ := hf
        have := hh t ht'
        have h1 : (pcE (2, p.2)).op = 2 := rfl
        have h2 : (pcE t).op = t.1 := rfl
        omega
      · injection hf with hf
        subst hf
        exact ⟨show (1 : Nat) ≠ 2 by decide, show ¬ ((1 : Nat) = 2 ∧ (2 : Nat) = 1) by decide⟩
      · rw [swapP, if_pos ⟨rfl, rfl⟩, k2]
        obtain ⟨o, x⟩ := p
        obtain ⟨o2, x2⟩ := q
        simp only at h0 hq
        rw [h0, hq]
theorem back_back (a b : Nat) {ps : List Pc} (hc : canE (eOf ps)) : backP (backP (hkOf a b ps)) = hkOf a b ps := by
  obtain ⟨h1, h2⟩ := swap_can _ ps (Nat.le_refl _) hc
  rw [back_of a b hc, back_of b a h1, h2]
theorem swp_sides {p : Pc} (h : p.1 ≤ 2) : (if (swp p).1 = 2 then [] else (swp p).2) = (if p.1 = 1 then [] else p.2) ∧ (if (swp p).1 = 1 then [] else (swp p).2) = (if p.1 = 2 then [] else p.2) := by
  obtain ⟨o, x⟩ := p
  have h : o ≤ 2 := h
  have ho : o = 0 ∨ o = 1 ∨ o = 2 := by omega
  rcases ho with rfl | rfl | rfl <;> simp [swp]
theorem swap_sides : ∀ (n : Nat) (ps : List Pc), ps.length ≤ n → (∀ p ∈ ps, p.1 ≤ 2) → oldS (swapP ps) = newS ps ∧ newS (swapP ps) = oldS ps ∧ (lOf (swapP ps)).length = (lOf ps).length ∧ (∀ s, s ∈ lOf (swapP ps) → s ∈ lOf ps) ∧ (swapP ps).any (fun p => decide (p.1 ≠ 0)) = ps.any (fun p => decide (p.1 ≠ 0))
  | _, [], _, _ => ⟨rfl, rfl, rfl, fun _ h => h, rfl⟩
  | n + 1, p :: ps, hn, hop => by
    have hn' : ps.length ≤ n := by simpa using hn
    have hp := hop p (by simp)
    have ht : ∀ q ∈ ps, q.1 ≤ 2 := fun q hq => hop q (List.mem_cons_of_mem _ hq)
    have eo : ∀ (q : Pc) (qs : List Pc), oldS (q :: qs) = (if q.1 = 2 then [] else q.2) ++ oldS qs := fun q qs => by simp [oldS]
    have en : ∀ (q : Pc) (qs : List Pc), newS (q :: qs) = (if q.1 = 1 then [] else q.2) ++ newS qs := fun q qs => by simp [newS]
    have el : ∀ (q : Pc) (qs : List Pc), lOf (q :: qs) = q.2 ++ lOf qs := fun q qs => by simp [lOf]
    by_cases hw : p.1 = 1 ∧ ∃ q r, ps = q :: r ∧ q.1 = 2
    · obtain ⟨h0, q, r, rfl, hq⟩ := hw
      obtain ⟨k1, k2, k3, k4, k5⟩ := swap_sides n r (by simp at hn'; omega) (fun t h => ht t (List.mem_cons_of_mem _ h))
      rw [swapP, if_pos ⟨h0, hq⟩]
      refine ⟨?_, ?_, ?_, fun s hs => ?_, ?_⟩
      · simp [eo, en, k1, h0, hq]
      · simp [eo, en, k2, h0, hq]
      · simp only [el, List.length_append, k3]; omega
      · rw [el, el] at hs ⊢
        simp only [List.mem_append] at hs ⊢
        rcases hs with hs | hs | hs
        · exact .inr (.inl hs)
        · exact .inl hs
        · exact .inr (.inr (k4 s hs))
      · simp [h0]
    · obtain ⟨k1, k2, k3, k4, k5⟩ := swap_sides n ps hn' ht
      obtain ⟨s1, s2⟩ := swp_sides hp
      rw [swapP_cons (fun h q hq h2 => hw ⟨h, q, ps.tail, by cases ps with | nil => cases hq | cons t r => injection hq with hq; subst hq; rfl, h2⟩)]
      refine ⟨by rw [eo, en, s1, k1], by rw [eo, en, s2, k2], ?_, fun s hs => ?_, ?_⟩
      · rw [el, el, List.length_append, List.length_append, k3]; rfl
      · rw [el] at hs ⊢
        rcases List.mem_append.1 hs with hs | hs
        · exact List.mem_append_left _ hs
        · exact List.mem_append_right _ (k4 s hs)
      · rw [List.any_cons, List.any_cons, k5]
        congr 1
        refine decide_eq_decide.2 ?_
        unfold swp
        simp only
        split <;> omega
theorem can_ops : ∀ {ps : List Pc}, canE (eOf ps) → ∀ p ∈ ps, p.1 ≤ 2
  | p :: ps, h, q, hq => by
    rcases List.mem_cons.1 hq with rfl | hq
    · exact (canE.head (e := pcE q) (l := eOf ps) h).2
    · exact can_ops (canE.tail (e := pcE p) (l := eOf ps) h) q hq
theorem any_of : ∀ ps : List Pc, (eOf ps).any (fun e => decide (e.op ≠ 0)) = ps.any fun p => decide (p.1 ≠ 0)
  | [] => rfl
  | p :: ps => by
    have : eOf (p :: ps) = pcE p :: eOf ps := rfl
    rw [this, List.any_cons, List.any_cons, any_of ps]
    rfl
theorem ok_of {a b : Nat} {ps : List Pc} (ha : a ≤ 999999999) (hb : b ≤ 999999999) (hc : canE (eOf ps)) (hany : ps.any (fun p => decide (p.1 ≠ 0)) = true) (hl : ∀ s ∈ lOf ps, lineP s = true) : okH (hkOf a b ps).toI = true :=
  okH_of _ ha hb hc.altern (sumN_of ps) (by rw [show (hkOf a b ps).eds = eOf ps from rfl, any_of]; exact hany) hl
end Go.Proofs.YtlcidbbpjlpmjaaDoor
namespace Go.Proofs.YtlcidbbpjlpmjaaDoor
open Go.RowKit

def runA (a : List (List UInt8)) : List HkD → Nat → List (List UInt8) → Except Nat (Nat × List (List UInt8))
  | [], p, out => .ok (p, out)
  | h :: hs, p, out => match stepA a h p out with
    | .error e => .error e
    | .ok x => runA a hs x.1 x.2
theorem applyL_run (a : List (List UInt8)) : ∀ (l : List HkD) (p : Nat) (out : List (List UInt8)) (x : Nat × List (List UInt8)), runA a l p out = .ok x → applyL a l p out = .ok (x.2 ++ a.drop x.1)
  | [], p, out, x, h => by
    rw [runA] at h
    injection h with h
    subst h
    rfl
  | k :: l, p, out, x, h => by
    rw [runA] at h
    rw [applyL]
    cases hs : stepA a k p out with
    | error e => rw [hs] at h; cases h
    | ok y => rw [hs] at h; exact applyL_run a l _ _ x h
theorem runA_snoc (a : List (List UInt8)) (k : HkD) (y : Nat × List (List UInt8)) : ∀ (l : List HkD) (p : Nat) (out : List (List UInt8)) (x : Nat × List (List UInt8)), runA a l p out = .ok x → stepA a k x.1 x.2 = .ok y → runA a (l ++ [k]) p out = .ok y
  | [], p, out, x, h, hy => by
    rw [runA] at h
    injection h with h
    subst h
    rw [List.nil_append, runA, hy]
    rfl
  | m :: l, p, out, x, h, hy => by
    rw [runA] at h
    rw [List.cons_append, runA]
    cases hs : stepA a m p out with
    | error e => rw [hs] at h; cases h
    | ok z => rw [hs] at h; exact runA_snoc a k y l _ _ x h hy
/-- Lines taken in a row. -/
theorem seg_add {α : Type} (a : List α) (i n m : Nat) : (a.drop i).take (n + m) = (a.drop i).take n ++ (a.drop (i + n)).take m := by rw [List.take_add, List.drop_drop]
theorem seg_len {α : Type} {a : List α} {i n : Nat} (h : i + n ≤ a.length) : ((a.drop i).take n).length = n := by rw [List.length_take, List.length_drop]; omega
theorem take_seg {α : Type} (a : List α) (i n : Nat) : a.take (i + n) = a.take i ++ (a.drop i).take n := List.take_add

section
variable (a b : List (List UInt8))
/-- A whole hunk of the two texts. -/
def HkF (h : HkD) : Prop := ∃ ha hb ps, h = hkOf ha hb ps ∧ ha ≤ a.length ∧ hb ≤ b.length ∧ canE (eOf ps) ∧ ps.any (fun p => decide (p.1 ≠ 0)) = true ∧ ∀ s ∈ lOf ps, s ∈ a ∨ s ∈ b
/-- What whole hunks do, up to the places p and q. -/
structure Prev (r : List HkD) (p q : Nat) : Prop where
  f : runA a r 0 [] = .ok (p, b.take q)
  g : runA b (r.map backP) 0 [] = .ok (q, a.take p)
  m : ∀ h ∈ r, HkF a b h
  hp : p ≤ a.length
  hq : q ≤ b.length
/-- A hunk that is open, behind such ones; it reaches to i and j. -/
structure Opn (r : List HkD) (ha hb : Nat) (ps : List Pc) (i j p q : Nat) : Prop where
  prev : Prev a b r p q
  pa : p ≤ ha
  ab : hb = q + (ha - p)
  same : (a.drop p).take (ha - p) = (b.drop q).take (ha - p)
  la : ha ≤ a.length
  lb : hb ≤ b.length
  old : okA a ha (oldS ps)
  ia : ha + (oldS ps).length = i
  new : okA b hb (newS ps)
  jb : hb + (newS ps).length = j
  can : canE (eOf ps)
  lines : ∀ s ∈ lOf ps, s ∈ a ∨ s ∈ b
  li : i ≤ a.length
  lj : j ≤ b.length
variable {a b}
theorem Opn.close {r : List HkD} {ha hb i j p q : Nat} {ps : List Pc} (h : Opn a b r ha hb ps i j p q) (hany : ps.any (fun p => decide (p.1 ≠ 0)) = true) : Prev a b (r ++ [hkOf ha hb ps]) i j := by
  have hpa := h.pa
  have hab := h.ab
  have hpp := h.prev.hp
  have hqq := h.prev.hq
  have hla := h.la
  have hlb := h.lb
  obtain ⟨s1, s2, _⟩ := swap_sides _ ps (Nat.le_refl _) (can_ops h.can)
  refine ⟨runA_snoc a _ _ r 0 [] _ h.prev.f ?_, ?_, fun k hk => ?_, h.li, h.lj⟩
  · have l1 : (b.take q).length = q := by rw [List.length_take]; omega
    unfold stepA
    rw [show (hkOf ha hb ps).a = ha from rfl, show (hkOf ha hb ps).b = hb from rfl, show (hkOf ha hb ps).eds = eOf ps from rfl, show (hkOf ha hb ps).ls = lOf ps from rfl, oldL_of, newL_of]
    simp only
    rw [if_neg (by omega), if_pos ⟨hla, by rw [l1]; exact hab, h.old⟩, h.ia]
    congr 2
    rw [h.same, ← take_seg, ← hab, ← h.new, ← take_seg, h.jb]
  · rw [List.map_append, List.map_cons, List.map_nil, back_of ha hb h.can]
    refine runA_snoc b _ _ _ 0 [] _ h.prev.g ?_
    have l1 : (a.take p).length = p := by rw [List.length_take]; omega
    unfold stepA
    rw [show (hkOf hb ha (swapP ps)).a = hb from rfl, show (hkOf hb ha (swapP ps)).b = ha from rfl, show (hkOf hb ha (swapP ps)).eds = eOf (swapP ps) from rfl, show (hkOf hb ha (swapP ps)).ls = lOf (swapP ps) from rfl, oldL_of, newL_of, s1, s2]
    simp only
    rw [if_neg (by omega), if_pos ⟨hlb, by rw [l1]; omega, h.new⟩, h.jb]
    congr 2
    have e : hb - q = ha - p := by omega
    rw [e, ← h.same, ← take_seg, show p + (ha - p) = ha by omega, ← h.old, ← take_seg, h.ia]
  · rcases List.mem_append.1 hk with hk | hk
    · exact h.prev.m k hk
    · rw [List.mem_singleton] at hk
      subst hk
      exact ⟨ha, hb, ps, rfl, hla, hlb, h.can, hany, h.lines⟩
theorem can_put {ps : List Pc} {op : Nat} {x : List (List UInt8)} (hc : canE (eOf ps)) (hx : 1 ≤ x.length) (ho : op ≤ 2) (hl : ∀ p, ps.getLast? = some p → p.1 ≠ op ∧ ¬ (p.1 = 2 ∧ op = 1)) : canE (eOf (ps ++ [(op, x)])) := by
  rcases List.eq_nil_or_concat ps with rfl | ⟨s, p, rfl⟩
  · exact ⟨hx, ho⟩
  · rw [List.concat_eq_append] at hc hl ⊢
    obtain ⟨h1, h2⟩ := hl p (by simp)
    rw [eOf_app] at hc
    rw [eOf_app, eOf_app]
    exact (canE_snoc (eOf s) (pcE p) (pcE (op, x)) hc ⟨hx, ho⟩).2 h1 h2
theorem mem_seg {s : List UInt8} {l : List (List UInt8)} {i n : Nat} (h : s ∈ (l.drop i).take n) : s ∈ l := List.mem_of_mem_drop (List.mem_of_mem_take h)
theorem lOf_snoc (ps : List Pc) (op : Nat) (x : List (List UInt8)) : lOf (ps ++ [(op, x)]) = lOf ps ++ x := by simp [lOf]
theorem oldS_snoc (ps : List Pc) (op : Nat) (x : List (List UInt8)) : oldS (ps ++ [(op, x)]) = oldS ps ++ (if op = 2 then [] else x) := by simp [oldS]
theorem newS_snoc (ps : List Pc) (op : Nat) (x : List (List UInt8)) : newS (ps ++ [(op, x)]) = newS ps ++ (if op = 1 then [] else x) := by simp [newS]
/-- Kept lines put into an open hunk. -/
theorem Opn.put0 {r : List HkD} {ha hb i j p q n : Nat} {ps : List Pc} (h : Opn a b r ha hb ps i j p q) (hn : 1 ≤ n) (hi : i + n ≤ a.length) (hj : j + n ≤ b.length) (he : (a.drop i).take n = (b.drop j).take n) (hl : ∀ p, ps.getLast? = some p → p.1 ≠ 0) :
    Opn a b r ha hb (ps ++ [(0, (a.drop i).take n)]) (i + n) (j + n) p q := by
  have hlen := seg_len hi
  refine ⟨h.prev, h.pa, h.ab, h.same, h.la, h.lb, ?_, ?_, ?_, ?_, can_put h.can (by omega) (by decide) (fun p hp => ⟨hl p hp, fun e => by omega⟩), fun s hs => ?_, hi, hj⟩
  · rw [oldS_snoc, if_neg (by decide)]
    refine okA_app.2 ⟨h.old, ?_⟩
    rw [h.ia]
    unfold okA
    rw [hlen]
  · rw [oldS_snoc, if_neg (by decide), List.length_append, hlen, ← Nat.add_assoc, h.ia]
  · rw [newS_snoc, if_neg (by decide)]
    refine okA_app.2 ⟨h.new, ?_⟩
    rw [h.jb]
    unfold okA
    rw [hlen, he]
  · rw [newS_snoc, if_neg (by decide), List.length_append, hlen, ← Nat.add_assoc, h.jb]
  · rw [lOf_snoc] at hs
    rcases List.mem_append.1 hs with hs | hs
    · exact h.lines s hs
    · exact .inl (mem_seg hs)
/-- Deleted lines. -/
theorem Opn.put1 {r : List HkD} {ha hb i j p q n : Nat} {ps : List Pc} (h : Opn a b r ha hb ps i j p q) (hn : 1 ≤ n) (hi : i + n ≤ a.length) (hl : ∀ p, ps.getLast? = some p → p.1 = 0) :
    Opn a b r ha hb (ps ++ [(1, (a.drop i).take n)]) (i + n) j p q := by
  have hlen := seg_len hi
  refine ⟨h.prev, h.pa, h.ab, h.same, h.la, h.lb, ?_, ?_, ?_, ?_, can_put h.can (by omega) (by decide) (fun p hp => ⟨by rw [hl p hp]; decide, fun e => by have := hl p hp; omega⟩), fun s hs => ?_, hi, h.lj⟩
  · rw [oldS_snoc, if_neg (by decide)]
    refine okA_app.2 ⟨h.old, ?_⟩
    rw [h.ia]
    unfold okA
    rw [hlen]
  · rw [oldS_snoc, if_neg (by decide), List.length_append, hlen, ← Nat.add_assoc, h.ia]
  · rw [newS_snoc, if_pos rfl, List.append_nil]
    exact h.new
  · rw [newS_snoc, if_pos rfl, List.append_nil]
    exact h.jb
  · rw [lOf_snoc] at hs
    rcases List.mem_append.1 hs with hs | hs
    · exact h.lines s hs
    · exact .inl (mem_seg hs)
/-- Inserted lines. -/
theorem Opn.put2 {r : List HkD} {ha hb i j p q n : Nat} {ps : List Pc} (h : Opn a b r ha hb ps i j p q) (hn : 1 ≤ n) (hj : j + n ≤ b.length) (hl : ∀ p, ps.getLast? = some p → p.1 ≠ 2) :
    Opn a b r ha hb (ps ++ [(2, (b.drop j).take n)]) i (j + n) p q := by
  have hlen := seg_len hj
  refine ⟨h.prev, h.pa, h.ab, h.same, h.la, h.lb, ?_, ?_, ?_, ?_, can_put h.can (by omega) (by decide) (fun p hp => ⟨hl p hp, fun e => by omega⟩), fun s hs => ?_, h.li, hj⟩
  · rw [oldS_snoc, if_pos rfl, List.append_nil]
    exact h.old
  · rw [oldS_snoc, if_pos rfl, List.append_nil]
    exact h.ia
  · rw [newS_snoc, if_neg (by decide)]
    refine okA_app.2 ⟨h.new, ?_⟩
    rw [h.jb]
    unfold okA
    rw [hlen]
  · rw [newS_snoc, if_neg (by decide), List.length_append, hlen, ← Nat.add_assoc, h.jb]
  · rw [lOf_snoc] at hs
    rcases List.mem_append.1 hs with hs | hs
    · exact h.lines s hs
    · exact .inr (mem_seg hs)
/-- The two sides stand at c, nothing open: whole hunks up to p, q; alike since. -/
structure Shut (ar : Nat) (c : CutD) (more : Bool) (p q t : Nat) : Prop where
  prev : Prev a b c.out p q
  i : c.i = p + t
  j : c.j = q + t
  same : (a.drop p).take t = (b.drop q).take t
  li : c.i ≤ a.length
  lj : c.j ≤ b.length
  uns : more = true → min ar c.uns ≤ t
/-- A hunk begun: its kept lines ahead. -/
theorem Shut.begin_ {ar : Nat} {c : CutD} {p q t : Nat} (h : Shut (a := a) (b := b) ar c true p q t) (ho : c.opn = false) :
    ∃ ha hb ps, (beginP a ar c).out = c.out ++ [hkOf ha hb ps] ∧ Opn a b c.out ha hb ps c.i c.j p q ∧ ∀ p, ps.getLast? = some p → p.1 = 0 := by
  have hm := h.uns rfl
  have hi := h.i
  have hj := h.j
  have hli := h.li
  have hlj := h.lj
  have hb0 : (beginP a ar c).out = c.out ++ [putH ⟨c.i - min ar c.uns, c.j - min ar c.uns, [], []⟩ 0 ((a.drop (c.i - min ar c.uns)).take (min ar c.uns))] := by
    unfold beginP
    rw [if_neg (by rw [ho]; decide)]
  generalize min ar c.uns = m at *
  have base : Opn a b c.out (c.i - m) (c.j - m) [] (c.i - m) (c.j - m) p q := by
    refine ⟨h.prev, by omega, by omega, ?_, by omega, by omega, okA_nil _ _, rfl, okA_nil _ _, rfl, trivial, fun s hs => by simp [lOf] at hs, by omega, by omega⟩
    have e : c.i - m - p = t - m := by omega
    have h1 := congrArg (List.take (t - m)) h.same
    rw [List.take_take, List.take_take, Nat.min_eq_left (by omega)] at h1
    rw [e]
    exact h1
  have he0 : (⟨c.i - m, c.j - m, [], []⟩ : HkD) = hkOf (c.i - m) (c.j - m) [] := rfl
  rcases Nat.eq_zero_or_pos m with h0 | h0
  · refine ⟨c.i - m, c.j - m, [], ?_, ?_, by simp⟩
    · rw [hb0, h0, List.take_zero, putH_nil]; rfl
    · have e1 : c.i - m = c.i := by omega
      have e2 : c.j - m = c.j := by omega
      rw [e1, e2] at base ⊢
      exact base
  · have he : (a.drop (c.i - m)).take m = (b.drop (c.j - m)).take m := by
      have h1 := congrArg (List.drop (t - m)) h.same
      rw [List.drop_take, List.drop_take, List.drop_drop, List.drop_drop] at h1
      have e1 : p + (t - m) = c.i - m := by omega
      have e2 : q + (t - m) = c.j - m := by omega
      have e3 : t - (t - m) = m := by omega
      rwa [e1, e2, e3] at h1
    have hp := base.put0 h0 (by omega) (by omega) he (by simp)
    refine ⟨c.i - m, c.j - m, [(0, (a.drop (c.i - m)).take m)], ?_, ?_, fun p hp => by simp at hp; rw [← hp]⟩
    · rw [hb0, he0, putH_ne]
      · rfl
      · intro e
        have := seg_len (a := a) (i := c.i - m) (n := m) (by omega)
        rw [e] at this
        simp at this
        omega
    · have e1 : c.i - m + m = c.i := by omega
      have e2 : c.j - m + m = c.j := by omega
      rw [e1, e2] at hp
      exact hp
/-- The state along a script. -/
def Inv (ar : Nat) (c : CutD) (po : Option Nat) (more : Bool) : Prop :=
  (c.opn = true ∧ ∃ r ha hb ps p q, c.out = r ++ [hkOf ha hb ps] ∧ Opn a b r ha hb ps c.i c.j p q ∧ ps.any (fun p => decide (p.1 ≠ 0)) = true ∧ ∀ p, ps.getLast? = some p → po = some p.1) ∨
  (c.opn = false ∧ ∃ p q t, Shut (a := a) (b := b) ar c more p q t)
theorem Inv.step {ar : Nat} {c : CutD} {po : Option Nat} {e : EdD} {last : Bool} (h : Inv (a := a) (b := b) ar c po true) (he : 1 ≤ e.n ∧ e.op ≤ 2) (hpo : ∀ o, po = some o → o ≠ e.op ∧ ¬ (o = 2 ∧ e.op = 1)) (hf : e.op = 0 → (a.drop c.i).take e.n = (b.drop c.j).take e.n)
    (hA : e.op ≠ 2 → c.i + e.n ≤ a.length) (hB : e.op ≠ 1 → c.j + e.n ≤ b.length) : Inv (a := a) (b := b) ar (editP a b ar c e last) (some e.op) (!last) := by
  by_cases h0 : e.op = 0
  · have hA := hA (by omega)
    have hB := hB (by omega)
    have hf := hf h0
    unfold editP
    rw [if_pos h0]
    rcases h with ⟨ho, r, ha, hb, ps, p, q, hout, hop, hany, hlp⟩ | ⟨ho, p, q, t, hs⟩
    · have hl0 : ∀ p, ps.getLast? = some p → p.1 ≠ 0 := fun p hp => by have := hpo _ (hlp p hp); omega
      by_cases hc : last = false ∧ e.n ≤ 2 * ar
      · rw [if_pos ⟨ho, hc⟩, hout, putL_snoc]
        have hx : (a.drop c.i).take e.n ≠ [] := fun q => by have := seg_len hA; rw [q] at this; simp at this; omega
        rw [putH_ne _ _ _ _ hx]
        refine .inl ⟨rfl, r, ha, hb, _, p, q, rfl, hop.put0 he.1 hA hB hf hl0, by rw [List.any_append, hany]; rfl, fun x hx => ?_⟩
        simp at hx
        rw [← hx, h0]
      · rw [if_neg (fun q => hc q.2), if_pos ho, hout, putL_snoc]
        refine .inr ⟨rfl, ?_⟩
        rcases Nat.eq_zero_or_pos (min ar e.n) with hz | hz
        · rw [hz, List.take_zero, putH_nil]
          have hcl := hop.close hany
          exact ⟨c.i, c.j, e.n, hcl, rfl, rfl, hf, hA, hB, fun _ => by show min ar e.n ≤ e.n; omega⟩
        · have hx : (a.drop c.i).take (min ar e.n) ≠ [] := fun q => by have := seg_len (a := a) (i := c.i) (n := min ar e.n) (by omega); rw [q] at this; simp at this; omega
          rw [putH_ne _ _ _ _ hx]
          have hf' : (a.drop c.i).take (min ar e.n) = (b.drop c.j).take (min ar e.n) := by
            have := congrArg (List.take (min ar e.n)) hf
            rwa [List.take_take, List.take_take, Nat.min_eq_left (Nat.min_le_right _ _)] at this
          have hcl := (hop.put0 hz (by omega) (by omega) hf' hl0).close (by rw [List.any_append, hany]; rfl)
          refine ⟨c.i + min ar e.n, c.j + min ar e.n, e.n - min ar e.n, hcl, by show c.i + e.n = _; omega, by show c.j + e.n = _; omega, ?_, hA, hB, fun hm => ?_⟩
          · have := congrArg (List.drop (min ar e.n)) hf
            rwa [List.drop_take, List.drop_take, List.drop_drop, List.drop_drop] at this
          · show min ar e.n ≤ e.n - min ar e.n
            have hlf : last = false := by simpa using hm
            have : ¬ e.n ≤ 2 * ar := fun q => hc ⟨hlf, q⟩
            omega
    · rw [if_neg (fun q => by rw [ho] at q; exact absurd q.1 (by decide)), if_neg (by rw [ho]; decide)]
      refine .inr ⟨rfl, p, q, t + e.n, hs.prev, by show c.i + e.n = _; rw [hs.i]; omega, by show c.j + e.n = _; rw [hs.j]; omega, ?_, hA, hB, fun _ => by show min ar e.n ≤ _; omega⟩
      rw [seg_add, seg_add, hs.same, ← hs.i, ← hs.j, hf]
  · -- a change: an open hunk, or one that is begun
    have key : ∃ r ha hb ps p q, (beginP a ar c).out = r ++ [hkOf ha hb ps] ∧ Opn a b r ha hb ps c.i c.j p q ∧ ∀ p, ps.getLast? = some p → p.1 ≠ e.op ∧ ¬ (p.1 = 2 ∧ e.op = 1) := by
      rcases h with ⟨ho, r, ha, hb, ps, p, q, hout, hop, hany, hlp⟩ | ⟨ho, p, q, t, hs⟩
      · exact ⟨r, ha, hb, ps, p, q, by rw [beginP, if_pos ho]; exact hout, hop, fun x hx => hpo _ (hlp x hx)⟩
      · obtain ⟨ha, hb, ps, k1, k2, k3⟩ := hs.begin_ ho
        exact ⟨c.out, ha, hb, ps, p, q, k1, k2, fun x hx => by rw [k3 x hx]; omega⟩
    obtain ⟨r, ha, hb, ps, p, q, hout, hop, hl⟩ := key
    unfold editP
    rw [if_neg h0]
    by_cases h1 : e.op = 1
    · rw [if_pos h1, hout, putL_snoc]
      have hA := hA (by omega)
      have hx : (a.drop c.i).take e.n ≠ [] := fun q => by have := seg_len hA; rw [q] at this; simp at this; omega
      rw [putH_ne _ _ _ _ hx]
      refine .inl ⟨rfl, r, ha, hb, _, p, q, rfl, hop.put1 he.1 hA (fun x hx => ?_), by rw [List.any_append]; simp, fun x hx => ?_⟩
      · have := hl x hx
        have h2 := can_ops hop.can x (List.mem_of_getLast? hx)
        omega
      · simp at hx
        rw [← hx, h1]
    · rw [if_neg h1, hout, putL_snoc]
      have hB := hB h1
      have h2 : e.op = 2 := by omega
      have hx : (b.drop c.j).take e.n ≠ [] := fun q => by have := seg_len hB; rw [q] at this; simp at this; omega
      rw [putH_ne _ _ _ _ hx]
      refine .inl ⟨rfl, r, ha, hb, _, p, q, rfl, hop.put2 he.1 hB (fun x hx => ?_), by rw [List.any_append]; simp, fun x hx => ?_⟩
      · have := hl x hx
        omega
      · simp at hx
        rw [← hx, h2]
theorem Inv.go {ar : Nat} : ∀ (l : List EdD) (c : CutD) (po : Option Nat), Inv (a := a) (b := b) ar c po (!l.isEmpty) → canE l → (∀ e, l.head? = some e → ∀ o, po = some o → o ≠ e.op ∧ ¬ (o = 2 ∧ e.op = 1)) → followP a b c.i c.j l → c.i + fromA l = a.length → c.j + fromB l = b.length →
    ∃ p q t, Prev a b (editsP a b ar c l).out p q ∧ a.length = p + t ∧ b.length = q + t ∧ (a.drop p).take t = (b.drop q).take t
  | [], c, po, h, _, _, _, h1, h2 => by
    rw [editsP]
    have h1 : c.i = a.length := by simpa [fromA] using h1
    have h2 : c.j = b.length := by simpa [fromB] using h2
    rcases h with ⟨ho, r, ha, hb, ps, p, q, hout, hop, hany, hlp⟩ | ⟨ho, p, q, t, hs⟩
    · rw [hout]
      exact ⟨_, _, 0, hop.close hany, by omega, by omega, by simp⟩
    · exact ⟨p, q, t, hs.prev, by rw [← h1]; exact hs.i, by rw [← h2]; exact hs.j, hs.same⟩
  | e :: l, c, po, h, hc, hp, hfo, h1, h2 => by
    obtain ⟨f1, f2⟩ := hfo
    have e1 : fromA (e :: l) = (if e.op = 2 then 0 else e.n) + fromA l := by simp [fromA]
    have e2 : fromB (e :: l) = (if e.op = 1 then 0 else e.n) + fromB l := by simp [fromB]
    rw [e1] at h1
    rw [e2] at h2
    have hi : (editP a b ar c e l.isEmpty).i = c.i + if e.op = 2 then 0 else e.n := by
      unfold editP
      by_cases q0 : e.op = 0
      · have q2 : ¬ e.op = 2 := by omega
        rw [if_pos q0, if_neg q2]
        split
        · rfl
        · split <;> rfl
      · rw [if_neg q0]
        by_cases q1 : e.op = 1
        · have q2 : ¬ e.op = 2 := by omega
          rw [if_pos q1, if_neg q2]
        · rw [if_neg q1, if_pos (by have := (canE.head hc).2; omega)]; rfl
    have hj : (editP a b ar c e l.isEmpty).j = c.j + if e.op = 1 then 0 else e.n := by
      unfold editP
      by_cases q0 : e.op = 0
      · have q2 : ¬ e.op = 1 := by omega
        rw [if_pos q0, if_neg q2]
        split
        · rfl
        · split <;> rfl
      · rw [if_neg q0]
        by_cases q1 : e.op = 1
        · rw [if_pos q1, if_pos q1]; rfl
        · rw [if_neg q1, if_neg q1]
    have hs := Inv.step (last := l.isEmpty) (e := e) h (canE.head hc) (fun o ho => hp e rfl o ho) f1 (fun q => by rw [if_neg q] at h1; omega) (fun q => by rw [if_neg q] at h2; omega)
    rw [editsP]
    exact Inv.go l _ (some e.op) hs (canE.tail hc) (fun f hf o ho => by injection ho with ho; subst ho; exact canE.next hc f hf) (by rw [hi, hj]; exact f2) (by rw [hi]; omega) (by rw [hj]; omega)
/-- What the hunks of two texts do, and are. -/
theorem hunks_do (a b : List (List UInt8)) (ar : Nat) : applyL a (hunksP a b ar) 0 [] = .ok b ∧ applyL b ((hunksP a b ar).map backP) 0 [] = .ok a ∧ ∀ h ∈ hunksP a b ar, HkF a b h := by
  obtain ⟨d1, d2⟩ := diffP_can a b
  obtain ⟨_, d3, d4, _⟩ := diffP_of a b
  obtain ⟨p, q, t, h1, h2, h3, h4⟩ := Inv.go (a := a) (b := b) (ar := ar) (diffP a b) ⟨0, 0, [], false, 0⟩ none (.inr ⟨rfl, 0, 0, 0, ⟨rfl, rfl, by simp, Nat.zero_le _, Nat.zero_le _⟩, rfl, rfl, rfl, Nat.zero_le _, Nat.zero_le _, fun _ => by simp⟩) d2 (fun _ _ _ h => absurd h (by simp)) d1 (by simpa using d3) (by simpa using d4)
  have e1 : a.drop p = (a.drop p).take t := (List.take_of_length_le (by rw [List.length_drop]; omega)).symm
  have e2 : b.drop q = (b.drop q).take t := (List.take_of_length_le (by rw [List.length_drop]; omega)).symm
  refine ⟨?_, ?_, h1.m⟩
  · unfold hunksP
    rw [applyL_run a _ 0 [] _ h1.f]
    simp only
    rw [e1, h4, ← e2, List.take_append_drop]
  · unfold hunksP
    rw [applyL_run b _ 0 [] _ h1.g]
    simp only
    rw [e2, ← h4, ← e1, List.take_append_drop]
end
/-- The hunks of two texts of good lines, all that PatchBack asks of them. -/
theorem hunks_back (a b : List (List UInt8)) (ar : Nat) (ha : ∀ s ∈ a, lineP s = true) (hb : ∀ s ∈ b, lineP s = true) (hla : a.length ≤ 999999999) (hlb : b.length ≤ 999999999) :
    applyP a ((hunksP a b ar).map HkD.toI) = .ok b ∧ applyP b (((hunksP a b ar).map backP).map HkD.toI) = .ok a ∧ (∀ h ∈ hunksP a b ar, okH h.toI = true) ∧ (∀ h ∈ (hunksP a b ar).map backP, okH h.toI = true) ∧ ((hunksP a b ar).map backP).map backP = hunksP a b ar := by
  obtain ⟨h1, h2, h3⟩ := hunks_do a b ar
  have hln : ∀ s, s ∈ a ∨ s ∈ b → lineP s = true := fun s hs => hs.elim (ha s) (hb s)
  have k1 : ∀ h ∈ hunksP a b ar, okH h.toI = true := fun h hh => by
    obtain ⟨x, y, ps, rfl, e1, e2, e3, e4, e5⟩ := h3 h hh
    exact ok_of (by omega) (by omega) e3 e4 fun s hs => hln s (e5 s hs)
  have k2 : ∀ h ∈ (hunksP a b ar).map backP, okH h.toI = true := fun h hh => by
    obtain ⟨h', hh', rfl⟩ := List.mem_map.1 hh
    obtain ⟨x, y, ps, rfl, e1, e2, e3, e4, e5⟩ := h3 h' hh'
    obtain ⟨_, _, _, s4, s5⟩ := swap_sides _ ps (Nat.le_refl _) (can_ops e3)
    rw [back_of x y e3]
    exact ok_of (by omega) (by omega) (swap_can _ ps (Nat.le_refl _) e3).1 (by rw [s5]; exact e4) fun s hs => hln s (e5 s (s4 s hs))
  have hto : ∀ l : List HkD, (l.map HkD.toI).map HkI.toD = l := fun l => by
    rw [List.map_map]
    conv => rhs; rw [← List.map_id l]
    exact List.map_congr_left fun h _ => toI_toD h
  have hall : ∀ l : List HkD, (∀ h ∈ l, okH h.toI = true) → (l.map HkD.toI).all okH = true := fun l h => by
    rw [List.all_eq_true]
    intro x hx
    obtain ⟨y, hy, rfl⟩ := List.mem_map.1 hx
    exact h y hy
  refine ⟨?_, ?_, k1, k2, ?_⟩
  · unfold applyP
    rw [if_pos (hall _ k1), hto]
    exact h1
  · unfold applyP
    rw [if_pos (hall _ k2), hto]
    exact h2
  · rw [List.map_map]
    conv => rhs; rw [← List.map_id (hunksP a b ar)]
    refine List.map_congr_left fun h hh => ?_
    obtain ⟨x, y, ps, rfl, _, _, e3, _⟩ := h3 h hh
    exact back_back x y e3
end Go.Proofs.YtlcidbbpjlpmjaaDoor
namespace Go.Proofs.YtlcidbbpjlpmjaaDoor
open Go.RowKit

def strip (s : List UInt8) : List UInt8 := s.filter (fun x => x != 10)
def goodLine (last : Bool) (s : List UInt8) : List UInt8 := if last = false ∨ s.getLast? = some 10 ∨ strip s = [] then strip s ++ [10] else strip s
def goodP : List (List UInt8) → List (List UInt8)
  | [] => []
  | s :: l => goodLine l.isEmpty s :: goodP l
theorem goodP_len : ∀ l : List (List UInt8), (goodP l).length = l.length
  | [] => rfl
  | s :: l => by rw [goodP, List.length_cons, List.length_cons, goodP_len l]
theorem strip_len (s : List UInt8) : (strip s).length ≤ s.length := List.length_filter_le _ _
theorem goodLine_len (b : Bool) (s : List UInt8) : (goodLine b s).length ≤ s.length + 1 := by
  have := strip_len s
  unfold goodLine
  split
  · simp; omega
  · omega
theorem goodP_small {N : Nat} : ∀ l : List (List UInt8), (∀ s ∈ l, s.length ≤ N) → ∀ s ∈ goodP l, s.length ≤ N + 1
  | [], _ => by simp [goodP]
  | t :: l, h => by
    intro s hs
    rw [goodP] at hs
    rcases List.mem_cons.1 hs with rfl | hs
    · have h1 := goodLine_len l.isEmpty t
      have h2 := h t (by simp)
      omega
    · exact goodP_small l (fun s hs => h s (by simp [hs])) s hs
theorem ext1 {s : List UInt8} {i : Nat} {x : UInt8} (h : s[i]? = some x) : (⟨s.toArray⟩ : ByteArray).extract i (i + 1) = ⟨#[x]⟩ := by
  obtain ⟨h1, h2⟩ := List.getElem?_eq_some_iff.1 h
  apply ByteArray.ext
  rw [ByteArray.data_extract]
  apply Array.ext'
  rw [Array.toList_extract, List.extract_eq_take_drop, show i + 1 - i = 1 by omega, List.take_one, List.head?_drop]
  show s[i]?.toList = _
  rw [h]
  rfl
set_option maxHeartbeats 4000000 in
set_option maxRecDepth 100000 in
theorem good_any (l : List (List UInt8)) (A : Option Addr) (c B : Nat) (w : World) (hB : B ≤ w.heap.size) (hr : Reads w B 1 A l.length (strL l)) (hl : l.length ≤ 1048576) (hls : ∀ s ∈ l, s.length ≤ 1048576) :
    Calls Tryd.prog 23 #[.slice A l.length c] w fun r w' => ∃ A' c', r = .returned (.slice A' (goodP l).length c') ∧ Own w' w.heap.size 9 1 A' (goodP l).length c' (strL (goodP l)) ∧ Below w.heap.size w w' := by
  have HR := Lib.hid (show ∀ W, Below w.heap.size w W → Reads W B 1 A l.length (strL l) from fun W k => hr.below (k.mono hB))
  have HLS := Lib.hid hls
  clear hr hls
  obtain ⟨G, hG⟩ : ∃ G, goodP l = G := ⟨_, rfl⟩
  have hGl : G.length = l.length := by rw [← hG, goodP_len]
  have HG := Lib.hid hG
  rw [hG]
  clear hG
  go_enter Tryd.func23, Tryd.ntmps23
  go_wp2_with fail
  go_loopw [3, 4] (fun s3 s4 wr => ∃ (k : Nat) (out : List (List UInt8)) (A3 : Option Addr) (c3 : Nat), k ≤ l.length ∧ s3 = .slice A3 out.length c3 ∧ s4 = .int .i64 (k : Nat) ∧ out.length = k ∧ out ++ goodP (l.drop k) = G ∧ Own wr w.heap.size 9 1 A3 out.length c3 (strL out) ∧ Below w.heap.size w wr) (fun _ s4 _ => l.length - (intOf s4).toNat)
  case atStart => exact ⟨0, [], none, 0, Nat.zero_le _, rfl, rfl, rfl, HG.out, Own.nil _ _ _ _, Below.refl _ _⟩
  case round =>
    obtain ⟨k, out, A3, c3, hk, rfl, rfl, hol, hg, ho, hb⟩ := hrel
    have hz := hb.size
    by_cases hlt : k < l.length
    · obtain ⟨s, hs⟩ : ∃ s, l[k]? = some s := ⟨_, List.getElem?_eq_getElem hlt⟩
      have hsl := HLS.out s (List.mem_of_getElem? hs)
      obtain ⟨g1, o1, rfl, _, hc⟩ := (HR.out _ hb).at0 (by omega) (by omega)
      have d9 := hc _ _ (strL_at' hs)
      unfold strC at d9
      have hdr : l.drop k = s :: l.drop (k + 1) := List.drop_eq_getElem?_toList_append.trans (by rw [hs]; rfl)
      rw [hdr, goodP] at hg
      have hemp : (l.drop (k + 1)).isEmpty = decide (l.length ≤ k + 1) := by
        rw [Bool.eq_iff_iff, List.isEmpty_iff, List.drop_eq_nil_iff, decide_eq_true_eq]
      rw [hemp] at hg
      have HGG := Lib.hid hg
      have hi0 : (0 : Int) ≤ (k : Int) := Int.natCast_nonneg _
      have hi1 : (k : Int) < (l.length : Int) := by omega
      clear hc hs hdr hemp hg
      go_wp2_with fail
      go_loopw [5, 6] (fun s5 s6 wi => ∃ (j : Nat) (T : List UInt8), j ≤ s.length ∧ s5 = .string ⟨T.toArray⟩ ∧ s6 = .int .i64 (j : Nat) ∧ T ++ strip (s.drop j) = strip s ∧ wi = wr) (fun _ s6 _ => s.length - (intOf s6).toNat)
      case atStart => exact ⟨0, [], Nat.zero_le _, rfl, rfl, rfl, rfl⟩
      case round =>
        obtain ⟨j, T, hj, rfl, rfl, hT, rfl⟩ := hrel
        by_cases hjl : j < s.length
        · obtain ⟨x, hx⟩ : ∃ x, s[j]? = some x := ⟨_, List.getElem?_eq_getElem hjl⟩
          have hdx : s.drop j = x :: s.drop (j + 1) := List.drop_eq_getElem?_toList_append.trans (by rw [hx]; rfl)
          rw [hdx, show strip (x :: s.drop (j + 1)) = (if (x != 10) = true then [x] else []) ++ strip (s.drop (j + 1)) by unfold strip; rw [List.filter_cons]; split <;> simp] at hT
          have HX := Lib.hid hx
          have hj0 : (0 : Int) ≤ (j : Int) := Int.natCast_nonneg _
          have hj1 : (j : Int) < (s.length : Int) := by omega
          have hx1 := ext1 hx
          have HX1 := Lib.hid hx1
          have hTl := congrArg List.length hT
          have hsp := strip_len s
          rw [List.length_append] at hTl
          have hTb : T.length + 1 ≤ 9223372036854775807 := by omega
          have HT := Lib.hid hT
          clear hx hdx hT hx1 hTl hsp
          go_wp2_with fail
          · rename_i hc
            have h10 : decide (x = (10 : UInt8)) = !true := byte_ne (c := 10) (by decide) HX.out hc
            have HT2 := Lib.hid (show (T ++ [x]) ++ strip (s.drop (j + 1)) = strip s from by
              have := HT.out
              rw [if_pos (by simpa using h10)] at this
              simpa using this)
            go_roundw
            case rel => exact ⟨j + 1, T ++ [x], hjl, by rw [HX1.out]; congr 1, by go_num, HT2.out, by first | rfl | trivial⟩
            case measure => simp [intOf]; omega
          · rename_i hc
            have h10 : decide (x = (10 : UInt8)) = !false := byte_ne (c := 10) (by decide) HX.out hc
            have HT2 := Lib.hid (show T ++ strip (s.drop (j + 1)) = strip s from by
              have := HT.out
              rw [if_neg (by simpa using h10)] at this
              simpa using this)
            go_roundw
            case rel => exact ⟨j + 1, T, hjl, rfl, by go_num, HT2.out, by first | rfl | trivial⟩
            case measure => simp [intOf]; omega
        · obtain rfl : j = s.length := by omega
          rw [List.drop_length, show strip [] = [] from rfl, List.append_nil] at hT
          subst hT
          have hsp := strip_len s
          have hxx : ¬ (s.length < s.length) := Nat.lt_irrefl _
          go_upto_region 11 with fail
          have HO := Lib.hid ho
          have HB := Lib.hid hb
          have wk : IntKind.i64.wrap ((k : Int) + 1) = (k : Int) + 1 := IntWalk.i64_in _ (by omega)
          have HLAST := Lib.hid (show ∀ t, goodLine (decide (l.length ≤ k + 1)) s = t → (out ++ [t]) ++ goodP (l.drop (k + 1)) = G from fun t ht => by rw [← ht, ← HGG.out]; simp)
          clear ho hb HGG
          by_cases qA : k + 1 < l.length
          · have dA : decide ((k : Int) + 1 < (l.length : Int)) = true := decide_eq_true (by omega)
            have HG1 := Lib.hid (show goodLine (decide (l.length ≤ k + 1)) s = strip s ++ [10] from by unfold goodLine; rw [if_pos (.inl (decide_eq_false (by omega)))])
            go_quiet (fail)
            have HO2 := Lib.hid (HO.out.drewN nq)
            have HB2 := Lib.hid (HB.out.trans (((Keep.refl Nothing wr).drewN nq).all.mono hz))
            have hz2 := HB2.out.size
            clear HO HB d9
            generalize wr.drewN nq = w9 at *
            go_wp2_with (at_builtin; refine wpList_append_sl rfl elemStr rfl rfl (n := out.length) (xs := strL out) (HO2.out.alloc _) rfl (Reads.of_blk (n := 1) (size := 1) (xs := strL [strip s ++ [10]]) (heap_alloc_new _ _) (by simp [strL, strC]; try (apply ByteArray.ext; simp)) rfl) (strL_one [strip s ++ [10]]) (by unfold maxLen; omega) (by omega) (by simp; omega) ?_; intro A9 c9 w9' o9 k9; have HO9 := Lib.hid o9; have HB9 := Lib.hid (HB2.out.trans ((((Kept.refl _ _ _ _).alloc _).trans k9).below (Nat.le_refl _) hz2 (by simp))); clear o9 k9)
            go_roundw
            case rel => exact ⟨k + 1, out ++ [strip s ++ [10]], A9, c9, hlt, by rw [List.length_append, List.length_singleton, hol], by go_num, by rw [List.length_append, List.length_singleton, hol], HLAST.out _ HG1.out, by rw [List.length_append, List.length_singleton]; simpa [strL] using HO9.out, HB9.out⟩
            case measure => simp [intOf]; omega
          have dA : decide ((k : Int) + 1 < (l.length : Int)) = false := decide_eq_false (by omega)
          by_cases qD : s.length = 0
          · have hs0 : s = [] := List.eq_nil_of_length_eq_zero qD
            subst hs0
            have dD : decide ((0 : Int) < ((([] : List UInt8).length : Nat) : Int)) = false := rfl
            have dE : (strip ([] : List UInt8)).isEmpty = true := rfl
            have HG1 := Lib.hid (show goodLine (decide (l.length ≤ k + 1)) [] = strip [] ++ [10] from by unfold goodLine; rw [if_pos (.inr (.inr rfl))])
            go_quiet (fail)
            have HO2 := Lib.hid (HO.out.drewN nq)
            have HB2 := Lib.hid (HB.out.trans (((Keep.refl Nothing wr).drewN nq).all.mono hz))
            have hz2 := HB2.out.size
            clear HO HB d9
            generalize wr.drewN nq = w9 at *
            go_wp2_with (at_builtin; refine wpList_append_sl rfl elemStr rfl rfl (n := out.length) (xs := strL out) (HO2.out.alloc _) rfl (Reads.of_blk (n := 1) (size := 1) (xs := strL [strip [] ++ [10]]) (heap_alloc_new _ _) (by simp [strL, strC]; try (apply ByteArray.ext; simp)) rfl) (strL_one [strip [] ++ [10]]) (by unfold maxLen; omega) (by omega) (by simp; omega) ?_; intro A9 c9 w9' o9 k9; have HO9 := Lib.hid o9; have HB9 := Lib.hid (HB2.out.trans ((((Kept.refl _ _ _ _).alloc _).trans k9).below (Nat.le_refl _) hz2 (by simp))); clear o9 k9)
            go_roundw
            case rel => exact ⟨k + 1, out ++ [strip [] ++ [10]], A9, c9, hlt, by rw [List.length_append, List.length_singleton, hol], by go_num, by rw [List.length_append, List.length_singleton, hol], HLAST.out _ HG1.out, by rw [List.length_append, List.length_singleton]; simpa [strL] using HO9.out, HB9.out⟩
            case measure => simp [intOf]; omega
          have dD : decide ((0 : Int) < (s.length : Int)) = true := decide_eq_true (by omega)
          have dN : decide (0 < s.length) = true := decide_eq_true (by omega)
          have hN : 0 < s.length := by omega
          have hwl : IntKind.i64.wrap ((s.length : Int) - 1) = ((s.length - 1 : Nat) : Int) := by rw [IntWalk.i64_in _ (by omega)]; omega
          have hl0 : (0 : Int) ≤ ((s.length - 1 : Nat) : Int) := Int.natCast_nonneg _
          have hl1 : ((s.length - 1 : Nat) : Int) < (s.length : Int) := by omega
          have hlb : s.length - 1 < (⟨s.toArray⟩ : ByteArray).size := by show s.length - 1 < s.toArray.size; simp; omega
          obtain ⟨xl, hxl⟩ : ∃ x, s[s.length - 1]? = some x := ⟨_, List.getElem?_eq_getElem (by omega)⟩
          have hgl : s.getLast? = some xl := by rw [List.getLast?_eq_getElem?]; exact hxl
          have hba := byte_at hxl hlb
          have HBA := Lib.hid hba
          have HXL := Lib.hid hgl
          clear hxl hgl hba
          by_cases qB : xl = 10
          · have dB : ((((⟨s.toArray⟩ : ByteArray)[s.length - 1]'hlb).toNat : Int) == 10) = true := by rw [HBA.out, qB]; rfl
            have HG1 := Lib.hid (show goodLine (decide (l.length ≤ k + 1)) s = strip s ++ [10] from by unfold goodLine; rw [if_pos (.inr (.inl (by rw [HXL.out, qB])))])
            clear qB
            go_quiet (fail)
            have HO2 := Lib.hid (HO.out.drewN nq)
            have HB2 := Lib.hid (HB.out.trans (((Keep.refl Nothing wr).drewN nq).all.mono hz))
            have hz2 := HB2.out.size
            clear HO HB d9
            generalize wr.drewN nq = w9 at *
            go_wp2_with (at_builtin; refine wpList_append_sl rfl elemStr rfl rfl (n := out.length) (xs := strL out) (HO2.out.alloc _) rfl (Reads.of_blk (n := 1) (size := 1) (xs := strL [strip s ++ [10]]) (heap_alloc_new _ _) (by simp [strL, strC]; try (apply ByteArray.ext; simp)) rfl) (strL_one [strip s ++ [10]]) (by unfold maxLen; omega) (by omega) (by simp; omega) ?_; intro A9 c9 w9' o9 k9; have HO9 := Lib.hid o9; have HB9 := Lib.hid (HB2.out.trans ((((Kept.refl _ _ _ _).alloc _).trans k9).below (Nat.le_refl _) hz2 (by simp))); clear o9 k9)
            go_roundw
            case rel => exact ⟨k + 1, out ++ [strip s ++ [10]], A9, c9, hlt, by rw [List.length_append, List.length_singleton, hol], by go_num, by rw [List.length_append, List.length_singleton, hol], HLAST.out _ HG1.out, by rw [List.length_append, List.length_singleton]; simpa [strL] using HO9.out, HB9.out⟩
            case measure => simp [intOf]; omega
          have dB : ((((⟨s.toArray⟩ : ByteArray)[s.length - 1]'hlb).toNat : Int) == 10) = false := by
            rw [HBA.out, beq_eq_false_iff_ne]
            intro q
            exact qB (UInt8.toNat_inj.1 (by have : (10 : UInt8).toNat = 10 := rfl; omega))
          have QB := Lib.hid qB
          clear qB
          by_cases qE : strip s = []
          · have dE : (strip s).isEmpty = true := by rw [qE]; rfl
            have HG1 := Lib.hid (show goodLine (decide (l.length ≤ k + 1)) s = strip s ++ [10] from by unfold goodLine; rw [if_pos (.inr (.inr qE))])
            clear qE
            go_quiet (fail)
            have HO2 := Lib.hid (HO.out.drewN nq)
            have HB2 := Lib.hid (HB.out.trans (((Keep.refl Nothing wr).drewN nq).all.mono hz))
            have hz2 := HB2.out.size
            clear HO HB d9
            generalize wr.drewN nq = w9 at *
            go_wp2_with (at_builtin; refine wpList_append_sl rfl elemStr rfl rfl (n := out.length) (xs := strL out) (HO2.out.alloc _) rfl (Reads.of_blk (n := 1) (size := 1) (xs := strL [strip s ++ [10]]) (heap_alloc_new _ _) (by simp [strL, strC]; try (apply ByteArray.ext; simp)) rfl) (strL_one [strip s ++ [10]]) (by unfold maxLen; omega) (by omega) (by simp; omega) ?_; intro A9 c9 w9' o9 k9; have HO9 := Lib.hid o9; have HB9 := Lib.hid (HB2.out.trans ((((Kept.refl _ _ _ _).alloc _).trans k9).below (Nat.le_refl _) hz2 (by simp))); clear o9 k9)
            go_roundw
            case rel => exact ⟨k + 1, out ++ [strip s ++ [10]], A9, c9, hlt, by rw [List.length_append, List.length_singleton, hol], by go_num, by rw [List.length_append, List.length_singleton, hol], HLAST.out _ HG1.out, by rw [List.length_append, List.length_singleton]; simpa [strL] using HO9.out, HB9.out⟩
            case measure => simp [intOf]; omega
          · have dE : (strip s).isEmpty = false := by
              cases hq : strip s with
              | nil => exact absurd hq qE
              | cons x y => rfl
            have HG1 := Lib.hid (show goodLine (decide (l.length ≤ k + 1)) s = strip s from by
              unfold goodLine
              rw [if_neg]
              rintro (q | q | q)
              · exact absurd (of_decide_eq_false q) (by omega)
              · rw [HXL.out] at q
                injection q with q
                exact QB.out q
              · exact qE q)
            clear qE
            go_quiet (fail)
            have HO2 := Lib.hid (HO.out.drewN nq)
            have HB2 := Lib.hid (HB.out.trans (((Keep.refl Nothing wr).drewN nq).all.mono hz))
            have hz2 := HB2.out.size
            clear HO HB d9
            generalize wr.drewN nq = w9 at *
            go_wp2_with (at_builtin; refine wpList_append_sl rfl elemStr rfl rfl (n := out.length) (xs := strL out) (HO2.out.alloc _) rfl (Reads.of_blk (n := 1) (size := 1) (xs := strL [strip s]) (heap_alloc_new _ _) (by simp [strL, strC]; try (apply ByteArray.ext; simp)) rfl) (strL_one [strip s]) (by unfold maxLen; omega) (by omega) (by simp; omega) ?_; intro A9 c9 w9' o9 k9; have HO9 := Lib.hid o9; have HB9 := Lib.hid (HB2.out.trans ((((Kept.refl _ _ _ _).alloc _).trans k9).below (Nat.le_refl _) hz2 (by simp))); clear o9 k9)
            go_roundw
            case rel => exact ⟨k + 1, out ++ [strip s], A9, c9, hlt, by rw [List.length_append, List.length_singleton, hol], by go_num, by rw [List.length_append, List.length_singleton, hol], HLAST.out _ HG1.out, by rw [List.length_append, List.length_singleton]; simpa [strL] using HO9.out, HB9.out⟩
            case measure => simp [intOf]; omega
    · obtain rfl : k = l.length := by omega
      rw [List.drop_length, goodP, List.append_nil] at hg
      subst hg
      go_wp2_with fail
      go_ret
      exact ⟨_, _, rfl, ho, hb⟩
end Go.Proofs.YtlcidbbpjlpmjaaDoor
namespace Go.Proofs.YtlcidbbpjlpmjaaDoor

/-- At most k edits, k rows of M lines; each line out of a or b. -/
def HkB (a b : List (List UInt8)) (M k : Nat) (h : HkD) : Prop := h.eds.length ≤ k ∧ h.ls.length ≤ k * M ∧ ∀ s ∈ h.ls, s ∈ a ∨ s ∈ b
theorem HkB.mono {a b : List (List UInt8)} {M k k' : Nat} {h : HkD} (x : HkB a b M k h) (hk : k ≤ k') : HkB a b M k' h :=
  ⟨Nat.le_trans x.1 hk, Nat.le_trans x.2.1 (Nat.mul_le_mul_right _ hk), x.2.2⟩
theorem HkB.put {a b : List (List UInt8)} {M k op : Nat} {h : HkD} {l : List (List UInt8)} (x : HkB a b M k h) (h1 : l.length ≤ M) (h2 : ∀ s ∈ l, s ∈ a ∨ s ∈ b) : HkB a b M (k + 1) (putH h op l) := by
  unfold putH
  split
  · exact x.mono (Nat.le_succ _)
  · obtain ⟨x1, x2, x3⟩ := x
    refine ⟨by simp; omega, by simp only [List.length_append]; rw [Nat.succ_mul]; omega, fun s hs => ?_⟩
    simp only [List.mem_append] at hs
    rcases hs with hs | hs
    · exact x3 s hs
    · exact h2 s hs
theorem HkB.putL {a b : List (List UInt8)} {M k op : Nat} {out : List HkD} {l : List (List UInt8)} (x : ∀ h ∈ out, HkB a b M k h) (h1 : l.length ≤ M) (h2 : ∀ s ∈ l, s ∈ a ∨ s ∈ b) : ∀ h ∈ putL out op l, HkB a b M (k + 1) h := by
  rcases List.eq_nil_or_concat out with rfl | ⟨r, e, rfl⟩
  · intro h hh; simp [Proofs.YtlcidbbpjlpmjaaDoor.putL] at hh
  · rw [List.concat_eq_append] at x ⊢
    rw [putL_snoc]
    intro h hh
    rw [List.mem_append, List.mem_singleton] at hh
    rcases hh with hh | rfl
    · exact (x h (by simp [hh])).mono (Nat.le_succ _)
    · exact (x e (by simp)).put h1 h2
theorem cut_in {a b : List (List UInt8)} {i n M : Nat} (h : a.length ≤ M) : ((a.drop i).take n).length ≤ M ∧ ∀ s ∈ (a.drop i).take n, s ∈ a ∨ s ∈ b :=
  ⟨by rw [List.length_take, List.length_drop]; omega, fun _ hs => .inl (List.mem_of_mem_drop (List.mem_of_mem_take hs))⟩
theorem cut_in' {a b : List (List UInt8)} {i n M : Nat} (h : b.length ≤ M) : ((b.drop i).take n).length ≤ M ∧ ∀ s ∈ (b.drop i).take n, s ∈ a ∨ s ∈ b :=
  ⟨by rw [List.length_take, List.length_drop]; omega, fun _ hs => .inr (List.mem_of_mem_drop (List.mem_of_mem_take hs))⟩
section
variable {a b : List (List UInt8)} {M : Nat} (ha : a.length ≤ M) (hb : b.length ≤ M) (ar : Nat)
theorem HkB.begin (ha : a.length ≤ M) (ar : Nat) {c : CutD} {k : Nat} (x : ∀ h ∈ c.out, HkB a b M k h) : ∀ h ∈ (beginP a ar c).out, HkB a b M (k + 1) h := by
  unfold beginP
  split
  · exact fun h hh => (x h hh).mono (Nat.le_succ _)
  · intro h hh
    simp only [List.mem_append, List.mem_singleton] at hh
    rcases hh with hh | rfl
    · exact (x h hh).mono (Nat.le_succ _)
    · have := cut_in (b := b) (i := c.i - min ar c.uns) (n := min ar c.uns) ha
      exact (HkB.put (k := 0) (h := ⟨c.i - min ar c.uns, c.j - min ar c.uns, [], []⟩) ⟨by simp, by simp, by simp⟩ this.1 this.2).mono (by omega)
include ha hb in
theorem HkB.edit {c : CutD} {e : EdD} {last : Bool} {k : Nat} (x : ∀ h ∈ c.out, HkB a b M k h) : ∀ h ∈ (editP a b ar c e last).out, HkB a b M (k + 2) h := by
  unfold editP
  split
  · split
    · have := cut_in (b := b) (i := c.i) (n := e.n) ha
      exact fun h hh => (HkB.putL x this.1 this.2 h hh).mono (by omega)
    · split
      · have := cut_in (b := b) (i := c.i) (n := min ar e.n) ha
        exact fun h hh => (HkB.putL x this.1 this.2 h hh).mono (by omega)
      · exact fun h hh => (x h hh).mono (by omega)
  · split
    · have := cut_in (b := b) (i := c.i) (n := e.n) ha
      exact HkB.putL (HkB.begin ha ar x) this.1 this.2
    · have := cut_in' (a := a) (i := c.j) (n := e.n) hb
      exact HkB.putL (HkB.begin ha ar x) this.1 this.2
include ha hb in
theorem HkB.edits : ∀ (l : List EdD) (c : CutD) (k : Nat), (∀ h ∈ c.out, HkB a b M k h) → ∀ h ∈ (editsP a b ar c l).out, HkB a b M (k + 2 * l.length) h
  | [], _, _, x => x
  | e :: l, c, k, x => by
    rw [editsP]
    intro h hh
    exact (HkB.edits l _ _ (HkB.edit ha hb ar x) h hh).mono (by simp; omega)
include ha hb in
theorem hunksP_small : ∀ h ∈ hunksP a b ar, HkB a b M (4 * M) h := by
  intro h hh
  have := HkB.edits ha hb ar (diffP a b) ⟨0, 0, [], false, 0⟩ 0 (by simp) h hh
  have hd := (diffP_of a b).2.2.2
  exact this.mono (by omega)
theorem editsP_len : ∀ (l : List EdD) (c : CutD), (editsP a b ar c l).out.length ≤ c.out.length + l.length
  | [], _ => by simp [editsP]
  | e :: l, c => by
    rw [editsP]
    have ih := editsP_len l (editP a b ar c e l.isEmpty)
    have hp : ∀ (o : List HkD) op x, (Proofs.YtlcidbbpjlpmjaaDoor.putL o op x).length = o.length := fun o op x => by
      rcases List.eq_nil_or_concat o with rfl | ⟨r, e, rfl⟩
      · rfl
      · rw [List.concat_eq_append, putL_snoc]; simp
    have hbg : (beginP a ar c).out.length ≤ c.out.length + 1 := by
      unfold beginP
      split
      · omega
      · simp
    have : (editP a b ar c e l.isEmpty).out.length ≤ c.out.length + 1 := by
      unfold editP
      split
      · split
        · simp only [hp]; omega
        · split
          · simp only [hp]; omega
          · simp
      · split
        · simp only [hp]; omega
        · simp only [hp]; omega
    rw [List.length_cons]
    omega
include ha hb in
theorem hunksP_len : (hunksP a b ar).length ≤ 2 * M := by
  have := editsP_len (a := a) (b := b) ar (diffP a b) ⟨0, 0, [], false, 0⟩
  have hd := (diffP_of a b).2.2.2
  unfold hunksP
  simp only [List.length_nil] at this
  omega
end
end Go.Proofs.YtlcidbbpjlpmjaaDoor
namespace Go.Proofs.YtlcidbbpjlpmjaaDoor
open Go.RowKit

theorem sumN_ge : ∀ {l : List EdI}, (∀ e ∈ l, 1 ≤ e.n) → l.length ≤ sumN (l.map EdI.toD)
  | [], _ => by simp
  | e :: l, h => by
    have h1 := h e (by simp)
    have h2 := sumN_ge (l := l) fun x hx => h x (List.mem_cons_of_mem _ hx)
    have e1 : sumN ((e :: l).map EdI.toD) = e.n.toNat + sumN (l.map EdI.toD) := by simp [sumN, EdI.toD]
    rw [e1, List.length_cons]
    omega
theorem okH_len {h : HkI} (ok : okH h = true) : h.eds.length ≤ h.ls.length := by
  obtain ⟨t, ht⟩ := Option.isSome_iff_exists.1 (show (mayP h).isSome = true from ok)
  unfold mayP at ht
  split at ht
  · split at ht
    · cases ht
    · rename_i c hc
      split at ht
      · rename_i hq
        simp only [Bool.and_eq_true, decide_eq_true_eq] at hq
        have h0 : cnt0.all = 0 := rfl
        obtain ⟨h1, h2⟩ := edsP_ok hc (by rw [h0]; omega)
        have := sumN_ge fun e he => (h1 e he).2.2
        omega
      · cases ht
  · cases ht
theorem hkT_pos {h : HkI} (ok : okH h = true) : 1 ≤ (hkT h).length := by
  obtain ⟨t, ht⟩ := Option.isSome_iff_exists.1 (show (mayP h).isSome = true from ok)
  unfold hkT
  rw [ht]
  simp [headT]
theorem hksT_ge : ∀ {l : List HkI}, (∀ h ∈ l, okH h = true) → l.length ≤ (hksT l).length
  | [], _ => by simp
  | h :: l, ok => by
    have h1 := hkT_pos (ok h (by simp))
    have h2 := hksT_ge (l := l) fun x hx => ok x (List.mem_cons_of_mem _ hx)
    have e : hksT (h :: l) = hkT h ++ hksT l := by simp [hksT]
    rw [e, List.length_append, List.length_cons]
    omega
theorem resQ_small {r : Option (List HkQ)} {s : List UInt8} {l : List HkI} (h : resQ r s = some l) : l.length ≤ s.length ∧ ∀ h ∈ l, okH h = true := by
  unfold resQ at h
  split at h
  · cases h
  · split at h
    · rename_i q
      injection h with h
      subst h
      have ok := List.all_eq_true.1 q.1
      refine ⟨?_, ok⟩
      have := hksT_ge ok
      rwa [q.2] at this
    · cases h
theorem HII.small {w : World} {B : Nat} {A : Option Addr} {l : List HkI} (h : HII w B A l) (ok : ∀ h ∈ l, okH h = true) : ∀ h ∈ l, h.eds.length ≤ 9223372036854775807 ∧ h.ls.length ≤ 9223372036854775807 := by
  intro x hx
  obtain ⟨k, hk⟩ := List.getElem?_of_mem hx
  have h1 := okH_len (ok x hx)
  obtain ⟨tv, t1, _, t3⟩ := h
  obtain ⟨y, hy⟩ : ∃ y, tv[k]? = some y := by
    refine ⟨_, List.getElem?_eq_getElem (l := tv) (i := k) ?_⟩
    rcases Nat.lt_or_ge k l.length with q | q
    · omega
    · rw [List.getElem?_eq_none q] at hk; cases hk
  obtain ⟨_, _, _, _, _, _, _, h4, h5, _⟩ := t3 k x y.1 y.2 hk hy
  unfold maxLen at h5
  omega
theorem HII.nil_ (w : World) (B : Nat) (A : Option Addr) : HII w B A [] := ⟨[], rfl, Reads.none_, fun _ _ _ _ h => by cases h⟩
end Go.Proofs.YtlcidbbpjlpmjaaDoor
namespace Go.Proofs.YtlcidbbpjlpmjaaDoor

theorem strip_no (s : List UInt8) : (10 : UInt8) ∉ strip s := by
  unfold strip
  intro h
  have := (List.mem_filter.1 h).2
  simp at this
theorem lineP_snoc {d : List UInt8} {x : UInt8} (h : (10 : UInt8) ∉ d) : lineP (d ++ [x]) = true :=
  lineP_good (by simp) fun j hj q => h (by
    rw [List.length_append, List.length_singleton] at hj
    rw [List.getElem?_append_left (by omega)] at q
    exact List.mem_of_getElem? q)
theorem goodLine_line (b : Bool) (s : List UInt8) : lineP (goodLine b s) = true := by
  unfold goodLine
  split
  · exact lineP_snoc (strip_no s)
  · rename_i h
    rcases List.eq_nil_or_concat (strip s) with q | ⟨d, x, q⟩
    · exact absurd (Or.inr (Or.inr q)) h
    · have hn := strip_no s
      rw [q, List.concat_eq_append] at hn ⊢
      exact lineP_snoc fun hd => hn (by simp [hd])
theorem goodP_line : ∀ (l : List (List UInt8)), ∀ s ∈ goodP l, lineP s = true
  | [], s, h => by simp [goodP] at h
  | t :: l, s, h => by
    rw [goodP] at h
    rcases List.mem_cons.1 h with rfl | h
    · exact goodLine_line _ _
    · exact goodP_line l s h
theorem okH_okD {h : HkD} (ok : okH h.toI = true) (h1 : h.ls.length ≤ 10000000) : OkD h := by
  obtain ⟨t, ht⟩ := Option.isSome_iff_exists.1 (show (mayP h.toI).isSome = true from ok)
  have h2 := okH_len ok
  have e : h.toI.ls = h.ls := rfl
  rw [e] at h2
  have := okD_of ht (by omega) (by rw [e]; omega)
  rwa [toI_toD] at this
theorem back_small {a b : List (List UInt8)} {ar : Nat} {h : HkD} (hh : h ∈ (hunksP a b ar).map backP) : ∃ h' ∈ hunksP a b ar, h.ls.length = h'.ls.length ∧ ∀ s ∈ h.ls, s ∈ a ∨ s ∈ b := by
  obtain ⟨h', hh', rfl⟩ := List.mem_map.1 hh
  refine ⟨h', hh', ?_⟩
  obtain ⟨x, y, ps, rfl, e1, e2, e3, e4, e5⟩ := (hunks_do a b ar).2.2 h' hh'
  obtain ⟨_, _, s3, s4, _⟩ := swap_sides _ ps (Nat.le_refl _) (can_ops e3)
  rw [back_of x y e3]
  exact ⟨s3, fun s hs => e5 s (s4 s hs)⟩
end Go.Proofs.YtlcidbbpjlpmjaaDoor
namespace Go.Proofs.YtlcidbbpjlpmjaaDoor
open Go.RowKit

def exA : List (List UInt8) := [[97, 10], [98, 10], [99, 10]]
def exB : List (List UInt8) := [[97, 10], [120, 10], [99, 10]]
def exH : HkI := ⟨0, 0, [⟨0, 1⟩, ⟨1, 1⟩, ⟨2, 1⟩, ⟨0, 1⟩], [[97, 10], [98, 10], [120, 10], [99, 10]]⟩
def exT : List UInt8 := [64, 64, 32, 45, 48, 44, 51, 32, 43, 48, 44, 51, 32, 64, 64, 10, 32, 97, 10, 45, 98, 10, 43, 120, 10, 32, 99, 10]
theorem ex_steps : steps exA exB = [0, 1, 2, 0] := by simp [exA, exB, steps, lcs_cons, lcs_nil_left, lcs_nil_right]
theorem ex_hunks0 : hunksP exA exB 1 = [⟨0, 0, [⟨0, 1⟩, ⟨1, 1⟩, ⟨2, 1⟩, ⟨0, 1⟩], [[97, 10], [98, 10], [120, 10], [99, 10]]⟩] := by
  unfold hunksP diffP
  rw [ex_steps]
  rfl
theorem ex_hunks : (hunksP exA exB 1).map HkD.toI = [exH] := by rw [ex_hunks0]; rfl
theorem size_alloc (w : World) (o : Obj) : (w.alloc o).heap.size = w.heap.size + 1 := by simp
theorem ex_text : hksT [exH] = exT := by
  have h0 : Lib.itoa 0 = [48] := by simp [Lib.itoa, Lib.decDigits]
  have h3 : Lib.itoa 3 = [51] := by simp [Lib.itoa, Lib.decDigits]
  have hm : mayP exH = some ⟨2, 1, 1⟩ := rfl
  have hb : bodyT exH.eds exH.ls = [32, 97, 10, 45, 98, 10, 43, 120, 10, 32, 99, 10] := rfl
  have hh : headT exH ⟨2, 1, 1⟩ = [64, 64, 32, 45, 48, 44, 51, 32, 43, 48, 44, 51, 32, 64, 64, 10] := by
    show [64, 64, 32, 45] ++ (Lib.itoa 0 ++ ([44] ++ (Lib.itoa 3 ++ ([32, 43] ++ (Lib.itoa 0 ++ ([44] ++ (Lib.itoa 3 ++ [32, 64, 64, 10]))))))) = _
    rw [h0, h3]
    rfl
  show hkT exH ++ [] = _
  unfold hkT
  rw [hm]
  show headT exH ⟨2, 1, 1⟩ ++ bodyT exH.eds exH.ls ++ [] = _
  rw [hh, hb]
  rfl
theorem ex_ok : [exH].all okH = true := by decide
set_option maxHeartbeats 1000000 in
set_option maxRecDepth 100000 in
theorem hunks_err (Aa Ab : Option Addr) (n m ca cb : Nat) (ar : Int) (har : ar < 0 ∨ 10 < ar) (w : World) :
    Calls Tryd.prog 13 #[.slice Aa n ca, .slice Ab m cb, .int .i64 ar] w fun r w' => r = .returned (.tuple #[.slice none 0 0, .int .i64 1]) ∧ w' = w := by
  rcases har with h | h
  · go_enter Tryd.func13, Tryd.ntmps13
    go_wp2_with fail
    go_ret2
    exact ⟨rfl, rfl⟩
  · have h2 : ¬ ar < 0 := by omega
    go_enter Tryd.func13, Tryd.ntmps13
    go_wp2_with fail
    go_ret2
    exact ⟨rfl, rfl⟩
set_option maxHeartbeats 1000000 in
set_option maxRecDepth 100000 in
theorem rhunks_err (Aa Ab : Option Addr) (n m ca cb : Nat) (ar : Int) (har : ar < 0 ∨ 10 < ar) (w : World) :
    Calls Tryd.prog 14 #[.slice Aa n ca, .slice Ab m cb, .int .i64 ar] w fun r w' => r = .returned (.tuple #[.slice none 0 0, .int .i64 1]) ∧ w' = w := by
  rcases har with h | h
  · go_enter Tryd.func14, Tryd.ntmps14
    go_wp2_with fail
    go_ret2
    exact ⟨rfl, rfl⟩
  · have h2 : ¬ ar < 0 := by omega
    go_enter Tryd.func14, Tryd.ntmps14
    go_wp2_with fail
    go_ret2
    exact ⟨rfl, rfl⟩
set_option maxHeartbeats 1000000 in
set_option maxRecDepth 100000 in
theorem known_any (w : World) (htab : Lib.TabIs Tryd.prog w "internal/strconv.uint64pow10" .u64 Lib.pow10Tab) :
    Calls Tryd.prog 11 #[] w fun r w' => r = .returned (.bool true) ∧ Below w.heap.size w w' := by
  have HTAB := Lib.hid (show ∀ W, Below w.heap.size w W → Lib.TabIs Tryd.prog W "internal/strconv.uint64pow10" .u64 Lib.pow10Tab from fun W k => Lib.tabBelow_of_tabIs htab W k)
  clear htab
  go_enter Tryd.func11, Tryd.ntmps11
  go_wp2_with fail
  have hsz : (w.alloc (.cells #[.string ⟨#[97, 10]⟩, .string ⟨#[98, 10]⟩, .string ⟨#[99, 10]⟩] 9)).heap.size = w.heap.size + 1 := size_alloc _ _
  have b1 := (Blk.new w 9 #[.string ⟨#[97, 10]⟩, .string ⟨#[98, 10]⟩, .string ⟨#[99, 10]⟩]).alloc (.cells #[.string ⟨#[97, 10]⟩, .string ⟨#[120, 10]⟩, .string ⟨#[99, 10]⟩] 9)
  have b2 := Blk.new (w.alloc (.cells #[.string ⟨#[97, 10]⟩, .string ⟨#[98, 10]⟩, .string ⟨#[99, 10]⟩] 9)) 9 #[.string ⟨#[97, 10]⟩, .string ⟨#[120, 10]⟩, .string ⟨#[99, 10]⟩]
  rw [hsz] at b2
  have hk0 : Keep Nothing w ((w.alloc (.cells #[.string ⟨#[97, 10]⟩, .string ⟨#[98, 10]⟩, .string ⟨#[99, 10]⟩] 9)).alloc (.cells #[.string ⟨#[97, 10]⟩, .string ⟨#[120, 10]⟩, .string ⟨#[99, 10]⟩] 9)) := ((Keep.refl _ w).alloc _).alloc _
  generalize (w.alloc (.cells #[.string ⟨#[97, 10]⟩, .string ⟨#[98, 10]⟩, .string ⟨#[99, 10]⟩] 9)).alloc (.cells #[.string ⟨#[97, 10]⟩, .string ⟨#[120, 10]⟩, .string ⟨#[99, 10]⟩] 9) = w2 at *
  have r1 : Reads w2 (w.heap.size + 2) 1 (some ⟨w.heap.size, 0, none⟩) exA.length (strL exA) := (Reads.of_blk (size := 1) (n := 3) b1 rfl rfl).more (by omega)
  have r2 : Reads w2 (w.heap.size + 2) 1 (some ⟨w.heap.size + 1, 0, none⟩) exB.length (strL exB) := Reads.of_blk (size := 1) (n := 3) b2 rfl rfl
  have hw2 := b2.lt
  refine (hunks_any exA exB (some ⟨w.heap.size, 0, none⟩) (some ⟨w.heap.size + 1, 0, none⟩) 3 3 (w.heap.size + 2) 1 w2 r1 r2 (by omega) (by decide) (by decide) (by decide) (by decide) (by decide) (by decide) (by decide)).mono ?_
  rintro r w3 ⟨A, cp, rfl, hcp1, hcp2, hin, bel⟩
  have hI := hin.toI
  have hln : (hunksP exA exB 1).length = 1 := by rw [ex_hunks0]; rfl
  rw [ex_hunks] at hI
  rw [hln]
  clear hin hln
  have b3 : Below w.heap.size w w3 := hk0.all.trans (bel.mono (by omega))
  have ht : textR [exH] = .tuple #[.string ⟨#[64, 64, 32, 45, 48, 44, 51, 32, 43, 48, 44, 51, 32, 64, 64, 10, 32, 97, 10, 45, 98, 10, 43, 120, 10, 32, 99, 10]⟩, .int .i64 0] := by
    unfold textR
    rw [if_pos ex_ok, ex_text]
    rfl
  have HQ := text_any [exH] A cp w3.heap.size w3 (Nat.le_refl _) hI (by decide) (by intro h hh; simp at hh; subst hh; exact ⟨by decide, by decide, by decide⟩) (by rw [ex_text]; decide) (HTAB.out _ b3)
  rw [ht] at HQ
  have HQ := Lib.hid HQ
  clear ht hI r1 r2 b1 b2
  go_wp2_with (go_at_call 25; refine HQ.out.mono ?_)
  rintro _ w4 ⟨rfl, b4⟩
  go_wp2_with fail
  go_ret
  exact ⟨rfl, b3.trans (b4.mono b3.size)⟩
end Go.Proofs.YtlcidbbpjlpmjaaDoor
namespace Go.Proofs.YtlcidbbpjlpmjaaDoor
open Go.RowKit

def sum20 (l : List (List UInt8)) : Nat := (l.map fun s => s.length / 20).sum
def fewN (l : List (List UInt8)) : Nat := l.length + sum20 (l.take 200)
theorem sum20_next {l : List (List UInt8)} {k : Nat} {s : List UInt8} (h : l[k]? = some s) : sum20 (l.take (k + 1)) = sum20 (l.take k) + s.length / 20 := by
  obtain ⟨hlt, he⟩ := List.getElem?_eq_some_iff.1 h
  rw [List.take_succ_eq_append_getElem hlt, he]
  simp [sum20]
theorem sum20_le {l : List (List UInt8)} {M : Nat} (h : ∀ s ∈ l, s.length ≤ M) : sum20 l ≤ l.length * M := by
  induction l with
  | nil => simp [sum20]
  | cons x l ih =>
    have h1 := ih (fun s hs => h s (List.mem_cons_of_mem _ hs))
    have h2 := h x List.mem_cons_self
    have h3 := Nat.div_le_self x.length 20
    simp only [sum20, List.map_cons, List.sum_cons, List.length_cons, Nat.add_mul, Nat.one_mul] at h1 ⊢
    omega
theorem fewN_len {l : List (List UInt8)} (h : fewN l < 120) : l.length < 120 := by unfold fewN at h; omega
set_option maxHeartbeats 1000000 in
set_option maxRecDepth 100000 in
theorem few_any (l : List (List UInt8)) (A : Option Addr) (c B : Nat) (w : World) (hr : Reads w B 1 A l.length (strL l)) (hl : l.length ≤ 1048576) (hls : ∀ s ∈ l, s.length ≤ 1048576) :
    Calls Tryd.prog 12 #[.slice A l.length c] w fun r w' => r = .returned (.bool (decide (fewN l < 120))) ∧ ∃ n, w' = w.drewN n := by
  go_enter Tryd.func12, Tryd.ntmps12
  go_wp2_with fail
  go_loopw [3, 4] (fun s3 s4 wr => ∃ k n : Nat, k ≤ l.length ∧ k ≤ 200 ∧ s3 = .int .i64 (l.length + sum20 (l.take k) : Nat) ∧ s4 = .int .i64 (k : Nat) ∧ wr = w.drewN n) (fun _ s4 _ => l.length - (intOf s4).toNat)
  case atStart => exact ⟨0, 0, Nat.zero_le _, Nat.zero_le _, by simp [sum20], rfl, rfl⟩
  case round =>
    obtain ⟨k, n, hk, hk2, rfl, rfl, rfl⟩ := hrel
    have hs := sum20_le (l := l.take k) (M := 1048576) (fun s hs => hls s (List.mem_of_mem_take hs))
    have hs2 : (l.take k).length ≤ 200 := by rw [List.length_take]; omega
    have hs3 : sum20 (l.take k) ≤ 209715200 := by
      have := Nat.mul_le_mul_right 1048576 hs2
      omega
    clear hs hs2
    by_cases hlt : k < l.length
    · have hi1 : (k : Int) < (l.length : Int) := by omega
      by_cases h2 : k < 200
      · obtain ⟨x, hx⟩ : ∃ x, l[k]? = some x := ⟨_, List.getElem?_eq_getElem hlt⟩
        obtain ⟨g1, o1, rfl, _, hc1⟩ := hr.at0 (by omega) (by omega)
        have d1 := hc1 _ _ (strL_at' hx)
        unfold strC at d1
        have hxl := hls x (List.mem_of_getElem? hx)
        have HN := Lib.hid (sum20_next hx)
        have hi0 : (0 : Int) ≤ (k : Int) := Int.natCast_nonneg _
        have hi2 : (k : Int) < 200 := by omega
        clear hc1 hx
        generalize sum20 (l.take k) = S at *
        go_upto_region 4 with fail
        go_wp2_with fail
        go_roundw
        case rel => exact ⟨k + 1, n, by omega, by omega, by rw [HN.out]; go_num, by go_num, rfl⟩
        case measure => simp [intOf]; omega
      · obtain rfl : k = 200 := by omega
        have HF := Lib.hid (show fewN l = l.length + sum20 (l.take 200) from rfl)
        generalize sum20 (l.take 200) = S at *
        go_wp2_with fail
        go_ret
        exact ⟨by rw [HF.out, show decide (l.length + S < 120) = decide ((l.length : Int) + (S : Int) < 120) from decide_eq_decide.2 (by omega)]; rfl, n, rfl⟩
    · obtain rfl : k = l.length := by omega
      have HF := Lib.hid (show fewN l = l.length + sum20 (l.take l.length) from by unfold fewN; rw [List.take_of_length_le (by omega), List.take_length])
      generalize sum20 (l.take l.length) = S at *
      go_wp2_with fail
      go_ret
      exact ⟨by rw [HF.out, show decide (l.length + S < 120) = decide ((l.length : Int) + (S : Int) < 120) from decide_eq_decide.2 (by omega)]; rfl, n, rfl⟩
end Go.Proofs.YtlcidbbpjlpmjaaDoor
namespace Go.Proofs.YtlcidbbpjlpmjaaDoor
open Go.RowKit

/-- How much hunks are, as the law counts it. -/
def sumH (l : List HkI) : Nat := (l.map fun h => h.eds.length + h.ls.length).sum
def fewH (l : List HkI) : Bool := (l.take 50).all (fun h => decide (fewN h.ls < 120)) && decide (l.length + sumH (l.take 50) < 300)
theorem sumH_next {l : List HkI} {k : Nat} {h : HkI} (hx : l[k]? = some h) : sumH (l.take (k + 1)) = sumH (l.take k) + (h.eds.length + h.ls.length) := by
  unfold sumH
  rw [List.take_add_one, hx]
  simp
theorem sumH_le {l : List HkI} {M : Nat} (h : ∀ s ∈ l, s.eds.length ≤ M ∧ s.ls.length ≤ M) : sumH l ≤ l.length * (2 * M) := by
  induction l with
  | nil => simp [sumH]
  | cons s l ih =>
    have h1 := ih fun t ht => h t (List.mem_cons_of_mem _ ht)
    have h2 := h s List.mem_cons_self
    unfold sumH at h1 ⊢
    rw [List.map_cons, List.sum_cons, List.length_cons, Nat.succ_mul]
    omega
set_option maxHeartbeats 4000000 in
set_option maxRecDepth 100000 in
theorem fewh_any (l : List HkI) (A : Option Addr) (c B : Nat) (w : World) (hr : HII w B A l) (hl : l.length ≤ 1048576) (hls : ∀ h ∈ l, h.eds.length ≤ 1048576 ∧ h.ls.length ≤ 1048576 ∧ ∀ s ∈ h.ls, s.length ≤ 1048576) :
    Calls Tryd.prog 16 #[.slice A l.length c] w fun r w' => r = .returned (.bool (fewH l)) ∧ ∃ n, w' = w.drewN n := by
  have HR := Lib.hid hr
  have HLS := Lib.hid hls
  clear hr hls
  go_enter Tryd.func16, Tryd.ntmps16
  go_wp2_with fail
  go_loopw [3, 4] (fun s3 s4 wr => ∃ k n : Nat, k ≤ l.length ∧ k ≤ 50 ∧ s3 = .int .i64 (l.length + sumH (l.take k) : Nat) ∧ s4 = .int .i64 (k : Nat) ∧ wr = w.drewN n ∧ (l.take k).all (fun h => decide (fewN h.ls < 120)) = true) (fun _ s4 _ => l.length - (intOf s4).toNat)
  case atStart => exact ⟨0, 0, Nat.zero_le _, Nat.zero_le _, by simp [sumH], rfl, rfl, rfl⟩
  case round =>
    obtain ⟨k, n, hk, hk2, rfl, rfl, rfl, hall⟩ := hrel
    have hs := sumH_le (l := l.take k) (M := 1048576) (fun s hs => ⟨(HLS.out s (List.mem_of_mem_take hs)).1, (HLS.out s (List.mem_of_mem_take hs)).2.1⟩)
    have hs2 : (l.take k).length ≤ 50 := by rw [List.length_take]; omega
    have hs3 : sumH (l.take k) ≤ 209715200 := by
      have := Nat.mul_le_mul_right (2 * 1048576) hs2
      omega
    have HALL := Lib.hid hall
    clear hs hs2 hall
    by_cases hlt : k < l.length
    · have hi1 : (k : Int) < (l.length : Int) := by omega
      by_cases h2 : k < 50
      · obtain ⟨x, hx⟩ : ∃ x, l[k]? = some x := ⟨_, List.getElem?_eq_getElem hlt⟩
        obtain ⟨g1, o1, EA, ec, LA, lc, rfl, _, _, _, a2, a3, _, hlc, _, _, a5⟩ := HR.out.at_ hx
        obtain ⟨b1, b2, b3⟩ := HLS.out x (List.mem_of_getElem? hx)
        have HN := Lib.hid (sumH_next hx)
        have HT := Lib.hid (show l.take (k + 1) = l.take k ++ [x] from by rw [List.take_add_one, hx]; rfl)
        have hi0 : (0 : Int) ≤ (k : Int) := Int.natCast_nonneg _
        have hi2 : (k : Int) < 50 := by omega
        have HF := Lib.hid (fun W (hW : ∃ q, W = w.drewN q) => few_any x.ls LA lc B W (by obtain ⟨q, rfl⟩ := hW; exact a5.drewN q) b2 b3)
        have HX := Lib.hid hx
        clear hx a5
        generalize sumH (l.take k) = S at *
        have w1 : IntKind.i64.wrap (((l.length : Int) + (S : Int)) + (x.eds.length : Int)) = ((l.length : Int) + (S : Int)) + (x.eds.length : Int) := IntWalk.i64_in _ (by omega)
        have w2 : IntKind.i64.wrap (((l.length : Int) + (S : Int)) + (x.eds.length : Int) + (x.ls.length : Int)) = ((l.length : Int) + (S : Int)) + (x.eds.length : Int) + (x.ls.length : Int) := IntWalk.i64_in _ (by omega)
        go_upto_region 5 with fail
        go_quiet (fail)
        have a3' : w.cell? ⟨g1, o1 + k * 4 + 3, none⟩ = some (.slice LA x.ls.length lc) := a3
        cases hf : decide (fewN x.ls < 120)
        case true =>
          rw [hf] at HF
          go_wp2_with (go_at_call 12; refine (HF.out _ ⟨n + nq, rfl⟩).mono ?_)
          rintro _ _ ⟨rfl, m, rfl⟩
          go_wp2_with fail
          go_roundw
          case rel => exact ⟨k + 1, n + nq + m, by omega, by omega, by rw [HN.out]; go_num, by go_num, rfl, by rw [HT.out, List.all_append, HALL.out]; simp; exact of_decide_eq_true hf⟩
          case measure => simp [intOf]; omega
        case false =>
          rw [hf] at HF
          have HFF := Lib.hid (show fewH l = false from by
            unfold fewH
            rw [show (l.take 50).all (fun h => decide (fewN h.ls < 120)) = false from by
              rw [List.all_eq_false]
              exact ⟨x, List.mem_of_getElem? (by rw [List.getElem?_take, if_pos h2]; exact HX.out), by rw [hf]; simp⟩]
            rfl)
          go_wp2_with (go_at_call 12; refine (HF.out _ ⟨n + nq, rfl⟩).mono ?_)
          rintro _ _ ⟨rfl, m, rfl⟩
          go_wp2_with fail
          go_ret
          exact ⟨by rw [HFF.out]; rfl, n + nq + m, rfl⟩
      · obtain rfl : k = 50 := by omega
        have HF := Lib.hid (show fewH l = decide (l.length + sumH (l.take 50) < 300) from by unfold fewH; rw [HALL.out]; rfl)
        generalize sumH (l.take 50) = S at *
        go_wp2_with fail
        go_ret
        exact ⟨by rw [HF.out, show decide (l.length + S < 300) = decide ((l.length : Int) + (S : Int) < 300) from decide_eq_decide.2 (by omega)]; rfl, n, rfl⟩
    · obtain rfl : k = l.length := by omega
      have HF := Lib.hid (show fewH l = decide (l.length + sumH (l.take l.length) < 300) from by unfold fewH; rw [List.take_of_length_le (by omega : l.length ≤ 50), show l.all _ = true from by have := HALL.out; rwa [List.take_length] at this, List.take_length]; rfl)
      generalize sumH (l.take l.length) = S at *
      go_wp2_with fail
      go_ret
      exact ⟨by rw [HF.out, show decide (l.length + S < 300) = decide ((l.length : Int) + (S : Int) < 300) from decide_eq_decide.2 (by omega)]; rfl, n, rfl⟩
end Go.Proofs.YtlcidbbpjlpmjaaDoor
namespace Go.Proofs.YtlcidbbpjlpmjaaDoor

def wl (l : List (List UInt8)) : Nat := (l.map fun s => s.length + 4).sum
def wh (out : List HkD) : Nat := (out.map fun h => wl h.ls).sum
theorem wl_app (l m : List (List UInt8)) : wl (l ++ m) = wl l + wl m := by simp [wl]
theorem wh_app (l m : List HkD) : wh (l ++ m) = wh l + wh m := by simp [wh]
theorem wl_split (l : List (List UInt8)) (n : Nat) : wl (l.take n) + wl (l.drop n) = wl l := by rw [← wl_app, List.take_append_drop]
theorem wl_next (a : List (List UInt8)) (i n : Nat) : wl (a.take (i + n)) = wl (a.take i) + wl ((a.drop i).take n) := by rw [List.take_add, wl_app]
theorem wh_one (h : HkD) : wh [h] = wl h.ls := by simp [wh]
theorem wl_put (h : HkD) (op : Nat) (l : List (List UInt8)) : wl (putH h op l).ls = wl h.ls + wl l := by
  unfold putH
  split
  next q => rw [q]; simp [wl]
  next q => rw [wl_app]
theorem wh_putL (out : List HkD) (op : Nat) (l : List (List UInt8)) : wh (putL out op l) ≤ wh out + wl l := by
  rcases List.eq_nil_or_concat out with rfl | ⟨r, h, rfl⟩
  · simp [putL, wh]
  · rw [List.concat_eq_append, putL_snoc, wh_app, wh_app, wh_one, wh_one, wl_put]
    omega
theorem wl_take (l : List (List UInt8)) (n : Nat) : wl (l.take n) ≤ wl l := by have := wl_split l n; omega
theorem wl_drop (l : List (List UInt8)) (n : Nat) : wl (l.drop n) ≤ wl l := by have := wl_split l n; omega
section
variable (a b : List (List UInt8)) (ar : Nat)
def phi (c : RefD) : Nat := 2 * (wl (a.take c.i) + wl (b.take c.j))
theorem wh_step (c : RefD) (e : EdD) (more : Bool) (h : wh c.out ≤ phi a b c) : wh (refP a b ar c e more).out ≤ phi a b (refP a b ar c e more) := by
  unfold phi at h ⊢
  unfold refP
  have ha := wl_next a c.i e.n
  have hb := wl_next b c.j e.n
  split
  · split
    · have := wh_putL c.out 0 ((a.drop c.i).take e.n)
      simp only
      omega
    · have h1 : wh (if c.opn = true then putL c.out 0 ((a.drop c.i).take (min ar e.n)) else c.out) ≤ wh c.out + wl ((a.drop c.i).take e.n) := by
        split
        · have h2 := wh_putL c.out 0 ((a.drop c.i).take (min ar e.n))
          have h3 : (a.drop c.i).take (min ar e.n) = ((a.drop c.i).take e.n).take (min ar e.n) := by rw [List.take_take, Nat.min_eq_left (Nat.min_le_right _ _)]
          have h4 := wl_take ((a.drop c.i).take e.n) (min ar e.n)
          rw [← h3] at h4
          omega
        · omega
      have h5 : wh (if more = true then [putH ⟨c.i + e.n - min ar e.n, c.j + e.n - min ar e.n, [], []⟩ 0 ((a.drop (c.i + e.n - min ar e.n)).take (min ar e.n))] else []) ≤ wl ((a.drop c.i).take e.n) := by
        split
        · rw [wh_one, wl_put]
          have h3 : (a.drop (c.i + e.n - min ar e.n)).take (min ar e.n) = ((a.drop c.i).take e.n).drop (e.n - min ar e.n) := by
            rw [List.drop_take, List.drop_drop]
            congr 1
            · omega
            · congr 1; omega
          rw [h3]
          have := wl_drop ((a.drop c.i).take e.n) (e.n - min ar e.n)
          simp [wl] at this ⊢
          omega
        · simp [wh]
      simp only [wh_app]
      omega
  · split
    · have h1 := wh_putL (if c.opn = true then c.out else c.out ++ [⟨c.i, c.j, [], []⟩]) 1 ((a.drop c.i).take e.n)
      have h2 : wh (if c.opn = true then c.out else c.out ++ [⟨c.i, c.j, [], []⟩]) = wh c.out := by
        split
        · rfl
        · rw [wh_app]; simp [wh, wl]
      simp only
      omega
    · have h1 := wh_putL (if c.opn = true then c.out else c.out ++ [⟨c.i, c.j, [], []⟩]) 2 ((b.drop c.j).take e.n)
      have h2 : wh (if c.opn = true then c.out else c.out ++ [⟨c.i, c.j, [], []⟩]) = wh c.out := by
        split
        · rfl
        · rw [wh_app]; simp [wh, wl]
      simp only
      omega
theorem wh_all : ∀ (l : List EdD) (c : RefD), wh c.out ≤ phi a b c → wh (refsP a b ar c l).out ≤ phi a b (refsP a b ar c l)
  | [], _, h => h
  | e :: l, c, h => by
    rw [refsP]
    exact wh_all l _ (wh_step a b ar c e _ h)
theorem wh_hunks : wh (hunksP a b ar) ≤ 2 * (wl a + wl b) := by
  rw [hunks_ref]
  have := wh_all a b ar (diffP a b) ⟨0, 0, [], false⟩ (by simp [wh])
  have h1 := wl_take a (refsP a b ar ⟨0, 0, [], false⟩ (diffP a b)).i
  have h2 := wl_take b (refsP a b ar ⟨0, 0, [], false⟩ (diffP a b)).j
  unfold phi at this
  omega
end
theorem linesT_wl {op : Int} : ∀ l : List (List UInt8), (linesT op l).length ≤ wl l
  | [] => by simp [linesT]
  | s :: l => by
    have ih := linesT_wl (op := op) l
    have e : linesT op (s :: l) = lineT op s ++ linesT op l := by simp [linesT]
    have e2 : wl (s :: l) = s.length + 4 + wl l := by simp [wl]
    have e3 : (tailT s).length ≤ 3 := by unfold tailT; split <;> simp [lacks]
    rw [e, e2, List.length_append]
    simp only [lineT, List.length_cons, List.length_append]
    omega
theorem bodyT_wl : ∀ (eds : List EdI) (ls : List (List UInt8)), (bodyT eds ls).length ≤ wl ls
  | [], ls => by simp [bodyT]
  | e :: es, ls => by
    have h1 := linesT_wl (op := e.op) (ls.take e.n.toNat)
    have h2 := bodyT_wl es (ls.drop e.n.toNat)
    have h3 := wl_split ls e.n.toNat
    rw [bodyT, List.length_append]
    omega
theorem hkT_wl {h : HkI} (h2 : h.ls.length ≤ 1000000000) : (hkT h).length ≤ 200 + wl h.ls := by
  unfold hkT
  cases hm : mayP h with
  | none => simp
  | some c =>
    simp only
    obtain ⟨hE, hall, _, hpl, _⟩ := mayP_eds hm
    have p := places_le hpl
    have hb := bodyT_wl h.eds h.ls
    unfold Cnt.all at hall
    have i1 := Lib.itoa_length_le h.a (by omega) (by omega)
    have i2 := Lib.itoa_length_le h.b (by omega) (by omega)
    have i3 := Lib.itoa_length_le ((c.k + c.d : Nat) : Int) (by omega) (by omega)
    have i4 := Lib.itoa_length_le ((c.k + c.n : Nat) : Int) (by omega) (by omega)
    unfold headT
    simp only [List.length_append, List.length_cons, List.length_nil]
    omega
theorem hksT_wh : ∀ (hs : List HkD), (∀ h ∈ hs, h.ls.length ≤ 1000000000) → (hksT (hs.map HkD.toI)).length ≤ 200 * hs.length + wh hs
  | [], _ => by simp [hksT]
  | h :: hs, hb => by
    have ih := hksT_wh hs (fun x hx => hb x (by simp [hx]))
    have h1 := hkT_wl (h := h.toI) (hb h (by simp))
    have e : hksT ((h :: hs).map HkD.toI) = hkT h.toI ++ hksT (hs.map HkD.toI) := by simp [hksT]
    have e2 : wh (h :: hs) = wl h.ls + wh hs := by simp [wh]
    have e3 : wl h.toI.ls = wl h.ls := rfl
    rw [e, e2, List.length_append, List.length_cons]
    omega
theorem wl_sum20 : ∀ l : List (List UInt8), wl l ≤ 20 * sum20 l + 23 * l.length
  | [] => by simp [wl]
  | s :: l => by
    have ih := wl_sum20 l
    have e : wl (s :: l) = s.length + 4 + wl l := by simp [wl]
    have e2 : sum20 (s :: l) = s.length / 20 + sum20 l := by simp [sum20]
    rw [e, e2, List.length_cons]
    omega
theorem wl_good : ∀ l : List (List UInt8), wl (goodP l) ≤ wl l + l.length
  | [] => by simp [goodP, wl]
  | s :: l => by
    have ih := wl_good l
    have h1 := goodLine_len l.isEmpty s
    have e : wl (s :: l) = s.length + 4 + wl l := by simp [wl]
    have e2 : wl (goodP (s :: l)) = (goodLine l.isEmpty s).length + 4 + wl (goodP l) := by simp [goodP, wl]
    rw [e, e2, List.length_cons]
    omega
theorem wl_few {l : List (List UInt8)} (h : fewN l < 120) : wl (goodP l) ≤ 5300 := by
  have h1 := wl_good l
  have h2 := wl_sum20 l
  have h3 := fewN_len h
  unfold fewN at h
  rw [List.take_of_length_le (by omega)] at h
  omega
theorem text_small {a b : List (List UInt8)} (ar : Nat) (ha : fewN a < 120) (hb : fewN b < 120) : (hksT ((hunksP (goodP a) (goodP b) ar).map HkD.toI)).length ≤ 90000 := by
  have h1 := wl_few ha
  have h2 := wl_few hb
  have h3 := wh_hunks (goodP a) (goodP b) ar
  have l1 := fewN_len ha
  have l2 := fewN_len hb
  have g1 := goodP_len a
  have g2 := goodP_len b
  have h4 := hunksP_len (a := goodP a) (b := goodP b) (M := 120) (by omega) (by omega) ar
  have h5 := hksT_wh (hunksP (goodP a) (goodP b) ar) (fun h hh => by have := (hunksP_small (M := 120) (by omega) (by omega) ar h hh).2.1; omega)
  omega
end Go.Proofs.YtlcidbbpjlpmjaaDoor
namespace Go.Proofs.YtlcidbbpjlpmjaaDoor
open Go.RowKit

theorem hasPrefix_take {x p : List UInt8} : Lib.hasPrefix x p = (x.take p.length == p) := by
  unfold Lib.hasPrefix
  rw [Bool.eq_iff_iff, List.isPrefixOf_iff_prefix, beq_iff_eq, List.prefix_iff_eq_take]
  exact ⟨fun q => q.symm, fun q => q.symm⟩
theorem hasPrefix_short {x p : List UInt8} (h : x.length < p.length) : Lib.hasPrefix x p = false := by
  unfold Lib.hasPrefix
  rw [Bool.eq_false_iff]
  intro q
  have := (List.isPrefixOf_iff_prefix.1 q).length_le
  omega
theorem ext_take (x : List UInt8) (n : Nat) : (⟨x.toArray⟩ : ByteArray).extract 0 n = ⟨(x.take n).toArray⟩ := by
  apply ByteArray.ext
  rw [ByteArray.data_extract]
  apply Array.ext'
  rw [Array.toList_extract, List.extract_eq_take_drop]
  simp
set_option maxRecDepth 100000 in
theorem starts_any (x : List UInt8) (w : World) (hx : x.length ≤ 1000000) :
    Calls Tryd.prog 49 #[.string ⟨x.toArray⟩, .int .i64 0, .string ⟨#[64, 64, 32, 45]⟩] w fun r w' => r = .returned (.bool (Lib.hasPrefix x [64, 64, 32, 45])) ∧ w' = w := by
  by_cases h4 : 4 ≤ x.length
  · have hp := hasPrefix_take (x := x) (p := [64, 64, 32, 45])
    have d4 : decide ((4 : Int) ≤ (x.length : Int)) = true := decide_eq_true (by omega)
    have d5 : (4 : Int) ≤ (x.length : Int) := by omega
    have hE := ext_take x 4
    have HP := Lib.hid hp
    clear hp
    go_enter Tryd.func49, Tryd.ntmps49
    go_wp2_with fail
    go_ret
    exact ⟨by rw [HP.out]; simp, rfl⟩
  · have hp := hasPrefix_short (x := x) (p := [64, 64, 32, 45]) (by simpa using h4)
    have d4 : decide ((4 : Int) ≤ (x.length : Int)) = false := decide_eq_false (by omega)
    have d5 : ¬ ((4 : Int) ≤ (x.length : Int)) := by omega
    have HP := Lib.hid hp
    clear hp
    go_enter Tryd.func49, Tryd.ntmps49
    go_wp2_with fail
    go_ret
    exact ⟨by rw [HP.out]; rfl, rfl⟩
theorem decV_snoc (d : List UInt8) (c : UInt8) : decV (d ++ [c]) = 10 * decV d + (c.toNat - 48) := by simp [decV, List.foldl_append]
theorem decV_lt : ∀ (k : Nat) (d : List UInt8), d.length ≤ k → (∀ x ∈ d, isDig x = true) → decV d < 10 ^ k
  | 0, d, h, _ => by
    have : d = [] := List.eq_nil_of_length_eq_zero (by omega)
    subst this
    simp [decV]
  | k + 1, d, h, hd => by
    rcases List.eq_nil_or_concat d with rfl | ⟨d', c, rfl⟩
    · simp [decV]; exact Nat.pos_of_ne_zero (by simp)
    · rw [List.concat_eq_append] at h hd ⊢
      have h1 := decV_lt k d' (by simpa using h) (fun x hx => hd x (by simp [hx]))
      have hc := hd c (by simp)
      simp only [isDig, Bool.and_eq_true, decide_eq_true_eq] at hc
      rw [decV_snoc, Nat.pow_succ]
      omega
theorem run_stop {x : List UInt8} {at_ k : Nat} (hk : k ≤ 10) (ha : at_ + k ≤ x.length) (hd : ∀ c ∈ (x.drop at_).take k, isDig c = true) (hs : k = 10 ∨ at_ + k = x.length ∨ ∃ c, x[at_ + k]? = some c ∧ isDig c = false) : digRun x at_ = (x.drop at_).take k := by
  unfold digRun
  have hl : ((x.drop at_).take k).length = k := by rw [List.length_take, List.length_drop]; omega
  have hq0 : at_ + k = x.length → (x.drop at_).drop k = [] := fun q => by rw [List.drop_drop, q, List.drop_length]
  have hqc : ∀ c, x[at_ + k]? = some c → (x.drop at_).drop k = c :: (x.drop at_).drop (k + 1) := fun c hc => by
    rw [List.drop_drop, List.drop_drop]
    have := List.drop_eq_getElem?_toList_append (l := x) (i := at_ + k)
    rw [hc] at this
    exact this
  have hsp : x.drop at_ = (x.drop at_).take k ++ (x.drop at_).drop k := (List.take_append_drop _ _).symm
  generalize (x.drop at_).take k = p at *
  generalize (x.drop at_).drop k = q at *
  rw [hsp]
  rcases hs with rfl | hs | ⟨c, hc, hcd⟩
  · rw [List.takeWhile_append_of_pos hd, List.take_left' hl]
  · rw [hq0 hs, List.append_nil]
    have hall : p.takeWhile isDig = p := by
      have := List.takeWhile_append_of_pos (l₂ := []) hd
      simpa using this
    rw [hall, List.take_of_length_le (by omega)]
  · rw [hqc c hc, takeWhile_stop hd hcd]
    exact List.take_of_length_le (by omega)
set_option maxHeartbeats 2000000 in
set_option maxRecDepth 100000 in
theorem number_any (x : List UInt8) (at_ : Nat) (w : World) (hx : x.length ≤ 1000000) (ha : at_ ≤ x.length) :
    Calls Tryd.prog 50 #[.string ⟨x.toArray⟩, .int .i64 (at_ : Int)] w fun r w' => r = .returned (.tuple #[.int .i64 (numR x at_).1, .int .i64 ((numR x at_).2 : Int)]) ∧ w' = w := by
  obtain ⟨R, hR⟩ : ∃ R, numR x at_ = R := ⟨_, rfl⟩
  rw [hR]
  have HR := Lib.hid hR
  clear hR
  go_enter Tryd.func50, Tryd.ntmps50
  go_wp2_with fail
  go_loopw [6, 7] (fun s6 s7 wr => ∃ (k : Nat) (n : Nat), s6 = .int .i64 (n : Nat) ∧ s7 = .int .i64 (at_ + k : Nat) ∧ k ≤ 10 ∧ at_ + k ≤ x.length ∧ Hid (n = decV ((x.drop at_).take k)) ∧ Hid (∀ c ∈ (x.drop at_).take k, isDig c = true) ∧ wr = w) (fun _ s7 _ => x.length - (intOf s7).toNat)
  case atStart => exact ⟨0, 0, rfl, rfl, by omega, ha, Lib.hid rfl, Lib.hid (by simp), rfl⟩
  case round =>
    obtain ⟨k, n, rfl, rfl, hk, hal, HN, HD, rfl⟩ := hrel
    have hlt := decV_lt k ((x.drop at_).take k) (by rw [List.length_take]; omega) HD.out
    rw [← HN.out] at hlt
    have hn10 : n < 10 ^ 10 := Nat.lt_of_lt_of_le hlt (Nat.pow_le_pow_right (by omega) hk)
    have hi0 : (0 : Int) ≤ (at_ : Int) + (k : Int) := by omega
    have hw1 : IntKind.i64.wrap ((at_ : Int) + (k : Int) - (at_ : Int)) = (k : Int) := by rw [IntWalk.i64_in _ (by omega)]; omega
    have hkA : (at_ : Int) + (k : Int) - (at_ : Int) = (k : Int) := by omega
    have HE := Lib.hid (show (k = 10 ∨ at_ + k = x.length ∨ ∃ c, x[at_ + k]? = some c ∧ isDig c = false) → (k = 0 → R = (-1, at_)) ∧ (k ≠ 0 → R = ((n : Int), at_ + k)) from fun st => by
      have hrun := run_stop hk hal HD.out st
      have hl : ((x.drop at_).take k).length = k := by rw [List.length_take, List.length_drop]; omega
      have hr := HR.out
      unfold numR at hr
      rw [hrun, hl, ← HN.out] at hr
      refine ⟨fun h0 => ?_, fun h0 => ?_⟩
      · have : (x.drop at_).take k = [] := List.eq_nil_of_length_eq_zero (by omega)
        rw [this] at hr
        exact hr.symm
      · rw [if_neg (by rw [List.isEmpty_iff]; intro q; rw [q] at hl; simp at hl; omega)] at hr
        exact hr.symm)
    by_cases hlt2 : at_ + k < x.length
    · obtain ⟨c, hc⟩ : ∃ c, x[at_ + k]? = some c := ⟨_, List.getElem?_eq_getElem hlt2⟩
      have hi1 : (at_ : Int) + (k : Int) < (x.length : Int) := by omega
      have hib : at_ + k < (⟨x.toArray⟩ : ByteArray).size := by show at_ + k < x.toArray.size; simpa using hlt2
      have hba := byte_at hc hib
      have HC := Lib.hid hc
      have HND := Lib.hid (show ∀ q : (c.toNat : Int) < 48 ∨ 57 < (c.toNat : Int), isDig c = false from fun q => by
        unfold isDig
        rcases q with q | q
        · rw [decide_eq_false (by omega), Bool.false_and]
        · rw [decide_eq_false (p := c.toNat ≤ 57) (by omega), Bool.and_false])
      clear hc
      go_upto_region 4 with fail
      · rename_i h1 h2 h3
        have hm : n < 1000000000000 := by omega
        have hk9 : k < 10 := by omega
        have HTK := Lib.hid (show (x.drop at_).take (k + 1) = (x.drop at_).take k ++ [c] from by rw [List.take_add_one, List.getElem?_drop, HC.out]; rfl)
        have HN1 := Lib.hid (show 10 * n + (c.toNat - 48) = decV ((x.drop at_).take (k + 1)) from by rw [HTK.out, decV_snoc, HN.out])
        have HD1 := Lib.hid (show ∀ c' ∈ (x.drop at_).take (k + 1), isDig c' = true from by
          rw [HTK.out]
          intro c' hc'
          rw [List.mem_append, List.mem_singleton] at hc'
          rcases hc' with hc' | rfl
          · exact HD.out c' hc'
          · unfold isDig
            rw [decide_eq_true (by omega), decide_eq_true (by omega)]
            rfl)
        go_wp2_with fail
        go_roundw
        case rel => exact ⟨k + 1, 10 * n + (c.toNat - 48), by congr 1; omega, by go_num, by omega, by omega, HN1, HD1, by first | rfl | trivial⟩
        case measure => simp [intOf]; omega
      all_goals
        go_ret2
        first
          | (have hk0 : k = 0 := by rename_i h1 h2; simp at h1 h2; omega
             have hE := (HE.out (by first | (exact .inl (by omega)) | (exact .inr (.inr ⟨c, HC.out, HND.out (by omega)⟩)))).1 hk0
             exact ⟨by rw [hE]; rfl, rfl⟩)
          | (have hk0 : k ≠ 0 := by rename_i h1 h2; simp at h1 h2; omega
             have hE := (HE.out (by first | (exact .inl (by omega)) | (exact .inr (.inr ⟨c, HC.out, HND.out (by omega)⟩)))).2 hk0
             exact ⟨by rw [hE]; rfl, rfl⟩)
    · have hi1 : ¬ ((at_ : Int) + (k : Int) < (x.length : Int)) := by omega
      have hend : at_ + k = x.length := by omega
      have hE0 := HE.out (.inr (.inl hend))
      have HE0 := Lib.hid hE0
      clear hE0 hend
      go_wp2_with fail
      all_goals
        go_ret2
        first
          | (have hk0 : k = 0 := by rename_i h1; simp at h1; omega
             exact ⟨by rw [HE0.out.1 hk0]; rfl, rfl⟩)
          | (have hk0 : k ≠ 0 := by rename_i h1; simp at h1; omega
             exact ⟨by rw [HE0.out.2 hk0]; rfl, rfl⟩)
theorem cur_next {b : List UInt8} {f i : Nat} {x : UInt8} (hf : f ≤ i) (hx : b[i]? = some x) : (b.drop f).take (i + 1 - f) = (b.drop f).take (i - f) ++ [x] := by
  rw [show i + 1 - f = i - f + 1 by omega, List.take_add_one, List.getElem?_drop, show f + (i - f) = i by omega, hx]
  rfl
set_option maxHeartbeats 2000000 in
set_option maxRecDepth 100000 in
theorem split_any (b : List UInt8) (A : Option Addr) (c B : Nat) (w : World) (hB : B ≤ w.heap.size) (hr : Reads w B 1 A b.length (b.map byteV)) (hbl : b.length ≤ 1000000) (hbc : b.length ≤ c) :
    Calls Tryd.prog 48 #[.slice A b.length c] w fun r w' => ∃ A' c', r = .returned (.slice A' (splitL b).length c') ∧ Own w' w.heap.size 9 1 A' (splitL b).length c' (strL (splitL b)) ∧ Below w.heap.size w w' := by
  have HR := Lib.hid (show ∀ W, Below w.heap.size w W → Reads W B 1 A b.length (b.map byteV) from fun W k => hr.below (k.mono hB))
  clear hr
  obtain ⟨L, hL⟩ : ∃ L, splitL b = L := ⟨_, rfl⟩
  rw [hL]
  have HL := Lib.hid hL
  clear hL
  go_enter Tryd.func48, Tryd.ntmps48
  go_wp2_with fail
  go_loopw [3, 4, 5] (fun s3 s4 s5 wr => ∃ (i f : Nat) (out : List (List UInt8)) (A3 : Option Addr) (c3 : Nat), s3 = .slice A3 out.length c3 ∧ s4 = .int .i64 (f : Nat) ∧ s5 = .int .i64 (i : Nat) ∧ f ≤ i ∧ i ≤ b.length ∧ out.length ≤ i ∧ Hid (out ++ splitFrom ((b.drop f).take (i - f)) (b.drop i) = L) ∧ Own wr w.heap.size 9 1 A3 out.length c3 (strL out) ∧ Below w.heap.size w wr) (fun _ _ s5 _ => b.length - (intOf s5).toNat)
  case atStart => exact ⟨0, 0, [], none, 0, rfl, rfl, rfl, Nat.le_refl _, Nat.zero_le _, Nat.le_refl _, Lib.hid (by rw [← HL.out]; rfl), Own.nil _ _ _ _, Below.refl _ _⟩
  case round =>
    obtain ⟨i, f, out, A3, c3, rfl, rfl, rfl, hfi, hib, hoi, HO, ho, hb⟩ := hrel
    have hz := hb.size
    have hi0 : (0 : Int) ≤ (i : Int) := Int.natCast_nonneg _
    by_cases hlt : i < b.length
    · obtain ⟨x, hx⟩ : ∃ x, b[i]? = some x := ⟨_, List.getElem?_eq_getElem hlt⟩
      have hi1 : (i : Int) < (b.length : Int) := by omega
      obtain ⟨g, o, rfl, _, hcl⟩ := (HR.out _ hb).at0 (by omega) (by omega)
      have d1 : wr.cell? ⟨g, o + i, none⟩ = some (.int .u8 (x.toNat : Int)) := hcl i (byteV x) (by rw [List.getElem?_map, hx]; rfl)
      have hdr : b.drop i = x :: b.drop (i + 1) := List.drop_eq_getElem?_toList_append.trans (by rw [hx]; rfl)
      have hcn := cur_next hfi hx
      have HO1 := HO.out
      rw [hdr, splitFrom] at HO1
      have HO2 := Lib.hid HO1
      have hsrc := ((HR.out _ hb).cut (k := f) (cap := c) (by omega) hbc).front (k := i + 1 - f) (by omega)
      rw [Nat.mul_one, Nat.mul_one, if_neg (by omega), show ((b.map byteV).drop f).take (i + 1 - f) = ((b.drop f).take (i + 1 - f)).map byteV by rw [List.map_take, List.map_drop], hcn] at hsrc
      have HS := Lib.hid (show Reads wr B 1 (some ⟨g, o + f, none⟩) (i + 1 - f) (((b.drop f).take (i - f) ++ [x]).map byteV) from by have q := hsrc; rw [Option.map_some, add_at] at q; exact q)
      have HCN := Lib.hid hcn
      clear hcl hdr hcn HO1 hsrc HO hx
      by_cases hx10 : x = 10
      · subst hx10
        have e10 : (((10 : UInt8).toNat : Int) == 10) = true := rfl
        have s1 : (f : Int) ≤ (i : Int) + 1 := by omega
        have s2 : (i : Int) + 1 ≤ (c : Int) := by omega
        have s3 : f ≤ i + 1 := by omega
        have s4 : i + 1 ≤ c := by omega
        have s5 : ((i : Int) + 1 - (f : Int)).toNat = i + 1 - f := by omega
        have hcp : ¬ (c = f) := by omega
        have HN := Lib.hid (show (out ++ [(b.drop f).take (i - f) ++ [10]]) ++ splitFrom ((b.drop (i + 1)).take (i + 1 - (i + 1))) (b.drop (i + 1)) = L from by
          have := HO2.out
          rw [if_pos rfl] at this
          rw [← this]
          simp)
        generalize (b.drop f).take (i - f) ++ [10] = row at *
        clear HO2
        have O3 := Lib.hid ho
        have HB := Lib.hid hb
        clear ho hb
        go_wp2_with (first | (refine wpList_convStr rfl rfl Tryd.underlying53 Tryd.underlying5 Tryd.underlying9 (l := row) rfl HS.out ?_) | (at_builtin; refine wpList_append_sl rfl elemStr rfl rfl (n := out.length) (xs := strL out) (O3.out.alloc _) rfl (Reads.of_blk (n := 1) (size := 1) (xs := strL [row]) (heap_alloc_new _ _) rfl rfl) (strL_one [row]) (by unfold maxLen; omega) (by omega) (by simp; omega) ?_; intro A5 c5 w5 o5 k5; have O5 := Lib.hid o5; have HB5 := Lib.hid (HB.out.trans ((((Kept.refl _ _ _ _).alloc _).trans k5).below (Nat.le_refl _) hz (by simp))); clear o5 k5))
        go_roundw
        case rel => exact ⟨i + 1, i + 1, out ++ [row], A5, c5, by rw [List.length_append, List.length_singleton], by go_num, by go_num, Nat.le_refl _, hlt, by simp; omega, HN, by rw [List.length_append, List.length_singleton]; simpa [strL] using O5.out, HB5.out⟩
        case measure => simp [intOf]; omega
      · have e10 : ((x.toNat : Int) == 10) = false := by
          rw [beq_eq_false_iff_ne]
          intro q
          exact hx10 (UInt8.toNat_inj.1 (by have : (10 : UInt8).toNat = 10 := rfl; omega))
        have HN := Lib.hid (show out ++ splitFrom ((b.drop f).take (i + 1 - f)) (b.drop (i + 1)) = L from by
          have := HO2.out
          rw [if_neg hx10] at this
          rw [HCN.out]
          exact this)
        clear HO2 HCN HS hx10
        go_wp2_with fail
        go_roundw
        case rel => exact ⟨i + 1, f, out, A3, c3, rfl, rfl, by go_num, by omega, hlt, by omega, HN, ho, hb⟩
        case measure => simp [intOf]; omega
    · obtain rfl : i = b.length := by omega
      have hxx : ¬ (b.length < b.length) := Nat.lt_irrefl _
      have HO1 := HO.out
      rw [List.drop_length, splitFrom, List.take_of_length_le (by rw [List.length_drop]; exact Nat.le_refl _)] at HO1
      by_cases hfl : f < b.length
      · have hne : b.drop f ≠ [] := by
          intro q
          have := congrArg List.length q
          simp at this
          omega
        rw [if_neg hne] at HO1
        have hfI : (f : Int) < (b.length : Int) := by omega
        obtain ⟨g, o, rfl, _, _⟩ := (HR.out _ hb).at0 (by omega) (by omega)
        have hsrc := (HR.out _ hb).cut (k := f) (cap := c) (by omega) hbc
        rw [Nat.mul_one, if_neg (by omega), show (b.map byteV).drop f = (b.drop f).map byteV by rw [List.map_drop]] at hsrc
        have HS := Lib.hid (show Reads wr B 1 (some ⟨g, o + f, none⟩) (b.length - f) ((b.drop f).map byteV) from by have q := hsrc; rw [Option.map_some, add_at] at q; exact q)
        have s1 : (f : Int) ≤ (b.length : Int) := by omega
        have s2 : (f : Int) ≤ (c : Int) := by omega
        have hcp : ¬ (c = f) := by omega
        have s5 : ((b.length : Int) - (f : Int)).toNat = b.length - f := by omega
        generalize b.drop f = row at *
        have O3 := Lib.hid ho
        have HB := Lib.hid hb
        have HF := Lib.hid HO1
        clear ho hb HO1 hsrc hne HO
        go_wp2_with (first | (refine wpList_convStr rfl rfl Tryd.underlying53 Tryd.underlying5 Tryd.underlying9 (l := row) rfl HS.out ?_) | (at_builtin; refine wpList_append_sl rfl elemStr rfl rfl (n := out.length) (xs := strL out) (O3.out.alloc _) rfl (Reads.of_blk (n := 1) (size := 1) (xs := strL [row]) (heap_alloc_new _ _) rfl rfl) (strL_one [row]) (by unfold maxLen; omega) (by omega) (by simp; omega) ?_; intro A5 c5 w5 o5 k5; have O5 := Lib.hid o5; have HB5 := Lib.hid (HB.out.trans ((((Kept.refl _ _ _ _).alloc _).trans k5).below (Nat.le_refl _) hz (by simp))); clear o5 k5))
        go_ret
        exact ⟨A5, c5, by rw [← HF.out, List.length_append, List.length_singleton]; rfl, by rw [← HF.out, List.length_append, List.length_singleton]; simpa [strL] using O5.out, HB5.out⟩
      · have hne : b.drop f = [] := List.drop_of_length_le (by omega)
        rw [if_pos hne, List.append_nil] at HO1
        have hfI : ¬ ((f : Int) < (b.length : Int)) := by omega
        have HF := Lib.hid HO1
        clear HO1 hne HO
        go_wp2_with fail
        go_ret
        exact ⟨A3, c3, by rw [← HF.out]; rfl, by rw [← HF.out]; exact ho, hb⟩
end Go.Proofs.YtlcidbbpjlpmjaaDoor
namespace Go.Proofs.YtlcidbbpjlpmjaaDoor
open Go.RowKit

def wiN (x : Int) (n : Nat) : Nat := (x % (n : Int)).toNat
theorem wiN_lt {x : Int} {n : Nat} (h : 0 < n) : wiN x n < n := by
  have h1 := Int.emod_nonneg x (b := (n : Int)) (by omega)
  have h2 := Int.emod_lt_of_pos x (b := (n : Int)) (by omega)
  unfold wiN
  omega
theorem tmod_wi {x : Int} {n : Nat} (h : 0 < n) : (0 ≤ x.tmod (n : Int) ∧ x.tmod (n : Int) = (wiN x n : Int)) ∨ (x.tmod (n : Int) < 0 ∧ x.tmod (n : Int) + (n : Int) = (wiN x n : Int) ∧ -(n : Int) < x.tmod (n : Int)) := by
  have h1 := Int.emod_nonneg x (b := (n : Int)) (by omega)
  have h2 := Int.emod_lt_of_pos x (b := (n : Int)) (by omega)
  have hw : (wiN x n : Int) = x % (n : Int) := by unfold wiN; omega
  rw [hw, Int.tmod_eq_emod]
  split
  · exact .inl ⟨by omega, by omega⟩
  · by_cases hz : x % (n : Int) = 0
    · rename_i q
      exact absurd (.inr (Int.dvd_of_emod_eq_zero hz)) q
    · exact .inr ⟨by omega, by omega, by omega⟩
set_option maxRecDepth 100000 in
theorem within_any (x : Int) (n : Nat) (hn : 0 < n) (hn2 : n ≤ 1000000) (w : World) :
    Calls Tryd.prog 24 #[.int .i64 x, .int .i64 (n : Int)] w fun r w' => r = .returned (.int .i64 (wiN x n : Int)) ∧ w' = w := by
  have hnz : ¬ ((n : Int) = 0) := by omega
  have hlt := wiN_lt (x := x) hn
  have HT := Lib.hid (tmod_wi (x := x) hn)
  generalize wiN x n = k at *
  go_enter Tryd.func24, Tryd.ntmps24
  go_upto_region 2 with fail
  generalize x.tmod (n : Int) = t at *
  rcases HT.out with ⟨h1, h2⟩ | ⟨h1, h2, h3⟩
  · subst h2
    have d1 : decide ((k : Int) < 0) = false := decide_eq_false (by omega)
    have h4 : ¬ (k : Int) < 0 := by omega
    go_wp2_with fail
    go_ret
    exact ⟨rfl, rfl⟩
  · have d1 : decide (t < 0) = true := decide_eq_true h1
    have w1 : IntKind.i64.wrap (t + (n : Int)) = t + (n : Int) := IntWalk.i64_in _ (by omega)
    have H2 := Lib.hid h2
    clear h2
    go_wp2_with fail
    go_ret
    exact ⟨by rw [← H2.out]; rfl, rfl⟩
section
variable {H : Type} {enc : TypeId × Value → H} {w : World} {base : Nat} {spare : Nat → Bool} {held : Bool}
theorem flat_int (l : List Int) : l.flatMap (fun a => [Value.int .i64 a]) = l.map (Value.int .i64) := by
  induction l with
  | nil => rfl
  | cons a l ih => rw [List.flatMap_cons, ih]; rfl
theorem opened_ints {A : Option Addr} {len cap : Nat} {d : DataW H} {p : List MemPlace} (h : DataW.Trod enc Tryd.prog w base spare held 52 (.slice A len cap) d p) :
    ∃ l : List Int, l.length = len ∧ Reads w w.heap.size 1 A l.length (l.map (Value.int .i64)) ∧ l.length ≤ cap ∧ cap ≤ maxLen := by
  obtain ⟨fuel, hf⟩ := h
  have hf : DataW.trod enc Tryd.prog w base spare held fuel 52 [.slice A len cap] = some (d, p) := by simpa [Value.cells] using hf
  obtain ⟨l, h1, h2, h3, h4, _⟩ := open_listB (N := Rows.uptoBulk d) (f := fun a : Int => [Value.int .i64 a]) (V := fun _ => True) Tryd.underlying52 cells_int (by decide) (fun _ => rfl) (fun _ _ _ h _ => by obtain ⟨a, e, _, _⟩ := DataW.trod_int Tryd.underlying3 h; exact ⟨a, e, trivial⟩) hf (Nat.le_refl _)
  subst h1
  rw [flat_int] at h2
  exact ⟨l, rfl, h2, h3, h4⟩
theorem flat_bool (l : List Bool) : l.flatMap (fun a => [Value.bool a]) = l.map Value.bool := by
  induction l with
  | nil => rfl
  | cons a l ih => rw [List.flatMap_cons, ih]; rfl
theorem cells_bool : Tryd.prog.cellsOf 4 = 1 := by kernel_rfl
theorem opened_bools {A : Option Addr} {len cap : Nat} {d : DataW H} {p : List MemPlace} (h : DataW.Trod enc Tryd.prog w base spare held 47 (.slice A len cap) d p) :
    ∃ l : List Bool, l.length = len ∧ Reads w w.heap.size 1 A l.length (l.map Value.bool) ∧ l.length ≤ cap ∧ cap ≤ maxLen := by
  obtain ⟨fuel, hf⟩ := h
  have hf : DataW.trod enc Tryd.prog w base spare held fuel 47 [.slice A len cap] = some (d, p) := by simpa [Value.cells] using hf
  obtain ⟨l, h1, h2, h3, h4, _⟩ := open_listB (N := Rows.uptoBulk d) (f := fun a : Bool => [Value.bool a]) (V := fun _ => True) Tryd.underlying47 cells_bool (by decide) (fun _ => rfl) (fun _ _ _ h _ => by obtain ⟨a, e, _⟩ := DataW.trod_bool Tryd.underlying4 h; exact ⟨a, e, trivial⟩) hf (Nat.le_refl _)
  subst h1
  rw [flat_bool] at h2
  exact ⟨l, rfl, h2, h3, h4⟩
end
end Go.Proofs.YtlcidbbpjlpmjaaDoor
namespace Go.Proofs.YtlcidbbpjlpmjaaDoor
open Go.RowKit
open Go.ChangeShapes Go.WideShapes Go.ChangeAt

/-- Block g holds the bytes l ahead of its mark. -/
def BRow (w : World) (g : Nat) (l : List UInt8) : Prop := ∃ cs lo hi, w.heap[g]? = some (.cells cs 5 (lo, hi)) ∧ l.length ≤ lo ∧ l.length ≤ cs.size ∧ ∀ (j : Nat) (u : UInt8), l[j]? = some u → cs[j]? = some (byteV u)
theorem BRow.cell {w : World} {g : Nat} {l : List UInt8} (h : BRow w g l) {j : Nat} {u : UInt8} (hj : l[j]? = some u) : w.cell? ⟨g, j, none⟩ = some (.int .u8 (u.toNat : Int)) := by
  obtain ⟨cs, lo, hi, h1, _, _, h4⟩ := h
  rw [Joins.cell_of_block h1]
  exact h4 j u hj
theorem BRow.unfrozen {w : World} {g : Nat} {l : List UInt8} (h : BRow w g l) {j : Nat} (hj : j < l.length) : w.frozen? ⟨g, j, none⟩ = false := by
  obtain ⟨cs, lo, hi, h1, h2, _, _⟩ := h
  have : decide (lo ≤ j) = false := decide_eq_false (by omega)
  simp only [World.frozen?, h1, this, Bool.false_and]
theorem BRow.put {w : World} {g : Nat} {l : List UInt8} (h : BRow w g l) (k : Nat) (x : UInt8) {v : Value} (hv : v = byteV x) : BRow (w.setCell ⟨g, k, none⟩ v) g (l.set k x) := by
  subst hv
  obtain ⟨cs, lo, hi, h1, h2, h3, h4⟩ := h
  refine ⟨_, lo, hi, Joins.block_setCell h1 _, by simpa using h2, by simpa using h3, fun j u hj => ?_⟩
  rw [List.getElem?_set] at hj
  rw [Array.getElem?_setIfInBounds]
  split at hj
  next q =>
    subst q
    rw [if_pos rfl, if_pos (by
      rcases Nat.lt_or_ge k l.length with p | p
      · omega
      · rw [if_neg (by omega)] at hj; cases hj)]
    split at hj
    · injection hj with hj; rw [hj]
    · cases hj
  next q =>
    rw [if_neg q]
    exact h4 j u hj
theorem BRow.lt {w : World} {g : Nat} {l : List UInt8} (h : BRow w g l) : g < w.heap.size := by
  obtain ⟨cs, lo, hi, h1, _⟩ := h
  rcases Nat.lt_or_ge g w.heap.size with q | q
  · exact q
  · rw [Array.getElem?_eq_none q] at h1; cases h1
theorem BRow.drew {w : World} {g : Nat} {l : List UInt8} (h : BRow w g l) : BRow w.drew g l := h
theorem BRow.reads {w : World} {g : Nat} {l : List UInt8} (h : BRow w g l) {m : Nat} (hm : m ≤ l.length) : Reads w w.heap.size 1 (some ⟨g, 0, none⟩) m ((l.take m).map byteV) := by
  refine ⟨by simp [Nat.min_eq_left hm], fun _ => ⟨_, rfl, h.lt, fun j u hj => ?_⟩⟩
  rw [add_at, Nat.zero_add]
  rw [List.getElem?_map] at hj
  rcases Nat.lt_or_ge j m with q | q
  · rw [List.getElem?_take_of_lt q] at hj
    obtain ⟨x, hx⟩ : ∃ x, l[j]? = some x := ⟨_, List.getElem?_eq_getElem (by omega)⟩
    rw [hx] at hj
    simp only [Option.map_some, Option.some.injEq] at hj
    subst hj
    exact h.cell hx
  · rw [List.getElem?_eq_none (by rw [List.length_take]; omega)] at hj
    cases hj
theorem wpList_convR {P : Program} {ops : Array Oper} {rest : List Oper} {o : Oper} {a : Act} {w w' : World} {Q : Exit → Act → World → Prop} (hgd : o.guard = none) {src dst : TypeId} {x : Operand} (ho : o.op = .convert src dst x) {u v : Value} (hx : a.eval x = u) (hrun : (convert src dst u).run P w = .ok v w')
    (h : wpList P ops Q rest (a.put o.dst v) w') : wpList P ops Q (o :: rest) a w :=
  wpList_plain hgd fun _ hK => by
    unfold Oper.wp execOp
    simp only [ho, hx, Sem.run_bind, hrun, Result.andThen_ok, Sem.run_pure]
    exact hK _ _ h
theorem run_convR (l : List UInt8) (w : World) : ∃ c w', (convert 9 53 (.string ⟨l.toArray⟩)).run Tryd.prog w = .ok (.slice (some ⟨w.heap.size, 0, none⟩) l.length c) w' ∧ Below w.heap.size w w' ∧ l.length ≤ c ∧ BRow w' w.heap.size l := by
  have hz : (⟨l.toArray⟩ : ByteArray).size = l.length := by simp [ByteArray.size]
  have hcs : l.length ≤ (Lib.bytesCells w 5 ⟨l.toArray⟩).size := by simp [Lib.bytesCells]
  refine ⟨grownCap w l.length 0 5, Lib.bytesWorld w 5 ⟨l.toArray⟩, by have := Lib.run_convert_string_bytes (P := Tryd.prog) w 9 53 5 ⟨l.toArray⟩ Tryd.underlying9 Tryd.underlying53 Tryd.underlying5; rw [hz] at this; exact this, Lib.bytesWorld_below _ _ _, grownCap_ge _ _ _ _, _, _, _, Lib.bytesWorld_at_new w 5 ⟨l.toArray⟩, hcs, hcs, fun j u hj => ?_⟩
  have hlt : j < l.length := by
    rcases Nat.lt_or_ge j l.length with q | q
    · exact q
    · rw [List.getElem?_eq_none q] at hj; cases hj
  have e : l[j] = u := by rw [List.getElem?_eq_getElem hlt] at hj; exact Option.some.inj hj
  simp [Lib.bytesCells, Array.getElem?_append, hlt, byteV, e]
theorem u8_sum (a b : UInt8) : ((a.toNat : Int) + (b.toNat : Int)) % 256 = ((a + b).toNat : Int) := by
  rw [UInt8.toNat_add]
  simp
section
variable {H : Type} {enc : TypeId × Value → H} {w : World} {base : Nat} {spare : Nat → Bool} {held : Bool}
theorem cells_byte : Tryd.prog.cellsOf 5 = 1 := by kernel_rfl
theorem flat_byte (l : List UInt8) : l.flatMap (fun a => [byteV a]) = l.map byteV := by
  induction l with
  | nil => rfl
  | cons a l ih => rw [List.flatMap_cons, ih]; rfl
theorem opened_bytes {A : Option Addr} {len cap : Nat} {d : DataW H} {p : List MemPlace} (h : DataW.Trod enc Tryd.prog w base spare held 53 (.slice A len cap) d p) :
    ∃ l : List UInt8, l.length = len ∧ Reads w w.heap.size 1 A l.length (l.map byteV) ∧ l.length ≤ cap ∧ cap ≤ maxLen := by
  obtain ⟨fuel, hf⟩ := h
  have hf : DataW.trod enc Tryd.prog w base spare held fuel 53 [.slice A len cap] = some (d, p) := by simpa [Value.cells] using hf
  obtain ⟨l, h1, h2, h3, h4, _⟩ := open_listB (N := Rows.uptoBulk d) (f := fun a : UInt8 => [byteV a]) (V := fun _ => True) Tryd.underlying53 cells_byte (by decide) (fun _ => rfl) (fun x y cs h _ => by
    obtain ⟨a, e, a1, a2⟩ := DataW.trod_int Tryd.underlying5 h
    have hb : 0 ≤ a ∧ a ≤ 255 := by simpa [Lit.wf, IntKind.min, IntKind.max, IntKind.signed, IntKind.bits] using a2
    obtain ⟨k, rfl⟩ := Int.eq_ofNat_of_zero_le hb.1
    refine ⟨UInt8.ofNat k, ?_, trivial⟩
    unfold byteV
    rw [e, UInt8.toNat_ofNat', Nat.mod_eq_of_lt (by omega)]) hf (Nat.le_refl _)
  subst h1
  rw [flat_byte] at h2
  exact ⟨l, rfl, h2, h3, h4⟩
set_option maxRecDepth 100000 in
theorem opened_string {r : Reach} {b0 : Nat} {v : Value} {d : DataW H} {p : List MemPlace} {N : Nat} (hval : Value.okWide Tryd.prog w r b0 9 v) (h : DataW.Trod enc Tryd.prog w base spare held 9 v d p) (hb : Rows.uptoBulk d ≤ N) : ∃ s : List UInt8, v = .string ⟨s.toArray⟩ ∧ s.length ≤ N := by
  obtain ⟨a, rfl, rfl, _⟩ := ChangeMaps.open_string Tryd.underlying9 hval h
  refine ⟨a.data.toList, rfl, ?_⟩
  simp only [Rows.uptoBulk] at hb
  omega
end
end Go.Proofs.YtlcidbbpjlpmjaaDoor
namespace Go.Proofs.YtlcidbbpjlpmjaaDoor
open Go.ChangeShapes Go.WideShapes Go.ChangeAt Go.RowKit
def laid3 : List (String × DataW Unit) := [("math/bits.deBruijn32tab", Rows.laid_math_bits_deBruijn32tab), ("math/bits.deBruijn64tab", Rows.laid_math_bits_deBruijn64tab), ("internal/strconv.uint64pow10", Rows.laid_internal_strconv_uint64pow10)]
theorem own : ownKnob Tryd.prog.godebug = none := by kernel_rfl
theorem laidOut : laidOutB Tryd.prog = true := by kernel_rfl
theorem tab_of_laid {W : World} (h : laidMetH Tryd.prog laid3 W) : Lib.TabIs Tryd.prog W "internal/strconv.uint64pow10" .u64 Lib.pow10Tab := by
  have h3 := h.filter (fun x => x.1 == "internal/strconv.uint64pow10")
  exact Lib.tabIs_of_head (rest := []) (k := .u64) (zs := Lib.pow10Tab) (P := Tryd.prog) (W := W) (name := "internal/strconv.uint64pow10") (g := 1) (t := 135) (e := 121) (n := 20) (by kernel_rfl) (by kernel_rfl) Tryd.underlying135 Tryd.underlying121 (by kernel_rfl) (by kernel_rfl) h3
theorem door_met3 (os : Os) (args : Array Value) : laidMet Tryd.prog laid3 ((World.doorLaid Tryd.prog 400 os).forCall (fun _ _ => 0) ⟨#[], args, []⟩).memory :=
  laidMet_of_run' 8 (by kernel_rfl) (by kernel_rfl)
end Go.Proofs.YtlcidbbpjlpmjaaDoor
namespace Go.Proofs.YtlcidbbpjlpmjaaDoor
open Go.ChangeShapes Go.WideShapes Go.ChangeAt Go.RowKit
def laid5 : List (String × DataW Unit) := [("math/bits.deBruijn32tab", Rows.laid_math_bits_deBruijn32tab), ("math/bits.deBruijn64tab", Rows.laid_math_bits_deBruijn64tab), ("internal/strconv.uint64pow10", Rows.laid_internal_strconv_uint64pow10), ("strconv.ErrRange", Rows.laid_strconv_ErrRange), ("strconv.ErrSyntax", Rows.laid_strconv_ErrSyntax)]
theorem tab_of_laid5 {W : World} (h : laidMetH Tryd.prog laid5 W) : Lib.TabIs Tryd.prog W "internal/strconv.uint64pow10" .u64 Lib.pow10Tab := by
  have h3 := h.filter (fun x => x.1 == "internal/strconv.uint64pow10")
  exact Lib.tabIs_of_head (rest := []) (k := .u64) (zs := Lib.pow10Tab) (P := Tryd.prog) (W := W) (name := "internal/strconv.uint64pow10") (g := 1) (t := 135) (e := 121) (n := 20) (by kernel_rfl) (by kernel_rfl) Tryd.underlying135 Tryd.underlying121 (by kernel_rfl) (by kernel_rfl) h3
theorem star_err : "*" ++ "errors.errorString" = "*errors.errorString" := by decide
theorem row_err (u : TypeId) (h : Tryd.prog.typeName? 3 u = some "*errors.errorString") : u = 150 :=
  typeName_ptr_named (nm := "errors.errorString") (by rw [star_err]; kernel_rfl) (by kernel_rfl) (by decide) u (by rw [star_err]; exact h)
theorem vars_of_laid5 {W : World} (h : laidMetH Tryd.prog laid5 W) (hS : W.ShapedOpen Tryd.prog) : VarsOK W := by
  have h3 := h.filter (fun x => x.1 == "strconv.ErrRange")
  have h2 := h.filter (fun x => x.1 == "strconv.ErrSyntax")
  obtain ⟨a3, s3, hv3, _⟩ := laid_sentinel (r := []) h3 (g := 3) (ti := 84) (tp := 150) (te := 152) (ts := 9) (by kernel_rfl) (by kernel_rfl) Tryd.underlying84 row_err Tryd.underlying150 Tryd.underlying152 rfl rfl Tryd.underlying9 (by kernel_rfl) (by kernel_rfl)
  obtain ⟨a2, s2, hv2, _⟩ := laid_sentinel (r := []) h2 (g := 2) (ti := 84) (tp := 150) (te := 152) (ts := 9) (by kernel_rfl) (by kernel_rfl) Tryd.underlying84 row_err Tryd.underlying150 Tryd.underlying152 rfl rfl Tryd.underlying9 (by kernel_rfl) (by kernel_rfl)
  have c3 := World.var?_cell (P := Tryd.prog) (n := "strconv.ErrRange") (show Tryd.prog.globalNamed "strconv.ErrRange" = some 3 by kernel_rfl) hv3 0
  have c2 := World.var?_cell (P := Tryd.prog) (n := "strconv.ErrSyntax") (show Tryd.prog.globalNamed "strconv.ErrSyntax" = some 2 by kernel_rfl) hv2 0
  refine ⟨cell_of_shapedOpen_int (t := 3) (zero := #[.int .i64 0]) hS (g := 0) (of_decide_eq_true (by kernel_rfl)) (by kernel_rfl) rfl (by kernel_rfl) (by kernel_rfl) Tryd.underlying3, ⟨_, _, by simpa using c2⟩, ⟨_, _, by simpa using c3⟩⟩
theorem door_met5 (os : Os) (args : Array Value) : laidMet Tryd.prog laid5 ((World.doorLaid Tryd.prog 400 os).forCall (fun _ _ => 0) ⟨#[], args, []⟩).memory :=
  laidMet_of_run' 8 (by kernel_rfl) (by kernel_rfl)
end Go.Proofs.YtlcidbbpjlpmjaaDoor
namespace Go.Proofs.YtlcidbbpjlpmjaaDoor
open Go.ChangeShapes Go.WideShapes Go.ChangeAt Go.RowKit

theorem bdrew {B : Nat} {w w1 : World} (h : Below B w w1) (hB : B ≤ w1.heap.size) (n : Nat) : Below B w (w1.drewN n) := h.trans (((Keep.refl Nothing w1).drewN n).all.mono hB)
theorem sum20_mem {s : List UInt8} : ∀ {l : List (List UInt8)}, s ∈ l → s.length / 20 ≤ sum20 l
  | t :: l, h => by
    have e : sum20 (t :: l) = t.length / 20 + sum20 l := by simp [sum20]
    rcases List.mem_cons.1 h with rfl | h
    · omega
    · have := sum20_mem h; omega
theorem fewN_lines {l : List (List UInt8)} (h : fewN l < 120) : ∀ s ∈ l, s.length ≤ 2400 := by
  intro s hs
  have hl := fewN_len h
  unfold fewN at h
  rw [List.take_of_length_le (by omega)] at h
  have := sum20_mem hs
  omega
theorem HkSmall.of_hkB {a b : List (List UInt8)} {N : Nat} {h : HkD} (hb : HkB a b 120 480 h) (hN : 57600 ≤ N) (ha : ∀ s ∈ a, s.length ≤ N) (hbs : ∀ s ∈ b, s.length ≤ N) : HkSmall N h.toI :=
  ⟨by have := hb.1; simp [HkD.toI]; omega, by have := hb.2.1; have e : h.toI.ls = h.ls := rfl; rw [e]; omega, fun s hs => by
    rcases hb.2.2 s hs with q | q
    · exact ha s q
    · exact hbs s q⟩
set_option maxHeartbeats 8000000 in
set_option maxRecDepth 100000 in
theorem back_law (a b : List (List UInt8)) (Aa Ab : Option Addr) (ca cb : Nat) (ar : Int) (w : World)
    (hra : Reads w w.heap.size 1 Aa a.length (strL a)) (hal : a.length ≤ 1048576) (has : ∀ s ∈ a, s.length ≤ 1048576)
    (hrb : Reads w w.heap.size 1 Ab b.length (strL b)) (hbl : b.length ≤ 1048576) (hbs : ∀ s ∈ b, s.length ≤ 1048576)
    (hvo : VarsOK w) (htab : Lib.TabIs Tryd.prog w "internal/strconv.uint64pow10" .u64 Lib.pow10Tab) :
    Calls Tryd.prog 10 #[.slice Aa a.length ca, .slice Ab b.length cb, .int .i64 ar] w fun r w' => r = .returned (.bool true) ∧ Below w.heap.size w w' := by
  have HK := Lib.hid (known_any w htab)
  have HV := Lib.hid (show ∀ W, Below w.heap.size w W → VarsOK W from fun W k => hvo.below k)
  have HTAB := Lib.hid (show ∀ W, Below w.heap.size w W → Lib.TabIs Tryd.prog W "internal/strconv.uint64pow10" .u64 Lib.pow10Tab from fun W k => Lib.tabBelow_of_tabIs htab W k)
  have HRA := Lib.hid (show ∀ W, Below w.heap.size w W → Reads W w.heap.size 1 Aa a.length (strL a) from fun W k => hra.below k)
  have HRB := Lib.hid (show ∀ W, Below w.heap.size w W → Reads W w.heap.size 1 Ab b.length (strL b) from fun W k => hrb.below k)
  have HFA := Lib.hid (fun W (k : Below w.heap.size w W) => few_any a Aa ca w.heap.size W (HRA.out W k) hal has)
  have HFB := Lib.hid (fun W (k : Below w.heap.size w W) => few_any b Ab cb w.heap.size W (HRB.out W k) hbl hbs)
  have HGA := Lib.hid (fun W (k : Below w.heap.size w W) => good_any a Aa ca w.heap.size W k.size (HRA.out W k) hal has)
  have HGB := Lib.hid (fun W (k : Below w.heap.size w W) => good_any b Ab cb w.heap.size W k.size (HRB.out W k) hbl hbs)
  have HSA := Lib.hid (show fewN a < 120 → ∀ s ∈ goodP a, s.length ≤ 1048576 from fun h s hs => Nat.le_trans (goodP_small (N := 2400) a (fewN_lines h) s hs) (by decide))
  have HSB := Lib.hid (show fewN b < 120 → ∀ s ∈ goodP b, s.length ≤ 1048576 from fun h s hs => Nat.le_trans (goodP_small (N := 2400) b (fewN_lines h) s hs) (by decide))
  have HTX := Lib.hid (show fewN a < 120 → fewN b < 120 → ∀ n, (hksT ((hunksP (goodP a) (goodP b) n).map HkD.toI)).length ≤ 90000 from fun h1 h2 n => text_small n h1 h2)
  have HGL := Lib.hid (goodP_len a)
  have HGM := Lib.hid (goodP_len b)
  have HLA := Lib.hid (goodP_line a)
  have HLB := Lib.hid (goodP_line b)
  generalize goodP a = ga at *
  generalize goodP b = gb at *
  clear hra hrb htab has hbs hvo
  go_enter Tryd.func10, Tryd.ntmps10
  go_wp2_with (go_at_call 11; refine HK.out.mono ?_)
  rintro _ w1 ⟨rfl, b1⟩
  cases hfa : decide (fewN a < 120)
  case false =>
    rw [hfa] at HFA
    go_wp2_with (go_at_call 12; refine (HFA.out _ b1).mono ?_)
    rintro _ _ ⟨rfl, n, rfl⟩
    go_wp2_with fail
    go_ret
    exact ⟨rfl, bdrew b1 b1.size n⟩
  have ha := fewN_len (of_decide_eq_true hfa)
  rw [hfa] at HFA
  cases hfb : decide (fewN b < 120)
  case false =>
    rw [hfb] at HFB
    go_wp2_with (go_at_call 12; refine (HFA.out _ b1).mono ?_)
    rintro _ _ ⟨rfl, n, rfl⟩
    go_wp2_with (go_at_call 12; refine (HFB.out _ (bdrew b1 b1.size n)).mono ?_)
    rintro _ _ ⟨rfl, m, rfl⟩
    go_wp2_with fail
    go_ret
    exact ⟨rfl, bdrew b1 b1.size (n + m)⟩
  have hb := fewN_len (of_decide_eq_true hfb)
  rw [hfb] at HFB
  go_upto_region 5 with (go_at_call 12; refine (HFA.out _ b1).mono ?_)
  rintro _ _ ⟨rfl, n, rfl⟩
  go_upto_region 5 with (go_at_call 12; refine (HFB.out _ (bdrew b1 b1.size n)).mono ?_)
  rintro _ _ ⟨rfl, m, rfl⟩
  go_upto_region 5 with fail
  have b2 : Below w.heap.size w (w1.drewN (n + m)) := bdrew b1 b1.size (n + m)
  have HFA0 := Lib.hid hfa
  have HFB0 := Lib.hid hfb
  clear HFA HFB b1 hfa hfb
  generalize w1.drewN (n + m) = w2 at *
  have hz2 := b2.size
  go_upto_region 6 with (go_at_call 23; refine (HGA.out _ b2).mono ?_)
  rintro _ w3 ⟨A1, c1, rfl, o1, b3⟩
  have b23 := b2.trans (b3.mono hz2)
  have hz3 := b23.size
  go_upto_region 6 with (go_at_call 23; refine (HGB.out _ b23).mono ?_)
  rintro _ w4 ⟨A2, c2, rfl, o2, b4⟩
  have b24 := b23.trans (b4.mono hz3)
  have hz4 := b24.size
  have r1 : Reads w4 w4.heap.size 1 A1 ga.length (strL ga) := (o1.reads.below b4).more b4.size
  have r2 : Reads w4 w4.heap.size 1 A2 gb.length (strL gb) := o2.reads
  have hga : ga.length < 120 := by have := HGL.out; omega
  have hgb : gb.length < 120 := by have := HGM.out; omega
  have q1 := o1.cap_le.1
  have q2 := o2.cap_le.1
  have hw11 := wiN_lt (x := ar) (n := 11) (by decide)
  have HW := Lib.hid (show ∀ W, Calls Tryd.prog 24 #[.int .i64 ar, .int .i64 11] W fun r w' => r = .returned (.int .i64 (wiN ar 11 : Int)) ∧ w' = W from fun W => within_any ar 11 (by decide) (by decide) W)
  have HSA1 := Lib.hid (HSA.out (of_decide_eq_true HFA0.out))
  have HSB1 := Lib.hid (HSB.out (of_decide_eq_true HFB0.out))
  have htx := HTX.out (of_decide_eq_true HFA0.out) (of_decide_eq_true HFB0.out) (wiN ar 11)
  have hhl : (hunksP ga gb (wiN ar 11)).length ≤ 2 * 120 := hunksP_len (by omega) (by omega) _
  obtain ⟨f1, f2, f3, f4, f5⟩ := hunks_back ga gb (wiN ar 11) HLA.out HLB.out (by omega) (by omega)
  have HSM := Lib.hid (show ∀ h ∈ hunksP ga gb (wiN ar 11), HkSmall 1048576 h.toI from fun y hy =>
    HkSmall.of_hkB (hunksP_small (M := 120) (by omega) (by omega) _ y hy) (by decide) HSA1.out HSB1.out)
  have HLN := Lib.hid (show ∀ h ∈ hunksP ga gb (wiN ar 11), h.ls.length ≤ 57600 from fun y hy => by
    have := (hunksP_small (M := 120) (by omega) (by omega) _ y hy).2.1
    omega)
  have HLN2 := Lib.hid (show ∀ h ∈ (hunksP ga gb (wiN ar 11)).map backP, h.ls.length ≤ 57600 from fun y hy => by
    obtain ⟨h', k1, k2, _⟩ := back_small hy
    rw [k2]
    exact HLN.out _ k1)
  have HSM2 := Lib.hid (show ∀ h ∈ (hunksP ga gb (wiN ar 11)).map backP, HkSmall 1048576 h.toI from fun y hy => by
    have hn := HLN2.out y hy
    obtain ⟨h', k1, k2, k3⟩ := back_small hy
    have h1 := okH_len (f4 y hy)
    have e : y.toI.ls = y.ls := rfl
    rw [e] at h1
    refine ⟨by omega, by rw [e]; omega, fun s hs => ?_⟩
    rcases k3 s hs with q | q
    · exact HSA1.out s q
    · exact HSB1.out s q)
  have HOK := Lib.hid (show ∀ h ∈ hunksP ga gb (wiN ar 11), OkD h from fun y hy => okH_okD (f3 y hy) (by have := HLN.out y hy; omega))
  have HOK2 := Lib.hid (show ∀ h ∈ (hunksP ga gb (wiN ar 11)).map backP, OkD h from fun y hy => okH_okD (f4 y hy) (by have := HLN2.out y hy; omega))
  have HH := Lib.hid (show Calls Tryd.prog 13 #[.slice A1 ga.length c1, .slice A2 gb.length c2, .int .i64 (wiN ar 11 : Int)] w4 (fun r w' => ∃ A cp, r = .returned (.tuple #[.slice A (hunksP ga gb (wiN ar 11)).length cp, .int .i64 0]) ∧ (hunksP ga gb (wiN ar 11)).length ≤ cp ∧ cp ≤ maxLen ∧ HIn w' w'.heap.size A (hunksP ga gb (wiN ar 11)) ∧ Below w4.heap.size w4 w') from
    hunks_any ga gb A1 A2 c1 c2 w4.heap.size (wiN ar 11) w4 r1 r2 (Nat.le_refl _) q1 (by omega) q2 (by omega) (by omega) (fun s hs => by have := HSA1.out s hs; unfold maxLen; omega) (fun s hs => by have := HSB1.out s hs; unfold maxLen; omega))
  have HR1 := Lib.hid (show ∀ W, Below w4.heap.size w4 W → Reads W w4.heap.size 1 A1 ga.length (strL ga) from fun W k => r1.below k)
  have HR2 := Lib.hid (show ∀ W, Below w4.heap.size w4 W → Reads W w4.heap.size 1 A2 gb.length (strL gb) from fun W k => r2.below k)
  have HV4 := Lib.hid (show ∀ W, Below w4.heap.size w4 W → VarsOK W from fun W k => HV.out W (b24.trans (k.mono hz4)))
  have HTAB4 := Lib.hid (show ∀ W, Below w4.heap.size w4 W → Lib.TabIs Tryd.prog W "internal/strconv.uint64pow10" .u64 Lib.pow10Tab from fun W k => HTAB.out W (b24.trans (k.mono hz4)))
  have HB24 := Lib.hid b24
  have HF3 := Lib.hid f3
  have HF4 := Lib.hid f4
  clear o1 o2 r1 r2 b2 b3 b4 b23 b24 HSA HSB HGA HGB HTX HLA HLB HRA HRB HV HTAB f3 f4
  generalize wiN ar 11 = arn at *
  generalize hunksP ga gb arn = D at *
  have hll : (D.map HkD.toI).length = D.length := by simp
  have hlb : ((D.map backP).map HkD.toI).length = D.length := by simp
  have hlb0 : (D.map backP).length = D.length := by simp
  have HSI := Lib.hid (show ∀ h ∈ D.map HkD.toI, HkSmall 1048576 h from fun h hh => by obtain ⟨y, hy, rfl⟩ := List.mem_map.1 hh; exact HSM.out y hy)
  have HSI2 := Lib.hid (show ∀ h ∈ (D.map backP).map HkD.toI, HkSmall 1048576 h from fun h hh => by obtain ⟨y, hy, rfl⟩ := List.mem_map.1 hh; exact HSM2.out y hy)
  have hok : (D.map HkD.toI).all okH = true := List.all_eq_true.2 fun h hh => by obtain ⟨y, hy, rfl⟩ := List.mem_map.1 hh; exact HF3.out y hy
  have hok2 : ((D.map backP).map HkD.toI).all okH = true := List.all_eq_true.2 fun h hh => by obtain ⟨y, hy, rfl⟩ := List.mem_map.1 hh; exact HF4.out y hy
  have hT : textR (D.map HkD.toI) = .tuple #[.string ⟨(hksT (D.map HkD.toI)).toArray⟩, .int .i64 0] := by unfold textR; rw [if_pos hok]
  have hres : resQ (readQ (hksT (D.map HkD.toI)) []) (hksT (D.map HkD.toI)) = some (D.map HkD.toI) := (reader_prog.iff _ (by omega) _).2 ⟨hok, rfl⟩
  have HOKA := Lib.hid (List.all_eq_true.1 hok)
  have HOKB := Lib.hid (List.all_eq_true.1 hok2)
  clear hok hok2
  go_upto_region 7 with (go_at_call 24; refine (HW.out _).mono ?_)
  rintro _ _ ⟨rfl, rfl⟩
  go_upto_region 7 with (go_at_call 13; refine HH.out.mono ?_)
  rintro _ w5 ⟨A, cp, rfl, hch, hchm, hin, b5⟩
  have hz5 := b5.size
  have HI := Lib.hid (show ∀ W, Below w5.heap.size w5 W → HIn W w5.heap.size A D from fun W k => hin.below k)
  have HB5 := Lib.hid b5
  have HA1 := Lib.hid (show ∀ W, Below w5.heap.size w5 W → Calls Tryd.prog 20 #[.slice A1 ga.length c1, .slice A D.length cp] W (ApplyR (.ok gb) W) from fun W k => by
    have bb := HB5.out.trans (k.mono hz5)
    have := apply_any ga A1 c1 (D.map HkD.toI) A cp W.heap.size W (Nat.le_refl _) ((HR1.out W bb).more bb.size) q1 (by omega) (((HI.out W k).toI).more k.size) (by omega) HSI.out
    rwa [f1, hll] at this)
  clear hin b5 HH HW
  go_upto_region 7 with fail
  go_upto_region 8 with (go_at_call 20; refine (HA1.out _ (Below.refl _ _)).mono ?_)
  rintro _ w6 ⟨b6, A6, c6, rfl, o6⟩
  have hz6 := b6.size
  go_upto_region 8 with fail
  have HRV := Lib.hid (show ∀ W, Below w5.heap.size w5 W → Calls Tryd.prog 18 #[.slice A D.length cp] W (RevPost D W) from fun W k => reverse_any D A cp w5.heap.size W k.size (HI.out W k) HOK.out (by omega))
  have HRW := Lib.hid (show ∀ W, Below w5.heap.size w5 W → Calls Tryd.prog 19 #[.slice A D.length cp] W (RevPost D W) from fun W k => rreverse_any D A cp w5.heap.size W k.size (HI.out W k) HOK.out (by omega))
  go_upto_region 9 with (go_at_call 18; refine (HRV.out _ b6).mono ?_)
  rintro _ w7 ⟨A7, c7, rfl, o7, b7⟩
  have hz7 := b7.size
  have b57 := b6.trans (b7.mono hz6)
  have HI7 := Lib.hid (show ∀ W, Below w7.heap.size w7 W → HIn W w7.heap.size A7 (D.map backP) from fun W k => o7.reads.below k)
  have HO6 := Lib.hid (show ∀ W, Below w6.heap.size w6 W → Reads W w6.heap.size 1 A6 gb.length (strL gb) from fun W k => o6.reads.below k)
  clear o6 o7
  have HA2 := Lib.hid (show Calls Tryd.prog 20 #[.slice A2 gb.length c2, .slice A7 D.length c7] w7 (ApplyR (.ok ga) w7) from by
    have bb := HB5.out.trans (b57.mono hz5)
    have := apply_any gb A2 c2 ((D.map backP).map HkD.toI) A7 c7 w7.heap.size w7 (Nat.le_refl _) ((HR2.out _ bb).more bb.size) q2 (by omega) (HI7.out _ (Below.refl _ _)).toI (by omega) HSI2.out
    rwa [f2, hlb] at this)
  go_upto_region 9 with fail
  go_upto_region 10 with (go_at_call 20; refine HA2.out.mono ?_)
  rintro _ w8 ⟨b8, A8, c8, rfl, o8⟩
  have hz8 := b8.size
  have b58 := b57.trans (b8.mono (Nat.le_trans hz6 hz7))
  have HO8 := Lib.hid (show ∀ W, Below w8.heap.size w8 W → Reads W w8.heap.size 1 A8 ga.length (strL ga) from fun W k => o8.reads.below k)
  clear o8
  go_upto_region 10 with fail
  have HTX := Lib.hid (show Calls Tryd.prog 25 #[.slice A D.length cp] w8 (fun r w' => r = .returned (.tuple #[.string ⟨(hksT (D.map HkD.toI)).toArray⟩, .int .i64 0]) ∧ Below w8.heap.size w8 w') from by
    have bb := HB5.out.trans (b58.mono hz5)
    have := text_any (D.map HkD.toI) A cp w5.heap.size w8 b58.size (HI.out _ b58).toI (by omega) (fun h hh => ⟨by have := (HSI.out h hh).n1; omega, by have := (HSI.out h hh).n2; omega, fun s hs => by have := (HSI.out h hh).n3 s hs; omega⟩) (by omega) (HTAB4.out _ bb)
    rwa [hT, hll] at this)
  go_upto_region 11 with (go_at_call 25; refine HTX.out.mono ?_)
  rintro _ w9 ⟨rfl, b9⟩
  have hz9 := b9.size
  have b59 := b58.trans (b9.mono (Nat.le_trans b57.size hz8))
  go_upto_region 11 with fail
  have HPS := Lib.hid (show Calls Tryd.prog 26 #[.string ⟨(hksT (D.map HkD.toI)).toArray⟩] w9 (fun r w' => Below w9.heap.size w9 w' ∧ ∃ A cp, r = .returned (.tuple #[.slice A D.length cp, .int .i64 0]) ∧ HII w' w'.heap.size A (D.map HkD.toI)) from by
    have bb := HB5.out.trans (b59.mono hz5)
    have := parse_any (hksT (D.map HkD.toI)) w9 (by omega) (HV4.out _ bb) (HTAB4.out _ bb)
    rw [hres] at this
    refine this.mono fun r w' h => ?_
    obtain ⟨b, A, c, h1, h2⟩ := h
    exact ⟨b, A, c, by rw [← hll]; exact h1, h2⟩)
  go_upto_region 12 with (go_at_call 26; refine HPS.out.mono ?_)
  rintro _ w10 ⟨b10, A10, c10, rfl, i10⟩
  have hz10 := b10.size
  have k8 := b9.trans (b10.mono hz9)
  have k7 := b8.trans (k8.mono hz8)
  have k6 := b7.trans (k7.mono hz7)
  have k5 := b6.trans (k6.mono hz6)
  have k4 := HB5.out.trans (k5.mono hz5)
  have hdl : D.length ≤ 9223372036854775807 := by omega
  have HS1 := Lib.hid (show ∀ W, Below w10.heap.size w10 W → Calls Tryd.prog 22 #[.slice A6 gb.length c6, .slice A2 gb.length c2] W (fun r w' => r = .returned (.bool true) ∧ ∃ n, w' = W.drewN n) from fun W k =>
    sameLines_refl gb A6 A2 c6 c2 w10.heap.size W ((HO6.out W (k6.trans (k.mono k6.size))).more k6.size) ((HR2.out W (k4.trans (k.mono k4.size))).more k4.size) (by omega))
  have HS2 := Lib.hid (show ∀ W, Below w10.heap.size w10 W → Calls Tryd.prog 22 #[.slice A8 ga.length c8, .slice A1 ga.length c1] W (fun r w' => r = .returned (.bool true) ∧ ∃ n, w' = W.drewN n) from fun W k =>
    sameLines_refl ga A8 A1 c8 c1 w10.heap.size W ((HO8.out W (k8.trans (k.mono k8.size))).more k8.size) ((HR1.out W (k4.trans (k.mono k4.size))).more k4.size) (by omega))
  have HS3 := Lib.hid (show ∀ W, Below w10.heap.size w10 W → Calls Tryd.prog 15 #[.slice A10 D.length c10, .slice A D.length cp] W (fun r w' => r = .returned (.bool true) ∧ ∃ n, w' = W.drewN n) from fun W k => by
    have h1 := i10.below k
    have := sameHunks_refl (D.map HkD.toI) A10 A c10 cp w10.heap.size W h1 ((HI.out W (k5.trans (k.mono k5.size))).toI.more k5.size) (by omega) (h1.small HOKA.out)
    rwa [hll] at this)
  have HB10 := Lib.hid (k4)
  clear i10
  go_upto_region 12 with fail
  go_wp2_with (go_at_call 22; refine (HS1.out _ (Below.refl _ _)).mono ?_)
  rintro _ w11 ⟨rfl, n1, e1⟩
  have j1 : Below w10.heap.size w10 w11 := by rw [e1]; exact bdrew (Below.refl _ _) (Nat.le_refl _) n1
  clear e1
  go_wp2_with (go_at_call 22; refine (HS2.out _ j1).mono ?_)
  rintro _ w12 ⟨rfl, n2, e2⟩
  have j2 : Below w10.heap.size w10 w12 := by rw [e2]; exact bdrew j1 j1.size n2
  clear e2
  go_wp2_with (go_at_call 15; refine (HS3.out _ j2).mono ?_)
  rintro _ w13 ⟨rfl, n3, e3⟩
  have j3 : Below w10.heap.size w10 w13 := by rw [e3]; exact bdrew j2 j2.size n3
  clear e3
  go_wp2_with (go_at_call 19; refine (HRW.out _ (k5.trans (j3.mono k5.size))).mono ?_)
  rintro _ w14 ⟨A14, c14, rfl, o14, b14⟩
  have j4 : Below w10.heap.size w10 w14 := j3.trans (b14.mono j3.size)
  have HS4 := Lib.hid (show Calls Tryd.prog 15 #[.slice A7 D.length c7, .slice A14 D.length c14] w14 (fun r w' => r = .returned (.bool true) ∧ ∃ n, w' = w14.drewN n) from by
    have q := k7.trans (j4.mono k7.size)
    have h1 : HII w14 w14.heap.size A7 ((D.map backP).map HkD.toI) := (HI7.out w14 q).toI.more q.size
    have := sameHunks_refl ((D.map backP).map HkD.toI) A7 A14 c7 c14 w14.heap.size w14 h1 o14.reads.toI (by omega) (h1.small HOKB.out)
    rwa [hlb] at this)
  clear o14
  go_wp2_with (go_at_call 15; refine HS4.out.mono ?_)
  rintro _ w15 ⟨rfl, n5, e5⟩
  have j5 : Below w10.heap.size w10 w15 := by rw [e5]; exact bdrew j4 j4.size n5
  clear e5
  have HRB := Lib.hid (show Calls Tryd.prog 18 #[.slice A7 D.length c7] w15 (fun r w' => ∃ A cp, r = .returned (.slice A D.length cp) ∧ HD w' w15.heap.size A cp D ∧ Below w15.heap.size w15 w') from by
    have q := k7.trans (j5.mono k7.size)
    have := reverse_any (D.map backP) A7 c7 w7.heap.size w15 q.size (HI7.out w15 q) HOK2.out (by omega)
    unfold RevPost at this
    rwa [f5, hlb0] at this)
  go_wp2_with (go_at_call 18; refine HRB.out.mono ?_)
  rintro _ w16 ⟨A16, c16, rfl, o16, b16⟩
  have j6 : Below w10.heap.size w10 w16 := j5.trans (b16.mono j5.size)
  have HS6 := Lib.hid (show Calls Tryd.prog 15 #[.slice A16 D.length c16, .slice A D.length cp] w16 (fun r w' => r = .returned (.bool true) ∧ ∃ n, w' = w16.drewN n) from by
    have q := k5.trans (j6.mono k5.size)
    have h1 := o16.reads.toI
    have := sameHunks_refl (D.map HkD.toI) A16 A c16 cp w16.heap.size w16 h1 ((HI.out w16 q).toI.more q.size) (by omega) (h1.small HOKA.out)
    rwa [hll] at this)
  clear o16
  go_wp2_with (go_at_call 15; refine HS6.out.mono ?_)
  rintro _ w17 ⟨rfl, n7, e7⟩
  have j7 : Below w10.heap.size w10 w17 := by rw [e7]; exact bdrew j6 j6.size n7
  clear e7
  go_wp2_with fail
  go_ret
  exact ⟨rfl, HB24.out.trans ((HB10.out.trans (j7.mono HB10.out.size)).mono hz4)⟩
set_option maxRecDepth 100000 in
theorem patchBack_reads (os : Os) {H : Type} (enc : TypeId × Value → H) : DataW.whole enc Tryd.prog ((World.doorLaid Tryd.prog 400 os).forCall (fun _ _ => 0) ⟨#[], #[.slice none 0 0, .slice none 0 0, .int .i64 0], []⟩).memory Tryd.f10.params.toList Rows.patchBackSpec.vars false (#[.slice none 0 0, .slice none 0 0, .int .i64 0] : Array Value).toList 8 = some ([.nil, .nil, .lit (.int .i64 0)], [], []) := by kernel_rfl
set_option maxRecDepth 100000 in
theorem patchBack_lifted (os : Os) (started : os.Started) (H : Type) (enc : TypeId × Value → H) (F : Stop.Interp) :
    ReturnsInHanded {} Tryd.checked os 10 .any ((Rows.OpenSpec.upto Rows.patchBackSpec).preRow enc Tryd.prog Tryd.f10 Rows.patchBackUptoRow.domain false Rows.patchBackUptoRow.laid) (((Rows.OpenSpec.upto Rows.patchBackSpec).at F).post enc Tryd.prog Tryd.f10 false true false false) := by
  refine returnsInHanded_of_row (C := Tryd.checked) (s := Rows.OpenSpec.upto Rows.patchBackSpec) own started (by kernel_rfl) Tryd.func10
    (witness_row_at (enc := enc) (C := Tryd.checked) false (World.doorLaid Tryd.prog 400 os) #[.slice none 0 0, .slice none 0 0, .int .i64 0] rfl (by kernel_rfl) (by kernel_rfl) (by kernel_rfl)
      (OpenSpec.preRow_of_cond 8 (patchBack_reads os enc) (by kernel_rfl) (fun k hk => by cases hk; kernel_rfl) (by kernel_rfl) (door_met5 os _))) ?_
  intro W base args ds gs before hval0 hW hx1 hcond hx3 hL hx4 hx5
  have hval : ∀ (j : Nat) t v, Tryd.f10.params[j]? = some t → args[j]? = some v → Value.okWide Tryd.prog W .any base t v := hval0
  have hW' := hW
  obtain ⟨p, q, hA0, hV, rfl, hfz, hnd⟩ := hW
  have hA : DataW.TrodAll enc Tryd.prog W 0 (fun _ => true) true Tryd.f10.params.toList args.toList ds p := hA0
  rw [Tryd.params10] at hA hval
  obtain ⟨v0, vs0, d0, ds0, p0, q0, hargs, rfl, rfl, h0, r0⟩ := trodAll_cons hA
  obtain ⟨v1, vs1, d1, ds1, p1, q1, rfl, rfl, rfl, h1, r1⟩ := trodAll_cons r0
  obtain ⟨v2, vs2, d2, ds2, p2, q2, rfl, rfl, rfl, h2, r2⟩ := trodAll_cons r1
  obtain ⟨rfl, rfl, rfl⟩ := trodAll_nil r2
  obtain rfl : args = #[v0, v1, v2] := by cases args; simp_all
  obtain ⟨rfl, rfl⟩ := trodVars_none hV
  have k0 := h0
  have lt0 : ∀ x ∈ p0, x.block < W.heap.size := by obtain ⟨m, hm⟩ := k0; exact DataW.trod_lt m _ _ _ hm
  have k1 := h1
  have lt1 : ∀ x ∈ p1, x.block < W.heap.size := by obtain ⟨m, hm⟩ := k1; exact DataW.trod_lt m _ _ _ hm
  have k2 := h2
  have lt2 : ∀ x ∈ p2, x.block < W.heap.size := by obtain ⟨m, hm⟩ := k2; exact DataW.trod_lt m _ _ _ hm
  have hbd := Nat.le_trans (Nat.le_refl _) (of_decide_eq_true (hcond _ rfl))
  simp only [Rows.uptoBulkAll, List.append_nil] at hbd
  obtain ⟨a0, len0, cap0, rfl⟩ := okWide_slice Tryd.underlying22 (hval 0 22 v0 rfl rfl)
  obtain ⟨l0, hl0, hr0, hc0, hm0, hn0, hs0⟩ := opened_strs (N := 1048576) h0 (by omega)
  subst hl0
  obtain ⟨a1, len1, cap1, rfl⟩ := okWide_slice Tryd.underlying22 (hval 1 22 v1 rfl rfl)
  obtain ⟨l1, hl1, hr1, hc1, hm1, hn1, hs1⟩ := opened_strs (N := 1048576) h1 (by omega)
  subst hl1
  obtain ⟨f2, rfl, _, _, w2⟩ := open_int Tryd.underlying3 (hval 2 3 v2 rfl rfl) h2
  clear hA0 hval0
  refine (back_law l0 l1 a0 a1 cap0 cap1 f2 W hr0 hn0 hs0 hr1 hn1 hs1 (vars_of_laid5 hL hx4) (tab_of_laid5 hL)).mono fun e W' ⟨he, bel⟩ => ?_
  subst he
  exact ⟨_, rfl, _, _, _, [], _, [], hW', trodAll_mk1 (shut_bool Tryd.underlying4 _), (trodAll_cons_mk (Below.trod laidOut (by kernel_rfl) (of_decide_eq_true (by kernel_rfl)) k0 bel lt0) (trodAll_cons_mk (Below.trod laidOut (by kernel_rfl) (of_decide_eq_true (by kernel_rfl)) k1 bel lt1) (trodAll_cons_mk (Below.trod laidOut (by kernel_rfl) (of_decide_eq_true (by kernel_rfl)) k2 bel lt2) trodAll_mk0))), rfl, bel.frame _, fun h => by cases h⟩
theorem patchBack_said : Rows.PatchBackUptoSaid :=
  OpenClaim.holds_of_cond 10 Tryd.f10 rfl rfl rfl rfl rfl rfl rfl ⟨rfl, rfl, rfl, rfl, rfl⟩ rfl rfl rfl rfl rfl (by kernel_rfl) Tryd.func10 (by kernel_rfl)
    (of_decide_eq_true (by kernel_rfl)) (by unfold Func.isWrapper; first | (rw [if_pos (by decide +kernel)]; kernel_rfl) | (rw [if_neg (by decide +kernel)]; exact ⟨rfl, rfl⟩))
    (fun os started H enc _ F => by rw [OpenClaim.pre_eq_preRow]; exact patchBack_lifted os started H enc F)
theorem patchBack_plain (f : FuncId) (fn : Func) (hf : Tryd.pinned.checked.prog.funcNamed "selvage/selvagelaw13.PatchBack" = some f) (hfn : Tryd.pinned.checked.prog.funcs[f]? = some fn) :
    true = Tryd.pinned.checked.prog.looks [] ∧ ∀ (j : Nat) t, fn.params[j]? = some t → Tryd.pinned.checked.prog.wantsStandIn t = false := by
  obtain rfl : f = 10 := Option.some.inj ((show Tryd.prog.funcNamed "selvage/selvagelaw13.PatchBack" = some 10 by kernel_rfl).symm.trans hf) |>.symm
  obtain rfl : fn = Tryd.f10 := (Option.some.inj (Tryd.func10.symm.trans hfn)).symm
  refine ⟨by kernel_rfl, fun j t ht => ?_⟩
  rw [Tryd.params10] at ht
  have hm := Array.mem_of_getElem? ht
  simp only [Array.mem_toList_iff.symm, List.mem_cons, List.not_mem_nil, or_false] at hm
  rcases hm with rfl | rfl | rfl
  · exact (show Tryd.prog.wantsStandIn 22 = false by kernel_rfl)
  · exact (show Tryd.prog.wantsStandIn 22 = false by kernel_rfl)
  · exact (show Tryd.prog.wantsStandIn 3 = false by kernel_rfl)
theorem patchBack_holds : Rows.PatchBackUptoCardSaid :=
  Claim7.holds_tied_plain_at .later [] _ _ _ _ patchBack_said (fun _ h => by cases h) (by kernel_rfl) (fun _ h => by cases h) patchBackUpto_row_tie rfl ⟨rfl, rfl⟩ (by kernel_rfl) rfl patchBack_plain (by kernel_rfl)
#print axioms patchBack_holds
end Go.Proofs.YtlcidbbpjlpmjaaDoor
