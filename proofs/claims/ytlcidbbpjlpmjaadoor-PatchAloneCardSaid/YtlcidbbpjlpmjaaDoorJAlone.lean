/-
  PatchAlone: the walk of the law, its row, its card (first form).
  Joined of: Laid, Na, Nb, Nw, Nc, Nd, LawAlone.
-/
import Derived.Test.YtlcidbbpjlpmjaaDoorRows
import Derived.Test.YtlcidbbpjlpmjaaDoorOwn
import Derived.LaidMore
import Derived.LaidSub
import Derived.Lib.LaidTab
import Derived.Lib.ItoaNum
import Derived.ProofKit
import Derived.OpenShut
import Derived.Deep.DeepHandedRow
import Derived.Test.YtlcidbbpjlpmjaaDoorQd2
import Derived.Test.YtlcidbbpjlpmjaaDoorRn
import Derived.Test.YtlcidbbpjlpmjaaDoorRl
import Derived.Test.YtlcidbbpjlpmjaaDoorRp
import Derived.Test.YtlcidbbpjlpmjaaDoorQl
import Derived.Test.YtlcidbbpjlpmjaaDoorQw
import Derived.Test.YtlcidbbpjlpmjaaDoorTf
import Derived.Test.YtlcidbbpjlpmjaaDoorCards
import Derived.Test.YtlcidbbpjlpmjaaDoorTie
import Derived.SevenTiedAt
import Derived.BigQuiet
namespace Go.Proofs.YtlcidbbpjlpmjaaDoor
open Go.ChangeShapes Go.WideShapes Go.ChangeAt Go.RowKit
def laid3 : List (String × DataW Unit) := [("math/bits.deBruijn32tab", Rows.laid_math_bits_deBruijn32tab), ("math/bits.deBruijn64tab", Rows.laid_math_bits_deBruijn64tab), ("internal/strconv.uint64pow10", Rows.laid_internal_strconv_uint64pow10)]
theorem own : ownKnob Tryd.prog.godebug = none := by kernel_rfl
theorem laidOut : laidOutB Tryd.prog = true := by kernel_rfl
theorem tab_of_laid {W : World} (h : laidMetH Tryd.prog laid3 W) : Lib.TabIs Tryd.prog W "internal/strconv.uint64pow10" .u64 Lib.pow10Tab := by
  have h3 := h.filter (fun x => x.1 == "internal/strconv.uint64pow10")
  exact Lib.tabIs_of_head (rest := []) (k := .u64) (zs := Lib.pow10Tab) (P := Tryd.prog) (W := W) (name := "internal/strconv.uint64pow10") (g := 1) (t := 135) (e := 121) (n := 20) (by kernel_rfl) (by kernel_rfl) Tryd.underlying135 Tryd.underlying121 (by kernel_rfl) (by kernel_rfl) h3
theorem door_met3 (os : Os) (args : Array Value) : laidMet Tryd.prog laid3 ((World.doorLaid Tryd.prog 400 os).forCall (fun _ _ => 0) ⟨#[], args, []⟩).memory :=
  laidMet_of_run' 8 (by kernel_rfl) (by kernel_rfl)
end Go.Proofs.YtlcidbbpjlpmjaaDoor
namespace Go.Proofs.YtlcidbbpjlpmjaaDoor

section
variable {α : Type} [DecidableEq α]
theorem lcs_skip_left {x : α} {l m : List α} (h : x ∉ m) : lcs (x :: l) m = lcs l m := by
  induction m with
  | nil => simp [lcs_nil_right]
  | cons y m ih =>
    have hxy : x ≠ y := fun q => h (by simp [q])
    rw [lcs_cons, if_neg hxy, ih (fun q => h (by simp [q]))]
    have := lcs_right l m y
    omega
theorem lcs_skip_right {y : α} : ∀ {l m : List α}, y ∉ l → lcs l (y :: m) = lcs l m
  | [], m, _ => by simp [lcs_nil_left]
  | x :: l, m, h => by
    have hxy : ¬ x = y := fun q => h (by simp [q])
    rw [lcs_cons, if_neg hxy, lcs_skip_right (l := l) (fun q => h (by simp [q]))]
    have := lcs_left l m x
    omega
/-- Lines that are alike but for single ones, which are new. -/
def Apart1 : List (α × α) → Prop
  | [] => True
  | p :: ps => Apart1 ps ∧ p.1 ∉ ps.map (·.1) ∧ p.1 ∉ ps.map (·.2) ∧ (p.1 ≠ p.2 → p.2 ∉ ps.map (·.1) ∧ ∀ q, ps.head? = some q → q.1 = q.2)
def flagSteps (ps : List (α × α)) : List Nat := ps.flatMap fun p => if p.1 = p.2 then [0] else [1, 2]
theorem steps_apart : ∀ (ps : List (α × α)), Apart1 ps → steps (ps.map (·.1)) (ps.map (·.2)) = flagSteps ps
  | [], _ => by simp [steps, flagSteps]
  | (x, y) :: ps, h => by
    obtain ⟨h1, h2, h3, h4⟩ := h
    have ih := steps_apart ps h1
    simp only [List.map_cons]
    by_cases hxy : x = y
    · subst hxy
      rw [steps, if_pos rfl, ih]
      simp [flagSteps]
    · obtain ⟨h5, h6⟩ := h4 hxy
      have hx : x ∉ y :: ps.map (·.2) := fun q => by
        rcases List.mem_cons.1 q with q | q
        · exact hxy q
        · exact h3 q
      have hrest : steps (ps.map (·.1)) (y :: ps.map (·.2)) = 2 :: steps (ps.map (·.1)) (ps.map (·.2)) := by
        cases ps with
        | nil => simp [steps]
        | cons q ps =>
          obtain ⟨u, v⟩ := q
          have huv : u = v := h6 _ rfl
          subst huv
          simp only [List.map_cons] at h5 ⊢
          obtain ⟨g1, g2, g3, _⟩ := h1
          have hyu : ¬ u = y := fun q => h5 (by simp [q])
          rw [steps, if_neg hyu, if_neg]
          rw [lcs_skip_right (fun q => h5 (List.mem_cons_of_mem _ q)), lcs_skip_right h5, lcs_cons, if_pos rfl, lcs_skip_right g2]
          omega
      rw [steps, if_neg hxy, if_pos (lcs_skip_left hx).symm, hrest, ih]
      simp [flagSteps, hxy]
/-- The script's runs, with k kept lines ahead. -/
def runsOf : Nat → List (α × α) → List EdD
  | k, [] => if k = 0 then [] else [⟨0, k⟩]
  | k, p :: ps => if p.1 = p.2 then runsOf (k + 1) ps else (if k = 0 then [] else [⟨0, k⟩]) ++ ⟨1, 1⟩ :: ⟨2, 1⟩ :: runsOf 0 ps
theorem addP_ne {r : List EdD} {op : Nat} (h : ∀ e, r.getLast? = some e → e.op ≠ op) : addP r op = r ++ [⟨op, 1⟩] := by
  rcases List.eq_nil_or_concat r with rfl | ⟨r', e, rfl⟩
  · rfl
  · rw [List.concat_eq_append] at h ⊢
    rw [addP_snoc, if_neg (h e (by simp))]
theorem fold_runs : ∀ (ps : List (α × α)) (k : Nat) (pre : List EdD), (∀ e, pre.getLast? = some e → e.op = 2) → (flagSteps ps).foldl addP (pre ++ if k = 0 then [] else [⟨0, k⟩]) = pre ++ runsOf k ps
  | [], k, pre, _ => by simp [flagSteps, runsOf]
  | p :: ps, k, pre, h => by
    rw [runsOf]
    by_cases hp : p.1 = p.2
    · rw [if_pos hp, show flagSteps (p :: ps) = 0 :: flagSteps ps by simp [flagSteps, hp], List.foldl_cons]
      have ih := fold_runs ps (k + 1) pre h
      rw [if_neg (by omega)] at ih
      rw [← ih]
      congr 1
      by_cases hk : k = 0
      · subst hk
        rw [if_pos rfl, List.append_nil, addP_ne (fun e he => by rw [h e he]; omega)]
      · rw [if_neg hk, addP_snoc, if_pos rfl]
    · rw [if_neg hp, show flagSteps (p :: ps) = 1 :: 2 :: flagSteps ps by simp [flagSteps, hp], List.foldl_cons, List.foldl_cons]
      have ih := fold_runs ps 0 (pre ++ (if k = 0 then [] else [⟨0, k⟩]) ++ [⟨1, 1⟩] ++ [⟨2, 1⟩]) (fun e he => by simp at he; rw [← he])
      rw [if_pos rfl, List.append_nil] at ih
      have h1 : addP (pre ++ if k = 0 then [] else [⟨0, k⟩]) 1 = (pre ++ if k = 0 then [] else [⟨0, k⟩]) ++ [⟨1, 1⟩] := addP_ne (fun e he => by
        by_cases hk : k = 0
        · subst hk
          rw [if_pos rfl, List.append_nil] at he
          rw [h e he]; omega
        · rw [if_neg hk] at he
          simp at he
          rw [← he]; simp)
      rw [h1, addP_snoc, if_neg (by simp), ih]
      simp
theorem diffP_apart (ps : List (α × α)) (h : Apart1 ps) : diffP (ps.map (·.1)) (ps.map (·.2)) = runsOf 0 ps := by
  unfold diffP script
  rw [steps_apart ps h]
  simpa using fold_runs ps 0 [] (by simp)
/-- Changed lines stand at least five apart, the first one at least g ahead. -/
def FarP : Nat → List (α × α) → Prop
  | _, [] => True
  | g, p :: ps => if p.1 = p.2 then FarP (g - 1) ps else g = 0 ∧ FarP 5 ps
end
/-- The hunk of one changed line. -/
def hkP (a : List (List UInt8)) (p n m : Nat) (x y : List UInt8) : HkD := putH (putH (putH (putH ⟨p - n, p - n, [], []⟩ 0 ((a.drop (p - n)).take n)) 1 [x]) 2 [y]) 0 ((a.drop (p + 1)).take m)
theorem hkP_more (a : List (List UInt8)) (p n m : Nat) (x y : List UInt8) : putH (hkP a p n 0 x y) 0 ((a.drop (p + 1)).take m) = hkP a p n m x y := by
  have h0 : ∀ h : HkD, putH h 0 [] = h := fun h => by simp [putH]
  unfold hkP
  rw [List.take_zero, h0]
def GoodK (a b : List (List UInt8)) (h : HkD) : Prop := ∃ p n m x y, a[p]? = some x ∧ b[p]? = some y ∧ x ≠ y ∧ n ≤ p ∧ p + 1 + m ≤ a.length ∧ h = hkP a p n m x y
section
variable (a b : List (List UInt8))
theorem edits_change {c : CutD} {x y : List UInt8} {l : List EdD} (ho : c.opn = false) (hij : c.i = c.j) (hx : (a.drop c.i).take 1 = [x]) (hy : (b.drop c.i).take 1 = [y]) :
    editsP a b 2 c (⟨1, 1⟩ :: ⟨2, 1⟩ :: l) = editsP a b 2 ⟨c.i + 1, c.j + 1, c.out ++ [hkP a c.i (min 2 c.uns) 0 x y], true, c.uns⟩ l := by
  rw [editsP, editsP]
  congr 1
  simp [editP, beginP, ho, putL_snoc, hx, ← hij, hy, hkP, putH]
theorem edits_runs : ∀ (ps : List (List UInt8 × List UInt8)) (k : Nat) (c : CutD), c.i = c.j → a.drop (c.i + k) = ps.map (·.1) → b.drop (c.i + k) = ps.map (·.2) → c.i + k ≤ a.length → (c.opn = false → c.uns ≤ c.i) →
    FarP (if c.opn = true then 5 - k else 0) ps →
    (c.opn = true → ∃ r p n x y, c.out = r ++ [hkP a p n 0 x y] ∧ (∀ h ∈ r, GoodK a b h) ∧ p + 1 = c.i ∧ a[p]? = some x ∧ b[p]? = some y ∧ x ≠ y ∧ n ≤ p) →
    (c.opn = false → ∀ h ∈ c.out, GoodK a b h) →
    (∀ h ∈ (editsP a b 2 c (runsOf k ps)).out, GoodK a b h) ∧ ((editsP a b 2 c (runsOf k ps)).out = [] → c.out = [] ∧ ∀ p ∈ ps, p.1 = p.2)
  | [], k, c, hij, ha, hb, hle, hu, hf, hopn, hcl => by
    rw [runsOf]
    by_cases hk : k = 0
    · rw [if_pos hk, editsP]
      refine ⟨?_, fun h => ⟨h, by simp⟩⟩
      cases hc : c.opn
      · exact hcl hc
      · obtain ⟨r, p, n, x, y, hr, hg, hp, hx, hy, hxy, hn⟩ := hopn hc
        intro h hh
        rw [hr, List.mem_append, List.mem_singleton] at hh
        rcases hh with hh | rfl
        · exact hg h hh
        · exact ⟨p, n, 0, x, y, hx, hy, hxy, hn, by omega, rfl⟩
    · rw [if_neg hk, editsP, editsP]
      cases hc : c.opn
      · simp only [editP, hc, List.isEmpty_nil]
        exact ⟨by simpa using hcl hc, fun h => ⟨by simpa using h, by simp⟩⟩
      · obtain ⟨r, p, n, x, y, hr, hg, hp, hx, hy, hxy, hn⟩ := hopn hc
        have hout : (editP a b 2 c ⟨0, k⟩ ([] : List EdD).isEmpty).out = r ++ [hkP a p n (min 2 k) x y] := by
          simp only [editP, hc, List.isEmpty_nil]
          simp [hr, putL_snoc, ← hp, hkP_more]
        rw [hout]
        refine ⟨fun h hh => ?_, fun h => by simp at h⟩
        rw [List.mem_append, List.mem_singleton] at hh
        rcases hh with hh | rfl
        · exact hg h hh
        · exact ⟨p, n, min 2 k, x, y, hx, hy, hxy, hn, by omega, rfl⟩
  | q :: ps, k, c, hij, ha, hb, hle, hu, hf, hopn, hcl => by
    have hlt : c.i + k < a.length := by
      have := congrArg List.length ha
      simp at this
      omega
    have hax : a.drop (c.i + (k + 1)) = ps.map (·.1) := by rw [← Nat.add_assoc, ← List.drop_drop, ha]; rfl
    have hbx : b.drop (c.i + (k + 1)) = ps.map (·.2) := by rw [← Nat.add_assoc, ← List.drop_drop, hb]; rfl
    rw [runsOf]
    by_cases hq : q.1 = q.2
    · rw [if_pos hq]
      rw [FarP, if_pos hq] at hf
      have ih := edits_runs ps (k + 1) c hij hax hbx (by omega) hu (by
        cases hc : c.opn
        · rw [hc] at hf; simpa using hf
        · rw [hc] at hf; simpa [Nat.sub_sub] using hf) hopn hcl
      exact ⟨ih.1, fun h => ⟨(ih.2 h).1, fun p hp => by
        rcases List.mem_cons.1 hp with rfl | hp
        · exact hq
        · exact (ih.2 h).2 p hp⟩⟩
    · rw [if_neg hq]
      rw [FarP, if_neg hq] at hf
      obtain ⟨hf0, hf5⟩ := hf
      have hx1 : ∀ i, i = c.i + k → (a.drop i).take 1 = [q.1] := fun i hi => by rw [hi, ha]; rfl
      have hy1 : ∀ i, i = c.i + k → (b.drop i).take 1 = [q.2] := fun i hi => by rw [hi, hb]; rfl
      have hxs : a[c.i + k]? = some q.1 := by rw [← List.head?_drop, ha]; rfl
      have hys : b[c.i + k]? = some q.2 := by rw [← List.head?_drop, hb]; rfl
      -- the state ahead of the change: closed, all of it good
      have main : ∀ d : CutD, d.opn = false → d.i = d.j → d.i = c.i + k → d.uns ≤ d.i → (∀ h ∈ d.out, GoodK a b h) →
          (∀ h ∈ (editsP a b 2 d (⟨1, 1⟩ :: ⟨2, 1⟩ :: runsOf 0 ps)).out, GoodK a b h) ∧ ((editsP a b 2 d (⟨1, 1⟩ :: ⟨2, 1⟩ :: runsOf 0 ps)).out = [] → False) := by
        intro d hd1 hd2 hd3 hd4 hd5
        rw [edits_change a b hd1 hd2 (hx1 _ hd3) (hy1 _ hd3)]
        have ih := edits_runs ps 0 ⟨d.i + 1, d.j + 1, d.out ++ [hkP a d.i (min 2 d.uns) 0 q.1 q.2], true, d.uns⟩ (by simp [hd2]) (by rw [← hax]; congr 1; simp only; omega) (by rw [← hbx]; congr 1; simp only; omega) (by simp only; omega) (by simp) (by simpa using hf5)
          (fun _ => ⟨d.out, d.i, min 2 d.uns, q.1, q.2, rfl, hd5, rfl, by rw [hd3]; exact hxs, by rw [hd3]; exact hys, hq, by omega⟩) (by simp)
        refine ⟨ih.1, fun h => ?_⟩
        have := (ih.2 h).1
        simp at this
      by_cases hk : k = 0
      · rw [if_pos hk, List.nil_append]
        have hc : c.opn = false := by
          cases hc : c.opn
          · rfl
          · rw [hc, if_pos rfl] at hf0; omega
        obtain ⟨m1, m2⟩ := main c hc hij (by omega) (hu hc) (hcl hc)
        exact ⟨m1, fun h => (m2 h).elim⟩
      · rw [if_neg hk, List.singleton_append, editsP]
        cases hc : c.opn
        · have he : editP a b 2 c ⟨0, k⟩ (List.isEmpty (⟨1, 1⟩ :: ⟨2, 1⟩ :: runsOf 0 ps)) = ⟨c.i + k, c.j + k, c.out, false, k⟩ := by simp [editP, hc]
          rw [he]
          obtain ⟨m1, m2⟩ := main ⟨c.i + k, c.j + k, c.out, false, k⟩ rfl (by simp [hij]) rfl (by simp) (hcl hc)
          exact ⟨m1, fun h => (m2 h).elim⟩
        · rw [hc, if_pos rfl] at hf0
          obtain ⟨r, p, n, x, y, hr, hg, hp, hx, hy, hxy, hn⟩ := hopn hc
          have he : editP a b 2 c ⟨0, k⟩ (List.isEmpty (⟨1, 1⟩ :: ⟨2, 1⟩ :: runsOf 0 ps)) = ⟨c.i + k, c.j + k, r ++ [hkP a p n (min 2 k) x y], false, k⟩ := by
            have h4 : ¬ k ≤ 4 := by omega
            simp [editP, hc, h4, hr, putL_snoc, ← hp, hkP_more]
          rw [he]
          obtain ⟨m1, m2⟩ := main ⟨c.i + k, c.j + k, r ++ [hkP a p n (min 2 k) x y], false, k⟩ rfl (by simp [hij]) rfl (by simp) (fun h hh => by
            rw [List.mem_append, List.mem_singleton] at hh
            rcases hh with hh | rfl
            · exact hg h hh
            · exact ⟨p, n, min 2 k, x, y, hx, hy, hxy, hn, by omega, rfl⟩)
          exact ⟨m1, fun h => (m2 h).elim⟩
end
/-- Of two such texts each hunk is that of one changed line; without a hunk they are the same. -/
theorem hunks_apart (ps : List (List UInt8 × List UInt8)) (h1 : Apart1 ps) (h2 : FarP 0 ps) : (∀ h ∈ hunksP (ps.map (·.1)) (ps.map (·.2)) 2, GoodK (ps.map (·.1)) (ps.map (·.2)) h) ∧ (hunksP (ps.map (·.1)) (ps.map (·.2)) 2 = [] → ∀ p ∈ ps, p.1 = p.2) := by
  unfold hunksP
  rw [diffP_apart ps h1]
  have := edits_runs (ps.map (·.1)) (ps.map (·.2)) ps 0 ⟨0, 0, [], false, 0⟩ rfl (by simp) (by simp) (by simp) (by simp) (by simpa using h2) (by simp) (by simp)
  exact ⟨this.1, fun h => (this.2 h).2⟩
end Go.Proofs.YtlcidbbpjlpmjaaDoor
namespace Go.Proofs.YtlcidbbpjlpmjaaDoor
open Go.RowKit

theorem edsP_of {len : Nat} : ∀ (l : List EdD) (p : Option Int) (c : Cnt), altern l → (∀ e, l.head? = some e → p ≠ some (e.op : Int)) → c.all + sumN l ≤ len → ∃ c', edsP len p c (l.map EdD.toI) = some c' ∧ c'.all = c.all + sumN l ∧ c'.turns = (c.turns || l.any (fun e => decide (e.op ≠ 0)))
  | [], p, c, _, _, _ => ⟨c, rfl, by simp [sumN], by simp⟩
  | e :: l, p, c, ha, hp, hs => by
    have he : 1 ≤ e.n ∧ e.op ≤ 2 := by
      cases l with
      | nil => exact ha
      | cons f l => exact ⟨ha.1, ha.2.1⟩
    have hl : altern l ∧ ∀ f, l.head? = some f → (some (e.toI.op) : Option Int) ≠ some (f.op : Int) := by
      cases l with
      | nil => exact ⟨trivial, by simp⟩
      | cons f l =>
        refine ⟨ha.2.2.2, fun g hg => ?_⟩
        injection hg with hg
        subst hg
        intro q
        injection q with q
        exact ha.2.2.1 (by have : (e.op : Int) = (f.op : Int) := q; omega)
    have hsum : sumN (e :: l) = e.n + sumN l := by simp [sumN]
    have hall : (addE c e.toI).all = c.all + e.n := by rw [addE_all]; rfl
    rw [hsum] at hs
    obtain ⟨c', h1, h2, h3⟩ := edsP_of (len := len) l (some e.toI.op) (addE c e.toI) hl.1 hl.2 (by rw [hall]; omega)
    have hb : badE len p c e.toI = false := by
      have hpp := hp e rfl
      have e1 : e.toI.op = (e.op : Int) := rfl
      have e2 : e.toI.n = (e.n : Int) := rfl
      simp only [badE, Bool.or_eq_false_iff, decide_eq_false_iff_not, e1, e2]
      exact ⟨by omega, by omega, by omega, by omega, hpp⟩
    refine ⟨c', ?_, by omega, ?_⟩
    · rw [List.map_cons, edsP, hb]
      simpa using h1
    · rw [h3, addE_turns (by show (1 : Int) ≤ (e.n : Int); omega), List.any_cons, Bool.or_assoc]
      congr 2
      have e1 : e.toI.op = (e.op : Int) := rfl
      rw [e1]
      exact decide_eq_decide.2 (by omega)
theorem okH_of (h : HkD) (h1 : h.a ≤ 999999999) (h2 : h.b ≤ 999999999) (h3 : altern h.eds) (h4 : sumN h.eds = h.ls.length) (h5 : h.eds.any (fun e => decide (e.op ≠ 0)) = true) (h6 : ∀ s ∈ h.ls, lineP s = true) : okH h.toI = true := by
  obtain ⟨c', e1, e2, e3⟩ := edsP_of (len := h.ls.length) h.eds none cnt0 h3 (by simp) (by simp [cnt0, Cnt.all]; omega)
  have hp : placesP h.toI = true := by
    unfold placesP
    have a1 : h.toI.a = (h.a : Int) := rfl
    have a2 : h.toI.b = (h.b : Int) := rfl
    rw [a1, a2]
    simp
    omega
  have ht : c'.turns = true := by rw [e3, h5]; simp
  have hall : c'.all = h.ls.length := by rw [e2, h4]; simp [cnt0, Cnt.all]
  have hl : h.ls.all lineP = true := List.all_eq_true.2 h6
  unfold okH mayP
  rw [if_pos hp]
  have hle : h.toI.ls = h.ls := rfl
  have hee : h.toI.eds = h.eds.map EdD.toI := rfl
  rw [hle, hee, e1]
  simp only [ht, hall, hl]
  simp
theorem toI_toD (h : HkD) : h.toI.toD = h := by
  cases h with
  | mk a b eds ls =>
    simp only [HkD.toI, HkI.toD, Int.toNat_natCast, List.map_map]
    congr 1
    have : ∀ l : List EdD, l.map (EdI.toD ∘ EdD.toI) = l := fun l => by
      induction l with
      | nil => rfl
      | cons e l ih => rw [List.map_cons, ih]; simp [EdI.toD, EdD.toI]
    exact this eds
theorem oldL_run (A rest : List (List UInt8)) (eds : List EdD) : oldL ((if A.length = 0 then [] else [⟨0, A.length⟩]) ++ eds) (A ++ rest) = A ++ oldL eds rest := by
  cases A with
  | nil => simp
  | cons x A =>
    rw [if_neg (by simp), List.singleton_append, oldL, if_neg (by simp)]
    simp only
    rw [List.take_left' rfl, List.drop_left' rfl]
theorem newL_run (A rest : List (List UInt8)) (eds : List EdD) : newL ((if A.length = 0 then [] else [⟨0, A.length⟩]) ++ eds) (A ++ rest) = A ++ newL eds rest := by
  cases A with
  | nil => simp
  | cons x A =>
    rw [if_neg (by simp), List.singleton_append, newL, if_neg (by simp)]
    simp only
    rw [List.take_left' rfl, List.drop_left' rfl]
theorem applyP_one (a : List (List UInt8)) (p n m : Nat) (x y : List UInt8) (hx : a[p]? = some x) (hn : n ≤ p) (hm : p + 1 + m ≤ a.length) (hl : a.length ≤ 999999999) (hla : ∀ s ∈ a, lineP s = true) (hy : lineP y = true) :
    applyP a [(hkP a p n m x y).toI] = .ok (a.set p y) := by
  obtain ⟨A, hA⟩ : ∃ A, (a.drop (p - n)).take n = A := ⟨_, rfl⟩
  obtain ⟨B, hB⟩ : ∃ B, (a.drop (p + 1)).take m = B := ⟨_, rfl⟩
  have lA : A.length = n := by rw [← hA, List.length_take, List.length_drop]; omega
  have lB : B.length = m := by rw [← hB, List.length_take, List.length_drop]; omega
  have hmem : ∀ s ∈ A ++ [x] ++ B, s ∈ a := fun s hs => by
    rw [List.mem_append, List.mem_append, List.mem_singleton] at hs
    rcases hs with (hs | rfl) | hs
    · rw [← hA] at hs; exact List.mem_of_mem_drop (List.mem_of_mem_take hs)
    · exact List.mem_of_getElem? hx
    · rw [← hB] at hs; exact List.mem_of_mem_drop (List.mem_of_mem_take hs)
  have hk : hkP a p n m x y = ⟨p - n, p - n, (if n = 0 then [] else [⟨0, n⟩]) ++ [⟨1, 1⟩, ⟨2, 1⟩] ++ (if m = 0 then [] else [⟨0, m⟩]), A ++ [x, y] ++ B⟩ := by
    unfold hkP
    rw [hA, hB]
    rcases A with _ | ⟨a1, A⟩
    · have hn0 : n = 0 := by simpa using lA.symm
      rcases B with _ | ⟨b1, B⟩
      · have hm0 : m = 0 := by simpa using lB.symm
        simp [putH, hn0, hm0]
      · have hm0 : ¬ m = 0 := by rw [← lB]; simp
        simp only [List.length_cons] at lB
        simp [putH, hn0, hm0, lB]
    · have hn0 : ¬ n = 0 := by rw [← lA]; simp
      simp only [List.length_cons] at lA
      rcases B with _ | ⟨b1, B⟩
      · have hm0 : m = 0 := by simpa using lB.symm
        simp [putH, hn0, hm0, lA]
      · have hm0 : ¬ m = 0 := by rw [← lB]; simp
        simp only [List.length_cons] at lB
        simp [putH, hn0, hm0, lA, lB]
  have hok : okH (hkP a p n m x y).toI = true := by
    rw [hk]
    refine okH_of _ (by simp only; omega) (by simp only; omega) ?_ ?_ ?_ ?_
    · by_cases q1 : n = 0 <;> by_cases q2 : m = 0 <;> simp [q1, q2, altern] <;> omega
    · by_cases q1 : n = 0 <;> by_cases q2 : m = 0 <;> simp [q1, q2, sumN, lA, lB] <;> omega
    · simp
    · intro s hs
      simp only [List.mem_append, List.mem_cons, List.not_mem_nil, or_false] at hs
      rcases hs with (hs | rfl | rfl) | hs
      · exact hla s (hmem s (by simp [hs]))
      · exact hla s (hmem s (by simp))
      · exact hy
      · exact hla s (hmem s (by simp [hs]))
  have hold : oldL (hkP a p n m x y).eds (hkP a p n m x y).ls = A ++ ([x] ++ B) := by
    have e1 := oldL_run A ([x, y] ++ B) ([⟨1, 1⟩, ⟨2, 1⟩] ++ ((if B.length = 0 then [] else [⟨0, B.length⟩]) ++ []))
    have e2 := oldL_run B [] []
    rw [lA, lB] at e1
    rw [lB] at e2
    rw [hk]
    simp only [List.append_nil, List.append_assoc] at e1 e2 ⊢
    rw [e1]
    simp [oldL, e2]
  have hnew : newL (hkP a p n m x y).eds (hkP a p n m x y).ls = A ++ ([y] ++ B) := by
    have e1 := newL_run A ([x, y] ++ B) ([⟨1, 1⟩, ⟨2, 1⟩] ++ ((if B.length = 0 then [] else [⟨0, B.length⟩]) ++ []))
    have e2 := newL_run B [] []
    rw [lA, lB] at e1
    rw [lB] at e2
    rw [hk]
    simp only [List.append_nil, List.append_assoc] at e1 e2 ⊢
    rw [e1]
    simp [newL, e2]
  have hat : okA a (p - n) (A ++ ([x] ++ B)) := by
    rw [okA_app, okA_app]
    refine ⟨?_, ?_, ?_⟩
    · unfold okA; rw [lA, hA]
    · unfold okA
      rw [lA, show p - n + n = p by omega, List.length_singleton, List.take_one, List.head?_drop, hx]
      rfl
    · unfold okA
      rw [lA, show p - n + n + [x].length = p + 1 by simp; omega, lB, hB]
  have hpl : (hkP a p n m x y).a = p - n ∧ (hkP a p n m x y).b = p - n := by rw [hk]; exact ⟨rfl, rfl⟩
  unfold applyP
  rw [List.all_cons, hok, List.all_nil, Bool.and_true, if_pos rfl, List.map_cons, List.map_nil, toI_toD, applyL]
  have hs : stepA a (hkP a p n m x y) 0 [] = .ok (p - n + (A ++ ([x] ++ B)).length, [] ++ (a.drop 0).take (p - n) ++ (A ++ ([y] ++ B))) := by
    unfold stepA
    rw [if_neg (by omega), hold, hnew, hpl.1, hpl.2, if_pos ⟨by omega, by simp, hat⟩]
    rfl
  rw [hs]
  simp only [applyL]
  congr 1
  have hlen : p - n + (A ++ ([x] ++ B)).length = p + 1 + m := by simp [lA, lB]; omega
  have htk : a.take (p - n) ++ A = a.take p := by
    rw [← hA, ← List.take_add, show p - n + n = p by omega]
  have hdr : B ++ a.drop (p + 1 + m) = a.drop (p + 1) := by
    rw [← hB, show a.drop (p + 1 + m) = (a.drop (p + 1)).drop m by rw [List.drop_drop], List.take_append_drop]
  rw [hlen, List.drop_zero, List.nil_append, List.set_eq_take_append_cons_drop, if_pos (by omega), ← htk, ← hdr]
  simp
end Go.Proofs.YtlcidbbpjlpmjaaDoor
namespace Go.Proofs.YtlcidbbpjlpmjaaDoor
open Go.RowKit

def wiN (x : Int) (n : Nat) : Nat := (x % (n : Int)).toNat
theorem wiN_lt {x : Int} {n : Nat} (h : 0 < n) : wiN x n < n := by
  have h1 := Int.emod_nonneg x (b := (n : Int)) (by omega)
  have h2 := Int.emod_lt_of_pos x (b := (n : Int)) (by omega)
  unfold wiN
  omega
theorem tmod_wi {x : Int} {n : Nat} (h : 0 < n) : (0 ≤ x.tmod (n : Int) ∧ x.tmod (n : Int) = (wiN x n : Int)) ∨ (x.tmod (n : Int) < 0 ∧ x.tmod (n : Int) + (n : Int) = (wiN x n : Int) ∧ -(n : Int) < x.tmod (n : Int)) := by
  have h1 := Int.emod_nonneg x (b := (n : Int)) (by omega)
  have h2 := Int.emod_lt_of_pos x (b := (n : Int)) (by omega)
  have hw : (wiN x n : Int) = x % (n : Int) := by unfold wiN; omega
  rw [hw, Int.tmod_eq_emod]
  split
  · exact .inl ⟨by omega, by omega⟩
  · by_cases hz : x % (n : Int) = 0
    · rename_i q
      exact absurd (.inr (Int.dvd_of_emod_eq_zero hz)) q
    · exact .inr ⟨by omega, by omega, by omega⟩
set_option maxRecDepth 100000 in
theorem within_any (x : Int) (n : Nat) (hn : 0 < n) (hn2 : n ≤ 1000000) (w : World) :
    Calls Tryd.prog 24 #[.int .i64 x, .int .i64 (n : Int)] w fun r w' => r = .returned (.int .i64 (wiN x n : Int)) ∧ w' = w := by
  have hnz : ¬ ((n : Int) = 0) := by omega
  have hlt := wiN_lt (x := x) hn
  have HT := Lib.hid (tmod_wi (x := x) hn)
  generalize wiN x n = k at *
  go_enter Tryd.func24, Tryd.ntmps24
  go_upto_region 2 with fail
  generalize x.tmod (n : Int) = t at *
  rcases HT.out with ⟨h1, h2⟩ | ⟨h1, h2, h3⟩
  · subst h2
    have d1 : decide ((k : Int) < 0) = false := decide_eq_false (by omega)
    have h4 : ¬ (k : Int) < 0 := by omega
    go_wp2_with fail
    go_ret
    exact ⟨rfl, rfl⟩
  · have d1 : decide (t < 0) = true := decide_eq_true h1
    have w1 : IntKind.i64.wrap (t + (n : Int)) = t + (n : Int) := IntWalk.i64_in _ (by omega)
    have H2 := Lib.hid h2
    clear h2
    go_wp2_with fail
    go_ret
    exact ⟨by rw [← H2.out]; rfl, rfl⟩
section
variable {H : Type} {enc : TypeId × Value → H} {w : World} {base : Nat} {spare : Nat → Bool} {held : Bool}
theorem flat_int (l : List Int) : l.flatMap (fun a => [Value.int .i64 a]) = l.map (Value.int .i64) := by
  induction l with
  | nil => rfl
  | cons a l ih => rw [List.flatMap_cons, ih]; rfl
theorem opened_ints {A : Option Addr} {len cap : Nat} {d : DataW H} {p : List MemPlace} (h : DataW.Trod enc Tryd.prog w base spare held 52 (.slice A len cap) d p) :
    ∃ l : List Int, l.length = len ∧ Reads w w.heap.size 1 A l.length (l.map (Value.int .i64)) ∧ l.length ≤ cap ∧ cap ≤ maxLen := by
  obtain ⟨fuel, hf⟩ := h
  have hf : DataW.trod enc Tryd.prog w base spare held fuel 52 [.slice A len cap] = some (d, p) := by simpa [Value.cells] using hf
  obtain ⟨l, h1, h2, h3, h4, _⟩ := open_listB (N := Rows.uptoBulk d) (f := fun a : Int => [Value.int .i64 a]) (V := fun _ => True) Tryd.underlying52 cells_int (by decide) (fun _ => rfl) (fun _ _ _ h _ => by obtain ⟨a, e, _, _⟩ := DataW.trod_int Tryd.underlying3 h; exact ⟨a, e, trivial⟩) hf (Nat.le_refl _)
  subst h1
  rw [flat_int] at h2
  exact ⟨l, rfl, h2, h3, h4⟩
theorem flat_bool (l : List Bool) : l.flatMap (fun a => [Value.bool a]) = l.map Value.bool := by
  induction l with
  | nil => rfl
  | cons a l ih => rw [List.flatMap_cons, ih]; rfl
theorem cells_bool : Tryd.prog.cellsOf 4 = 1 := by kernel_rfl
theorem opened_bools {A : Option Addr} {len cap : Nat} {d : DataW H} {p : List MemPlace} (h : DataW.Trod enc Tryd.prog w base spare held 47 (.slice A len cap) d p) :
    ∃ l : List Bool, l.length = len ∧ Reads w w.heap.size 1 A l.length (l.map Value.bool) ∧ l.length ≤ cap ∧ cap ≤ maxLen := by
  obtain ⟨fuel, hf⟩ := h
  have hf : DataW.trod enc Tryd.prog w base spare held fuel 47 [.slice A len cap] = some (d, p) := by simpa [Value.cells] using hf
  obtain ⟨l, h1, h2, h3, h4, _⟩ := open_listB (N := Rows.uptoBulk d) (f := fun a : Bool => [Value.bool a]) (V := fun _ => True) Tryd.underlying47 cells_bool (by decide) (fun _ => rfl) (fun _ _ _ h _ => by obtain ⟨a, e, _⟩ := DataW.trod_bool Tryd.underlying4 h; exact ⟨a, e, trivial⟩) hf (Nat.le_refl _)
  subst h1
  rw [flat_bool] at h2
  exact ⟨l, rfl, h2, h3, h4⟩
end
end Go.Proofs.YtlcidbbpjlpmjaaDoor
namespace Go.Proofs.YtlcidbbpjlpmjaaDoor
open Go.RowKit

def lineA (i : Nat) : List UInt8 := [UInt8.ofNat (97 + i % 26), UInt8.ofNat (65 + i / 26), 10]
def chg (t : List Int) (i : Nat) : Bool := (t.take 5).any fun x => decide (wiN x 10 * 9 = i)
def lineB (t : List Int) (i : Nat) : List UInt8 := if chg t i = true then [110, 101, 119] ++ lineA i else lineA i
def textsOf (t : List Int) (s m : Nat) : List (List UInt8 × List UInt8) := (List.range' s m).map fun i => (lineA i, lineB t i)
theorem lineA_inj {i j : Nat} (hi : i < 200) (hj : j < 200) (h : lineA i = lineA j) : i = j := by
  unfold lineA at h
  injection h with h1 h2
  injection h2 with h2 _
  have e1 := congrArg UInt8.toNat h1
  have e2 := congrArg UInt8.toNat h2
  simp only [UInt8.toNat_ofNat'] at e1 e2
  omega
theorem lineB_len {t : List Int} {i : Nat} (h : chg t i = true) : (lineB t i).length = 6 := by unfold lineB; rw [if_pos h]; rfl
theorem lineB_same {t : List Int} {i : Nat} (h : chg t i = false) : lineB t i = lineA i := by unfold lineB; rw [if_neg (by simp [h])]
theorem lineB_ne {t : List Int} {i j : Nat} (h : chg t i = true) : lineB t i ≠ lineA j := fun q => by
  have := congrArg List.length q
  rw [lineB_len h] at this
  simp [lineA] at this
theorem chg_nine {t : List Int} {i : Nat} (h : chg t i = true) : i % 9 = 0 := by
  unfold chg at h
  rw [List.any_eq_true] at h
  obtain ⟨x, _, hx⟩ := h
  have := of_decide_eq_true hx
  omega
theorem apart_texts (t : List Int) : ∀ (m s : Nat), s + m ≤ 200 → Apart1 (textsOf t s m)
  | 0, _, _ => trivial
  | m + 1, s, h => by
    have hm1 : ∀ x, x ∈ (textsOf t (s + 1) m).map (·.1) → ∃ j, s < j ∧ j < 200 ∧ x = lineA j := fun x hx => by
      simp only [textsOf, List.map_map, List.mem_map, List.mem_range'_1, Function.comp] at hx
      obtain ⟨j, hj, rfl⟩ := hx
      exact ⟨j, by omega, by omega, rfl⟩
    have hm2 : ∀ x, x ∈ (textsOf t (s + 1) m).map (·.2) → ∃ j, s < j ∧ j < 200 ∧ x = lineB t j := fun x hx => by
      simp only [textsOf, List.map_map, List.mem_map, List.mem_range'_1, Function.comp] at hx
      obtain ⟨j, hj, rfl⟩ := hx
      exact ⟨j, by omega, by omega, rfl⟩
    refine ⟨apart_texts t m (s + 1) (by omega), fun hx => ?_, fun hx => ?_, fun hne => ⟨fun hx => ?_, fun q hq => ?_⟩⟩
    · obtain ⟨j, h1, h2, h3⟩ := hm1 _ hx
      have := lineA_inj (by omega) h2 h3
      omega
    · obtain ⟨j, h1, h2, h3⟩ := hm2 _ hx
      cases hc : chg t j
      · rw [lineB_same hc] at h3
        have := lineA_inj (by omega) h2 h3
        omega
      · exact lineB_ne hc h3.symm
    · have hc : chg t s = true := by
        cases hc : chg t s
        · exact absurd (lineB_same hc).symm hne
        · rfl
      obtain ⟨j, h1, h2, h3⟩ := hm1 _ hx
      exact lineB_ne hc h3
    · have hc : chg t s = true := by
        cases hc : chg t s
        · exact absurd (lineB_same hc).symm hne
        · rfl
      cases m with
      | zero => simp at hq
      | succ m =>
        simp only [List.range'_succ, List.map_cons, List.head?_cons, Option.some.injEq] at hq
        subst hq
        have h9 := chg_nine hc
        cases hd : chg t (s + 1)
        · exact (lineB_same hd).symm
        · have := chg_nine hd
          omega
theorem far_texts (t : List Int) : ∀ (m s g : Nat), s + m ≤ 200 → (∀ i, s ≤ i → i < s + g → chg t i = false) → FarP g (textsOf t s m)
  | 0, _, _, _, _ => trivial
  | m + 1, s, g, h, hg => by
    have he : textsOf t s (m + 1) = (lineA s, lineB t s) :: textsOf t (s + 1) m := by simp [textsOf, List.range'_succ]
    rw [he, FarP]
    cases hc : chg t s
    · rw [if_pos (lineB_same hc).symm]
      exact far_texts t m (s + 1) (g - 1) (by omega) (fun i h1 h2 => by
        rcases Nat.lt_or_ge i (s + g) with q | q
        · exact hg i (by omega) q
        · omega)
    · rw [if_neg (fun q => lineB_ne hc q.symm)]
      refine ⟨?_, far_texts t m (s + 1) 5 (by omega) (fun i h1 h2 => ?_)⟩
      · rcases Nat.eq_zero_or_pos g with q | q
        · exact q
        · rw [hg s (Nat.le_refl _) (by omega)] at hc; cases hc
      · have h9 := chg_nine hc
        cases hd : chg t i
        · rfl
        · have := chg_nine hd
          omega
def textA (n : Nat) : List (List UInt8) := (List.range n).map lineA
def textB (t : List Int) (n : Nat) : List (List UInt8) := (List.range n).map (lineB t)
theorem texts_fst (t : List Int) (n : Nat) : (textsOf t 0 n).map (·.1) = textA n := by simp [textsOf, textA, List.range_eq_range', Function.comp_def]
theorem texts_snd (t : List Int) (n : Nat) : (textsOf t 0 n).map (·.2) = textB t n := by simp [textsOf, textB, List.range_eq_range', Function.comp_def]
theorem textA_line : ∀ i, i < 90 → lineP (lineA i) = true := by
  have h : (List.range 90).all (fun i => lineP (lineA i)) = true := by decide +kernel
  intro i hi
  exact List.all_eq_true.1 h i (List.mem_range.2 hi)
theorem textN_line : ∀ i, i < 90 → lineP ([110, 101, 119] ++ lineA i) = true := by
  have h : (List.range 90).all (fun i => lineP ([110, 101, 119] ++ lineA i)) = true := by decide +kernel
  intro i hi
  exact List.all_eq_true.1 h i (List.mem_range.2 hi)
/-- A hunk of the two texts, done alone on the first, turns one line to that of the second. -/
theorem alone_one (t : List Int) (n : Nat) (hn : n < 90) (h : HkD) (hh : h ∈ hunksP (textA n) (textB t n) 2) : ∃ p x y, p < n ∧ (textA n)[p]? = some x ∧ (textB t n)[p]? = some y ∧ x ≠ y ∧ applyP (textA n) [h.toI] = .ok ((textA n).set p y) := by
  have hg := (hunks_apart (textsOf t 0 n) (apart_texts t n 0 (by omega)) (far_texts t n 0 0 (by omega) (fun i h1 h2 => by omega))).1
  rw [texts_fst, texts_snd] at hg
  obtain ⟨p, k, m, x, y, h1, h2, h3, h4, h5, rfl⟩ := hg h hh
  have hlen : (textA n).length = n := by simp [textA]
  have hp : p < n := by have := (List.getElem?_eq_some_iff.1 h1).1; omega
  refine ⟨p, x, y, hp, h1, h2, h3, applyP_one (textA n) p k m x y h1 h4 h5 (by omega) (fun s hs => ?_) ?_⟩
  · obtain ⟨i, hi, rfl⟩ := List.mem_map.1 hs
    exact textA_line i (by have := List.mem_range.1 hi; omega)
  · obtain ⟨i, hi, rfl⟩ := List.mem_map.1 (List.mem_of_getElem? h2)
    have hi := List.mem_range.1 hi
    unfold lineB
    split
    · exact textN_line i (by omega)
    · exact textA_line i (by omega)
theorem alone_none (t : List Int) (n : Nat) (hn : n < 90) (hh : hunksP (textA n) (textB t n) 2 = []) : textA n = textB t n := by
  have hg := (hunks_apart (textsOf t 0 n) (apart_texts t n 0 (by omega)) (far_texts t n 0 0 (by omega) (fun i h1 h2 => by omega))).2
  rw [texts_fst, texts_snd] at hg
  have := hg hh
  rw [← texts_fst t, ← texts_snd t]
  exact List.map_congr_left this
end Go.Proofs.YtlcidbbpjlpmjaaDoor
namespace Go.Proofs.YtlcidbbpjlpmjaaDoor

/-- At most k edits, k rows of M lines; each line out of a or b. -/
def HkB (a b : List (List UInt8)) (M k : Nat) (h : HkD) : Prop := h.eds.length ≤ k ∧ h.ls.length ≤ k * M ∧ ∀ s ∈ h.ls, s ∈ a ∨ s ∈ b
theorem HkB.mono {a b : List (List UInt8)} {M k k' : Nat} {h : HkD} (x : HkB a b M k h) (hk : k ≤ k') : HkB a b M k' h :=
  ⟨Nat.le_trans x.1 hk, Nat.le_trans x.2.1 (Nat.mul_le_mul_right _ hk), x.2.2⟩
theorem HkB.put {a b : List (List UInt8)} {M k op : Nat} {h : HkD} {l : List (List UInt8)} (x : HkB a b M k h) (h1 : l.length ≤ M) (h2 : ∀ s ∈ l, s ∈ a ∨ s ∈ b) : HkB a b M (k + 1) (putH h op l) := by
  unfold putH
  split
  · exact x.mono (Nat.le_succ _)
  · obtain ⟨x1, x2, x3⟩ := x
    refine ⟨by simp; omega, by simp only [List.length_append]; rw [Nat.succ_mul]; omega, fun s hs => ?_⟩
    simp only [List.mem_append] at hs
    rcases hs with hs | hs
    · exact x3 s hs
    · exact h2 s hs
theorem HkB.putL {a b : List (List UInt8)} {M k op : Nat} {out : List HkD} {l : List (List UInt8)} (x : ∀ h ∈ out, HkB a b M k h) (h1 : l.length ≤ M) (h2 : ∀ s ∈ l, s ∈ a ∨ s ∈ b) : ∀ h ∈ putL out op l, HkB a b M (k + 1) h := by
  rcases List.eq_nil_or_concat out with rfl | ⟨r, e, rfl⟩
  · intro h hh; simp [Proofs.YtlcidbbpjlpmjaaDoor.putL] at hh
  · rw [List.concat_eq_append] at x ⊢
    rw [putL_snoc]
    intro h hh
    rw [List.mem_append, List.mem_singleton] at hh
    rcases hh with hh | rfl
    · exact (x h (by simp [hh])).mono (Nat.le_succ _)
    · exact (x e (by simp)).put h1 h2
theorem cut_in {a b : List (List UInt8)} {i n M : Nat} (h : a.length ≤ M) : ((a.drop i).take n).length ≤ M ∧ ∀ s ∈ (a.drop i).take n, s ∈ a ∨ s ∈ b :=
  ⟨by rw [List.length_take, List.length_drop]; omega, fun _ hs => .inl (List.mem_of_mem_drop (List.mem_of_mem_take hs))⟩
theorem cut_in' {a b : List (List UInt8)} {i n M : Nat} (h : b.length ≤ M) : ((b.drop i).take n).length ≤ M ∧ ∀ s ∈ (b.drop i).take n, s ∈ a ∨ s ∈ b :=
  ⟨by rw [List.length_take, List.length_drop]; omega, fun _ hs => .inr (List.mem_of_mem_drop (List.mem_of_mem_take hs))⟩
section
variable {a b : List (List UInt8)} {M : Nat} (ha : a.length ≤ M) (hb : b.length ≤ M) (ar : Nat)
theorem HkB.begin (ha : a.length ≤ M) (ar : Nat) {c : CutD} {k : Nat} (x : ∀ h ∈ c.out, HkB a b M k h) : ∀ h ∈ (beginP a ar c).out, HkB a b M (k + 1) h := by
  unfold beginP
  split
  · exact fun h hh => (x h hh).mono (Nat.le_succ _)
  · intro h hh
    simp only [List.mem_append, List.mem_singleton] at hh
    rcases hh with hh | rfl
    · exact (x h hh).mono (Nat.le_succ _)
    · have := cut_in (b := b) (i := c.i - min ar c.uns) (n := min ar c.uns) ha
      exact (HkB.put (k := 0) (h := ⟨c.i - min ar c.uns, c.j - min ar c.uns, [], []⟩) ⟨by simp, by simp, by simp⟩ this.1 this.2).mono (by omega)
include ha hb in
theorem HkB.edit {c : CutD} {e : EdD} {last : Bool} {k : Nat} (x : ∀ h ∈ c.out, HkB a b M k h) : ∀ h ∈ (editP a b ar c e last).out, HkB a b M (k + 2) h := by
  unfold editP
  split
  · split
    · have := cut_in (b := b) (i := c.i) (n := e.n) ha
      exact fun h hh => (HkB.putL x this.1 this.2 h hh).mono (by omega)
    · split
      · have := cut_in (b := b) (i := c.i) (n := min ar e.n) ha
        exact fun h hh => (HkB.putL x this.1 this.2 h hh).mono (by omega)
      · exact fun h hh => (x h hh).mono (by omega)
  · split
    · have := cut_in (b := b) (i := c.i) (n := e.n) ha
      exact HkB.putL (HkB.begin ha ar x) this.1 this.2
    · have := cut_in' (a := a) (i := c.j) (n := e.n) hb
      exact HkB.putL (HkB.begin ha ar x) this.1 this.2
include ha hb in
theorem HkB.edits : ∀ (l : List EdD) (c : CutD) (k : Nat), (∀ h ∈ c.out, HkB a b M k h) → ∀ h ∈ (editsP a b ar c l).out, HkB a b M (k + 2 * l.length) h
  | [], _, _, x => x
  | e :: l, c, k, x => by
    rw [editsP]
    intro h hh
    exact (HkB.edits l _ _ (HkB.edit ha hb ar x) h hh).mono (by simp; omega)
include ha hb in
theorem hunksP_small : ∀ h ∈ hunksP a b ar, HkB a b M (4 * M) h := by
  intro h hh
  have := HkB.edits ha hb ar (diffP a b) ⟨0, 0, [], false, 0⟩ 0 (by simp) h hh
  have hd := (diffP_of a b).2.2.2
  exact this.mono (by omega)
theorem editsP_len : ∀ (l : List EdD) (c : CutD), (editsP a b ar c l).out.length ≤ c.out.length + l.length
  | [], _ => by simp [editsP]
  | e :: l, c => by
    rw [editsP]
    have ih := editsP_len l (editP a b ar c e l.isEmpty)
    have hp : ∀ (o : List HkD) op x, (Proofs.YtlcidbbpjlpmjaaDoor.putL o op x).length = o.length := fun o op x => by
      rcases List.eq_nil_or_concat o with rfl | ⟨r, e, rfl⟩
      · rfl
      · rw [List.concat_eq_append, putL_snoc]; simp
    have hbg : (beginP a ar c).out.length ≤ c.out.length + 1 := by
      unfold beginP
      split
      · omega
      · simp
    have : (editP a b ar c e l.isEmpty).out.length ≤ c.out.length + 1 := by
      unfold editP
      split
      · split
        · simp only [hp]; omega
        · split
          · simp only [hp]; omega
          · simp
      · split
        · simp only [hp]; omega
        · simp only [hp]; omega
    rw [List.length_cons]
    omega
include ha hb in
theorem hunksP_len : (hunksP a b ar).length ≤ 2 * M := by
  have := editsP_len (a := a) (b := b) ar (diffP a b) ⟨0, 0, [], false, 0⟩
  have hd := (diffP_of a b).2.2.2
  unfold hunksP
  simp only [List.length_nil] at this
  omega
end
end Go.Proofs.YtlcidbbpjlpmjaaDoor
namespace Go.Proofs.YtlcidbbpjlpmjaaDoor
open Go.ChangeShapes Go.WideShapes Go.ChangeAt Go.RowKit

theorem bdrew {B : Nat} {w w1 : World} (h : Below B w w1) (hB : B ≤ w1.heap.size) (n : Nat) : Below B w (w1.drewN n) := h.trans (((Keep.refl Nothing w1).drewN n).all.mono hB)
theorem lineA_cat (i : Nat) : ((⟨#[97 + UInt8.ofNat (i % 26), 65 + UInt8.ofNat (i / 26)]⟩ : ByteArray) ++ ⟨#[10]⟩) = ⟨(lineA i).toArray⟩ := by
  apply ByteArray.ext
  simp [lineA, UInt8.ofNat_add]
theorem textA_succ (i : Nat) : textA (i + 1) = textA i ++ [lineA i] := by simp [textA, List.range_succ]
theorem textB_succ (t : List Int) (i : Nat) : textB t (i + 1) = textB t i ++ [lineB t i] := by simp [textB, List.range_succ]
theorem small_hkB {a b : List (List UInt8)} {h : HkD} (hb : HkB a b 120 480 h) (ha : ∀ s ∈ a, s.length ≤ 1048576) (hbs : ∀ s ∈ b, s.length ≤ 1048576) : HkSmall 1048576 h.toI :=
  ⟨by have := hb.1; simp [HkD.toI]; omega, by have := hb.2.1; have e : h.toI.ls = h.ls := rfl; rw [e]; omega, fun s hs => by
    rcases hb.2.2 s hs with q | q
    · exact ha s q
    · exact hbs s q⟩
theorem load_hkC {w : World} {g : Nat} {h : HkI} {EA LA : Option Addr} {ec lc : Nat} (x : Blk w g 38 (hkC h EA ec LA lc)) : (Instr.loadAt 38 (.pointer (some ⟨g, 0, none⟩))).run Tryd.prog w = .ok (.agg (hkC h EA ec LA lc)) w :=
  run_loadAt_blk (P := Tryd.prog) x 0 (hkC h EA ec LA lc) Tryd.underlying38 rfl info_hunk (by simp [hkC])
theorem HII.single {w : World} {g B : Nat} {x : HkI} {EA LA : Option Addr} {ec lc : Nat} (h : w.heap[g]? = some (.cells (hkC x EA ec LA lc) 38 (0, 0))) (hr : RowsI w B x (.slice EA x.eds.length ec) (.slice LA x.ls.length lc)) (hB : B ≤ g + 1) : HII w (g + 1) (some ⟨g, 0, none⟩) [x] := by
  obtain ⟨A, c, A', c', q1, q2, q3, q4, q5, q6, q7⟩ := hr
  refine ⟨[(.slice EA x.eds.length ec, .slice LA x.ls.length lc)], rfl, Reads.of_blk (n := 1) h rfl rfl, fun k a b e h1 h2 => ?_⟩
  cases k with
  | zero =>
    simp only [List.getElem?_cons_zero, Option.some.injEq, Prod.mk.injEq] at h1 h2
    obtain ⟨rfl, rfl⟩ := h2
    subst h1
    exact ⟨A, c, A', c', q1, q2, q3, q4, q5, q6.more hB, q7.more hB⟩
  | succ k => simp at h1
def AlonePost (ta : List (List UInt8)) (p : Nat) (yl : List UInt8) (N : Nat) (w : World) (r : Ending) (w' : World) : Prop := ∃ A cp, r = .returned (.tuple #[.slice A N cp, .int .i64 0]) ∧ Own w' w.heap.size 9 1 A N cp (strL (ta.set p yl)) ∧ Below w.heap.size w w'
theorem strL_new (s : List UInt8) : (#[Value.string ((⟨#[110, 101, 119]⟩ : ByteArray) ++ ⟨s.toArray⟩)] : Array Value).toList = strL [[110, 101, 119] ++ s] := by
  simp [strL, strC]
  apply ByteArray.ext
  simp
set_option maxHeartbeats 2000000 in
set_option maxRecDepth 100000 in
theorem alone_law (n : Int) (t : List Int) (At : Option Addr) (ct : Nat) (wh : Int) (w : World) (hrt : Reads w w.heap.size 1 At t.length (t.map (Value.int .i64))) (htab : Lib.TabIs Tryd.prog w "internal/strconv.uint64pow10" .u64 Lib.pow10Tab) :
    Calls Tryd.prog 7 #[.int .i64 n, .slice At t.length ct, .int .i64 wh] w fun r w' => r = .returned (.bool true) ∧ Below w.heap.size w w' := by
  have HK := Lib.hid (known_any w htab)
  have HRT := Lib.hid (show ∀ W, Below w.heap.size w W → Reads W w.heap.size 1 At t.length (t.map (Value.int .i64)) from fun W k => hrt.below k)
  have HW60 := Lib.hid (show ∀ W, Calls Tryd.prog 24 #[.int .i64 n, .int .i64 60] W fun r w' => r = .returned (.int .i64 (wiN n 60 : Int)) ∧ w' = W from fun W => within_any n 60 (by decide) (by decide) W)
  have HW10 := Lib.hid (show ∀ x W, Calls Tryd.prog 24 #[.int .i64 x, .int .i64 10] W fun r w' => r = .returned (.int .i64 (wiN x 10 : Int)) ∧ w' = W from fun x W => within_any x 10 (by decide) (by decide) W)
  have hk0 := wiN_lt (x := n) (n := 60) (by decide)
  clear hrt htab
  generalize wiN n 60 = k0 at *
  go_enter Tryd.func7, Tryd.ntmps7
  go_wp2_with (go_at_call 11; refine HK.out.mono ?_)
  rintro _ w1 ⟨rfl, b1⟩
  go_wp2_with (go_at_call 24; refine (HW60.out _).mono ?_)
  rintro _ _ ⟨rfl, rfl⟩
  go_wp2_with fail
  go_loopw [7, 8, 9] (fun s7 s8 s9 wr => ∃ (i : Nat) (A1 A2 : Option Addr) (c1 c2 : Nat), i ≤ 30 + k0 ∧ s7 = .slice A1 i c1 ∧ s8 = .slice A2 i c2 ∧ s9 = .int .i64 (i : Nat) ∧ Own wr w.heap.size 9 1 A1 i c1 (strL (textA i)) ∧ Own wr w.heap.size 9 1 A2 i c2 (strL (textB t i)) ∧ Apart A1 i c1 A2 i c2 ∧ Below w.heap.size w wr) (fun _ _ s9 _ => 30 + k0 - (intOf s9).toNat)
  case atStart => exact ⟨0, none, none, 0, 0, Nat.zero_le _, rfl, rfl, rfl, Own.nil _ _ _ _, Own.nil _ _ _ _, Apart.nil _ _ _, b1⟩
  case round =>
    obtain ⟨i, A1, A2, c1, c2, hi, rfl, rfl, rfl, o1, o2, ap, hb⟩ := hrel
    have hz := hb.size
    by_cases hlt : i < 30 + k0
    · have hltI : (i : Int) < 30 + (k0 : Int) := by omega
      have hby1 : byteV (UInt8.ofNat (97 + i % 26)) = .int .u8 (97 + (i : Int) % 26) := by
        unfold byteV
        have : (UInt8.ofNat (97 + i % 26)).toNat = 97 + i % 26 := by simp; omega
        rw [this]
        simp
      have hby2 : byteV (UInt8.ofNat (65 + i / 26)) = .int .u8 (65 + (i : Int) / 26) := by
        unfold byteV
        have : (UInt8.ofNat (65 + i / 26)).toNat = 65 + i / 26 := by simp; omega
        rw [this]
        simp
      go_upto_region 9 with (refine wpList_convStr rfl rfl Tryd.underlying53 Tryd.underlying5 Tryd.underlying9 (l := [UInt8.ofNat (97 + i % 26), UInt8.ofNat (65 + i / 26)]) rfl (Reads.of_blk (n := 2) (size := 1) (heap_alloc_new _ _) (by rw [List.map_cons, List.map_cons, List.map_nil, hby1, hby2]) rfl) ?_)
      rw [lineA_cat]
      have b8 : Keep Nothing wr (wr.alloc (.cells #[.int .u8 (97 + (i : Int) % 26), .int .u8 (65 + (i : Int) / 26)] 5)) := (Keep.refl _ _).alloc _
      have p1 := o1.alloc (.cells #[.int .u8 (97 + (i : Int) % 26), .int .u8 (65 + (i : Int) / 26)] 5)
      have p2 := o2.alloc (.cells #[.int .u8 (97 + (i : Int) % 26), .int .u8 (65 + (i : Int) / 26)] 5)
      generalize wr.alloc (.cells #[.int .u8 (97 + (i : Int) % 26), .int .u8 (65 + (i : Int) / 26)] 5) = w8 at *
      have hb8 := hb.trans (b8.below hz (fun _ _ h => h))
      have hz8 := hb8.size
      clear hby1 hby2 b8 o1 o2 hb
      go_wp2_with (at_builtin; refine wpList_append_slf rfl elemStr rfl rfl (n := i) (xs := strL (textA i)) (p1.alloc _) (by omega) rfl (Reads.of_blk (n := 1) (size := 1) (xs := strL [lineA i]) (heap_alloc_new _ _) rfl rfl) (strL_one [lineA i]) (by unfold maxLen; omega) (by omega) (by simp; omega) ?_; intro A3 c3 w9 o9 k9 n9; obtain ⟨p2', ap'⟩ := Own.grownB (p2.alloc _) ap n9; have hb9 := hb8.trans ((((Kept.refl _ _ _ _).alloc _).trans k9).below (Nat.le_refl _) hz8 (by simp)); clear k9 n9 p1 p2 ap hb8)
      have q1 : Own w9 w.heap.size 9 1 A3 (i + 1) c3 (strL (textA (i + 1))) := by rw [textA_succ]; simpa [strL] using o9
      have hz9 := hb9.size
      have Q1 := Lib.hid q1
      have Q2 := Lib.hid p2'
      have QP := Lib.hid ap'
      have QB := Lib.hid hb9
      clear o9 q1 p2' ap' hb9 hz8
      go_loopw [11, 12] (fun s11 s12 wi => ∃ k : Nat, k ≤ t.length ∧ k ≤ 5 ∧ s11 = .bool ((t.take k).any fun x => decide (wiN x 10 * 9 = i)) ∧ s12 = .int .i64 (k : Nat) ∧ wi = w9) (fun _ s12 _ => 5 - (intOf s12).toNat)
      case atStart => exact ⟨0, Nat.zero_le _, Nat.zero_le _, rfl, rfl, rfl⟩
      case round =>
        obtain ⟨k, hk, hk5, rfl, rfl, rfl⟩ := hrel
        obtain ⟨acc, hacc⟩ : ∃ b, ((t.take k).any fun x => decide (wiN x 10 * 9 = i)) = b := ⟨_, rfl⟩
        rw [hacc]
        have HACC := Lib.hid hacc
        clear hacc
        by_cases hgo : k < t.length ∧ k < 5
        · obtain ⟨hg1, hg2⟩ := hgo
          obtain ⟨x, hx⟩ : ∃ x, t[k]? = some x := ⟨_, List.getElem?_eq_getElem hg1⟩
          have HTK := Lib.hid (show ((t.take (k + 1)).any fun x => decide (wiN x 10 * 9 = i)) = (acc || decide (wiN x 10 * 9 = i)) from by
            rw [List.take_add_one, hx, List.any_append, HACC.out]; simp)
          obtain ⟨gt, ot, hAt, _, hct⟩ := (HRT.out _ QB.out).at0 (by omega) (by omega)
          have d1 := hct k (.int .i64 x) (by rw [List.getElem?_map, hx]; rfl)
          have hi0 : (0 : Int) ≤ (k : Int) := Int.natCast_nonneg _
          have hi1 : (k : Int) < (t.length : Int) := by omega
          have dI : decide ((k : Int) < (t.length : Int)) = true := decide_eq_true hi1
          have dI5 : decide ((k : Int) < 5) = true := decide_eq_true (by omega)
          subst hAt
          clear hct hx
          cases acc
          · have hwl := wiN_lt (x := x) (n := 10) (by decide)
            have HQ := Lib.hid (show (((wiN x 10 : Int) * 9) == (i : Int)) = decide (wiN x 10 * 9 = i) from by rw [Bool.eq_iff_iff]; simp; omega)
            have HWX := Lib.hid (fun W => HW10.out x W)
            rw [Bool.false_or] at HTK
            have wm : IntKind.i64.wrap ((wiN x 10 : Int) * 9) = (wiN x 10 : Int) * 9 := IntWalk.i64_in _ (by omega)
            have wm2 : IntKind.i64.wrap (9 * (wiN x 10 : Int)) = 9 * (wiN x 10 : Int) := IntWalk.i64_in _ (by omega)
            generalize wiN x 10 = y at *
            go_wp2_with (go_at_call 24; refine (HWX.out _).mono ?_)
            rintro _ _ ⟨rfl, rfl⟩
            go_wp2_with fail
            go_roundw
            case rel => exact ⟨k + 1, hg1, hg2, by rw [HTK.out, ← HQ.out], by go_num, by first | rfl | trivial⟩
            case measure => simp [intOf]; omega
          · rw [Bool.true_or] at HTK
            go_wp2_with fail
            go_roundw
            case rel => exact ⟨k + 1, hg1, hg2, by rw [HTK.out], by go_num, by first | rfl | trivial⟩
            case measure => simp [intOf]; omega
        · have HC := Lib.hid (show chg t i = acc from by
            rw [← HACC.out]
            unfold chg
            rcases Nat.lt_or_ge k 5 with q | q
            · rw [List.take_of_length_le (show t.length ≤ k by omega), List.take_of_length_le (show t.length ≤ 5 by omega)]
            · rw [show k = 5 by omega])
          by_cases hgl : k < t.length
          · have dI : decide ((k : Int) < (t.length : Int)) = true := decide_eq_true (by omega)
            have dN : decide (k < t.length) = true := decide_eq_true hgl
            have dI5 : decide ((k : Int) < 5) = false := decide_eq_false (by omega)
            have dN5 : decide (k < 5) = false := decide_eq_false (by omega)
            go_upto_region 15 with fail
            cases acc
            · have HB := Lib.hid (show lineB t i = lineA i from lineB_same HC.out)
              go_wp2_with (at_builtin; refine wpList_append_slf rfl elemStr rfl rfl (n := i) (xs := strL (textB t i)) (Q2.out.alloc _) (by omega) rfl (Reads.of_blk (n := 1) (size := 1) (xs := strL [lineA i]) (heap_alloc_new _ _) rfl rfl) (strL_one [lineA i]) (by unfold maxLen; omega) (by omega) (by simp; omega) ?_; intro A4 c4 w10 o10 k10 n10; obtain ⟨q1', ap''⟩ := Own.grownB (Q1.out.alloc _) QP.out n10; have Q1' := Lib.hid q1'; have QP' := Lib.hid ap''; have QB' := Lib.hid (QB.out.trans ((((Kept.refl _ _ _ _).alloc _).trans k10).below (Nat.le_refl _) hz9 (by simp))); have O10 := Lib.hid o10; clear k10 n10 q1' ap'' o10)
              go_roundw
              case rel => exact ⟨i + 1, A3, A4, c3, c4, hlt, rfl, by first | rfl | simp, by go_num, Q1'.out, by rw [textB_succ, HB.out]; simpa [strL] using O10.out, QP'.out, QB'.out⟩
              case measure => simp [intOf]; omega
            · have HB := Lib.hid (show lineB t i = [110, 101, 119] ++ lineA i from by unfold lineB; rw [if_pos HC.out])
              go_wp2_with (at_builtin; refine wpList_append_slf rfl elemStr rfl rfl (n := i) (xs := strL (textB t i)) (Q2.out.alloc _) (by omega) rfl (Reads.of_blk (n := 1) (size := 1) (xs := strL [[110, 101, 119] ++ lineA i]) (heap_alloc_new _ _) (by rw [strL_new]) rfl) (strL_one [[110, 101, 119] ++ lineA i]) (by unfold maxLen; omega) (by omega) (by simp; omega) ?_; intro A4 c4 w10 o10 k10 n10; obtain ⟨q1', ap''⟩ := Own.grownB (Q1.out.alloc _) QP.out n10; have Q1' := Lib.hid q1'; have QP' := Lib.hid ap''; have QB' := Lib.hid (QB.out.trans ((((Kept.refl _ _ _ _).alloc _).trans k10).below (Nat.le_refl _) hz9 (by simp))); have O10 := Lib.hid o10; clear k10 n10 q1' ap'' o10)
              go_roundw
              case rel => exact ⟨i + 1, A3, A4, c3, c4, hlt, rfl, by first | rfl | simp, by go_num, Q1'.out, by rw [textB_succ, HB.out]; simpa [strL] using O10.out, QP'.out, QB'.out⟩
              case measure => simp [intOf]; omega
          · have dI : decide ((k : Int) < (t.length : Int)) = false := decide_eq_false (by omega)
            have dN : decide (k < t.length) = false := decide_eq_false hgl
            go_upto_region 15 with fail
            cases acc
            · have HB := Lib.hid (show lineB t i = lineA i from lineB_same HC.out)
              go_wp2_with (at_builtin; refine wpList_append_slf rfl elemStr rfl rfl (n := i) (xs := strL (textB t i)) (Q2.out.alloc _) (by omega) rfl (Reads.of_blk (n := 1) (size := 1) (xs := strL [lineA i]) (heap_alloc_new _ _) rfl rfl) (strL_one [lineA i]) (by unfold maxLen; omega) (by omega) (by simp; omega) ?_; intro A4 c4 w10 o10 k10 n10; obtain ⟨q1', ap''⟩ := Own.grownB (Q1.out.alloc _) QP.out n10; have Q1' := Lib.hid q1'; have QP' := Lib.hid ap''; have QB' := Lib.hid (QB.out.trans ((((Kept.refl _ _ _ _).alloc _).trans k10).below (Nat.le_refl _) hz9 (by simp))); have O10 := Lib.hid o10; clear k10 n10 q1' ap'' o10)
              go_roundw
              case rel => exact ⟨i + 1, A3, A4, c3, c4, hlt, rfl, by first | rfl | simp, by go_num, Q1'.out, by rw [textB_succ, HB.out]; simpa [strL] using O10.out, QP'.out, QB'.out⟩
              case measure => simp [intOf]; omega
            · have HB := Lib.hid (show lineB t i = [110, 101, 119] ++ lineA i from by unfold lineB; rw [if_pos HC.out])
              go_wp2_with (at_builtin; refine wpList_append_slf rfl elemStr rfl rfl (n := i) (xs := strL (textB t i)) (Q2.out.alloc _) (by omega) rfl (Reads.of_blk (n := 1) (size := 1) (xs := strL [[110, 101, 119] ++ lineA i]) (heap_alloc_new _ _) (by rw [strL_new]) rfl) (strL_one [[110, 101, 119] ++ lineA i]) (by unfold maxLen; omega) (by omega) (by simp; omega) ?_; intro A4 c4 w10 o10 k10 n10; obtain ⟨q1', ap''⟩ := Own.grownB (Q1.out.alloc _) QP.out n10; have Q1' := Lib.hid q1'; have QP' := Lib.hid ap''; have QB' := Lib.hid (QB.out.trans ((((Kept.refl _ _ _ _).alloc _).trans k10).below (Nat.le_refl _) hz9 (by simp))); have O10 := Lib.hid o10; clear k10 n10 q1' ap'' o10)
              go_roundw
              case rel => exact ⟨i + 1, A3, A4, c3, c4, hlt, rfl, by first | rfl | simp, by go_num, Q1'.out, by rw [textB_succ, HB.out]; simpa [strL] using O10.out, QP'.out, QB'.out⟩
              case measure => simp [intOf]; omega
    · obtain rfl : i = 30 + k0 := by omega
      have hxx : ¬ (30 + (k0 : Int) < 30 + (k0 : Int)) := by omega
      have hxd : decide (30 + (k0 : Int) < 30 + (k0 : Int)) = false := decide_eq_false hxx
      have hlA : (textA (30 + k0)).length = 30 + k0 := by simp [textA]
      have hlB : (textB t (30 + k0)).length = 30 + k0 := by simp [textB]
      have r1 := o1.reads
      have r2 := o2.reads
      have qc1 := o1.cap_le
      have qc2 := o2.cap_le
      have hsA : ∀ s ∈ textA (30 + k0), s.length ≤ 6 := fun s hs => by
        obtain ⟨i, _, rfl⟩ := List.mem_map.1 hs
        simp [lineA]
      have hsB : ∀ s ∈ textB t (30 + k0), s.length ≤ 6 := fun s hs => by
        obtain ⟨i, _, rfl⟩ := List.mem_map.1 hs
        unfold lineB
        split <;> simp [lineA]
      have HONE := Lib.hid (fun h hh => alone_one t (30 + k0) (by omega) h hh)
      have HNONE := Lib.hid (fun hh => alone_none t (30 + k0) (by omega) hh)
      have HSM := Lib.hid (show ∀ h ∈ hunksP (textA (30 + k0)) (textB t (30 + k0)) 2, HkSmall 1048576 h.toI from fun h hh => small_hkB (hunksP_small (M := 120) (by omega) (by omega) _ h hh) (fun s hs => Nat.le_trans (hsA s hs) (by decide)) (fun s hs => Nat.le_trans (hsB s hs) (by decide)))
      have hhl : (hunksP (textA (30 + k0)) (textB t (30 + k0)) 2).length ≤ 2 * 120 := hunksP_len (by omega) (by omega) _
      have HEA := Lib.hid (show ∀ i, i < 30 + k0 → (textA (30 + k0))[i]? = some (lineA i) from fun i hi => by simp [textA, hi])
      have HEB := Lib.hid (show ∀ i, i < 30 + k0 → (textB t (30 + k0))[i]? = some (lineB t i) from fun i hi => by simp [textB, hi])
      have HH := Lib.hid (show Calls Tryd.prog 13 #[.slice A1 (30 + k0) c1, .slice A2 (30 + k0) c2, .int .i64 2] wr (fun r w' => ∃ A cp, r = .returned (.tuple #[.slice A (hunksP (textA (30 + k0)) (textB t (30 + k0)) 2).length cp, .int .i64 0]) ∧ (hunksP (textA (30 + k0)) (textB t (30 + k0)) 2).length ≤ cp ∧ cp ≤ maxLen ∧ HIn w' w'.heap.size A (hunksP (textA (30 + k0)) (textB t (30 + k0)) 2) ∧ Below wr.heap.size wr w') from by
        have := hunks_any (textA (30 + k0)) (textB t (30 + k0)) A1 A2 c1 c2 wr.heap.size 2 wr (by rw [hlA]; exact r1) (by rw [hlB]; exact r2) (Nat.le_refl _) (by omega) (by omega) (by omega) (by omega) (by decide) (fun s hs => Nat.le_trans (hsA s hs) (by decide)) (fun s hs => Nat.le_trans (hsB s hs) (by decide))
        rwa [hlA, hlB] at this)
      have HLA := Lib.hid hlA
      have HLB := Lib.hid hlB
      have HRA := Lib.hid (show ∀ W, Below wr.heap.size wr W → Reads W wr.heap.size 1 A1 (30 + k0) (strL (textA (30 + k0))) from fun W k => r1.below k)
      have HRB := Lib.hid (show ∀ W, Below wr.heap.size wr W → Reads W wr.heap.size 1 A2 (30 + k0) (strL (textB t (30 + k0))) from fun W k => r2.below k)
      clear o1 o2 r1 r2 hlA hlB hsA hsB ap
      generalize hunksP (textA (30 + k0)) (textB t (30 + k0)) 2 = H at *
      generalize textA (30 + k0) = ta at *
      generalize textB t (30 + k0) = tb at *
      have HB := Lib.hid hb
      go_upto_region 19 with (go_at_call 13; refine HH.out.mono ?_)
      rintro _ w3 AH cpH rfl hch hchm hin b3
      have HB3 := Lib.hid b3
      have hz3 := b3.size
      cases H with
      | nil =>
        have HE := Lib.hid (HNONE.out rfl)
        have hlI : ta.length ≤ 9223372036854775807 := by have := HLA.out; omega
        have HS := Lib.hid (show Calls Tryd.prog 22 #[.slice A1 (30 + k0) c1, .slice A2 (30 + k0) c2] w3 fun r w' => r = .returned (.bool true) ∧ ∃ n, w' = w3.drewN n from by
          have := sameLines_refl ta A1 A2 c1 c2 wr.heap.size w3 (by rw [HLA.out]; exact HRA.out _ b3) (by rw [HLA.out, HE.out]; exact HRB.out _ b3) hlI
          rwa [HLA.out] at this)
        go_wp2_with (go_at_call 22; refine HS.out.mono ?_)
        rintro _ _ ⟨rfl, q, rfl⟩
        go_wp2_with fail
        go_ret
        exact ⟨rfl, bdrew (HB.out.trans (HB3.out.mono hz)) (by have := HB.out.size; omega) q⟩
      | cons h0 H' =>
        have hii := hin.toI
        obtain ⟨H, hHH⟩ : ∃ H, h0 :: H' = H := ⟨_, rfl⟩
        have hpos : 0 < H.length := by rw [← hHH]; simp
        rw [hHH] at hhl hch hii HSM HONE
        rw [hHH]
        clear hin HNONE HH hHH
        have hnz : ¬ ((H.length : Int) = 0) := by omega
        have hnzb : ((H.length : Int) == 0) = false := by rw [beq_eq_false_iff_ne]; omega
        have hnzn : ¬ (H.length = 0) := by omega
        have hnzn2 : ¬ (H = []) := by rintro rfl; simp at hpos
        have hwl := wiN_lt (x := wh) (n := H.length) hpos
        have HWH := Lib.hid (fun W => within_any wh H.length hpos (by omega) W)
        generalize wiN wh H.length = v at *
        have hhx : H[v]? = some (H[v]'hwl) := List.getElem?_eq_getElem hwl
        generalize H[v]'hwl = x at *
        have hxi : (H.map HkD.toI)[v]? = some x.toI := by rw [List.getElem?_map, hhx]; rfl
        obtain ⟨p, xl, yl, hp, hpx, hpy, hxy, happ⟩ := HONE.out x (List.mem_of_getElem? hhx)
        have HX := Lib.hid (HSM.out x (List.mem_of_getElem? hhx))
        obtain ⟨g, off, EA, ec, LA, lc, rfl, hg, ld, hat, hec, hlc, hlm⟩ := hii.load hxi
        have LD := Lib.hid ld
        have HRX := Lib.hid (show ∀ W, Below w3.heap.size w3 W → RowsI W w3.heap.size x.toI (.slice EA x.toI.eds.length ec) (.slice LA x.toI.ls.length lc) from fun W kk => ⟨EA, ec, LA, lc, rfl, rfl, hec, hlc, hlm, (hat W kk).2.2.2.2.1, (hat W kk).2.2.2.2.2⟩)
        have hi0 : (0 : Int) ≤ (v : Int) := Int.natCast_nonneg _
        have hi1 : (v : Int) < (H.length : Int) := by omega
        have HPX := Lib.hid hpx
        have HPY := Lib.hid hpy
        have HXY := Lib.hid hxy
        have HAPP := Lib.hid happ
        clear hii hhx hxi HONE HSM ld hat hec hlc hlm hpx hpy hxy happ hb b3
        generalize x.toI = xi at *
        go_upto_region 24 with (go_at_call 24; refine (HWH.out _).mono ?_)
        rintro _ _ ⟨rfl, rfl⟩
        go_upto_region 24 with (first | (refine wpList_load rfl rfl rfl (by with_reducible exact LD.out) ?_) | (refine wpList_allocAgg rfl rfl (zero_hk _) ?_) | (refine wpList_storeBlk rfl rfl (vs := hkC xi EA ec LA lc) rfl rfl (Blk.new _ _ _) rfl info_hunk (hkC_one xi EA ec LA lc) ?_; intro w7 x7 kc zc))
        go_frame
        have k7 := Keep.ofNew (S := Nothing) kc
        have HB7 := Lib.hid (HB3.out.trans (k7.all.mono hz3))
        have hz7 := HB7.out.size
        have L7 := Lib.hid (load_hkC x7)
        have HR7 := Lib.hid (HRX.out _ k7.all)
        have hz37 := k7.size
        have HAP := Lib.hid (show Calls Tryd.prog 20 #[.slice A1 (30 + k0) c1, .slice (some ⟨w7.heap.size, 0, none⟩) 1 1] (w7.alloc (.cells (hkC xi EA ec LA lc) 38)) (AlonePost ta p yl (30 + k0) (w7.alloc (.cells (hkC xi EA ec LA lc) 38))) from by
          have h1 : HII (w7.alloc (.cells (hkC xi EA ec LA lc) 38)) (w7.heap.size + 1) (some ⟨w7.heap.size, 0, none⟩) [xi] := HII.single (heap_alloc_new _ _) (RowsI.keep HR7.out (fun _ hp => ((Below.refl _ _).alloc hz37 (.cells (hkC xi EA ec LA lc) 38)).cell hp)) (by omega)
          have h2 : Reads (w7.alloc (.cells (hkC xi EA ec LA lc) 38)) (w7.heap.size + 1) 1 A1 ta.length (strL ta) := by
            rw [HLA.out]
            exact ((HRA.out _ (HB7.out)).below ((Below.refl _ _).alloc (by omega) _)).more (by omega)
          have hc := apply_any ta A1 c1 [xi] (some ⟨w7.heap.size, 0, none⟩) 1 (w7.heap.size + 1) _ (by simp) h2 (by rw [HLA.out]; omega) (by rw [HLA.out]; omega) h1 (by simp) (fun h hh => by rw [List.mem_singleton] at hh; subst hh; exact HX.out)
          rw [HLA.out, HAPP.out] at hc
          refine hc.mono fun r w' h => ?_
          obtain ⟨h1, A, cp, h2, h3⟩ := h
          rw [List.length_set, HLA.out] at h2 h3
          exact ⟨A, cp, h2, h3, h1⟩)
        clear kc zc x7 k7 LD HRX
        go_upto_region 25 with (first | (refine wpList_load rfl rfl rfl (by with_reducible exact L7.out) ?_) | (refine wpList_buildSlice1 rfl elemHunk rfl zero_hk rfl rfl (by omega) rfl ?_) | (go_at_call 20; refine HAP.out.mono ?_))
        rintro _ w9 ⟨A5, c5, rfl, o5, b9⟩
        have HB9 := Lib.hid (show Below wr.heap.size wr w9 from (HB7.out.alloc (by omega) _).trans (b9.mono (by simp; omega)))
        have ra := HRA.out _ HB9.out
        have rb := HRB.out _ HB9.out
        have rc := o5.reads
        obtain ⟨ga, oa, rfl, _, ca⟩ := ra.at0 (by omega) (by omega)
        obtain ⟨gb, ob, rfl, _, cb⟩ := rb.at0 (by omega) (by omega)
        obtain ⟨gc, oc, rfl, _, cc⟩ := rc.at0 (by omega) (by omega)
        have CA := Lib.hid ca
        have CB := Lib.hid cb
        have CC := Lib.hid cc
        clear o5 b9 ra rb rc ca cb cc L7 HAP HR7 HLA HLB HRA HRB HWH
        obtain ⟨dd, hdd⟩ : ∃ f : Nat → Nat, ∀ i, f i = if p < i then 1 else 0 := ⟨_, fun _ => rfl⟩
        have hd1 : ∀ i, dd i ≤ 1 := fun i => by rw [hdd]; split <;> omega
        have HDD := Lib.hid hdd
        clear hdd
        go_wp2_with fail
        go_loopw [18, 19] (fun s18 s19 wi => ∃ (i q : Nat), i ≤ 30 + k0 ∧ s18 = .int .i64 (dd i : Nat) ∧ s19 = .int .i64 (i : Nat) ∧ wi = w9.drewN q) (fun _ s19 _ => 30 + k0 - (intOf s19).toNat)
        case atStart => exact ⟨0, 0, Nat.zero_le _, by rw [HDD.out, if_neg (by omega)]; rfl, rfl, rfl⟩
        case round =>
          obtain ⟨i, q, hi, rfl, rfl, rfl⟩ := hrel
          by_cases hil : i < 30 + k0
          · have hd2 := hd1 i
            have hi0 : (0 : Int) ≤ (i : Int) := Int.natCast_nonneg _
            have hiN : (i : Int) < 30 + (k0 : Int) := by omega
            have dlt : decide ((i : Int) < 30 + (k0 : Int)) = true := decide_eq_true hiN
            have hiM : (i : Int) < ((30 + k0 : Nat) : Int) := by omega
            by_cases hip : i = p
            · subst hip
              have d1 := CA.out _ _ (strL_at' HPX.out)
              have d2 := CB.out _ _ (strL_at' HPY.out)
              have d3 := CC.out _ _ (strL_at' (s := yl) (show (ta.set i yl)[i]? = some yl by rw [List.getElem?_set_self]; exact (List.getElem?_eq_some_iff.1 HPX.out).1))
              unfold strC at d1 d2 d3
              have g1 : (yl != xl) = true := by simpa using fun h => HXY.out h.symm
              have g2 : (yl == xl) = false := by simpa using fun h => HXY.out h.symm
              have hdi : dd i = 0 := by rw [HDD.out, if_neg (by omega)]
              have HDN := Lib.hid (show dd (i + 1) = 1 from by rw [HDD.out, if_pos (by omega)])
              rw [hdi]
              clear hdi hd2
              go_wp2_with fail
              go_quiet (fail)
              go_wp2_with fail
              go_quiet (fail)
              go_wp2_with fail
              go_roundw
              case rel => exact ⟨i + 1, _, by omega, by rw [HDN.out]; go_num, by go_num, by first | rfl | simp⟩
              case measure => simp [intOf]; omega
            · have d1 := CA.out _ _ (strL_at' (HEA.out i hil))
              have d3 := CC.out _ _ (strL_at' (s := lineA i) (show (ta.set p yl)[i]? = some (lineA i) by rw [List.getElem?_set_ne (fun h => hip h.symm)]; exact HEA.out i hil))
              unfold strC at d1 d3
              have HDN := Lib.hid (show dd (i + 1) = dd i from by rw [HDD.out, HDD.out]; split <;> split <;> omega)
              generalize lineA i = sl at *
              go_wp2_with fail
              go_quiet (fail)
              go_wp2_with fail
              go_roundw
              case rel => exact ⟨i + 1, _, by omega, by rw [HDN.out], by go_num, by first | rfl | simp⟩
              case measure => simp [intOf]; omega
          · obtain rfl : i = 30 + k0 := by omega
            have hxx : ¬ (30 + (k0 : Int) < 30 + (k0 : Int)) := by omega
            have hdN : dd (30 + k0) = 1 := by rw [HDD.out, if_pos hp]
            rw [hdN]
            clear hdN
            go_wp2_with fail
            go_ret
            exact ⟨rfl, bdrew (HB.out.trans (HB9.out.mono hz)) (by have := HB.out.size; have := HB9.out.size; omega) q⟩
set_option maxRecDepth 100000 in
theorem patchAlone_reads (os : Os) {H : Type} (enc : TypeId × Value → H) : DataW.whole enc Tryd.prog ((World.doorLaid Tryd.prog 400 os).forCall (fun _ _ => 0) ⟨#[], #[.int .i64 0, .slice none 0 0, .int .i64 0], []⟩).memory Tryd.f7.params.toList Rows.patchAloneSpec.vars false (#[.int .i64 0, .slice none 0 0, .int .i64 0] : Array Value).toList 8 = some ([.lit (.int .i64 0), .nil, .lit (.int .i64 0)], [], []) := by kernel_rfl
set_option maxRecDepth 100000 in
theorem patchAlone_lifted (os : Os) (started : os.Started) (H : Type) (enc : TypeId × Value → H) (F : Stop.Interp) :
    ReturnsInHanded {} Tryd.checked os 7 .any ((OpenSpec.ofChange Rows.patchAloneSpec).preRow enc Tryd.prog Tryd.f7 Rows.patchAloneRow.domain false Rows.patchAloneRow.laid) (((OpenSpec.ofChange Rows.patchAloneSpec).at F).post enc Tryd.prog Tryd.f7 false true false false) := by
  refine returnsInHanded_of_row (C := Tryd.checked) (s := OpenSpec.ofChange Rows.patchAloneSpec) own started (by kernel_rfl) Tryd.func7
    (witness_row_at (enc := enc) (C := Tryd.checked) false (World.doorLaid Tryd.prog 400 os) #[.int .i64 0, .slice none 0 0, .int .i64 0] rfl (by kernel_rfl) (by kernel_rfl) (by kernel_rfl)
      (OpenSpec.preRow_of_cond 8 (patchAlone_reads os enc) (by kernel_rfl) (fun k hk => by cases hk) (by kernel_rfl) (door_met3 os _))) ?_
  intro W base args ds gs before hval0 hW hx1 hcond hx3 hL hx4 hx5
  have hval : ∀ (j : Nat) t v, Tryd.f7.params[j]? = some t → args[j]? = some v → Value.okWide Tryd.prog W .any base t v := hval0
  have hW' := hW
  obtain ⟨p, q, hA0, hV, rfl, hfz, hnd⟩ := hW
  have hA : DataW.TrodAll enc Tryd.prog W 0 (fun _ => true) true Tryd.f7.params.toList args.toList ds p := hA0
  rw [Tryd.params7] at hA hval
  obtain ⟨v0, vs0, d0, ds0, p0, q0, hargs, rfl, rfl, h0, r0⟩ := trodAll_cons hA
  obtain ⟨v1, vs1, d1, ds1, p1, q1, rfl, rfl, rfl, h1, r1⟩ := trodAll_cons r0
  obtain ⟨v2, vs2, d2, ds2, p2, q2, rfl, rfl, rfl, h2, r2⟩ := trodAll_cons r1
  obtain ⟨rfl, rfl, rfl⟩ := trodAll_nil r2
  obtain rfl : args = #[v0, v1, v2] := by cases args; simp_all
  obtain ⟨rfl, rfl⟩ := trodVars_none hV
  have k0 := h0
  have lt0 : ∀ x ∈ p0, x.block < W.heap.size := by obtain ⟨m, hm⟩ := k0; exact DataW.trod_lt m _ _ _ hm
  have k1 := h1
  have lt1 : ∀ x ∈ p1, x.block < W.heap.size := by obtain ⟨m, hm⟩ := k1; exact DataW.trod_lt m _ _ _ hm
  have k2 := h2
  have lt2 : ∀ x ∈ p2, x.block < W.heap.size := by obtain ⟨m, hm⟩ := k2; exact DataW.trod_lt m _ _ _ hm
  obtain ⟨f0, rfl, _, _, w0⟩ := open_int Tryd.underlying3 (hval 0 3 v0 rfl rfl) h0
  obtain ⟨a1, len1, cap1, rfl⟩ := okWide_slice Tryd.underlying52 (hval 1 52 v1 rfl rfl)
  obtain ⟨l1, hl1, hr1, hc1, hm1⟩ := opened_ints h1
  subst hl1
  obtain ⟨f2, rfl, _, _, w2⟩ := open_int Tryd.underlying3 (hval 2 3 v2 rfl rfl) h2
  clear hA0 hval0
  refine (alone_law f0 l1 a1 cap1 f2 W hr1 (tab_of_laid hL)).mono fun e W' ⟨he, bel⟩ => ?_
  subst he
  exact ⟨_, rfl, _, _, _, [], _, [], hW', trodAll_mk1 (shut_bool Tryd.underlying4 _), (trodAll_cons_mk (Below.trod laidOut (by kernel_rfl) (of_decide_eq_true (by kernel_rfl)) k0 bel lt0) (trodAll_cons_mk (Below.trod laidOut (by kernel_rfl) (of_decide_eq_true (by kernel_rfl)) k1 bel lt1) (trodAll_cons_mk (Below.trod laidOut (by kernel_rfl) (of_decide_eq_true (by kernel_rfl)) k2 bel lt2) trodAll_mk0))), rfl, bel.frame _, fun h => by cases h⟩
theorem patchAlone_said : Rows.PatchAloneSaid :=
  OpenClaim.holds_of_cond 7 Tryd.f7 rfl rfl rfl rfl rfl rfl rfl ⟨rfl, rfl, rfl, rfl, rfl⟩ rfl rfl rfl rfl rfl (by kernel_rfl) Tryd.func7 (by kernel_rfl)
    (of_decide_eq_true (by kernel_rfl)) (by unfold Func.isWrapper; first | (rw [if_pos (by decide +kernel)]; kernel_rfl) | (rw [if_neg (by decide +kernel)]; exact ⟨rfl, rfl⟩))
    (fun os started H enc _ F => by rw [OpenClaim.pre_eq_preRow]; exact patchAlone_lifted os started H enc F)
theorem patchAlone_plain (f : FuncId) (fn : Func) (hf : Tryd.pinned.checked.prog.funcNamed "selvage/selvagelaw13.PatchAlone" = some f) (hfn : Tryd.pinned.checked.prog.funcs[f]? = some fn) :
    true = Tryd.pinned.checked.prog.looks [] ∧ ∀ (j : Nat) t, fn.params[j]? = some t → Tryd.pinned.checked.prog.wantsStandIn t = false := by
  obtain rfl : f = 7 := Option.some.inj ((show Tryd.prog.funcNamed "selvage/selvagelaw13.PatchAlone" = some 7 by kernel_rfl).symm.trans hf) |>.symm
  obtain rfl : fn = Tryd.f7 := (Option.some.inj (Tryd.func7.symm.trans hfn)).symm
  refine ⟨by kernel_rfl, fun j t ht => ?_⟩
  rw [Tryd.params7] at ht
  have hm := Array.mem_of_getElem? ht
  simp only [Array.mem_toList_iff.symm, List.mem_cons, List.not_mem_nil, or_false] at hm
  rcases hm with rfl | rfl | rfl
  · exact (show Tryd.prog.wantsStandIn 3 = false by kernel_rfl)
  · exact (show Tryd.prog.wantsStandIn 52 = false by kernel_rfl)
  · exact (show Tryd.prog.wantsStandIn 3 = false by kernel_rfl)
theorem patchAlone_holds : Rows.PatchAloneCardSaid :=
  Claim7.holds_tied_plain_at .later [] _ _ _ _ patchAlone_said (fun _ h => by cases h) (by kernel_rfl) (fun _ h => by cases h) patchAlone_row_tie rfl ⟨rfl, rfl⟩ (by kernel_rfl) rfl patchAlone_plain (by kernel_rfl)
#print axioms patchAlone_holds
end Go.Proofs.YtlcidbbpjlpmjaaDoor
