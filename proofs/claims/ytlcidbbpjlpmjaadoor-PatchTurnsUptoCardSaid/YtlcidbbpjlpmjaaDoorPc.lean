/-
  Plain: a patch's text read as the reference does; what was written is read; both come to the same. No statement of the seat is proved here.
-/
import Derived.Test.YtlcidbbpjlpmjaaDoorPb
namespace Go.Proofs.YtlcidbbpjlpmjaaDoor

theorem linesT_le {op : Int} : ∀ l : List (List UInt8), l.length ≤ (linesT op l).length
  | [] => by simp
  | s :: l => by
    have := linesT_le (op := op) l
    have e : linesT op (s :: l) = lineT op s ++ linesT op l := by simp [linesT]
    rw [e, List.length_append, List.length_cons]
    simp only [lineT, List.length_cons]
    omega
theorem body_len {len : Nat} : ∀ {l : List EdI} {p : Option Int} {c c' : Cnt} {ls : List (List UInt8)}, edsP len p c l = some c' → c.all + ls.length = len → c'.all = len → ls.length ≤ (bodyT l ls).length
  | [], p, c, c', ls, he, hc, hc' => by
    unfold edsP at he
    injection he with he
    subst he
    omega
  | e :: l, p, c, c', ls, he, hc, hc' => by
    unfold edsP at he
    split at he
    · cases he
    next hb =>
      simp only [Bool.not_eq_true] at hb
      obtain ⟨h1, h2, h3, h4, h5⟩ := badE_false hb
      have ha : (addE c e).all = c.all + e.n.toNat := addE_all
      have ih := body_len (ls := ls.drop e.n.toNat) he (by rw [ha, List.length_drop]; omega) hc'
      have hl := linesT_le (op := e.op) (ls.take e.n.toNat)
      rw [bodyT, List.length_append]
      rw [List.length_take] at hl
      rw [List.length_drop] at ih
      omega
structure Reader (f : List UInt8 → List HkQ → Option (List HkQ)) : Prop where
  nil : ∀ out, f [] out = some out
  line : ∀ (op : Nat) (s rest : List UInt8) (r : List HkQ) (h : HkQ), op ≤ 2 → lineP s = true → rest.head? ≠ some 92 → f (lineT op s ++ rest) (r ++ [h]) = f rest (r ++ [addLn h op s])
  head : ∀ (h : HkI) (t : Cnt) (rest : List UInt8) (out : List HkQ), (0 ≤ h.a ∧ h.a ≤ 999999999 ∧ 0 ≤ h.b ∧ h.b ≤ 999999999) → t.k + t.d ≤ 999999999 → f (headT h t ++ rest) out = f rest (out ++ [⟨h.a, h.b, [], []⟩])
section
variable {f : List UInt8 → List HkQ → Option (List HkQ)} (F : Reader f)
include F
theorem Reader.lines {op : Nat} {rest : List UInt8} {r : List HkQ} (ho : op ≤ 2) (hr : rest.head? ≠ some 92) : ∀ {l : List (List UInt8)} {h : HkQ}, (∀ s ∈ l, lineP s = true) → f (linesT op l ++ rest) (r ++ [h]) = f rest (r ++ [l.foldl (fun h s => addLn h op s) h])
  | [], h, _ => rfl
  | s :: l, h, hl => by
    have he : linesT op (s :: l) ++ rest = lineT op s ++ (linesT op l ++ rest) := by simp [linesT]
    rw [he, F.line op s _ r h ho (hl s (by simp)) (lines_head ho hr), Reader.lines ho hr (fun t ht => hl t (by simp [ht]))]
    rfl
theorem Reader.body {len : Nat} {rest : List UInt8} {r : List HkQ} (hr : rest.head? ≠ some 92) : ∀ {l : List EdI} {p : Option Int} {c c' : Cnt} {ls : List (List UInt8)} {h : HkQ}, edsP len p c l = some c' → c.all + ls.length = len → c'.all = len → (∀ s ∈ ls, lineP s = true) → (∀ e, h.eds.getLast? = some e → p = some (e.op : Int)) → (∀ e ∈ l, 0 ≤ e.op ∧ e.op ≤ 2) →
    f (bodyT l ls ++ rest) (r ++ [h]) = f rest (r ++ [⟨h.a, h.b, h.eds ++ l.map EdI.toD, h.ls ++ ls⟩])
  | [], p, c, c', ls, h, he, hc, hc', _, _, _ => by
    unfold edsP at he
    injection he with he
    subst he
    have : ls = [] := List.eq_nil_of_length_eq_zero (by omega)
    subst this
    simp [bodyT]
  | e :: l, p, c, c', ls, h, he, hc, hc', hls, hp, hop => by
    unfold edsP at he
    split at he
    · cases he
    next hb =>
      simp only [Bool.not_eq_true] at hb
      obtain ⟨h1, h2, h3, h4, h5⟩ := badE_false hb
      obtain ⟨n, hn⟩ : ∃ n : Nat, e.n = (n : Int) := ⟨e.n.toNat, by omega⟩
      obtain ⟨o, ho⟩ : ∃ o : Nat, e.op = (o : Int) := ⟨e.op.toNat, by omega⟩
      have hnt : e.n.toNat = n := by omega
      have hot : e.toD = ⟨o, n⟩ := by unfold EdI.toD; rw [hnt, ho]; simp
      have ha : (addE c e).all = c.all + e.n.toNat := addE_all
      have htl : (ls.take n).length = n := by rw [List.length_take]; omega
      have htn : ls.take n ≠ [] := fun q => by rw [q] at htl; simp at htl; omega
      rw [bodyT, List.append_assoc, hnt, ho, F.lines (by omega) (body_head (fun e he => hop e (by simp [he])) hr) (fun s hs => hls s (List.mem_of_mem_take hs)),
        fold_lines htn (fun f hf q => h5 (by rw [hp f hf, ho, q]))]
      rw [Reader.body hr he (by rw [ha, List.length_drop]; omega) hc' (fun s hs => hls s (List.mem_of_mem_drop hs)) (fun f hf => by simp at hf; rw [← hf, ho]) (fun e he => hop e (by simp [he]))]
      rw [htl, List.map_cons, hot]
      simp
theorem Reader.hunks : ∀ (l : List HkI) (out : List HkQ), l.all okH = true → (hksT l).length ≤ 999999999 → f (hksT l) out = some (out ++ l.map HkI.toQ)
  | [], out, _, _ => by simp [hksT, F.nil]
  | h :: l, out, ha, hlen => by
    rw [List.all_cons, Bool.and_eq_true] at ha
    obtain ⟨t, ht⟩ := Option.isSome_iff_exists.1 (show (mayP h).isSome = true from ha.1)
    have he : hksT (h :: l) = headT h t ++ (bodyT h.eds h.ls ++ hksT l) := hksT_cons (k := 0) (l := h :: l) rfl ht
    obtain ⟨hE, hall, _, hpl, hlin⟩ := mayP_eds ht
    have hops := (edsP_ok hE (by simp [cnt0, Cnt.all])).1
    have hb := body_len (ls := h.ls) hE (by simp [cnt0, Cnt.all]) hall
    rw [he, List.length_append, List.length_append] at hlen
    have hk : t.k + t.d ≤ h.ls.length := by unfold Cnt.all at hall; omega
    rw [he, F.head h t _ _ (places_le hpl) (by omega), F.body (hks_head l ha.2) hE (by simp [cnt0, Cnt.all]) hall (fun s hs => List.all_eq_true.1 hlin s hs) (by simp) (fun e he => ⟨(hops e he).1, (hops e he).2.1⟩), Reader.hunks l _ ha.2 (by omega)]
    simp [HkI.toQ]
end

/-! ### The reference's reading -/
def splitFrom : List UInt8 → List UInt8 → List (List UInt8)
  | cur, [] => if cur = [] then [] else [cur]
  | cur, x :: r => if x = 10 then (cur ++ [10]) :: splitFrom [] r else splitFrom (cur ++ [x]) r
def splitL (b : List UInt8) : List (List UInt8) := splitFrom [] b
theorem splitFrom_row {q : List UInt8} : ∀ {p cur : List UInt8}, (10 : UInt8) ∉ p → splitFrom cur (p ++ 10 :: q) = (cur ++ p ++ [10]) :: splitFrom [] q
  | [], cur, _ => by simp [splitFrom]
  | x :: p, cur, h => by
    have hx : ¬ x = 10 := fun e => h (by simp [e])
    rw [List.cons_append, splitFrom, if_neg hx, splitFrom_row (fun e => h (by simp [e]))]
    simp
theorem splitL_row {p q : List UInt8} (h : (10 : UInt8) ∉ p) : splitL (p ++ 10 :: q) = (p ++ [10]) :: splitL q := by
  have := splitFrom_row (q := q) (cur := []) h
  rwa [List.nil_append] at this
theorem splitFrom_head : ∀ {b cur : List UInt8} {z : UInt8} {zs : List UInt8}, (splitFrom cur b).head? = some (z :: zs) → (cur ++ b).head? = some z
  | [], cur, z, zs, h => by
    rw [splitFrom] at h
    split at h
    · simp at h
    · simp only [List.head?_cons, Option.some.injEq] at h
      simp [h]
  | x :: b, cur, z, zs, h => by
    rw [splitFrom] at h
    split at h
    next q =>
      simp only [List.head?_cons, Option.some.injEq] at h
      subst q
      cases cur with
      | nil => simp at h ⊢; exact h.1
      | cons c cur => simp at h ⊢; exact h.1
    next q =>
      have := splitFrom_head h
      simpa using this
theorem splitFrom_ne : ∀ {b cur : List UInt8}, ∀ x ∈ splitFrom cur b, x ≠ []
  | [], cur, x, h => by
    rw [splitFrom] at h
    split at h
    · simp at h
    next q => rw [List.mem_singleton] at h; rw [h]; exact q
  | y :: b, cur, x, h => by
    rw [splitFrom] at h
    split at h
    · rcases List.mem_cons.1 h with rfl | h
      · simp
      · exact splitFrom_ne x h
    · exact splitFrom_ne x h
def isDig (x : UInt8) : Bool := decide (48 ≤ x.toNat) && decide (x.toNat ≤ 57)
def digRun (x : List UInt8) (at_ : Nat) : List UInt8 := ((x.drop at_).takeWhile isDig).take 10
def decV (d : List UInt8) : Nat := d.foldl (fun n c => 10 * n + (c.toNat - 48)) 0
def numR (x : List UInt8) (at_ : Nat) : Int × Nat := if (digRun x at_).isEmpty = true then (-1, at_) else ((decV (digRun x at_) : Nat), at_ + (digRun x at_).length)
def placeR (x : List UInt8) : Int × Int := ((numR x 4).1, (numR x (min x.length ((numR x (min x.length ((numR x 4).2 + 1))).2 + 2))).1)
def readR : List (List UInt8) → List HkQ → Option (List HkQ)
  | [], out => some out
  | x :: l, out =>
    if Lib.hasPrefix x [64, 64, 32, 45] = true then readR l (out ++ [⟨(placeR x).1, (placeR x).2, [], []⟩])
    else if out.isEmpty = true then none
    else match x with
      | [] => none
      | c :: y => match signOf c with
        | none => none
        | some op => if l.head? = some [92, 10] ∧ y ≠ [] then readR l.tail (addQ out op y.dropLast) else readR l (addQ out op y)
termination_by l => l.length
decreasing_by all_goals (simp; try omega)
theorem readR_head {x : List UInt8} {l : List (List UInt8)} {out : List HkQ} (h : Lib.hasPrefix x [64, 64, 32, 45] = true) : readR (x :: l) out = readR l (out ++ [⟨(placeR x).1, (placeR x).2, [], []⟩]) := by
  rw [readR.eq_def]
  simp only [h]
  rfl
theorem decV_digits (u : Nat) : decV (Lib.decDigits u) = u := by
  induction u using Nat.strongRecOn with
  | _ u ih =>
    rw [Lib.decDigits]
    split
    next h =>
      simp only [decV, List.foldl_cons, List.foldl_nil, UInt8.toNat_ofNat']
      omega
    next h =>
      have := ih (u / 10) (by omega)
      unfold decV at this ⊢
      rw [List.foldl_append, this]
      simp only [List.foldl_cons, List.foldl_nil, UInt8.toNat_ofNat']
      omega
theorem takeWhile_stop {p q : List UInt8} {c : UInt8} (h : ∀ x ∈ p, isDig x = true) (hc : isDig c = false) : (p ++ c :: q).takeWhile isDig = p := by
  rw [List.takeWhile_append_of_pos h, List.takeWhile_cons, hc]
  simp
theorem numR_at {pre q : List UInt8} {c : UInt8} {u at_ : Nat} (hu : u ≤ 999999999) (hc : isDig c = false) (ha : pre.length = at_) : numR (pre ++ (Lib.decDigits u ++ c :: q)) at_ = ((u : Int), at_ + (Lib.decDigits u).length) := by
  have hd : digRun (pre ++ (Lib.decDigits u ++ c :: q)) at_ = Lib.decDigits u := by
    unfold digRun
    rw [List.drop_left' ha, takeWhile_stop (fun x hx => by have := digit_range u x hx; simp [isDig, this.1, this.2]) hc]
    have := digits_len 8 u (by omega)
    exact List.take_of_length_le (by omega)
  unfold numR
  rw [hd, if_neg (by have := digits_ne u; simpa using this), decV_digits]
theorem reader_ref : Reader fun t out => readR (splitL t) out := by
  refine ⟨fun out => by simp [splitL, splitFrom, readR], fun op s rest r h ho hs hr => ?_, fun h t rest out h1 hcnt => ?_⟩
  · obtain ⟨d, x, rfl, hd⟩ := lineP_spec hs
    obtain ⟨g1, g2, g3, _⟩ := sgn_sign ho
    have hemp : (r ++ [h]).isEmpty = false := by simp
    by_cases hx : x = 10
    · subst hx
      have hc : splitL (lineT (op : Int) (d ++ [10]) ++ rest) = (sgn (op : Int) :: (d ++ [10])) :: splitL rest := by
        have := splitL_row (p := sgn (op : Int) :: d) (q := rest) (by simp only [List.mem_cons, not_or]; exact ⟨fun q => g3 q.symm, hd⟩)
        rw [List.cons_append] at this
        rw [← List.cons_append, ← this]
        simp [lineT, tail_feed]
      have hno : ¬ ((splitL rest).head? = some [92, 10] ∧ d ++ [10] ≠ []) := fun q => hr (by simpa using splitFrom_head (cur := []) q.1)
      show readR (splitL _) _ = _
      rw [hc, readR]
      simp only [not_prefix (m := [64, 32, 45]) (l := d ++ [10]) (fun q => g2 q.symm), g1, hemp, addQ_snoc]
      rw [if_neg (by simp), if_neg (by simp), if_neg hno]
    · have hc : splitL (lineT (op : Int) (d ++ [x]) ++ rest) = (sgn (op : Int) :: (d ++ [x] ++ [10])) :: [92, 10] :: splitL rest := by
        have e1 := splitL_row (p := sgn (op : Int) :: (d ++ [x])) (q := 92 :: 10 :: rest) (by
          simp only [List.mem_cons, List.mem_append, List.not_mem_nil, or_false, not_or]
          exact ⟨fun q => g3 q.symm, hd, fun q => hx q.symm⟩)
        have e2 := splitL_row (p := [92]) (q := rest) (by decide)
        rw [show [92] ++ 10 :: rest = 92 :: 10 :: rest from rfl] at e2
        rw [e2] at e1
        rw [show sgn (op : Int) :: (d ++ [x] ++ [10]) = sgn (op : Int) :: (d ++ [x]) ++ [10] by simp, show ([92, 10] : List UInt8) = [92] ++ [10] from rfl, ← e1]
        simp [lineT, tail_feed, hx, lacks]
      show readR (splitL _) _ = _
      rw [hc, readR]
      simp only [not_prefix (m := [64, 32, 45]) (l := d ++ [x] ++ [10]) (fun q => g2 q.symm), g1, hemp, addQ_snoc]
      rw [if_neg (by simp), if_neg (by simp), if_pos ⟨rfl, by simp⟩]
      simp
  · obtain ⟨na, hna⟩ : ∃ n : Nat, h.a = (n : Int) := ⟨h.a.toNat, by omega⟩
    obtain ⟨nb, hnb⟩ : ∃ n : Nat, h.b = (n : Int) := ⟨h.b.toNat, by omega⟩
    obtain ⟨u, hu⟩ : ∃ u, t.k + t.d = u := ⟨_, rfl⟩
    obtain ⟨N, hN⟩ : ∃ A, Lib.decDigits (t.k + t.n) = A := ⟨_, rfl⟩
    obtain ⟨row, hrow⟩ : ∃ x, [64, 64, 32, 45] ++ (Lib.decDigits na ++ 44 :: (Lib.decDigits u ++ 32 :: (43 :: (Lib.decDigits nb ++ 44 :: (N ++ [32, 64, 64]))))) = x := ⟨_, rfl⟩
    have hh : headT h t = row ++ [10] := by
      unfold headT
      rw [hna, hnb, Lib.itoa_nonneg, Lib.itoa_nonneg, Lib.itoa_nonneg, Lib.itoa_nonneg, hu, hN, ← hrow]
      simp
    have h10 : (10 : UInt8) ∉ row := by
      have dn : ∀ n : Nat, (10 : UInt8) ∉ Lib.decDigits n := fun n => digits_not (.inl (by decide))
      rw [← hrow, ← hN]
      simp only [List.mem_append, List.mem_cons, List.not_mem_nil, or_false, not_or]
      exact ⟨by decide, dn na, by decide, dn u, by decide, by decide, dn nb, by decide, dn _, by decide⟩
    have hsp : splitL (headT h t ++ rest) = (row ++ [10]) :: splitL rest := by
      rw [hh, List.append_assoc]
      exact splitL_row h10
    have hpre : Lib.hasPrefix (row ++ [10]) [64, 64, 32, 45] = true := by
      unfold Lib.hasPrefix
      rw [← hrow, List.isPrefixOf_iff_prefix, List.append_assoc]
      exact List.prefix_append _ _
    have l1 : (Lib.decDigits na).length ≤ 9 := digits_len 8 na (by omega)
    have e1 : numR (row ++ [10]) 4 = ((na : Int), 4 + (Lib.decDigits na).length) := by
      have := numR_at (pre := [64, 64, 32, 45]) (q := Lib.decDigits u ++ 32 :: (43 :: (Lib.decDigits nb ++ 44 :: (N ++ [32, 64, 64, 10])))) (c := 44) (u := na) (at_ := 4) (by omega) (by decide) rfl
      rw [← this, ← hrow]
      simp
    have e2 : numR (row ++ [10]) (4 + (Lib.decDigits na).length + 1) = ((u : Int), 4 + (Lib.decDigits na).length + 1 + (Lib.decDigits u).length) := by
      have := numR_at (pre := [64, 64, 32, 45] ++ (Lib.decDigits na ++ [44])) (q := 43 :: (Lib.decDigits nb ++ 44 :: (N ++ [32, 64, 64, 10]))) (c := 32) (u := u) (at_ := 4 + (Lib.decDigits na).length + 1) (by omega) (by decide) (by simp; omega)
      rw [← this, ← hrow]
      simp
    have e3 : numR (row ++ [10]) (4 + (Lib.decDigits na).length + 1 + (Lib.decDigits u).length + 2) = ((nb : Int), 4 + (Lib.decDigits na).length + 1 + (Lib.decDigits u).length + 2 + (Lib.decDigits nb).length) := by
      have := numR_at (pre := [64, 64, 32, 45] ++ (Lib.decDigits na ++ 44 :: (Lib.decDigits u ++ [32, 43]))) (q := N ++ [32, 64, 64, 10]) (c := 44) (u := nb) (at_ := 4 + (Lib.decDigits na).length + 1 + (Lib.decDigits u).length + 2) (by omega) (by decide) (by simp; omega)
      rw [← this, ← hrow]
      simp
    have hrl : (row ++ [10]).length ≥ 4 + (Lib.decDigits na).length + 1 + (Lib.decDigits u).length + 2 + 1 := by
      rw [← hrow]
      simp
      omega
    have hp : placeR (row ++ [10]) = (h.a, h.b) := by
      unfold placeR
      have m1 : min (row ++ [10]).length (4 + (Lib.decDigits na).length + 1) = 4 + (Lib.decDigits na).length + 1 := Nat.min_eq_right (by omega)
      have m2 : min (row ++ [10]).length (4 + (Lib.decDigits na).length + 1 + (Lib.decDigits u).length + 2) = 4 + (Lib.decDigits na).length + 1 + (Lib.decDigits u).length + 2 := Nat.min_eq_right (by omega)
      simp only [e1, m1, e2, m2, e3]
      rw [hna, hnb]
    have := readR_head (l := splitL rest) (out := out) hpre
    rw [hp] at this
    show readR (splitL (headT h t ++ rest)) out = readR (splitL rest) (out ++ [⟨h.a, h.b, [], []⟩])
    rw [hsp, this]
theorem reader_prog : Reader readQ := ⟨readQ_nil, fun _ _ _ _ _ ho hs hr => readQ_line ho hs hr, fun _ _ _ _ h1 _ => readQ_head h1⟩
theorem Reader.iff {f : List UInt8 → List HkQ → Option (List HkQ)} (F : Reader f) (s : List UInt8) (hs : s.length ≤ 999999999) (l : List HkI) : resQ (f s []) s = some l ↔ l.all okH = true ∧ hksT l = s := by
  constructor
  · intro h
    unfold resQ at h
    split at h
    · cases h
    · split at h
      next q =>
        injection h with h
        rw [← h]
        exact q
      · cases h
  · rintro ⟨h1, rfl⟩
    have he : (l.map HkI.toQ).map HkQ.toI = l := by
      rw [List.map_map]
      conv => rhs; rw [← List.map_id l]
      exact List.map_congr_left fun h hh => toQ_toI (List.all_eq_true.1 h1 h hh)
    unfold resQ
    rw [F.hunks l [] h1 hs]
    simp only [List.nil_append, he]
    rw [if_pos ⟨h1, trivial⟩]
/-- Both readings come to the same. -/
theorem read_same (s : List UInt8) (hs : s.length ≤ 999999999) : resQ (readR (splitL s) []) s = resQ (readQ s []) s := by
  apply Option.ext
  intro l
  rw [reader_ref.iff s hs l, reader_prog.iff s hs l]
end Go.Proofs.YtlcidbbpjlpmjaaDoor
