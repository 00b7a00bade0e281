/-
  Plain: a patch's text read as the program does; what was written is read. No statement of the seat is proved here.
-/
import Derived.Test.YtlcidbbpjlpmjaaDoorPa
import Derived.Test.YtlcidbbpjlpmjaaDoorQd2
import Derived.Test.YtlcidbbpjlpmjaaDoorRj
import Derived.Test.YtlcidbbpjlpmjaaDoorRg
namespace Go.Proofs.YtlcidbbpjlpmjaaDoor

structure HkQ where
  a : Int
  b : Int
  eds : List EdD
  ls : List (List UInt8)
def HkQ.toI (h : HkQ) : HkI := ⟨h.a, h.b, h.eds.map EdD.toI, h.ls⟩
def HkI.toQ (h : HkI) : HkQ := ⟨h.a, h.b, h.eds.map EdI.toD, h.ls⟩
def addLn (h : HkQ) (op : Nat) (s : List UInt8) : HkQ := ⟨h.a, h.b, addP h.eds op, h.ls ++ [s]⟩
/-- A line put into the last hunk. -/
def addQ : List HkQ → Nat → List UInt8 → List HkQ
  | [], _, _ => []
  | [h], op, s => [addLn h op s]
  | h :: k :: r, op, s => h :: addQ (k :: r) op s
theorem addQ_snoc (r : List HkQ) (h : HkQ) (op : Nat) (s : List UInt8) : addQ (r ++ [h]) op s = r ++ [addLn h op s] := by
  induction r with
  | nil => rfl
  | cons x r ih =>
    cases r with
    | nil => rfl
    | cons y r =>
      simp only [List.cons_append, addQ] at ih ⊢
      rw [ih]
def signOf (x : UInt8) : Option Nat := if x = 32 then some 0 else if x = 45 then some 1 else if x = 43 then some 2 else none
def numO (l : List UInt8) : Option Int := match Lib.atoiAll l with
  | .ok v => some v
  | _ => none
def atP : List UInt8 := [64, 64, 32, 45]
def headA (row : List UInt8) : List UInt8 × List UInt8 × Bool := Lib.cut (Lib.trimPrefix row [64, 64, 32, 45]) [44]
def headB (row : List UInt8) : List UInt8 × List UInt8 × Bool := Lib.cut (headA row).2.1 [32, 43]
def headC (row : List UInt8) : List UInt8 × List UInt8 × Bool := Lib.cut (headB row).2.1 [44]
def headP (row : List UInt8) : Option (Int × Int) := match numO (headA row).1, numO (headC row).1 with
  | some a, some b => if ((headA row).2.2 && ((headB row).2.2 && (headC row).2.2)) = true then some (a, b) else none
  | _, _ => none
/-- One row taken. -/
def stepQ (text : List UInt8) (out : List HkQ) : Option (List UInt8 × List HkQ) :=
  if Lib.hasPrefix (Lib.cut text [10]).1 [64, 64, 32, 45] = true then
    match headP (Lib.cut text [10]).1 with
    | none => none
    | some x => some ((Lib.cut text [10]).2.1, out ++ [⟨x.1, x.2, [], []⟩])
  else match (Lib.cut text [10]).1 with
    | [] => none
    | x :: r => match signOf x with
      | none => none
      | some op => if out.isEmpty = true then none
        else if Lib.hasPrefix (Lib.cut text [10]).2.1 [92, 10] = true then some ((Lib.cut text [10]).2.1.drop 2, addQ out op r)
        else some ((Lib.cut text [10]).2.1, addQ out op (r ++ [10]))
theorem stepQ_lt {text : List UInt8} {out : List HkQ} {x : List UInt8 × List HkQ} (h : text ≠ []) (hs : stepQ text out = some x) : x.1.length < text.length := by
  have hl := cut_rest_lt (c := 10) h
  unfold stepQ at hs
  split at hs
  · split at hs
    · cases hs
    · injection hs with hs
      rw [← hs]; exact hl
  · split at hs
    · cases hs
    · split at hs
      · cases hs
      · split at hs
        · cases hs
        · split at hs
          · injection hs with hs
            rw [← hs]
            simp only [List.length_drop]
            omega
          · injection hs with hs
            rw [← hs]; exact hl
def readQ (text : List UInt8) (out : List HkQ) : Option (List HkQ) :=
  if _h : text = [] then some out
  else match _hs : stepQ text out with
    | none => none
    | some x => readQ x.1 x.2
termination_by text.length
decreasing_by exact stepQ_lt (by assumption) (by assumption)
theorem readQ_nil (out : List HkQ) : readQ [] out = some out := by rw [readQ]; simp
theorem readQ_some {text : List UInt8} {out : List HkQ} {x : List UInt8 × List HkQ} (h : text ≠ []) (hs : stepQ text out = some x) : readQ text out = readQ x.1 x.2 := by
  rw [readQ, dif_neg h]
  split
  next q => rw [hs] at q; cases q
  next y q => rw [hs] at q; injection q with q; rw [q]
theorem readQ_none {text : List UInt8} {out : List HkQ} (h : text ≠ []) (hs : stepQ text out = none) : readQ text out = none := by
  rw [readQ, dif_neg h]
  split
  next q => rfl
  next y q => rw [hs] at q; cases q

/-! ### What was written is read -/
theorem cut10 {p q : List UInt8} (h : (10 : UInt8) ∉ p) : Lib.cut (p ++ 10 :: q) [10] = (p, q, true) := by
  have := cut_first (c := 10) (sep := []) (p := p) (q := q) h
  simpa using this
theorem lineP_spec {s : List UInt8} (h : lineP s = true) : ∃ d x, s = d ++ [x] ∧ (10 : UInt8) ∉ d := by
  rcases List.eq_nil_or_concat s with rfl | ⟨d, x, rfl⟩
  · cases h
  · rw [List.concat_eq_append] at h ⊢
    refine ⟨d, x, rfl, fun q => ?_⟩
    obtain ⟨j, hj, hx⟩ := List.mem_iff_getElem.1 q
    rw [lineP_bad (j := j) (by rw [List.getElem?_append_left hj, List.getElem?_eq_getElem hj, hx]) (by simp; exact hj)] at h
    cases h
theorem tail_feed (d : List UInt8) (x : UInt8) : tailT (d ++ [x]) = if x = 10 then [] else lacks := by
  have := last_feed (s := d ++ [x]) (x := x) (by simp)
  unfold tailT
  rw [this]
  simp
theorem sgn_sign {op : Nat} (h : op ≤ 2) : signOf (sgn (op : Int)) = some op ∧ sgn (op : Int) ≠ 64 ∧ sgn (op : Int) ≠ 10 ∧ sgn (op : Int) ≠ 92 := by
  have h3 : op = 0 ∨ op = 1 ∨ op = 2 := by omega
  rcases h3 with rfl | rfl | rfl <;> decide
theorem not_prefix {a b : UInt8} {l m : List UInt8} (h : a ≠ b) : Lib.hasPrefix (b :: l) (a :: m) = false := by
  unfold Lib.hasPrefix
  simp [List.isPrefixOf, h]
theorem no_lack {rest : List UInt8} (h : rest.head? ≠ some 92) : Lib.hasPrefix rest [92, 10] = false := by
  cases rest with
  | nil => rfl
  | cons x r => exact not_prefix (fun q => h (by simp [q]))
theorem readQ_line {op : Nat} {s rest : List UInt8} {r : List HkQ} {h : HkQ} (ho : op ≤ 2) (hs : lineP s = true) (hr : rest.head? ≠ some 92) : readQ (lineT op s ++ rest) (r ++ [h]) = readQ rest (r ++ [addLn h op s]) := by
  obtain ⟨d, x, rfl, hd⟩ := lineP_spec hs
  obtain ⟨g1, g2, g3, _⟩ := sgn_sign ho
  have hne : lineT (op : Int) (d ++ [x]) ++ rest ≠ [] := by simp [lineT]
  have hemp : (r ++ [h]).isEmpty = false := by simp
  by_cases hx : x = 10
  · subst hx
    have hc : Lib.cut (lineT (op : Int) (d ++ [10]) ++ rest) [10] = (sgn (op : Int) :: d, rest, true) := by
      have := cut10 (p := sgn (op : Int) :: d) (q := rest) (by simp only [List.mem_cons, not_or]; exact ⟨fun q => g3 q.symm, hd⟩)
      rw [← this]
      simp [lineT, tail_feed]
    have := readQ_some (out := r ++ [h]) (x := (rest, r ++ [addLn h op (d ++ [10])])) hne (by
      unfold stepQ
      rw [hc]
      simp only [not_prefix (m := [64, 32, 45]) (l := d) (fun q => g2 q.symm), g1, hemp, no_lack hr, addQ_snoc]
      rfl)
    exact this
  · have hc : Lib.cut (lineT (op : Int) (d ++ [x]) ++ rest) [10] = (sgn (op : Int) :: (d ++ [x]), 92 :: 10 :: rest, true) := by
      have := cut10 (p := sgn (op : Int) :: (d ++ [x])) (q := 92 :: 10 :: rest) (by
        simp only [List.mem_cons, List.mem_append, List.not_mem_nil, or_false, not_or]
        exact ⟨fun q => g3 q.symm, hd, fun q => hx q.symm⟩)
      rw [← this]
      simp [lineT, tail_feed, hx, lacks]
    have := readQ_some (out := r ++ [h]) (x := (rest, r ++ [addLn h op (d ++ [x])])) hne (by
      unfold stepQ
      rw [hc]
      simp only [not_prefix (m := [64, 32, 45]) (l := d ++ [x]) (fun q => g2 q.symm), g1, hemp, addQ_snoc]
      rfl)
    exact this
theorem lines_head {op : Nat} {l : List (List UInt8)} {rest : List UInt8} (ho : op ≤ 2) (hr : rest.head? ≠ some 92) : (linesT op l ++ rest).head? ≠ some 92 := by
  cases l with
  | nil => exact hr
  | cons s l =>
    obtain ⟨_, _, _, g4⟩ := sgn_sign ho
    intro q
    simp [linesT, lineT] at q
    exact g4 q
theorem fold_more {op : Nat} : ∀ (l : List (List UInt8)) (a b : Int) (eds : List EdD) (k : Nat) (ls : List (List UInt8)), l.foldl (fun h s => addLn h op s) ⟨a, b, eds ++ [⟨op, k⟩], ls⟩ = ⟨a, b, eds ++ [⟨op, k + l.length⟩], ls ++ l⟩
  | [], a, b, eds, k, ls => by simp
  | s :: l, a, b, eds, k, ls => by
    rw [List.foldl_cons]
    have : addLn ⟨a, b, eds ++ [⟨op, k⟩], ls⟩ op s = ⟨a, b, eds ++ [⟨op, k + 1⟩], ls ++ [s]⟩ := by
      unfold addLn
      simp only
      rw [addP_snoc, if_pos rfl]
    rw [this, fold_more l]
    simp
    omega
theorem fold_lines {op : Nat} {l : List (List UInt8)} {h : HkQ} (hl : l ≠ []) (ho : ∀ e, h.eds.getLast? = some e → e.op ≠ op) : l.foldl (fun h s => addLn h op s) h = ⟨h.a, h.b, h.eds ++ [⟨op, l.length⟩], h.ls ++ l⟩ := by
  cases l with
  | nil => exact absurd rfl hl
  | cons s l =>
    rw [List.foldl_cons]
    have : addLn h op s = ⟨h.a, h.b, h.eds ++ [⟨op, 1⟩], h.ls ++ [s]⟩ := by
      unfold addLn
      rcases List.eq_nil_or_concat h.eds with q | ⟨r, e, q⟩
      · rw [q]; rfl
      · rw [q, List.concat_eq_append] at ho ⊢
        rw [addP_snoc, if_neg (ho e (by simp))]
    rw [this, fold_more]
    simp
    omega
theorem body_head : ∀ {l : List EdI} {ls : List (List UInt8)} {rest : List UInt8}, (∀ e ∈ l, 0 ≤ e.op ∧ e.op ≤ 2) → rest.head? ≠ some 92 → (bodyT l ls ++ rest).head? ≠ some 92
  | [], _, _, _, hr => hr
  | e :: l, ls, rest, h, hr => by
    obtain ⟨n, hn⟩ : ∃ n : Nat, e.op = (n : Int) := ⟨e.op.toNat, by have := h e (by simp); omega⟩
    have h2 := h e (by simp)
    rw [bodyT, List.append_assoc, hn]
    exact lines_head (by omega) (body_head (fun e he => h e (by simp [he])) hr)
theorem num_digits {u : Nat} (h : u ≤ 999999999) : numO (Lib.decDigits u) = some (u : Int) := by unfold numO; rw [atoiAll_digits h]
theorem readQ_head {h : HkI} {t : Cnt} {rest : List UInt8} {out : List HkQ} (h1 : 0 ≤ h.a ∧ h.a ≤ 999999999 ∧ 0 ≤ h.b ∧ h.b ≤ 999999999) : readQ (headT h t ++ rest) out = readQ rest (out ++ [⟨h.a, h.b, [], []⟩]) := by
  obtain ⟨na, hna⟩ : ∃ n : Nat, h.a = (n : Int) := ⟨h.a.toNat, by omega⟩
  obtain ⟨nb, hnb⟩ : ∃ n : Nat, h.b = (n : Int) := ⟨h.b.toNat, by omega⟩
  obtain ⟨A, hA⟩ : ∃ A, Lib.decDigits na = A := ⟨_, rfl⟩
  obtain ⟨K, hK⟩ : ∃ A, Lib.decDigits (t.k + t.d) = A := ⟨_, rfl⟩
  obtain ⟨C, hC⟩ : ∃ A, Lib.decDigits nb = A := ⟨_, rfl⟩
  obtain ⟨N, hN⟩ : ∃ A, Lib.decDigits (t.k + t.n) = A := ⟨_, rfl⟩
  have hh : headT h t = ([64, 64, 32, 45] ++ (A ++ ([44] ++ (K ++ ([32, 43] ++ (C ++ ([44] ++ (N ++ [32, 64, 64])))))))) ++ [10] := by
    unfold headT
    rw [hna, hnb, Lib.itoa_nonneg, Lib.itoa_nonneg, Lib.itoa_nonneg, Lib.itoa_nonneg, hA, hK, hC, hN]
    simp
  have nA : ∀ c : UInt8, c.toNat < 48 → c ∉ A := fun c hc => by rw [← hA]; exact digits_not (.inl hc)
  have nK : ∀ c : UInt8, c.toNat < 48 → c ∉ K := fun c hc => by rw [← hK]; exact digits_not (.inl hc)
  have nC : ∀ c : UInt8, c.toNat < 48 → c ∉ C := fun c hc => by rw [← hC]; exact digits_not (.inl hc)
  have nN : ∀ c : UInt8, c.toNat < 48 → c ∉ N := fun c hc => by rw [← hN]; exact digits_not (.inl hc)
  obtain ⟨row, hrow⟩ : ∃ x, [64, 64, 32, 45] ++ (A ++ ([44] ++ (K ++ ([32, 43] ++ (C ++ ([44] ++ (N ++ [32, 64, 64]))))))) = x := ⟨_, rfl⟩
  have h10 : (10 : UInt8) ∉ row := by
    rw [← hrow]
    simp only [List.mem_append, List.mem_cons, List.not_mem_nil, or_false, not_or]
    exact ⟨by decide, nA 10 (by decide), by decide, nK 10 (by decide), by decide, nC 10 (by decide), by decide, nN 10 (by decide), by decide⟩
  rw [hrow] at hh
  have hc : Lib.cut (headT h t ++ rest) [10] = (row, rest, true) := by
    rw [hh, List.append_assoc]
    exact cut10 h10
  have hpre : Lib.hasPrefix row [64, 64, 32, 45] = true := by
    unfold Lib.hasPrefix
    rw [← hrow, List.isPrefixOf_iff_prefix]
    exact List.prefix_append _ _
  have eA : headA row = (A, K ++ ([32, 43] ++ (C ++ ([44] ++ (N ++ [32, 64, 64])))), true) := by
    unfold headA Lib.trimPrefix
    rw [if_pos hpre, ← hrow, List.drop_left' rfl]
    have := cut_first (c := 44) (sep := []) (p := A) (q := K ++ ([32, 43] ++ (C ++ ([44] ++ (N ++ [32, 64, 64]))))) (nA 44 (by decide))
    rw [← this, List.append_assoc]
  have eB : headB row = (K, C ++ ([44] ++ (N ++ [32, 64, 64])), true) := by
    unfold headB
    rw [eA]
    have := cut_first (c := 32) (sep := [43]) (p := K) (q := C ++ ([44] ++ (N ++ [32, 64, 64]))) (nK 32 (by decide))
    rw [← this, List.append_assoc]
  have eC : headC row = (C, N ++ [32, 64, 64], true) := by
    unfold headC
    rw [eB]
    have := cut_first (c := 44) (sep := []) (p := C) (q := N ++ [32, 64, 64]) (nC 44 (by decide))
    rw [← this, List.append_assoc]
  have eP : headP row = some (h.a, h.b) := by
    unfold headP
    rw [eA, eB, eC]
    simp only
    rw [← hA, ← hC, num_digits (by omega), num_digits (by omega)]
    simp [hna, hnb]
  have hne : headT h t ++ rest ≠ [] := by rw [hh]; simp
  have := readQ_some (out := out) (x := (rest, out ++ [⟨h.a, h.b, [], []⟩])) hne (by
    unfold stepQ
    rw [hc]
    simp only [hpre, eP]
    rfl)
  exact this
theorem head_first (h : HkI) (t : Cnt) (rest : List UInt8) : (headT h t ++ rest).head? ≠ some 92 := by
  unfold headT
  simp
theorem hks_head : ∀ (l : List HkI), l.all okH = true → (hksT l).head? ≠ some 92
  | [], _ => by simp [hksT]
  | h :: l, ha => by
    rw [List.all_cons, Bool.and_eq_true] at ha
    obtain ⟨t, ht⟩ := Option.isSome_iff_exists.1 (show (mayP h).isSome = true from ha.1)
    have : hksT (h :: l) = headT h t ++ (bodyT h.eds h.ls ++ hksT l) := hksT_cons (k := 0) (l := h :: l) rfl ht
    rw [this]
    exact head_first h t _
theorem toQ_toI {h : HkI} (ha : okH h = true) : h.toQ.toI = h := by
  obtain ⟨t, ht⟩ := Option.isSome_iff_exists.1 (show (mayP h).isSome = true from ha)
  have := congrArg HkI.eds (toD_toI ht)
  have he : (h.eds.map EdI.toD).map EdD.toI = h.eds := this
  cases h with
  | mk a b eds ls =>
    simp only [HkI.toQ, HkQ.toI] at he ⊢
    rw [he]
/-- What a reading comes to. -/
def resQ (r : Option (List HkQ)) (s : List UInt8) : Option (List HkI) := match r with
  | none => none
  | some out => if (out.map HkQ.toI).all okH = true ∧ hksT (out.map HkQ.toI) = s then some (out.map HkQ.toI) else none
end Go.Proofs.YtlcidbbpjlpmjaaDoor
