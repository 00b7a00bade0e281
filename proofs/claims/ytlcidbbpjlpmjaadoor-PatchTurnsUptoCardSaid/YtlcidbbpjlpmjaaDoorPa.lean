/-
  Plain: digits as numbers, texts cut. No statement of the seat is proved here.
-/
import Derived.Test.YtlcidbbpjlpmjaaDoorQx
import Derived.Lib.AtoiTie
import Derived.Lib.AtoiAllCases
import Derived.Lib.ItoaMem
import Derived.Lib.IndexMore
namespace Go.Proofs.YtlcidbbpjlpmjaaDoor

theorem digit_range (u : Nat) : ∀ x ∈ Lib.decDigits u, 48 ≤ x.toNat ∧ x.toNat ≤ 57 := by
  induction u using Nat.strongRecOn with
  | _ u ih =>
    intro x hx
    rw [Lib.decDigits] at hx
    split at hx
    next h =>
      rw [List.mem_singleton] at hx
      subst hx
      simp only [UInt8.toNat_ofNat']
      omega
    next h =>
      rw [List.mem_append, List.mem_singleton] at hx
      rcases hx with hx | rfl
      · exact ih _ (by omega) x hx
      · simp only [UInt8.toNat_ofNat']
        omega
theorem digits_ne (u : Nat) : Lib.decDigits u ≠ [] := by
  rw [Lib.decDigits]
  split <;> simp
theorem digits_not {u : Nat} {c : UInt8} (h : c.toNat < 48 ∨ 57 < c.toNat) : c ∉ Lib.decDigits u := fun q => by
  have := digit_range u c q
  omega
theorem decFrom_app : ∀ (l m : List UInt8) (acc : Nat), Lib.decFrom acc (l ++ m) = (Lib.decFrom acc l).bind fun n => Lib.decFrom n m
  | [], m, acc => rfl
  | b :: l, m, acc => by
    rw [List.cons_append, Lib.decFrom, Lib.decFrom]
    cases Lib.digitVal b with
    | none => rfl
    | some d => exact decFrom_app l m _
theorem decFrom_digits (u : Nat) : Lib.decFrom 0 (Lib.decDigits u) = some u := by
  induction u using Nat.strongRecOn with
  | _ u ih =>
    rw [Lib.decDigits]
    split
    next h =>
      have hd : Lib.digitVal (UInt8.ofNat (48 + u)) = some u := by
        unfold Lib.digitVal
        have : (UInt8.ofNat (48 + u)).toNat = 48 + u := by simp only [UInt8.toNat_ofNat']; omega
        rw [this, if_pos ⟨by omega, by omega⟩]
        congr 1
        omega
      rw [Lib.decFrom, hd]
      simp [Lib.decFrom]
    next h =>
      have hd : Lib.digitVal (UInt8.ofNat (48 + u % 10)) = some (u % 10) := by
        unfold Lib.digitVal
        have : (UInt8.ofNat (48 + u % 10)).toNat = 48 + u % 10 := by simp only [UInt8.toNat_ofNat']; omega
        rw [this, if_pos ⟨by omega, by omega⟩]
        congr 1
        omega
      rw [decFrom_app, ih _ (by omega)]
      simp only [Option.bind_some]
      rw [Lib.decFrom, hd]
      simp only [Lib.decFrom]
      congr 1
      omega
theorem digits_len : ∀ (k u : Nat), u < 10 ^ (k + 1) → (Lib.decDigits u).length ≤ k + 1
  | 0, u, h => by
    rw [Lib.decDigits, dif_pos (by simpa using h)]
    simp
  | k + 1, u, h => by
    rw [Lib.decDigits]
    split
    · simp
    · have := digits_len k (u / 10) (by rw [Nat.pow_succ] at h; omega)
      simp
      omega
theorem atoiAll_digits {u : Nat} (h : u ≤ 999999999) : Lib.atoiAll (Lib.decDigits u) = .ok (u : Int) := by
  have hl := digits_len 8 u (by omega)
  rw [Lib.atoiAll_short _ (by omega)]
  have hne := digits_ne u
  have hfr := decFrom_digits u
  have hdr := digit_range u
  generalize Lib.decDigits u = l at *
  cases l with
  | nil => exact absurd rfl hne
  | cons c r =>
    have hc := hdr c (by simp)
    unfold Lib.atoi
    have h45 : (c == 45) = false := by
      rw [beq_eq_false_iff_ne]
      rintro rfl
      revert hc; decide
    have h43 : (c == 43) = false := by
      rw [beq_eq_false_iff_ne]
      rintro rfl
      revert hc; decide
    simp only [h45, h43]
    simp [Lib.decNat, hfr, Lib.NumEnd.ofOption]
/-- The first place of a separator that begins with a byte that does not stand ahead of it. -/
theorem index_first {c : UInt8} {sep q : List UInt8} : ∀ {p : List UInt8}, c ∉ p → Lib.index (p ++ (c :: sep) ++ q) (c :: sep) = (p.length : Int)
  | [], _ => by
    rw [List.nil_append, List.cons_append, Lib.index, if_pos]
    · rfl
    · rw [List.isPrefixOf_iff_prefix, ← List.cons_append]
      exact List.prefix_append _ _
  | b :: p, h => by
    have hb : c ≠ b := fun q => h (by simp [q])
    have ih := index_first (c := c) (sep := sep) (q := q) (p := p) (fun q => h (by simp [q]))
    rw [List.cons_append, List.cons_append, Lib.index, ih, if_neg (by simp [List.isPrefixOf, hb]), if_neg (by simp)]
    simp
theorem cut_first {c : UInt8} {sep p q : List UInt8} (h : c ∉ p) : Lib.cut (p ++ (c :: sep) ++ q) (c :: sep) = (p, q, true) := by
  unfold Lib.cut
  rw [index_first h, if_pos (Int.natCast_nonneg _), Int.toNat_natCast, List.append_assoc, List.take_left' rfl, ← List.append_assoc, List.drop_left' (by simp)]
theorem index_none {c : UInt8} : ∀ {s : List UInt8}, c ∉ s → Lib.index s [c] = -1
  | [], _ => rfl
  | b :: s, h => by
    have hb : c ≠ b := fun q => h (by simp [q])
    rw [Lib.index, index_none (fun q => h (by simp [q])), if_neg (by simp [List.isPrefixOf, hb]), if_pos (by decide)]
theorem cut_none {c : UInt8} {s : List UInt8} (h : c ∉ s) : Lib.cut s [c] = (s, [], false) := by
  unfold Lib.cut
  rw [index_none h, if_neg (by decide)]
theorem index_lt {c : UInt8} : ∀ {s : List UInt8}, 0 ≤ Lib.index s [c] → (Lib.index s [c]).toNat < s.length
  | [], h => by simp [Lib.index] at h
  | b :: s, h => by
    rw [Lib.index] at h ⊢
    split at h
    next q => simp [q]
    next q =>
      rw [if_neg q]
      split at h
      next q2 => omega
      next q2 =>
        rw [if_neg q2]
        rcases Int.lt_or_le (Lib.index s [c]) 0 with q3 | q3
        · have := Lib.index_ge s [c]
          simp at q2
          omega
        · have := index_lt q3
          simp
          omega
theorem cut_rest_lt {c : UInt8} {s : List UInt8} (h : s ≠ []) : (Lib.cut s [c]).2.1.length < s.length := by
  have hs : 0 < s.length := List.length_pos_iff.2 h
  unfold Lib.cut
  split
  next q =>
    have := index_lt q
    simp only [List.length_drop, List.length_cons, List.length_nil]
    omega
  next q => simpa using hs
theorem cut_row_le (s sep : List UInt8) : (Lib.cut s sep).1.length ≤ s.length ∧ (Lib.cut s sep).2.1.length ≤ s.length := by
  unfold Lib.cut
  split
  · simp only [List.length_take, List.length_drop]; omega
  · simp
end Go.Proofs.YtlcidbbpjlpmjaaDoor
