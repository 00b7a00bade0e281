/-
  Plain laws of the codec's numbers and texts: what was written is read as it was, and the other way. No statement of the seat is proved here.
-/
import Derived.Test.YtppmolneklidfaaTxl
namespace Go.Proofs.Ytppmolneklidfaa
open Go.RowKit

/-! ### Numbers -/
theorem foldl_num (l : List UInt8) (a : Nat) : l.foldl (fun v x => v * 256 + x.toNat) a = a * 256 ^ l.length + num l := by
  induction l generalizing a with
  | nil => simp [num]
  | cons x l ih =>
    have h1 := ih (a * 256 + x.toNat)
    have h2 := ih (0 * 256 + x.toNat)
    have h3 : num (x :: l) = l.foldl (fun v x => v * 256 + x.toNat) (0 * 256 + x.toNat) := rfl
    rw [List.foldl_cons, h1, h3, h2, List.length_cons, Nat.pow_succ, Nat.add_mul, Nat.mul_assoc, Nat.mul_comm 256, Nat.zero_mul, Nat.zero_add]
    omega
theorem num_cons (x : UInt8) (l : List UInt8) : num (x :: l) = x.toNat * 256 ^ l.length + num l := by
  have h : num (x :: l) = l.foldl (fun v x => v * 256 + x.toNat) (0 * 256 + x.toNat) := rfl
  rw [h, foldl_num, Nat.zero_mul, Nat.zero_add]
theorem num_be (n v : Nat) : num (be n v) = v % 256 ^ n := by
  induction n with
  | zero => simp [be, num, Nat.mod_one]
  | succ n ih =>
    show num (UInt8.ofNat (v / 256 ^ n) :: be n v) = _
    rw [num_cons, ih, be_len, Nat.pow_succ, Nat.mod_mul, UInt8.toNat_ofNat', Nat.mul_comm, show (2 : Nat) ^ 8 = 256 from rfl]
    omega
theorem num_be_lt {n v : Nat} (h : v < 256 ^ n) : num (be n v) = v := by rw [num_be, Nat.mod_eq_of_lt h]
theorem ofNat_add (a k : Nat) : UInt8.ofNat (a * 256 + k) = UInt8.ofNat k := by
  apply UInt8.toNat_inj.1
  rw [UInt8.toNat_ofNat', UInt8.toNat_ofNat']
  omega
theorem be_add (n a v : Nat) : be n (256 ^ n * a + v) = be n v := by
  induction n generalizing a v with
  | zero => rfl
  | succ n ih =>
    have h0 : 0 < 256 ^ n := Nat.pow_pos (by decide)
    have e : 256 ^ (n + 1) * a + v = 256 ^ n * (a * 256) + v := by rw [Nat.pow_succ, Nat.mul_assoc, Nat.mul_comm 256 a]
    show UInt8.ofNat ((256 ^ (n + 1) * a + v) / 256 ^ n) :: be n (256 ^ (n + 1) * a + v) = UInt8.ofNat (v / 256 ^ n) :: be n v
    rw [e, Nat.mul_add_div h0, ofNat_add, ih]
theorem be_num (l : List UInt8) : be l.length (num l) = l := by
  induction l with
  | nil => rfl
  | cons x l ih =>
    have h0 : 0 < 256 ^ l.length := Nat.pow_pos (by decide)
    have h1 := num_lt l
    rw [num_cons, List.length_cons, Nat.mul_comm]
    show UInt8.ofNat ((256 ^ l.length * x.toNat + num l) / 256 ^ l.length) :: be l.length (256 ^ l.length * x.toNat + num l) = _
    rw [Nat.mul_add_div h0, Nat.div_eq_of_lt h1, be_add, ih, Nat.add_zero, UInt8.ofNat_toNat]
theorem be_num_of {l : List UInt8} {n : Nat} (h : l.length = n) : be n (num l) = l := by subst h; exact be_num l

/-! ### Reading what was written -/
/-- Behind place at_ stands just l. -/
structure Sits (b : List UInt8) (at_ : Nat) (l : List UInt8) : Prop where
  le : at_ ≤ b.length
  drop : b.drop at_ = l
theorem Sits.start (b : List UInt8) : Sits b 0 b := ⟨Nat.zero_le _, rfl⟩
section
variable {b l r : List UInt8} {at_ : Nat}
theorem Sits.take (h : Sits b at_ (l ++ r)) {n : Int} (hn : n = l.length) : takeL b at_ 0 n = l ∧ takeAt b at_ 0 n = at_ + l.length ∧ takeE b at_ 0 n = 0 ∧ Sits b (at_ + l.length) r := by
  obtain ⟨h1, h2⟩ := h
  have hl : b.length - at_ = l.length + r.length := by rw [← List.length_drop, h2, List.length_append]
  subst hn
  have c1 : (0 : Int) = 0 ∧ (0 : Int) ≤ (l.length : Int) ∧ (l.length : Int) ≤ b.length - at_ := ⟨rfl, by omega, by omega⟩
  refine ⟨?_, ?_, ?_, by omega, ?_⟩
  · rw [takeL, if_pos c1, h2]; simp
  · rw [takeAt, if_pos c1]; simp
  · rw [takeE, if_pos c1.2]
  · rw [← List.drop_drop, h2]; simp
theorem Sits.num {k v : Nat} (h : Sits b at_ (be k v ++ r)) (hv : v < 256 ^ k) {n : Int} (hn : n = k) : num (takeL b at_ 0 n) = v ∧ takeAt b at_ 0 n = at_ + k ∧ takeE b at_ 0 n = 0 ∧ Sits b (at_ + k) r := by
  have := h.take (n := n) (by rw [be_len]; exact hn)
  rw [be_len] at this
  obtain ⟨h1, h2, h3, h4⟩ := this
  exact ⟨by rw [h1, num_be_lt hv], h2, h3, h4⟩
theorem Sits.text {k : Nat} (h : Sits b at_ (be k l.length ++ (l ++ r))) (hl : l.length < 256 ^ k) {n : Int} (hn : n = k) : textL b at_ 0 n = l ∧ textAt b at_ 0 n = at_ + k + l.length ∧ textE b at_ 0 n = 0 ∧ Sits b (at_ + k + l.length) r := by
  obtain ⟨h1, h2, h3, h4⟩ := h.num hl hn
  obtain ⟨g1, g2, g3, g4⟩ := h4.take rfl
  unfold textL textAt textE
  rw [h1, h2, h3]
  exact ⟨g1, g2, g3, g4⟩
theorem size_list (s : ByteArray) : s.size = s.data.toList.length := Array.length_toList.symm
theorem str_list (s : ByteArray) : str s.data.toList = s := rfl
theorem Sits.str {k : Nat} {s : ByteArray} (h : Sits b at_ (be k s.size ++ (s.data.toList ++ r))) (hl : s.size < 256 ^ k) {n : Int} (hn : n = k) : str (textL b at_ 0 n) = s ∧ textAt b at_ 0 n = at_ + k + s.size ∧ textE b at_ 0 n = 0 ∧ Sits b (at_ + k + s.size) r := by
  rw [size_list] at h hl ⊢
  obtain ⟨h1, h2, h3, h4⟩ := h.text hl hn
  exact ⟨by rw [h1, str_list], h2, h3, h4⟩
theorem Sits.id {i : Id} (h : Sits b at_ (i.1 ++ r)) : idOf (takeL b at_ 0 32) = i ∧ takeAt b at_ 0 32 = at_ + 32 ∧ takeE b at_ 0 32 = 0 ∧ Sits b (at_ + 32) r := by
  have := h.take (n := 32) (by rw [i.2]; rfl)
  rw [i.2] at this
  obtain ⟨h1, h2, h3, h4⟩ := this
  exact ⟨by rw [h1, idOf, dif_pos i.2], h2, h3, h4⟩
end

/-! ### Writing what was read -/
section
variable {b : List UInt8} {at_ : Nat} {e n : Int}
theorem take_back (h : takeE b at_ e n = 0) (hl : at_ ≤ b.length) : e = 0 ∧ 0 ≤ n ∧ b.drop at_ = takeL b at_ e n ++ b.drop (takeAt b at_ e n) ∧ takeAt b at_ e n ≤ b.length ∧ ((takeL b at_ e n).length : Int) = n := by
  by_cases c : 0 ≤ n ∧ n ≤ b.length - at_
  · rw [takeE, if_pos c] at h
    have c1 : e = 0 ∧ 0 ≤ n ∧ n ≤ b.length - at_ := ⟨h, c⟩
    refine ⟨h, c.1, ?_, ?_, ?_⟩
    · rw [takeL, if_pos c1, takeAt, if_pos c1, ← List.drop_drop, List.take_append_drop]
    · rw [takeAt, if_pos c1]; omega
    · rw [takeL, if_pos c1, List.length_take, List.length_drop]; omega
  · rw [takeE, if_neg c] at h
    unfold note at h
    split at h
    · simp at h
    · exact absurd h ‹_›
theorem num_back {k : Nat} (h : takeE b at_ e n = 0) (hl : at_ ≤ b.length) (hn : n = k) : e = 0 ∧ num (takeL b at_ e n) < 256 ^ k ∧ b.drop at_ = be k (num (takeL b at_ e n)) ++ b.drop (takeAt b at_ e n) ∧ takeAt b at_ e n ≤ b.length := by
  obtain ⟨h1, _, h3, h4, h5⟩ := take_back h hl
  have hk : (takeL b at_ e n).length = k := by omega
  refine ⟨h1, by have := num_lt (takeL b at_ e n); rwa [hk] at this, ?_, h4⟩
  rw [be_num_of hk]
  exact h3
theorem text_back {k : Nat} (h : textE b at_ e n = 0) (hl : at_ ≤ b.length) (hn : n = k) : e = 0 ∧ (textL b at_ e n).length < 256 ^ k ∧ b.drop at_ = be k (textL b at_ e n).length ++ (textL b at_ e n ++ b.drop (textAt b at_ e n)) ∧ textAt b at_ e n ≤ b.length := by
  have ha : takeAt b at_ e n ≤ b.length := by
    unfold takeAt
    split <;> omega
  obtain ⟨h1, _, h3, h4, h5⟩ := take_back h ha
  obtain ⟨g1, g2, g3, _⟩ := num_back h1 hl hn
  have h6 : (textL b at_ e n).length = num (takeL b at_ e n) := by
    have : ((textL b at_ e n).length : Int) = (num (takeL b at_ e n) : Int) := h5
    omega
  rw [h6]
  refine ⟨g1, g2, ?_, h4⟩
  rw [g3]
  congr 1
theorem str_back {k : Nat} (h : textE b at_ e n = 0) (hl : at_ ≤ b.length) (hn : n = k) : e = 0 ∧ (str (textL b at_ e n)).size < 256 ^ k ∧ b.drop at_ = be k (str (textL b at_ e n)).size ++ ((str (textL b at_ e n)).data.toList ++ b.drop (textAt b at_ e n)) ∧ textAt b at_ e n ≤ b.length := by
  have := text_back h hl hn
  rw [← show (str (textL b at_ e n)).size = (textL b at_ e n).length from by rw [size_list]; rfl] at this
  exact this
theorem id_back (h : takeE b at_ e 32 = 0) (hl : at_ ≤ b.length) : e = 0 ∧ b.drop at_ = (idOf (takeL b at_ e 32)).1 ++ b.drop (takeAt b at_ e 32) ∧ takeAt b at_ e 32 ≤ b.length := by
  obtain ⟨h1, _, h3, h4, h5⟩ := take_back h hl
  refine ⟨h1, ?_, h4⟩
  rw [idOf, dif_pos (by omega)]
  exact h3
end
end Go.Proofs.Ytppmolneklidfaa
