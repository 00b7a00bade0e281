/-
  Contracts of pack's and delta's cursors: take, number. No statement of the seat is proved here.
-/
import Derived.Test.YtmlmbkelpjmafaaGreatKm
import Derived.Test.YtmlmbkelpjmafaaGreatPT04
import Derived.Test.YtmlmbkelpjmafaaGreatPT08
namespace Go.Proofs.YtmlmbkelpjmafaaGreat
open Go.RowKit Go.Shelf
theorem foldl_num (l : List UInt8) (a : Nat) : l.foldl (fun v x => v * 256 + x.toNat) a = a * 256 ^ l.length + num l := by
  induction l generalizing a with
  | nil => simp [num]
  | cons x l ih =>
    have h1 := ih (a * 256 + x.toNat)
    have h2 := ih (0 * 256 + x.toNat)
    have h3 : num (x :: l) = l.foldl (fun v x => v * 256 + x.toNat) (0 * 256 + x.toNat) := rfl
    rw [List.foldl_cons, h1, h3, h2, List.length_cons, Nat.pow_succ, Nat.add_mul, Nat.mul_assoc, Nat.mul_comm 256, Nat.zero_mul, Nat.zero_add]
    omega
theorem num_cons (x : UInt8) (l : List UInt8) : num (x :: l) = x.toNat * 256 ^ l.length + num l := by
  have h : num (x :: l) = l.foldl (fun v x => v * 256 + x.toNat) (0 * 256 + x.toNat) := rfl
  rw [h, foldl_num, Nat.zero_mul, Nat.zero_add]
theorem num_be (n v : Nat) : num (be n v) = v % 256 ^ n := by
  induction n with
  | zero => simp [be, num, Nat.mod_one]
  | succ n ih =>
    show num (UInt8.ofNat (v / 256 ^ n) :: be n v) = _
    rw [num_cons, ih, be_len, Nat.pow_succ, Nat.mod_mul, UInt8.toNat_ofNat', Nat.mul_comm, show (2 : Nat) ^ 8 = 256 from rfl]
    omega
theorem num_be_lt {n v : Nat} (h : v < 256 ^ n) : num (be n v) = v := by rw [num_be, Nat.mod_eq_of_lt h]
theorem drop4 (n : Nat) (l : List UInt8) : (be 4 n ++ l).drop 4 = l := by
  rw [List.drop_append_of_le_length (by rw [be_len]; exact Nat.le_refl _), List.drop_of_length_le (by rw [be_len]; exact Nat.le_refl _), List.nil_append]
theorem take4 (n : Nat) (l : List UInt8) (h : n < 4294967296) : num ((be 4 n ++ l).take 4) = n := by
  rw [List.take_append_of_le_length (by rw [be_len]; exact Nat.le_refl _), List.take_of_length_le (by rw [be_len]; exact Nat.le_refl _)]
  exact num_be_lt (by omega)
/-- A cursor that was not cut short: what is left to read. -/
def CurI (w : World) (B g : Nat) (t : TypeId) (A : Option Addr) (l : List UInt8) (c : Nat) : Prop := Blk w g t #[.slice A l.length c, .bool false] ∧ Reads w B 1 A l.length (l.map bv) ∧ l.length ≤ c ∧ c ≤ maxLen ∧ B ≤ g
theorem CurI.keepIn {w w' : World} {B g : Nat} {t : TypeId} {A : Option Addr} {l : List UInt8} {c : Nat} (h : CurI w B g t A l c) (hk : Below (g + 1) w w') : CurI w' B g t A l c :=
  ⟨h.1.below hk (Nat.lt_succ_self _), h.2.1.below (hk.mono (by have := h.2.2.2.2; omega)), h.2.2⟩
def PTakePost (k B g : Nat) (t : TypeId) (A : Option Addr) (l : List UInt8) (w : World) (e : Ending) (w' : World) : Prop := ∃ c1 A' c', e = .returned (.slice A k c1) ∧ k ≤ c1 ∧ c1 ≤ maxLen ∧ CurI w' B g t A' (l.drop k) c' ∧ Keep (Only g) w w'
def NumCPost (B g : Nat) (t : TypeId) (l : List UInt8) (w : World) (e : Ending) (w' : World) : Prop := ∃ A' c', e = .returned (.int .i64 (num (l.take 4))) ∧ CurI w' B g t A' (l.drop 4) c' ∧ Keep (Only g) w w'
set_option maxHeartbeats 4000000 in
set_option maxRecDepth 100000 in
theorem ptake_any (k B g : Nat) (A : Option Addr) (l : List UInt8) (c : Nat) (w : World) (h : CurI w B g 107 A l c) (hk : k ≤ l.length) (hl : l.length ≤ 1000000) :
    Calls Tryz.prog 43 #[.pointer (some ⟨g, 0, none⟩), .int .i64 k] w (PTakePost k B g 107 A l w) := by
  obtain ⟨h1, h2, h3, h4, h5⟩ := h
  have c0 := h1.cell 0
  have c1 := h1.cell 1
  have f0 := h1.frozen 0
  simp at c0 c1
  have H1 := Lib.hid h1
  have H2 := Lib.hid h2
  have z1 : (k : Int) ≤ (l.length : Int) := by omega
  have z2 : (k : Int) ≤ (c : Int) := by omega
  have z3 : ¬ (l.length : Int) < (k : Int) := by omega
  have z4 : ¬ (k : Int) < 0 := by omega
  have z5 : (l.length : Int) ≤ (c : Int) := by omega
  have hcut := h2.cut (k := k) (cap := c) hk h3
  simp only [Nat.mul_one] at hcut
  have HC := Lib.hid hcut
  have HZ := Lib.hid (And.intro h3 (And.intro h4 h5))
  clear h1 h2 hcut
  rcases Nat.lt_or_ge k c with hkc | hkc
  · have hne : ¬ c = k := by omega
    have hne2 : ¬ k = c := by omega
    go_enter Tryz.func43, Tryz.ntmps43
    go_wp2_with fail
    go_ret
    obtain ⟨q3, q4, q5⟩ := HZ.out
    have hb9 := H1.out.set_ 0 (.slice (A.map (fun x => x.add k)) (l.length - k) (c - k))
    refine ⟨c, A.map (fun x => x.add k), c - k, rfl, by omega, by unfold maxLen at *; omega, ⟨?_, ?_, by rw [List.length_drop]; omega, by omega, q5⟩, (Keep.refl (Only g) w).setCell (p := ⟨g, 0, none⟩) (.inl rfl) _⟩
    · rw [List.length_drop]
      simpa using hb9
    · have := HC.out
      rw [if_neg hne] at this
      rw [List.length_drop, List.map_drop]
      exact this.setCell q5 _
  · have hlc : l.length = k := by omega
    have hck : c = k := by omega
    subst hck
    rw [hlc] at c0
    have HL := Lib.hid hlc
    clear hlc
    go_enter Tryz.func43, Tryz.ntmps43
    go_wp2_with fail
    go_ret
    obtain ⟨q3, q4, q5⟩ := HZ.out
    have hb9 := H1.out.set_ 0 (.slice A 0 0)
    refine ⟨_, A, 0, rfl, by omega, by unfold maxLen at *; omega, ⟨?_, ?_, by rw [List.length_drop]; omega, by omega, q5⟩, (Keep.refl (Only g) w).setCell (p := ⟨g, 0, none⟩) (.inl rfl) _⟩
    · rw [List.length_drop]
      simpa [HL.out] using hb9
    · have := HC.out
      simp only [if_true] at this
      rw [List.length_drop, List.map_drop]
      exact this.setCell q5 _
set_option maxHeartbeats 4000000 in
set_option maxRecDepth 100000 in
theorem pnum_any (B g : Nat) (A : Option Addr) (l : List UInt8) (c : Nat) (w : World) (h : CurI w B g 107 A l c) (hk : 4 ≤ l.length) (hl : l.length ≤ 1000000) (hB : B ≤ w.heap.size) :
    Calls Tryz.prog 44 #[.pointer (some ⟨g, 0, none⟩)] w (NumCPost B g 107 l w) := by
  have HT := Lib.hid (ptake_any 4 B g A l c w h hk hl)
  rw [show ((4 : Nat) : Int) = 4 from rfl] at HT
  have hr := h.2.1.front hk
  have hg := h.2.2.2.2
  rw [Nat.mul_one, ← List.map_take] at hr
  obtain ⟨b, hb⟩ : ∃ b, l.take 4 = b := ⟨_, rfl⟩
  rw [hb] at hr
  have hbl : b.length = 4 := by rw [← hb, List.length_take]; omega
  have HR := Lib.hid hr
  have HB := Lib.hid hb
  clear h hr hb
  go_enter Tryz.func44, Tryz.ntmps44
  go_wp2_with (go_at_call 43; (with_reducible refine HT.out.mono ?_); rintro _ w1 ⟨c1, A', c', rfl, hc1, hc2, hcu, hk1⟩; have HCU := Lib.hid hcu; have HK := Lib.hid hk1; clear hcu hk1)
  have hr1 := HR.out.kept HK.out hB (fun i hi q => by unfold Only at q; omega)
  go_loop [3, 9] (fun v i => ∃ k : Nat, k ≤ 4 ∧ i = .int .i64 k ∧ v = .int .i64 (num (b.take k))) (fun _ i => 4 - (intOf i).toNat)
  case atStart => exact ⟨0, Nat.zero_le _, rfl, rfl⟩
  case round =>
    obtain ⟨k, hk', rfl, rfl⟩ := hrel
    by_cases hlt : k < 4
    · have hlk : k < b.length := by omega
      obtain ⟨ad, u, rfl, _, hx, hc⟩ := hr1.at_ hlt
      have hu : u = bv b[k] := by simpa [hlk] using hx.symm
      subst hu
      unfold bv at hc
      have hv := num_lt7 (b.take k) (by simp; omega)
      have hor := or_byte_i (num (b.take k)) b[k] (by omega)
      have hs : num (b.take (k + 1)) = num (b.take k) * 256 + b[k].toNat := by rw [List.take_succ_eq_append_getElem (by omega), num_snoc]
      rw [← hs] at hor
      have hv2 := num_lt8 (b.take (k + 1)) (by simp; omega)
      generalize num (b.take k) = v at *
      have hx0 := b[k].toNat_lt
      generalize b[k].toNat = x at *
      have HS := Lib.hid hs
      clear hs hx
      go_wp2
      go_round
      case rel => exact ⟨k + 1, by omega, by go_num, rfl⟩
      case measure => simp [intOf]; omega
    · obtain rfl : k = 4 := by omega
      clear hlt
      go_wp2_with fail
      go_ret
      refine ⟨A', c', ?_, HCU.out, HK.out⟩
      rw [HB.out, List.take_of_length_le (by omega)]
      rfl
theorem pbe_any (B g m : Nat) (A : Option Addr) (l : List UInt8) (c : Nat) (w : World) (h : CurI w B g 107 A (be 4 m ++ l) c) (hm : m < 4294967296) (hl : l.length ≤ 900000) (hB : B ≤ w.heap.size) :
    Calls Tryz.prog 44 #[.pointer (some ⟨g, 0, none⟩)] w fun e w' => ∃ A' c', e = .returned (.int .i64 (m : Int)) ∧ CurI w' B g 107 A' l c' ∧ Keep (Only g) w w' := by
  refine (pnum_any B g A _ c w h (by simp [be_len]) (by simp [be_len]; omega) hB).mono ?_
  rintro e w' ⟨A', c', rfl, h2, h3⟩
  rw [drop4] at h2
  exact ⟨A', c', by rw [take4 m l hm], h2, h3⟩
theorem pone_any (B g : Nat) (x : UInt8) (A : Option Addr) (l : List UInt8) (c : Nat) (w : World) (h : CurI w B g 107 A (x :: l) c) (hl : l.length ≤ 900000) (hB : B ≤ w.heap.size) :
    Calls Tryz.prog 43 #[.pointer (some ⟨g, 0, none⟩), .int .i64 1] w fun e w' => ∃ ad c1 A' c', e = .returned (.slice (some ad) 1 c1) ∧ w'.cell? ad = some (.int .u8 (x.toNat : Int)) ∧ (1 ≤ c1 ∧ c1 ≤ maxLen ∧ Reads w' B 1 (some ad) 1 [bv x]) ∧ CurI w' B g 107 A' l c' ∧ Keep (Only g) w w' := by
  have hr := h.2.1.front (k := 1) (by simp)
  have hg := h.2.2.2.2
  obtain ⟨ad, rfl, _, _⟩ := hr.2 (by omega)
  refine (ptake_any 1 B g _ _ c w h (by simp) (by simp; omega)).mono ?_
  rintro e w' ⟨c1, A', c', rfl, h1, h2, h3, h4⟩
  have hr' : Reads w' B 1 (some ad) 1 [bv x] := by simpa using hr.kept h4 hB (fun i hi q => by unfold Only at q; omega)
  refine ⟨ad, c1, A', c', rfl, ?_, ⟨h1, h2, hr'⟩, by simpa using h3, h4⟩
  obtain ⟨ad', e', _, hc⟩ := hr'.2 (by omega)
  injection e' with e'
  subst e'
  have := hc 0 _ rfl
  simpa [Addr.add, bv] using this
set_option maxHeartbeats 4000000 in
set_option maxRecDepth 100000 in
theorem dtake_any (k B g : Nat) (A : Option Addr) (l : List UInt8) (c : Nat) (w : World) (h : CurI w B g 153 A l c) (hk : k ≤ l.length) (hl : l.length ≤ 1000000) :
    Calls Tryz.prog 80 #[.pointer (some ⟨g, 0, none⟩), .int .i64 k] w (PTakePost k B g 153 A l w) := by
  obtain ⟨h1, h2, h3, h4, h5⟩ := h
  have c0 := h1.cell 0
  have c1 := h1.cell 1
  have f0 := h1.frozen 0
  simp at c0 c1
  have H1 := Lib.hid h1
  have H2 := Lib.hid h2
  have z1 : (k : Int) ≤ (l.length : Int) := by omega
  have z2 : (k : Int) ≤ (c : Int) := by omega
  have z3 : ¬ (l.length : Int) < (k : Int) := by omega
  have z4 : ¬ (k : Int) < 0 := by omega
  have z5 : (l.length : Int) ≤ (c : Int) := by omega
  have hcut := h2.cut (k := k) (cap := c) hk h3
  simp only [Nat.mul_one] at hcut
  have HC := Lib.hid hcut
  have HZ := Lib.hid (And.intro h3 (And.intro h4 h5))
  clear h1 h2 hcut
  rcases Nat.lt_or_ge k c with hkc | hkc
  · have hne : ¬ c = k := by omega
    have hne2 : ¬ k = c := by omega
    go_enter Tryz.func80, Tryz.ntmps80
    go_wp2_with fail
    go_ret
    obtain ⟨q3, q4, q5⟩ := HZ.out
    have hb9 := H1.out.set_ 0 (.slice (A.map (fun x => x.add k)) (l.length - k) (c - k))
    refine ⟨k, A.map (fun x => x.add k), c - k, rfl, by omega, by unfold maxLen at *; omega, ⟨?_, ?_, by rw [List.length_drop]; omega, by omega, q5⟩, (Keep.refl (Only g) w).setCell (p := ⟨g, 0, none⟩) (.inl rfl) _⟩
    · rw [List.length_drop]
      simpa using hb9
    · have := HC.out
      rw [if_neg hne] at this
      rw [List.length_drop, List.map_drop]
      exact this.setCell q5 _
  · have hlc : l.length = k := by omega
    have hck : c = k := by omega
    subst hck
    rw [hlc] at c0
    have HL := Lib.hid hlc
    clear hlc
    go_enter Tryz.func80, Tryz.ntmps80
    go_wp2_with fail
    go_ret
    obtain ⟨q3, q4, q5⟩ := HZ.out
    have hb9 := H1.out.set_ 0 (.slice A 0 0)
    refine ⟨_, A, 0, rfl, by omega, by unfold maxLen at *; omega, ⟨?_, ?_, by rw [List.length_drop]; omega, by omega, q5⟩, (Keep.refl (Only g) w).setCell (p := ⟨g, 0, none⟩) (.inl rfl) _⟩
    · rw [List.length_drop]
      simpa [HL.out] using hb9
    · have := HC.out
      simp only [if_true] at this
      rw [List.length_drop, List.map_drop]
      exact this.setCell q5 _
set_option maxHeartbeats 4000000 in
set_option maxRecDepth 100000 in
theorem dnum_any (B g : Nat) (A : Option Addr) (l : List UInt8) (c : Nat) (w : World) (h : CurI w B g 153 A l c) (hk : 4 ≤ l.length) (hl : l.length ≤ 1000000) (hB : B ≤ w.heap.size) :
    Calls Tryz.prog 79 #[.pointer (some ⟨g, 0, none⟩)] w (NumCPost B g 153 l w) := by
  have HT := Lib.hid (dtake_any 4 B g A l c w h hk hl)
  rw [show ((4 : Nat) : Int) = 4 from rfl] at HT
  have hr := h.2.1.front hk
  have hg := h.2.2.2.2
  rw [Nat.mul_one, ← List.map_take] at hr
  obtain ⟨b, hb⟩ : ∃ b, l.take 4 = b := ⟨_, rfl⟩
  rw [hb] at hr
  have hbl : b.length = 4 := by rw [← hb, List.length_take]; omega
  have HR := Lib.hid hr
  have HB := Lib.hid hb
  clear h hr hb
  go_enter Tryz.func79, Tryz.ntmps79
  go_wp2_with (go_at_call 80; (with_reducible refine HT.out.mono ?_); rintro _ w1 ⟨c1, A', c', rfl, hc1, hc2, hcu, hk1⟩; have HCU := Lib.hid hcu; have HK := Lib.hid hk1; clear hcu hk1)
  have hr1 := HR.out.kept HK.out hB (fun i hi q => by unfold Only at q; omega)
  go_loop [3, 9] (fun v i => ∃ k : Nat, k ≤ 4 ∧ i = .int .i64 k ∧ v = .int .i64 (num (b.take k))) (fun _ i => 4 - (intOf i).toNat)
  case atStart => exact ⟨0, Nat.zero_le _, rfl, rfl⟩
  case round =>
    obtain ⟨k, hk', rfl, rfl⟩ := hrel
    by_cases hlt : k < 4
    · have hlk : k < b.length := by omega
      obtain ⟨ad, u, rfl, _, hx, hc⟩ := hr1.at_ hlt
      have hu : u = bv b[k] := by simpa [hlk] using hx.symm
      subst hu
      unfold bv at hc
      have hv := num_lt7 (b.take k) (by simp; omega)
      have hor := or_byte_i (num (b.take k)) b[k] (by omega)
      have hs : num (b.take (k + 1)) = num (b.take k) * 256 + b[k].toNat := by rw [List.take_succ_eq_append_getElem (by omega), num_snoc]
      rw [← hs] at hor
      have hv2 := num_lt8 (b.take (k + 1)) (by simp; omega)
      generalize num (b.take k) = v at *
      have hx0 := b[k].toNat_lt
      generalize b[k].toNat = x at *
      have HS := Lib.hid hs
      clear hs hx
      go_wp2
      go_round
      case rel => exact ⟨k + 1, by omega, by go_num, rfl⟩
      case measure => simp [intOf]; omega
    · obtain rfl : k = 4 := by omega
      clear hlt
      go_wp2_with fail
      go_ret
      refine ⟨A', c', ?_, HCU.out, HK.out⟩
      rw [HB.out, List.take_of_length_le (by omega)]
      rfl
theorem dbe_any (B g m : Nat) (A : Option Addr) (l : List UInt8) (c : Nat) (w : World) (h : CurI w B g 153 A (be 4 m ++ l) c) (hm : m < 4294967296) (hl : l.length ≤ 900000) (hB : B ≤ w.heap.size) :
    Calls Tryz.prog 79 #[.pointer (some ⟨g, 0, none⟩)] w fun e w' => ∃ A' c', e = .returned (.int .i64 (m : Int)) ∧ CurI w' B g 153 A' l c' ∧ Keep (Only g) w w' := by
  refine (dnum_any B g A _ c w h (by simp [be_len]) (by simp [be_len]; omega) hB).mono ?_
  rintro e w' ⟨A', c', rfl, h2, h3⟩
  rw [drop4] at h2
  exact ⟨A', c', by rw [take4 m l hm], h2, h3⟩
theorem done_any (B g : Nat) (x : UInt8) (A : Option Addr) (l : List UInt8) (c : Nat) (w : World) (h : CurI w B g 153 A (x :: l) c) (hl : l.length ≤ 900000) (hB : B ≤ w.heap.size) :
    Calls Tryz.prog 80 #[.pointer (some ⟨g, 0, none⟩), .int .i64 1] w fun e w' => ∃ ad c1 A' c', e = .returned (.slice (some ad) 1 c1) ∧ w'.cell? ad = some (.int .u8 (x.toNat : Int)) ∧ (1 ≤ c1 ∧ c1 ≤ maxLen ∧ Reads w' B 1 (some ad) 1 [bv x]) ∧ CurI w' B g 153 A' l c' ∧ Keep (Only g) w w' := by
  have hr := h.2.1.front (k := 1) (by simp)
  have hg := h.2.2.2.2
  obtain ⟨ad, rfl, _, _⟩ := hr.2 (by omega)
  refine (dtake_any 1 B g _ _ c w h (by simp) (by simp; omega)).mono ?_
  rintro e w' ⟨c1, A', c', rfl, h1, h2, h3, h4⟩
  have hr' : Reads w' B 1 (some ad) 1 [bv x] := by simpa using hr.kept h4 hB (fun i hi q => by unfold Only at q; omega)
  refine ⟨ad, c1, A', c', rfl, ?_, ⟨h1, h2, hr'⟩, by simpa using h3, h4⟩
  obtain ⟨ad', e', _, hc⟩ := hr'.2 (by omega)
  injection e' with e'
  subst e'
  have := hc 0 _ rfl
  simpa [Addr.add, bv] using this
end Go.Proofs.YtmlmbkelpjmafaaGreat
