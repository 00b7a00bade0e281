/-
  Plain: slices.SortStableFunc's merge (symMerge, rotate) on rows told by a function. No statement of the seat is proved here.
-/
import Derived.KernelRfl
namespace Go.Proofs.YtmlmbkelpjmafaaGreat
section
variable {α : Type}
/-- k elements from x on change places with those from y on. -/
def swapR (f : Nat → α) (x y k : Nat) (t : Nat) : α := if x ≤ t ∧ t < x + k then f (t - x + y) else if y ≤ t ∧ t < y + k then f (t - y + x) else f t
/-- The blocks from a to m and from m to b change places. -/
def rotF (f : Nat → α) (a m b : Nat) (t : Nat) : α := if a ≤ t ∧ t < a + (b - m) then f (t - a + m) else if a + (b - m) ≤ t ∧ t < b then f (t - (b - m)) else f t
theorem rot_left (f : Nat → α) {m i j : Nat} (hi : i ≤ m) (hj : 0 < j) (h : j < i) : rotF (swapR f (m - i) m j) (m - (i - j)) m (m + j) = rotF f (m - i) m (m + j) := by
  funext t
  unfold rotF swapR
  have e : m + j - m = j := by omega
  rw [e]
  repeat' split
  all_goals first | rfl | (exfalso; omega) | (congr 1; omega)
theorem rot_right (f : Nat → α) {m i j : Nat} (hi : i ≤ m) (h0 : 0 < i) (h : i < j) : rotF (swapR f (m - i) (m + j - i) i) (m - i) m (m + (j - i)) = rotF f (m - i) m (m + j) := by
  funext t
  unfold rotF swapR
  have e : m + j - m = j := by omega
  have e' : m + (j - i) - m = j - i := by omega
  rw [e, e']
  repeat' split
  all_goals first | rfl | (exfalso; omega) | (congr 1; omega)
theorem rot_last (f : Nat → α) {m i : Nat} (hi : i ≤ m) : swapR f (m - i) m i = rotF f (m - i) m (m + i) := by
  funext t
  unfold rotF swapR
  have e : m + i - m = i := by omega
  rw [e]
  repeat' split
  all_goals first | rfl | (exfalso; omega) | (congr 1; omega)
/-- The elements from a to b, as a list. -/
def rowF (f : Nat → α) (a b : Nat) : List α := (List.range' a (b - a)).map f
theorem rowF_app (f : Nat → α) {a m b : Nat} (h1 : a ≤ m) (h2 : m ≤ b) : rowF f a b = rowF f a m ++ rowF f m b := by
  obtain ⟨u, rfl⟩ : ∃ u, m = a + u := ⟨m - a, by omega⟩
  obtain ⟨v, rfl⟩ : ∃ v, b = a + u + v := ⟨b - (a + u), by omega⟩
  unfold rowF
  rw [← List.map_append, show a + u - a = u by omega, show a + u + v - (a + u) = v by omega, show a + u + v - a = u + v by omega, List.range'_append_1]
theorem rowF_congr {f g : Nat → α} {a b : Nat} (h : ∀ t, a ≤ t → t < b → f t = g t) : rowF f a b = rowF g a b := by
  unfold rowF
  refine List.map_congr_left fun t ht => ?_
  have := List.mem_range'_1.1 ht
  exact h t this.1 (by omega)
theorem rowF_shift {f g : Nat → α} {a b k : Nat} (h : ∀ t, t < k → f (a + t) = g (b + t)) : rowF f a (a + k) = rowF g b (b + k) := by
  unfold rowF
  rw [show a + k - a = k by omega, show b + k - b = k by omega, List.range'_eq_map_range, List.range'_eq_map_range, List.map_map, List.map_map]
  exact List.map_congr_left fun t ht => h t (List.mem_range.1 ht)
/-- Rotated, the row has the same elements. -/
theorem rot_perm (f : Nat → α) {a m b : Nat} (h1 : a ≤ m) (h2 : m ≤ b) : (rowF (rotF f a m b) a b).Perm (rowF f a b) := by
  have e1 : rowF (rotF f a m b) a (a + (b - m)) = rowF f m (m + (b - m)) := rowF_shift fun t ht => by
    unfold rotF
    rw [if_pos (by omega)]
    congr 1; omega
  have e2 : rowF (rotF f a m b) (a + (b - m)) (a + (b - m) + (m - a)) = rowF f a (a + (m - a)) := rowF_shift fun t ht => by
    unfold rotF
    rw [if_neg (by omega), if_pos (by omega)]
    congr 1; omega
  rw [show m + (b - m) = b by omega] at e1
  rw [show a + (b - m) + (m - a) = b by omega, show a + (m - a) = m by omega] at e2
  rw [rowF_app (rotF f a m b) (m := a + (b - m)) (by omega) (by omega), e1, e2, rowF_app f h1 h2]
  exact List.perm_append_comm
variable (lt : α → α → Prop)
/-- Rising from a to b. -/
def UpF (f : Nat → α) (a b : Nat) : Prop := ∀ i j, a ≤ i → i < j → j < b → lt (f i) (f j)
/-- What a merge leaves: the same elements, rising, all else as it was. -/
structure Merged (f g : Nat → α) (a b : Nat) : Prop where
  up : UpF lt g a b
  perm : (rowF g a b).Perm (rowF f a b)
  out : ∀ t, t < a ∨ b ≤ t → g t = f t
theorem UpF.split {f : Nat → α} {a m b : Nat} (h1 : UpF lt f a m) (h2 : UpF lt f m b) (h3 : ∀ i j, a ≤ i → i < m → m ≤ j → j < b → lt (f i) (f j)) : UpF lt f a b := fun i j hi hij hj => by
  rcases Nat.lt_or_ge j m with q | q
  · exact h1 i j hi hij q
  · rcases Nat.lt_or_ge i m with r | r
    · exact h3 i j hi r q hj
    · exact h2 i j r hij hj
theorem mem_rowF {f : Nat → α} {a b : Nat} {x : α} : x ∈ rowF f a b ↔ ∃ t, a ≤ t ∧ t < b ∧ f t = x := by
  unfold rowF
  rw [List.mem_map]
  constructor
  · rintro ⟨t, ht, rfl⟩
    have := List.mem_range'_1.1 ht
    exact ⟨t, this.1, by omega, rfl⟩
  · rintro ⟨t, h1, h2, rfl⟩
    exact ⟨t, List.mem_range'_1.2 ⟨h1, by omega⟩, rfl⟩
/-- Two halves, each merged, the left one's elements below the right one's: the whole is merged. -/
theorem Merged.halves {f g h k : Nat → α} {a d b : Nat} (had : a ≤ d) (hdb : d ≤ b) (hp : (rowF g a b).Perm (rowF f a b)) (ho : ∀ t, t < a ∨ b ≤ t → g t = f t) (hx : ∀ i j, a ≤ i → i < d → d ≤ j → j < b → lt (g i) (g j))
    (m1 : Merged lt g h a d) (m2 : Merged lt h k d b) : Merged lt f k a b := by
  have e1 : rowF k a d = rowF h a d := rowF_congr fun t _ ht => m2.out t (.inl ht)
  have e2 : rowF h d b = rowF g d b := rowF_congr fun t ht _ => m1.out t (.inr ht)
  refine ⟨UpF.split lt (m := d) (fun i j h1 h2 h3 => ?_) m2.up (fun i j h1 h2 h3 h4 => ?_), ?_, fun t ht => ?_⟩
  · rw [m2.out i (.inl (by omega)), m2.out j (.inl h3)]
    exact m1.up i j h1 h2 h3
  · have q1 : k i ∈ rowF g a d := (m1.perm.mem_iff).1 (e1 ▸ mem_rowF.2 ⟨i, h1, h2, rfl⟩)
    have q2 : k j ∈ rowF g d b := e2 ▸ (m2.perm.mem_iff).1 (mem_rowF.2 ⟨j, h3, h4, rfl⟩)
    obtain ⟨x, x1, x2, x3⟩ := mem_rowF.1 q1
    obtain ⟨y, y1, y2, y3⟩ := mem_rowF.1 q2
    rw [← x3, ← y3]
    exact hx x y x1 x2 y1 y2
  · rw [rowF_app k had hdb, e1]
    refine (m1.perm.append (m2.perm.trans (by rw [e2]))).trans ?_
    rw [← rowF_app g had hdb]
    exact hp
  · rw [m2.out t (by omega), m1.out t (by omega)]
    exact ho t ht
theorem rotF_none (f : Nat → α) {a m b : Nat} (h : m = a ∨ b = m) : rotF f a m b = f := by
  funext t
  unfold rotF
  repeat' split
  all_goals first | rfl | (exfalso; omega) | (congr 1; omega)
theorem rotF_out (f : Nat → α) {a m b t : Nat} (h1 : a ≤ m) (h2 : m ≤ b) (h : t < a ∨ b ≤ t) : rotF f a m b t = f t := by
  unfold rotF
  rw [if_neg (by omega), if_neg (by omega)]
theorem rotF_fst (f : Nat → α) {a m b t : Nat} (h1 : a ≤ t) (h2 : t < a + (b - m)) : rotF f a m b t = f (t - a + m) := by
  unfold rotF
  rw [if_pos ⟨h1, h2⟩]
theorem rotF_snd (f : Nat → α) {a m b t : Nat} (h1 : a + (b - m) ≤ t) (h2 : t < b) : rotF f a m b t = f (t - (b - m)) := by
  unfold rotF
  rw [if_neg (by omega), if_pos ⟨h1, h2⟩]
/-- One element goes up, one place at a time; down likewise. -/
theorem ins_up (f : Nat → α) {a k : Nat} (h : a ≤ k) : swapR (rotF f a (a + 1) (k + 1)) k (k + 1) 1 = rotF f a (a + 1) (k + 2) := by
  funext t
  unfold swapR rotF
  repeat' split
  all_goals first | rfl | (exfalso; omega) | (congr 1; omega)
theorem ins_down (f : Nat → α) {k m : Nat} (h0 : 0 < k) (h : k ≤ m) : swapR (rotF f k m (m + 1)) (k - 1) k 1 = rotF f (k - 1) m (m + 1) := by
  funext t
  unfold swapR rotF
  repeat' split
  all_goals first | rfl | (exfalso; omega) | (congr 1; omega)
variable {lt}
theorem Merged.refl {f : Nat → α} {a b : Nat} (h : UpF lt f a b) : Merged lt f f a b := ⟨h, List.Perm.refl _, fun _ _ => rfl⟩
/-- A part of the row has the same elements: so has the row. -/
theorem part_perm {f g : Nat → α} {a x y b : Nat} (h1 : a ≤ x) (h2 : x ≤ y) (h3 : y ≤ b) (hp : (rowF g x y).Perm (rowF f x y)) (ho : ∀ t, t < x ∨ y ≤ t → g t = f t) : (rowF g a b).Perm (rowF f a b) := by
  rw [rowF_app g (m := x) h1 (by omega), rowF_app g (a := x) (m := y) h2 h3, rowF_app f (m := x) h1 (by omega), rowF_app f (a := x) (m := y) h2 h3, rowF_congr (f := g) (g := f) (a := a) (b := x) (fun t _ h => ho t (.inl h)), rowF_congr (f := g) (g := f) (a := y) (b := b) (fun t h _ => ho t (.inr h))]
  exact (List.Perm.refl _).append (hp.append (List.Perm.refl _))
variable (htr : ∀ x y z, lt x y → lt y z → lt x z)
include htr
/-- The first element, put where it belongs among the others. -/
theorem ins_first {f : Nat → α} {a b i : Nat} (_ : a + 1 ≤ b) (hu : UpF lt f (a + 1) b) (h1 : a + 1 ≤ i) (h2 : i ≤ b) (hl : i = a + 1 ∨ lt (f (i - 1)) (f a)) (hr : i = b ∨ lt (f a) (f i)) : Merged lt f (rotF f a (a + 1) i) a b := by
  have key : ∀ t, a + 1 ≤ t → t < i → lt (f t) (f a) := fun t h3 h4 => by
    rcases hl with hl | hl
    · omega
    · rcases Nat.lt_or_ge t (i - 1) with q | q
      · exact htr _ _ _ (hu t (i - 1) h3 q (by omega)) hl
      · rw [show t = i - 1 by omega]; exact hl
  have key2 : ∀ t, i ≤ t → t < b → lt (f a) (f t) := fun t h3 h4 => by
    rcases hr with hr | hr
    · omega
    · rcases Nat.lt_or_ge i t with q | q
      · exact htr _ _ _ hr (hu i t (by omega) q h4)
      · rw [show t = i by omega]; exact hr
  refine ⟨fun x y hx hxy hy => ?_, part_perm (Nat.le_refl _) (by omega) h2 (rot_perm f (by omega) h1) (fun t ht => rotF_out f (by omega) h1 ht), fun t ht => rotF_out f (by omega) h1 (by omega)⟩
  rcases Nat.lt_or_ge y (i - 1) with q | q
  · rw [rotF_fst f hx (by omega), rotF_fst f (by omega) (by omega)]
    exact hu _ _ (by omega) (by omega) (by omega)
  · rcases Nat.lt_or_ge y i with r | r
    · rw [rotF_snd f (t := y) (by omega) r, rotF_fst f hx (by omega), show y - (i - (a + 1)) = a by omega]
      exact key _ (by omega) (by omega)
    · rw [rotF_out f (t := y) (by omega) h1 (.inr r)]
      rcases Nat.lt_or_ge x (i - 1) with u | u
      · rw [rotF_fst f hx (by omega)]
        exact hu _ _ (by omega) (by omega) hy
      · rcases Nat.lt_or_ge x i with v | v
        · rw [rotF_snd f (t := x) (by omega) v, show x - (i - (a + 1)) = a by omega]
          exact key2 y r hy
        · rw [rotF_out f (t := x) (by omega) h1 (.inr v)]
          exact hu _ _ (by omega) hxy hy
/-- The last element, put where it belongs among the others. -/
theorem ins_last {f : Nat → α} {a m i : Nat} (hu : UpF lt f a m) (h1 : a ≤ i) (h2 : i ≤ m) (hl : i = a ∨ lt (f (i - 1)) (f m)) (hr : i = m ∨ lt (f m) (f i)) : Merged lt f (rotF f i m (m + 1)) a (m + 1) := by
  have key : ∀ t, a ≤ t → t < i → lt (f t) (f m) := fun t h3 h4 => by
    rcases hl with hl | hl
    · omega
    · rcases Nat.lt_or_ge t (i - 1) with q | q
      · exact htr _ _ _ (hu t (i - 1) h3 q (by omega)) hl
      · rw [show t = i - 1 by omega]; exact hl
  have key2 : ∀ t, i ≤ t → t < m → lt (f m) (f t) := fun t h3 h4 => by
    rcases hr with hr | hr
    · omega
    · rcases Nat.lt_or_ge i t with q | q
      · exact htr _ _ _ hr (hu i t (by omega) q h4)
      · rw [show t = i by omega]; exact hr
  refine ⟨fun x y hx hxy hy => ?_, part_perm h1 (by omega) (Nat.le_refl _) (rot_perm f h2 (by omega)) (fun t ht => rotF_out f h2 (by omega) ht), fun t ht => rotF_out f h2 (by omega) (by omega)⟩
  rcases Nat.lt_or_ge y i with q | q
  · rw [rotF_out f (t := x) h2 (by omega) (.inl (by omega)), rotF_out f (t := y) h2 (by omega) (.inl q)]
    exact hu x y hx hxy (by omega)
  · rcases Nat.lt_or_ge y (i + 1) with r | r
    · rw [rotF_out f (t := x) h2 (by omega) (.inl (by omega)), rotF_fst f (t := y) q (by omega), show y - i + m = m by omega]
      exact key x hx (by omega)
    · rw [rotF_snd f (t := y) (by omega) hy]
      rcases Nat.lt_or_ge x i with u | u
      · rw [rotF_out f (t := x) h2 (by omega) (.inl u)]
        exact hu _ _ hx (by omega) (by omega)
      · rcases Nat.lt_or_ge x (i + 1) with v | v
        · rw [rotF_fst f (t := x) u (by omega), show x - i + m = m by omega]
          exact key2 _ (by omega) (by omega)
        · rw [rotF_snd f (t := x) (by omega) (by omega)]
          exact hu _ _ (by omega) (by omega) (by omega)
/-- What the rotation leaves: four rising pieces, the left half below the right one. -/
theorem sym_cut {f : Nat → α} {a m b d s : Nat} (hd : d = (a + b) / 2) (ham : a < m) (hmb : m < b) (hu : UpF lt f a m) (hv : UpF lt f m b)
    (h1 : (if d < m then d + m - b else a) ≤ s) (h2 : s ≤ (if d < m then d else m))
    (hl : s = (if d < m then d + m - b else a) ∨ lt (f (s - 1)) (f (d + m - s))) (hr : s = (if d < m then d else m) ∨ lt (f (d + m - s - 1)) (f s)) :
    (a ≤ s ∧ s ≤ d ∧ d ≤ d + m - s ∧ d + m - s ≤ b ∧ s ≤ m ∧ m ≤ d + m - s) ∧ UpF lt (rotF f s m (d + m - s)) a s ∧ UpF lt (rotF f s m (d + m - s)) s d ∧ UpF lt (rotF f s m (d + m - s)) d (d + m - s) ∧ UpF lt (rotF f s m (d + m - s)) (d + m - s) b ∧
    (∀ i j, a ≤ i → i < d → d ≤ j → j < b → lt (rotF f s m (d + m - s) i) (rotF f s m (d + m - s) j)) ∧ (rowF (rotF f s m (d + m - s)) a b).Perm (rowF f a b) ∧ (∀ t, t < a ∨ b ≤ t → rotF f s m (d + m - s) t = f t) := by
  have hb : a ≤ s ∧ s ≤ d ∧ d ≤ d + m - s ∧ d + m - s ≤ b ∧ s ≤ m ∧ m ≤ d + m - s := by split at h1 <;> split at h2 <;> omega
  have key : ∀ c y, a ≤ c → c < s → d + m - s ≤ y → y < b → lt (f c) (f y) := fun c y h3 h4 h5 h6 => by
    rcases hl with hl | hl
    · split at hl <;> omega
    · have e1 : lt (f c) (f (d + m - s)) := by
        rcases Nat.lt_or_ge c (s - 1) with q | q
        · exact htr _ _ _ (hu c (s - 1) h3 q (by omega)) hl
        · rw [show c = s - 1 by omega]; exact hl
      rcases Nat.lt_or_ge (d + m - s) y with q | q
      · exact htr _ _ _ e1 (hv _ _ (by omega) q h6)
      · rw [show y = d + m - s by omega]; exact e1
  have key2 : ∀ c y, m ≤ c → c < d + m - s → s ≤ y → y < m → lt (f c) (f y) := fun c y h3 h4 h5 h6 => by
    rcases hr with hr | hr
    · split at hr <;> omega
    · have e1 : lt (f c) (f s) := by
        rcases Nat.lt_or_ge c (d + m - s - 1) with q | q
        · exact htr _ _ _ (hv c _ h3 q (by omega)) hr
        · rw [show c = d + m - s - 1 by omega]; exact hr
      rcases Nat.lt_or_ge s y with q | q
      · exact htr _ _ _ e1 (hu _ _ (by omega) q h6)
      · rw [show y = s by omega]; exact e1
  obtain ⟨b1, b2, b3, b4, b5, b6⟩ := hb
  refine ⟨⟨b1, b2, b3, b4, b5, b6⟩, fun x y hx hxy hy => ?_, fun x y hx hxy hy => ?_, fun x y hx hxy hy => ?_, fun x y hx hxy hy => ?_, fun x y hx hx2 hy hy2 => ?_, part_perm b1 (by omega) b4 (rot_perm f b5 b6) (fun t ht => rotF_out f b5 b6 ht), fun t ht => rotF_out f b5 b6 (by omega)⟩
  · rw [rotF_out f b5 b6 (.inl (by omega)), rotF_out f b5 b6 (.inl (by omega))]
    exact hu x y hx hxy (by omega)
  · rw [rotF_fst f hx (by omega), rotF_fst f (by omega) (by omega)]
    exact hv _ _ (by omega) (by omega) (by omega)
  · rw [rotF_snd f (by omega) (by omega), rotF_snd f (by omega) hy]
    exact hu _ _ (by omega) (by omega) (by omega)
  · rw [rotF_out f b5 b6 (.inr hx), rotF_out f b5 b6 (.inr (by omega))]
    exact hv x y (by omega) hxy hy
  · rcases Nat.lt_or_ge x s with q | q
    · rw [rotF_out f (t := x) b5 b6 (.inl q)]
      rcases Nat.lt_or_ge y (d + m - s) with r | r
      · rw [rotF_snd f (by omega) r]
        exact hu _ _ hx (by omega) (by omega)
      · rw [rotF_out f (t := y) b5 b6 (.inr r)]
        exact key x y hx q r hy2
    · rw [rotF_fst f (t := x) q (by omega)]
      rcases Nat.lt_or_ge y (d + m - s) with r | r
      · rw [rotF_snd f (by omega) r]
        exact key2 _ _ (by omega) (by omega) (by omega) (by omega)
      · rw [rotF_out f (t := y) b5 b6 (.inr r)]
        exact hv _ _ (by omega) (by omega) hy2
end
end Go.Proofs.YtmlmbkelpjmafaaGreat
