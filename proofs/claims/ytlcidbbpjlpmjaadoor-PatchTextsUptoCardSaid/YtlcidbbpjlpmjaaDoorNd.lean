/-
  Plain law: hunks of two texts are not great. No statement of the seat is proved here.
-/
import Derived.Test.YtlcidbbpjlpmjaaDoorQd2
namespace Go.Proofs.YtlcidbbpjlpmjaaDoor

/-- At most k edits, k rows of M lines; each line out of a or b. -/
def HkB (a b : List (List UInt8)) (M k : Nat) (h : HkD) : Prop := h.eds.length ≤ k ∧ h.ls.length ≤ k * M ∧ ∀ s ∈ h.ls, s ∈ a ∨ s ∈ b
theorem HkB.mono {a b : List (List UInt8)} {M k k' : Nat} {h : HkD} (x : HkB a b M k h) (hk : k ≤ k') : HkB a b M k' h :=
  ⟨Nat.le_trans x.1 hk, Nat.le_trans x.2.1 (Nat.mul_le_mul_right _ hk), x.2.2⟩
theorem HkB.put {a b : List (List UInt8)} {M k op : Nat} {h : HkD} {l : List (List UInt8)} (x : HkB a b M k h) (h1 : l.length ≤ M) (h2 : ∀ s ∈ l, s ∈ a ∨ s ∈ b) : HkB a b M (k + 1) (putH h op l) := by
  unfold putH
  split
  · exact x.mono (Nat.le_succ _)
  · obtain ⟨x1, x2, x3⟩ := x
    refine ⟨by simp; omega, by simp only [List.length_append]; rw [Nat.succ_mul]; omega, fun s hs => ?_⟩
    simp only [List.mem_append] at hs
    rcases hs with hs | hs
    · exact x3 s hs
    · exact h2 s hs
theorem HkB.putL {a b : List (List UInt8)} {M k op : Nat} {out : List HkD} {l : List (List UInt8)} (x : ∀ h ∈ out, HkB a b M k h) (h1 : l.length ≤ M) (h2 : ∀ s ∈ l, s ∈ a ∨ s ∈ b) : ∀ h ∈ putL out op l, HkB a b M (k + 1) h := by
  rcases List.eq_nil_or_concat out with rfl | ⟨r, e, rfl⟩
  · intro h hh; simp [Proofs.YtlcidbbpjlpmjaaDoor.putL] at hh
  · rw [List.concat_eq_append] at x ⊢
    rw [putL_snoc]
    intro h hh
    rw [List.mem_append, List.mem_singleton] at hh
    rcases hh with hh | rfl
    · exact (x h (by simp [hh])).mono (Nat.le_succ _)
    · exact (x e (by simp)).put h1 h2
theorem cut_in {a b : List (List UInt8)} {i n M : Nat} (h : a.length ≤ M) : ((a.drop i).take n).length ≤ M ∧ ∀ s ∈ (a.drop i).take n, s ∈ a ∨ s ∈ b :=
  ⟨by rw [List.length_take, List.length_drop]; omega, fun _ hs => .inl (List.mem_of_mem_drop (List.mem_of_mem_take hs))⟩
theorem cut_in' {a b : List (List UInt8)} {i n M : Nat} (h : b.length ≤ M) : ((b.drop i).take n).length ≤ M ∧ ∀ s ∈ (b.drop i).take n, s ∈ a ∨ s ∈ b :=
  ⟨by rw [List.length_take, List.length_drop]; omega, fun _ hs => .inr (List.mem_of_mem_drop (List.mem_of_mem_take hs))⟩
section
variable {a b : List (List UInt8)} {M : Nat} (ha : a.length ≤ M) (hb : b.length ≤ M) (ar : Nat)
theorem HkB.begin (ha : a.length ≤ M) (ar : Nat) {c : CutD} {k : Nat} (x : ∀ h ∈ c.out, HkB a b M k h) : ∀ h ∈ (beginP a ar c).out, HkB a b M (k + 1) h := by
  unfold beginP
  split
  · exact fun h hh => (x h hh).mono (Nat.le_succ _)
  · intro h hh
    simp only [List.mem_append, List.mem_singleton] at hh
    rcases hh with hh | rfl
    · exact (x h hh).mono (Nat.le_succ _)
    · have := cut_in (b := b) (i := c.i - min ar c.uns) (n := min ar c.uns) ha
      exact (HkB.put (k := 0) (h := ⟨c.i - min ar c.uns, c.j - min ar c.uns, [], []⟩) ⟨by simp, by simp, by simp⟩ this.1 this.2).mono (by omega)
include ha hb in
theorem HkB.edit {c : CutD} {e : EdD} {last : Bool} {k : Nat} (x : ∀ h ∈ c.out, HkB a b M k h) : ∀ h ∈ (editP a b ar c e last).out, HkB a b M (k + 2) h := by
  unfold editP
  split
  · split
    · have := cut_in (b := b) (i := c.i) (n := e.n) ha
      exact fun h hh => (HkB.putL x this.1 this.2 h hh).mono (by omega)
    · split
      · have := cut_in (b := b) (i := c.i) (n := min ar e.n) ha
        exact fun h hh => (HkB.putL x this.1 this.2 h hh).mono (by omega)
      · exact fun h hh => (x h hh).mono (by omega)
  · split
    · have := cut_in (b := b) (i := c.i) (n := e.n) ha
      exact HkB.putL (HkB.begin ha ar x) this.1 this.2
    · have := cut_in' (a := a) (i := c.j) (n := e.n) hb
      exact HkB.putL (HkB.begin ha ar x) this.1 this.2
include ha hb in
theorem HkB.edits : ∀ (l : List EdD) (c : CutD) (k : Nat), (∀ h ∈ c.out, HkB a b M k h) → ∀ h ∈ (editsP a b ar c l).out, HkB a b M (k + 2 * l.length) h
  | [], _, _, x => x
  | e :: l, c, k, x => by
    rw [editsP]
    intro h hh
    exact (HkB.edits l _ _ (HkB.edit ha hb ar x) h hh).mono (by simp; omega)
include ha hb in
theorem hunksP_small : ∀ h ∈ hunksP a b ar, HkB a b M (4 * M) h := by
  intro h hh
  have := HkB.edits ha hb ar (diffP a b) ⟨0, 0, [], false, 0⟩ 0 (by simp) h hh
  have hd := (diffP_of a b).2.2.2
  exact this.mono (by omega)
theorem editsP_len : ∀ (l : List EdD) (c : CutD), (editsP a b ar c l).out.length ≤ c.out.length + l.length
  | [], _ => by simp [editsP]
  | e :: l, c => by
    rw [editsP]
    have ih := editsP_len l (editP a b ar c e l.isEmpty)
    have hp : ∀ (o : List HkD) op x, (Proofs.YtlcidbbpjlpmjaaDoor.putL o op x).length = o.length := fun o op x => by
      rcases List.eq_nil_or_concat o with rfl | ⟨r, e, rfl⟩
      · rfl
      · rw [List.concat_eq_append, putL_snoc]; simp
    have hbg : (beginP a ar c).out.length ≤ c.out.length + 1 := by
      unfold beginP
      split
      · omega
      · simp
    have : (editP a b ar c e l.isEmpty).out.length ≤ c.out.length + 1 := by
      unfold editP
      split
      · split
        · simp only [hp]; omega
        · split
          · simp only [hp]; omega
          · simp
      · split
        · simp only [hp]; omega
        · simp only [hp]; omega
    rw [List.length_cons]
    omega
include ha hb in
theorem hunksP_len : (hunksP a b ar).length ≤ 2 * M := by
  have := editsP_len (a := a) (b := b) ar (diffP a b) ⟨0, 0, [], false, 0⟩
  have hd := (diffP_of a b).2.2.2
  unfold hunksP
  simp only [List.length_nil] at this
  omega
end
end Go.Proofs.YtlcidbbpjlpmjaaDoor
