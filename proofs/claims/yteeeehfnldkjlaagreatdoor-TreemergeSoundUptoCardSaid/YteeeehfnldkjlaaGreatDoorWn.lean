/-
  Plain: how many files a merge has. No statement of the seat is proved here.
-/
import Derived.Test.YteeeehfnldkjlaaGreatDoorTZ24
namespace Go.Proofs.YteeeehfnldkjlaaGreatDoor

theorem gather_len {base ours theirs : List FileD} (hb : checkT base = 0) (ho : checkT ours = 0) (ht : checkT theirs = 0) : MLen 328 (2 * base.length + (ours.length + theirs.length)) (gatherP base ours theirs) := by
  have h1 := base_mlen hb ho ht base.length (Nat.le_refl _)
  rw [List.take_length] at h1
  unfold gatherP
  simp only
  have key : ∀ (ks : List Pth) (n : Nat) (s : MSt), (∀ p ∈ ks, p.length ≤ 328) → MLen 328 n s → MLen 328 (n + ks.length) (ks.foldl (MSt.fresh1 base (sideP base ours) (sideP base theirs)) s) := by
    intro ks
    induction ks with
    | nil => exact fun n s _ h => h
    | cons p ks ih =>
      intro n s hp h
      rw [List.foldl_cons, List.length_cons]
      exact (ih _ _ (fun q hq => hp q (List.mem_cons_of_mem _ hq)) (h.fresh1 (hp p (List.mem_cons_self ..)) _ (fun p => Nat.le_trans (tree_data ho p) (by omega)) (fun p => Nat.le_trans (tree_data ht p) (by omega)))).more (by omega)
  have hk : ∀ p ∈ keysP (ours.map (·.p) ++ theirs.map (·.p)), p.length ≤ 328 := fun p hp => by
    rw [mem_keysP, List.mem_append, List.mem_map, List.mem_map] at hp
    rcases hp with ⟨f, hf, rfl⟩ | ⟨f, hf, rfl⟩
    · exact tree_paths ho f hf
    · exact tree_paths ht f hf
  have hl := keysP_len (ours.map (·.p) ++ theirs.map (·.p))
  rw [List.length_append, List.length_map, List.length_map] at hl
  exact (key _ _ _ hk h1).more (by omega)
/-- A merge of small trees is small. -/
theorem merge_size {base ours theirs x : List FileD} {v : List ClashD} (h : treemergeP base ours theirs = .ok (x, v)) : x.length ≤ 2 * base.length + (ours.length + theirs.length) := by
  unfold treemergeP at h
  split at h
  · cases h
  · rename_i hb
    split at h
    · cases h
    · rename_i ho
      split at h
      · cases h
      · rename_i ht
        simp only at h
        have hb := Decidable.not_not.1 hb
        have ho := Decidable.not_not.1 ho
        have ht := Decidable.not_not.1 ht
        have hg := gather_len hb ho ht
        split at h
        · cases h
        · split at h
          · cases h
          · injection h with h
            injection h with h1 h2
            have hp := (places_asi (l := (gatherP base ours theirs).t) (c := (gatherP base ours theirs).c) hg.p fun x hx => hg.c x hx).1.len
            rw [← h1, sortF_len, hp]
            exact hg.len
end Go.Proofs.YteeeehfnldkjlaaGreatDoor
