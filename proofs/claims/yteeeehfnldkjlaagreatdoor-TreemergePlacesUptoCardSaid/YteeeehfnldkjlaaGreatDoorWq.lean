/-
 Plain: free paths, what stands below when a thing is moved. No statement of the seat is proved here.
-/
import Derived.Test.YteeeehfnldkjlaaGreatDoorTZ15
import Derived.Test.YteeeehfnldkjlaaGreatDoorTZ24
namespace Go.Proofs.YteeeehfnldkjlaaGreatDoor

theorem freeP_false (l : List FileD) (p : Pth) : freeP l false p = true ↔ p ∉ l.map (·.p) := by
 unfold freeP atN
 simp only [Bool.not_false, Bool.true_or, Bool.and_true, beq_iff_eq]
 rw [List.countP_eq_zero]
 simp only [beq_iff_eq, List.mem_map, not_exists, not_and]
theorem sortF_rise {l : List FileD} (h : Apt l) : RiseP ((sortF l).map (·.p)) := by
 have h1 := sortBy_sorted (pth_ord (fun f : FileD => f.p)) l
 have h2 := sortF_apt h
 unfold SortedP at h1
 unfold RiseP
 unfold Apt at h2
 rw [List.pairwise_map]
 rw [List.nodup_iff_pairwise_ne, List.pairwise_map] at h2
 refine List.Pairwise.imp₂ (fun a b q1 q2 => ?_) h1 h2
 simp only [decide_eq_false_iff_not] at q1
 rcases pth_tri a.p b.p with q | q | q
 · exact q
 · exact absurd q q2
 · exact absurd q q1
theorem dirs_tilde : ∀ (p cur : Pth), dirsFrom cur (p ++ [126]) = dirsFrom cur p
 | [], cur => by simp [dirsFrom]
 | x :: p, cur => by
  show dirsFrom cur (x :: (p ++ [126])) = _
  unfold dirsFrom
  rw [dirs_tilde p]
theorem dirs_next (l : List FileD) (b : Bool) : ∀ (n : Nat) (p : Pth), dirsP (nextP l b n p) = dirsP p
 | 0, p => dirs_tilde p []
 | n + 1, p => by
  rw [nextP]
  split
  · exact dirs_tilde p []
  · rw [dirs_next l b n]; exact dirs_tilde p []
theorem belowN_move {l : List FileD} {i : Nat} {f : FileD} (h : l[i]? = some f) (b : Bool) (p : Pth) : belowN (moveP l i (nextF l b f.p)) p = belowN l p := by
 have := beG_move h (nextF l b f.p) p
 unfold nextF at this
 rw [dirs_next] at this
 unfold beG at this
 unfold nextF
 omega
end Go.Proofs.YteeeehfnldkjlaaGreatDoor
