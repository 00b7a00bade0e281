/- Plain: what the merger gathers, put together file by file; where neither side has pairs. No statement of the seat is proved here. -/
import Derived.Test.YtbaapjlmpmpocaaGreatDoorDT17
namespace Go.Proofs.YtbaapjlmpmpocaaGreatDoor
def ThOk (l : List FileD) : Prop := ∀ f ∈ l, f.p ≠ []
theorem path_ne {f : FileD} (h : fileE f = 0) : f.p ≠ [] := by
 intro e
 have := (fileE_kind h).2.2.2 [] (by rw [e]; simp [nmP, nmFrom])
 simp [nameOk] at this
theorem TreeOk.ne {l : List FileD} (h : TreeOk l) : ThOk l := fun f hf => path_ne (h.file f hf)
end Go.Proofs.YtbaapjlmpmpocaaGreatDoor
namespace Go.Proofs.YtbaapjlmpmpocaaGreatDoor
def m0 : MSt := ⟨[], [], 0⟩
end Go.Proofs.YtbaapjlmpmpocaaGreatDoor
