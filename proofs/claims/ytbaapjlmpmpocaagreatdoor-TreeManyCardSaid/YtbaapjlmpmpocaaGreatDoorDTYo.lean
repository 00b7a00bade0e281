/- Contract of rename.Detect. No statement of the seat is proved here. -/
import Derived.Test.YtbaapjlmpmpocaaGreatDoorDT31
import Derived.Test.YtbaapjlmpmpocaaGreatDoorDT07
import Derived.Test.YtbaapjlmpmpocaaGreatDoorDT06
import Derived.Test.YtbaapjlmpmpocaaGreatDoorDTVl
import Derived.Test.YtbaapjlmpmpocaaGreatDoorDT18
namespace Go.Proofs.YtbaapjlmpmpocaaGreatDoor
open Go.RowKit Go.Maps
def LdCh (v : Value) : Sem Value := Instr.loadAt 41 v
theorem ld_ch (v : Value) : Instr.loadAt 41 v = LdCh v := rfl
theorem VM.kept {w w' : World} {b n base : Nat} {f : Mp} {E : List TypeId} (hv : VM w b n f) (hk : Kept base E [] w w') : VM w' b n f := hv.keep hk fun t => by
 rcases t with t | ⟨_, e, _, cs, fz, hc⟩
 · cases t
 · obtain ⟨D, ⟨es, clock, q1, _⟩, _⟩ := hv
   rw [q1] at hc
   cases hc
attribute [local go_sem ↓] ld_f ld_ch
end Go.Proofs.YtbaapjlmpmpocaaGreatDoor
