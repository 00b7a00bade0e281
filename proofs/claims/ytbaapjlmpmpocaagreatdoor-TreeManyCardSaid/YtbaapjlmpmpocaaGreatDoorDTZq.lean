/- Contract of the merger's places. No statement of the seat is proved here. -/
import Derived.BigRegion
import Derived.Deep.CutBlock
import Derived.Test.YtbaapjlmpmpocaaGreatDoorDT30
import Derived.Test.YtbaapjlmpmpocaaGreatDoorDT21
import Derived.Test.YtbaapjlmpmpocaaGreatDoorDT31
import Derived.Test.YtbaapjlmpmpocaaGreatDoorDT29
namespace Go.Proofs.YtbaapjlmpmpocaaGreatDoor
open Go.RowKit Go.Maps
section
variable {w w' : World} {q b1 b2 N : Nat} {g1 g2 : Pth → Int}
end
theorem VM.frm {w w' : World} {z mb cb b n : Nat} {f : Mp} (hv : VM w b n f) (hk : Frm z mb cb w w') (hb : b ∉ [mb, cb]) : VM w' b n f := hv.keep hk fun t => by
 rcases t with t | ⟨_, e, _, cs, fz, hc⟩
 · exact hb t
 · obtain ⟨D, ⟨es, clock, q1, _⟩, _⟩ := hv
   rw [q1] at hc
   cases hc
attribute [local go_sem] run_store_strC
attribute [local go_sem ↓] ld_f
end Go.Proofs.YtbaapjlmpmpocaaGreatDoor
