/- Contract of treemerge.sides. No statement of the seat is proved here. -/
import Derived.Test.YtbaapjlmpmpocaaGreatDoorDT29
import Derived.Test.YtbaapjlmpmpocaaGreatDoorDTYo
import Derived.BigRegion
import Derived.BigQuiet
namespace Go.Proofs.YtbaapjlmpmpocaaGreatDoor
open Go.RowKit Go.Maps
structure SidesIn (base l : List FileD) : Prop where
 nb : base.length ≤ 1000
 nl : l.length ≤ 1000
 ab : Apt base
 al : Apt l
 fb : Fits base
 fl : Fits l
 kb : KindsOk base
 kl : KindsOk l
end Go.Proofs.YtbaapjlmpmpocaaGreatDoor
