/-
  A fact laid behind Hid, under a short name. No statement of the seat is proved here.
-/
import Derived.Lib.Hide
namespace Go.Proofs.YtmkmbbjgepcioaaGreatDoor
theorem zz {p:Prop} (h:p):RowKit.Hid p:=Lib.hid h
end Go.Proofs.YtmkmbbjgepcioaaGreatDoor
