/-
  The tables that the rows list, and the variable that the walks want. No statement of the seat is proved here.
-/
import Derived.Test.YteeeehfnldkjlaaGreatDoorGh
import Derived.Test.YteeeehfnldkjlaaGreatDoorRows
import Derived.Test.YteeeehfnldkjlaaGreatDoorTie
import Derived.Test.YteeeehfnldkjlaaGreatDoorCards
import Derived.LaidMore
import Derived.LaidSub
import Derived.Lay
import Derived.ProofKit
import Derived.OpenShut
import Derived.Deep.DeepHandedRow
namespace Go.Proofs.YteeeehfnldkjlaaGreatDoor
open Go.ChangeShapes Go.WideShapes Go.ChangeAt Go.RowKit
def laidM : List (String × DataW Unit) := [("unicode/utf8.acceptRanges", Rows.laid_unicode_utf8_acceptRanges), ("unicode/utf8.first", Rows.laid_unicode_utf8_first)]
theorem own : ownKnob Tryz.prog.godebug = none := by kernel_rfl
theorem laidOut : laidOutB Tryz.prog = true := by kernel_rfl
theorem varM_of {W : World} (hS : W.ShapedOpen Tryz.prog) : VarM W :=
  cell_of_shapedOpen_int (t := 3) (zero := #[.int .i64 0]) hS (g := 0) (of_decide_eq_true (by kernel_rfl)) (by kernel_rfl) rfl (by kernel_rfl) (by kernel_rfl) Tryz.underlying3
theorem laid_metM (os : Os) (args : Array Value) : laidMet Tryz.prog laidM ((World.laidAll Tryz.prog os laidM).forCall (fun _ _ => 0) ⟨#[], args, []⟩).memory :=
  laidMet_laidAll _ (by kernel_rfl) (by kernel_rfl)
theorem laid_varsM (os : Os) (args : Array Value) : ((World.laidAll Tryz.prog os laidM).forCall (fun _ _ => 0) ⟨#[], args, []⟩).variablesB Tryz.prog = true := by kernel_rfl
theorem laid_restM (os : Os) (args : Array Value) : (((World.laidAll Tryz.prog os laidM).forCall (fun _ _ => 0) ⟨#[], args, []⟩).heap.toList.drop Tryz.prog.globals.size).take ((begin Tryz.prog (fun _ _ => 0) default).world.heap.size - Tryz.prog.globals.size) =
      (begin Tryz.prog (fun _ _ => 0) default).world.heap.toList.drop Tryz.prog.globals.size := by kernel_rfl
end Go.Proofs.YteeeehfnldkjlaaGreatDoor
