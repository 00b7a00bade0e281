/- Contracts of treemerge's text, goes, alone. No statement of the seat is proved here. -/
import Derived.Test.YtbaapjlmpmpocaaGreatDoorDT29
import Derived.BigRegion
import Derived.BigQuiet
import Derived.Deep.DeepCutAuto
namespace Go.Proofs.YtbaapjlmpmpocaaGreatDoor
open Go.RowKit Go.Maps
theorem run_store_strC {P : Program} (w : World) (a : Addr) (m : Mode) (p : Pth) : (store a (strC p) m).run P w = stored P w a (strC p) m := run_store P w a _ m rfl
def SlB (n : Nat) (ps : Array (Nat × Value)) : Sem Value := Instr.buildSlice 24 n ps
theorem sl_b (n : Nat) (ps : Array (Nat × Value)) : Instr.buildSlice 24 n ps = SlB n ps := rfl
attribute [local go_sem] run_store_strC
attribute [local go_sem ↓] ld_f sl_b
end Go.Proofs.YtbaapjlmpmpocaaGreatDoor
namespace Go.Proofs.YtbaapjlmpmpocaaGreatDoor
open Go.RowKit Go.Maps
section
variable {w w' : World} {z mb so st cb N : Nat} {s : MSt}
end
theorem Frm.ofBelow {w w' : World} {z mb cb : Nat} (h : Below w.heap.size w w') (hz : z ≤ w.heap.size) : Frm z mb cb w w' := Kept.mono (Kept.ofBelow (E := []) (base := w.heap.size) (G := []) h) hz (by simp) (by simp)
theorem run_eql_strC (a b : Pth) (w : World) : (binOp .eql 9 (strC a) (strC b)).run Tryz.prog w = .ok (.bool (a == b)) w := by
 unfold strC
 go_simp
theorem run_neq_strC (a b : Pth) (w : World) : (binOp .neq 9 (strC a) (strC b)).run Tryz.prog w = .ok (.bool (a != b)) w := by
 unfold strC
 go_simp
 simp [bne]
theorem eqGuard_strC (x y : Operand) (a b : Pth) (w : World) : (eqGuard .eql 9 x y (strC a) (strC b)).run Tryz.prog w = .ok () w := by
 unfold strC
 go_simp
theorem neGuard_strC (x y : Operand) (a b : Pth) (w : World) : (eqGuard .neq 9 x y (strC a) (strC b)).run Tryz.prog w = .ok () w := by
 unfold strC
 go_simp
attribute [local go_sem] run_eql_strC run_neq_strC eqGuard_strC neGuard_strC
attribute [local go_sem ↓] ld_f
end Go.Proofs.YtbaapjlmpmpocaaGreatDoor
