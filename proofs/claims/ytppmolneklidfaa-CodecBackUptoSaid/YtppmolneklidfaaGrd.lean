/-
  Loads and sums of a guarded chain. No statement of the seat is proved here.
-/
import Derived.Test.YtppmolneklidfaaCom
namespace Go.Proofs.Ytppmolneklidfaa
open Go.RowKit

section
variable {P : Program}
theorem wpList_bin_g {ops : Array Oper} {rest : List Oper} {o : Oper} {a : Act} {w : World} {Q : Exit → Act → World → Prop} (hw : Region.wanted o (yielded ops a.tmps) = true) {op : BinOp} {t t' : TypeId} {x y : Operand} (ho : o.op = .binOp op t x y t') {u v r : Value} (hx : a.eval x = u) (hy : a.eval y = v) (hg : (eqGuard op t x y u v).run P w = .ok () w) (hrun : (binOp op t u v).run P w = .ok r w)
    (h : wpList P ops Q rest (a.put o.dst r) w) : wpList P ops Q (o :: rest) a w :=
  BigFrame.wpList_want hw fun _ hK => by
    unfold Oper.wp execOp
    simp only [ho, hx, hy, Sem.run_bind, hg, hrun, Result.andThen_ok, Sem.run_pure]
    exact hK _ _ h
theorem wpList_load_g {ops : Array Oper} {rest : List Oper} {o : Oper} {a : Act} {w : World} {Q : Exit → Act → World → Prop} (hw : Region.wanted o (yielded ops a.tmps) = true) {ty : TypeId} {x : Operand} (ho : o.op = .load ty x) {ad : Addr} {v : Value} (hx : a.eval x = .pointer (some ad)) (hrun : (Instr.loadAt ty (.pointer (some ad))).run P w = .ok v w)
    (h : wpList P ops Q rest (a.put o.dst v) w) : wpList P ops Q (o :: rest) a w :=
  BigFrame.wpList_want hw fun _ hK => by
    unfold Oper.wp execOp
    simp only [ho, hx, Sem.run_bind, hrun, Result.andThen_ok, Sem.run_pure]
    exact hK _ _ h
end
theorem add_int (w : World) (a b : Int) : (binOp .add 3 (.int .i64 a) (.int .i64 b)).run Try.prog w = .ok (.int .i64 (IntKind.i64.wrap (a + b))) w := by kernel_rfl
theorem guard_add (w : World) (x y : Operand) (a b : Int) : (eqGuard .add 3 x y (.int .i64 a) (.int .i64 b)).run Try.prog w = .ok () w := rfl

end Go.Proofs.Ytppmolneklidfaa
