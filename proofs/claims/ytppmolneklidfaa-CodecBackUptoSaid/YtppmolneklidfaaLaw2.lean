/-
  More laws of the walk over rows and blocks. No statement of the seat is proved here.
-/
import Derived.Test.YtppmolneklidfaaOwn
namespace Go.Proofs.Ytppmolneklidfaa
open Go.RowKit
section
variable {P : Program}
theorem wpList_convStr_g {ops : Array Oper} {rest : List Oper} {o : Oper} {a : Act} {w : World} {Q : Exit → Act → World → Prop} (hw : Region.wanted o (yielded ops a.tmps) = true) {src dst e : TypeId} {x : Operand} (ho : o.op = .convert src dst x)
    (hs : P.underlying src = some (.slice e)) (he : P.underlying e = some (.int .u8)) (hd : P.underlying dst = some .string) {B : Nat} {A : Option Addr} {n c : Nat} {l : List UInt8} (hx : a.eval x = .slice A n c) (h : Reads w B 1 A n (l.map byteV))
    (hk : wpList P ops Q rest (a.put o.dst (.string ⟨l.toArray⟩)) w) : wpList P ops Q (o :: rest) a w :=
  BigFrame.wpList_want hw fun _ hK => by
    unfold Oper.wp execOp
    simp only [ho, hx, Sem.run_bind, run_convert_bytes_string w src dst e A n c hs he hd, run_str_of h, Result.andThen_ok, Sem.run_pure]
    exact hK _ _ hk
end
end Go.Proofs.Ytppmolneklidfaa
