/-
  string(b), behind an opaque name. No statement of the seat is proved here.
-/
import Derived.Test.YtppmolneklidfaaSm4
namespace Go.Proofs.Ytppmolneklidfaa
open Go.RowKit

def CvBS (v : Value) : Sem Value := convert 23 9 v
theorem cv_bs (v : Value) : convert 23 9 v = CvBS v := rfl
theorem CvBS.run {w : World} {B : Nat} {A : Option Addr} {n c : Nat} {l : List UInt8} (h : Reads w B 1 A n (l.map bv)) : (CvBS (.slice A n c)).run Try.prog w = .ok (.string ⟨l.toArray⟩) w := by
  show (convert 23 9 (.slice A n c)).run Try.prog w = _
  rw [run_convert_bytes_string w 23 9 5 A n c Try.underlying23 Try.underlying5 Try.underlying9]
  exact run_str_of h
end Go.Proofs.Ytppmolneklidfaa
