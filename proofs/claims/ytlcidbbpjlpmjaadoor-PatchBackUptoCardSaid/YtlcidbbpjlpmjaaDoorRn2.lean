/-
  What the two Apply hand back. No statement of the seat is proved here.
-/
import Derived.Test.YtlcidbbpjlpmjaaDoorRo
import Derived.Test.YtlcidbbpjlpmjaaDoorRl
import Derived.Test.YtlcidbbpjlpmjaaDoorRj
namespace Go.Proofs.YtlcidbbpjlpmjaaDoor
open Go.RowKit

/-- What Apply hands back, for a result R. -/
def ApplyR (R : Except Nat (List (List UInt8))) (w : World) (r : Ending) (w' : World) : Prop := Below w.heap.size w w' ∧ match R with
  | .error e => r = .returned (.tuple #[.slice none 0 0, .int .i64 (e : Int)])
  | .ok out => ∃ A cp, r = .returned (.tuple #[.slice A out.length cp, .int .i64 0]) ∧ Own w' w.heap.size 9 1 A out.length cp (strL out)
theorem hkC_toD {h : HkI} {t : Cnt} (hm : mayP h = some t) (EA : Option Addr) (ec : Nat) (LA : Option Addr) (lc : Nat) : hkC h EA ec LA lc = hkV h.toD EA ec LA lc := by
  have := toD_toI hm
  unfold hkC hkV
  have h1 : (h.toD.a : Int) = h.a := congrArg HkI.a this
  have h2 : (h.toD.b : Int) = h.b := congrArg HkI.b this
  have h3 : h.toD.eds.length = h.eds.length := by simp [HkI.toD]
  rw [h1, h2, h3]
  rfl
theorem stepA_order {a : List (List UInt8)} {h : HkD} {p : Nat} {out : List (List UInt8)} (h1 : h.a < p) : stepA a h p out = .error 18 := by unfold stepA; rw [if_pos h1]
theorem stepA_bad {a : List (List UInt8)} {h : HkD} {p : Nat} {out : List (List UInt8)} (h1 : ¬ h.a < p) (h2 : ¬ (h.a ≤ a.length ∧ h.b = out.length + (h.a - p) ∧ okA a h.a (oldL h.eds h.ls))) : stepA a h p out = .error 28 := by unfold stepA; rw [if_neg h1, if_neg h2]
theorem stepA_ok {a : List (List UInt8)} {h : HkD} {p : Nat} {out : List (List UInt8)} (h1 : ¬ h.a < p) (h2 : h.a ≤ a.length) (h3 : h.b = out.length + (h.a - p)) (h4 : okA a h.a (oldL h.eds h.ls)) : stepA a h p out = .ok (h.a + (oldL h.eds h.ls).length, out ++ (a.drop p).take (h.a - p) ++ newL h.eds h.ls) := by unfold stepA; rw [if_neg h1, if_pos ⟨h2, h3, h4⟩]
theorem applyL_step {a : List (List UInt8)} {h : HkD} {hs : List HkD} {p : Nat} {out : List (List UInt8)} : applyL a (h :: hs) p out = match stepA a h p out with
    | .error e => .error e
    | .ok x => applyL a hs x.1 x.2 := rfl
end Go.Proofs.YtlcidbbpjlpmjaaDoor
