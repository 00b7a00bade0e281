/-
  Texts of the codec joined (Scom). No statement of the seat is proved here.
-/
import Derived.Test.YtppmolneklidfaaGreatZ09
import Derived.Deep.DeepCutAuto
namespace Go.Proofs.YtppmolneklidfaaGreat
open Go.RowKit

def NeId (u v : Value) : Sem Value := binOp .neq 24 u v
theorem ne_id (u v : Value) : binOp .neq 24 u v = NeId u v := rfl
theorem run_NeId (w : World) (i j : Id) : (NeId (idV i) (idV j)).run Tryz.prog w = .ok (.bool (!(i == j))) w := by
  show (binOp .neq 24 (.agg (idC i)) (.agg (idC j))).run Tryz.prog w = _
  rw [run_neq_struct]
  have := run_equalIn_id w 9998 i j
  unfold idV at this
  rw [this]
  rfl

attribute [local go_sem ↓] ld_id eq_id ne_id bd_com st_com

set_option maxHeartbeats 2000000 in
set_option maxRecDepth 100000 in
theorem rsameCommit_refl (d : ComD) (A A' : Option Addr) (c c' : Nat) (w : World) (hr : Reads w w.heap.size 32 A d.parents.length (idLs d.parents)) (hr' : Reads w w.heap.size 32 A' d.parents.length (idLs d.parents)) (hl : d.parents.length ≤ 9223372036854775807) :
    Calls Tryz.prog 31 #[.agg (comC d.tree (.slice A d.parents.length c) d.author d.time d.msg), .agg (comC d.tree (.slice A' d.parents.length c') d.author d.time d.msg)] w fun r w' => r = .returned (.bool true) ∧ Keep Nothing w w' := by
  obtain ⟨t, ps, au, tm, ms⟩ := d
  have q1 : Blk ((w.alloc (.cells (comC t (.slice A ps.length c) au tm ms) 27)).alloc (.cells (comC t (.slice A' ps.length c') au tm ms) 27)) w.heap.size 27 (comC t (.slice A ps.length c) au tm ms) := (Blk.new _ _ _).alloc _
  have q2 : Blk ((w.alloc (.cells (comC t (.slice A ps.length c) au tm ms) 27)).alloc (.cells (comC t (.slice A' ps.length c') au tm ms) 27)) (w.heap.size + 1) 27 (comC t (.slice A' ps.length c') au tm ms) := by
    have := Blk.new (w.alloc (.cells (comC t (.slice A ps.length c) au tm ms) 27)) 27 (comC t (.slice A' ps.length c') au tm ms)
    simpa using this
  have k0 : Keep Nothing w ((w.alloc (.cells (comC t (.slice A ps.length c) au tm ms) 27)).alloc (.cells (comC t (.slice A' ps.length c') au tm ms) 27)) := ((Keep.refl _ _).alloc _).alloc _
  go_enter Tryz.func31, Tryz.ntmps31
  go_upto_region 1 with (first | (refine wpList_boxed rfl rfl (cs := comC t (.slice A ps.length c) au tm ms) rfl ?_) | (refine wpList_boxed rfl rfl (cs := comC t (.slice A' ps.length c') au tm ms) rfl ?_))
  generalize (w.alloc (.cells (comC t (.slice A ps.length c) au tm ms) 27)).alloc (.cells (comC t (.slice A' ps.length c') au tm ms) 27) = w0 at *
  have hr0 := hr.kept k0 (Nat.le_refl _) (fun _ _ h => h)
  have hr0' := hr'.kept k0 (Nat.le_refl _) (fun _ _ h => h)
  generalize w.heap.size = q at *
  have L1 := ldId_com q1
  have L2 := ldId_com q2
  have G1 := fun (a b : Operand) (W : World) => guard_id .neq a b t t W
  have E1 := fun W => run_NeId W t t
  rw [show (t == t) = true from by simp] at E1
  have a1 := (q1.cell 32).trans comC_at.1
  have a2 := (q1.cell 33).trans comC_at.2.1
  have a3 := (q1.cell 34).trans comC_at.2.2.1
  have a4 := (q1.cell 35).trans comC_at.2.2.2
  have b1 := (q2.cell 32).trans comC_at.1
  have b2 := (q2.cell 33).trans comC_at.2.1
  have b3 := (q2.cell 34).trans comC_at.2.2.1
  have b4 := (q2.cell 35).trans comC_at.2.2.2
  go_wp2_with fail
  clear L1 L2 G1 E1 a1 a2 a3 a4 b1 b2 b3 b4
  go_loopw [5] (fun i wr => ∃ k : Nat, k ≤ ps.length ∧ i = .int .i64 k ∧ (∀ p : Addr, wr.cell? p = w0.cell? p) ∧ Keep Nothing w wr ∧ Blk wr q 27 (comC t (.slice A ps.length c) au tm ms) ∧ Blk wr (q + 1) 27 (comC t (.slice A' ps.length c') au tm ms)) (fun i _ => ps.length - (intOf i).toNat)
  case atStart => exact ⟨0, Nat.zero_le _, rfl, fun _ => rfl, k0, q1, q2⟩
  case round =>
    clear k0 q1 q2
    obtain ⟨k, hk, rfl, hsame, hkw, q1, q2⟩ := hrel
    have HS := Lib.hid hsame
    clear hsame
    have a1 := (q1.cell 32).trans comC_at.1
    have b1 := (q2.cell 32).trans comC_at.1
    by_cases hlt : k < ps.length
    · obtain ⟨x, hx⟩ : ∃ x, ps[k]? = some x := ⟨_, List.getElem?_eq_getElem hlt⟩
      obtain ⟨g1, o1, rfl, _, hc1⟩ := hr0.at0 (by omega) (by omega)
      obtain ⟨g2, o2, rfl, _, hc2⟩ := hr0'.at0 (by omega) (by omega)
      have L1 := fun n => ldId_at (w := wr.drewN n) (fun j u hj => (HS.out _).trans (hc1 j u hj)) hx
      have L2 := fun n => ldId_at (w := wr.drewN n) (fun j u hj => (HS.out _).trans (hc2 j u hj)) hx
      have G1 := fun (a b : Operand) (W : World) => guard_id .neq a b x x W
      have E1 := fun W => run_NeId W x x
      rw [show (x == x) = true from by simp] at E1
      have hi0 : (0 : Int) ≤ (k : Int) := Int.natCast_nonneg _
      have hi1 : (k : Int) < (ps.length : Int) := by omega
      clear hc1 hc2 hx
      go_wp2_with fail
      go_quiet (fail)
      go_wp2_with fail
      go_roundw
      case rel => exact ⟨k + 1, by omega, by go_num, fun p => HS.out p, hkw.drewN _, q1.drewN _, q2.drewN _⟩
      case measure => simp [intOf]; omega
    · obtain rfl : k = ps.length := by omega
      go_wp2_with fail
      go_ret
      exact ⟨rfl, hkw⟩
end Go.Proofs.YtppmolneklidfaaGreat
