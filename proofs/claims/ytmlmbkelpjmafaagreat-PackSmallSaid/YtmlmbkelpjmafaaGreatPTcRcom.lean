/- Contracts of the reference's Has, wrong and EncodeCommit. No statement of the seat is proved here. -/
import Derived.Test.YtmlmbkelpjmafaaGreatPTcEcom
namespace Go.Proofs.YtmlmbkelpjmafaaGreat
open Go.RowKit
attribute [local go_sem ↓] ld_id eq_id bd_com st_com
set_option maxHeartbeats 1000000 in
set_option maxRecDepth 100000 in
theorem has_any (l : List Id) (n : Nat) (hn : l.length = n) (x : Id) (A : Option Addr) (c : Nat) (B : Nat) (w : World) (hr : Reads w B 32 A n (idLs l)) (hB : B ≤ w.heap.size) (hl : n ≤ 9223372036854775807) :
    Calls Tryz.prog 50 #[.slice A n c, idV x] w fun r w' => r = .returned (.bool (hasId l x)) ∧ Keep Nothing w w' := by
 subst hn
 go_enter Tryz.func50, Tryz.ntmps50
 go_wp2_with (first | (refine wpList_boxed rfl rfl (cs := idC x) rfl ?_))
 have hb0 : Blk (w.alloc (.cells (idC x) 29)) w.heap.size 29 (idC x) := Blk.new _ _ _
 have hk0 : Keep Nothing w (w.alloc (.cells (idC x) 29)) := (Keep.refl _ _).alloc _
 have hrk : ∀ W, Keep Nothing w W → Reads W B 32 A l.length (idLs l) := fun W h => hr.kept h hB (fun _ _ q => q)
 have HR := Lib.hid hrk
 clear hrk
 generalize w.alloc (.cells (idC x) 29) = w0 at *
 generalize w.heap.size = q at *
 go_loopw [5] (fun i wr => ∃ k : Nat, k ≤ l.length ∧ i = .int .i64 k ∧ (l.take k).contains x = false ∧ Keep Nothing w wr ∧ Blk wr q 29 (idC x)) (fun i _ => l.length - (intOf i).toNat)
 case atStart => exact ⟨0, Nat.zero_le _, rfl, rfl, hk0, hb0⟩
 case round =>
  obtain ⟨k, hk, rfl, hno, hkw, hbx⟩ := hrel
  have HN := Lib.hid hno
  clear hno
  by_cases hlt : k < l.length
  · obtain ⟨y, hy⟩ : ∃ y, l[k]? = some y := ⟨_, List.getElem?_eq_getElem hlt⟩
    have hts : l.take (k + 1) = l.take k ++ [y] := by rw [List.take_succ_eq_append_getElem hlt]; congr 2; rw [List.getElem?_eq_getElem hlt] at hy; simpa using hy
    obtain ⟨g1, o1, rfl, _, hc1⟩ := (HR.out _ hkw).at0 (by omega) (by omega)
    have L1 := fun n => LdId.blk (hbx.drewN n)
    have L2 := fun n => ldId_at (w := wr.drewN n) (fun j u hj => hc1 j u hj) hy
    have G1 := fun (a b : Operand) (W : World) => guard_id .eql a b y x W
    have HT := Lib.hid hts
    have HY := Lib.hid hy
    have hi0 : (0 : Int) ≤ (k : Int) := Int.natCast_nonneg _
    have hi1 : (k : Int) < (l.length : Int) := by omega
    clear hc1 hts hy
    cases hxy : (y == x) with
    | true =>
     have E1 := fun W => run_EqId W y x
     rw [hxy] at E1
     have HF := Lib.hid hxy
     clear hxy
     go_wp2_with fail
     go_quiet (fail)
     go_wp2_with fail
     go_ret
     refine ⟨?_, hkw.drewN _⟩
     have e1 : y = x := eq_of_beq HF.out
     subst e1
     rw [show hasId l y = true from List.contains_iff_mem.2 (List.mem_of_getElem? HY.out)]
     rfl
    | false =>
     have E1 := fun W => run_EqId W y x
     rw [hxy] at E1
     have HF := Lib.hid hxy
     clear hxy
     go_wp2_with fail
     go_quiet (fail)
     go_wp2_with fail
     go_roundw
     case rel =>
      refine ⟨k + 1, by omega, by go_num, ?_, hkw.drewN _, hbx.drewN _⟩
      rw [HT.out, List.contains_eq_any_beq, List.any_append, ← List.contains_eq_any_beq, HN.out]
      have := HF.out
      simp only [beq_eq_false_iff_ne, ne_eq] at this
      rw [show [y].any (fun a => x == a) = (x == y) from by simp, beq_eq_false_iff_ne.2 (fun h => this h.symm)]
      rfl
     case measure => simp [intOf]; omega
  · obtain rfl : k = l.length := by omega
    go_wp2_with fail
    go_ret
    refine ⟨?_, hkw⟩
    have := HN.out
    rw [List.take_length] at this
    unfold hasId
    rw [this]
    rfl
end Go.Proofs.YtmlmbkelpjmafaaGreat
