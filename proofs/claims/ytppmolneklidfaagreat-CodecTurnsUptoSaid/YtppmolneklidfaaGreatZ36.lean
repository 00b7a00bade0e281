/-
  Texts of the codec joined (Few). No statement of the seat is proved here.
-/
import Derived.Test.YtppmolneklidfaaGreatZ22
namespace Go.Proofs.YtppmolneklidfaaGreat
open Go.RowKit

def SomeBool (w : World) (r : Ending) (w' : World) : Prop := ∃ z, r = .returned (.bool z) ∧ Keep Nothing w w'
theorem txC_at5 (t : TxD) (mv tv ev : Value) : (txC t mv tv ev)[5]? = some (.string t.seq.branch) ∧ (txC t mv tv ev)[70]? = some tv := by
  have h1 := idL_len t.seq.orig
  have h2 := idL_len t.seq.cur
  refine ⟨by simp [txC, txL, seqL], ?_⟩
  simp [txC, txL, seqL, h1, h2]
set_option maxHeartbeats 4000000 in
set_option maxRecDepth 100000 in
theorem few_any (t : TxD) (mv tv ev : Value) (w : World) (hin : TxIn w w.heap.size t mv tv ev) : Calls Tryz.prog 5 #[.agg (txC t mv tv ev)] w (SomeBool w) := by
  obtain ⟨Am, cm, rfl, rm, lm1, lm2⟩ := hin.mv
  obtain ⟨At, ct, rfl, rt, lt1, lt2⟩ := hin.tv
  obtain ⟨Ae, ce, rfl, re, le1, le2⟩ := hin.ev
  unfold maxLen at lm2 lt2 le2
  clear hin rt
  have q0 : Blk (w.alloc (.cells (txC t (.slice Am t.moves.length cm) (.slice At t.seq.todo.length ct) (.slice Ae t.mem.length ce)) 34)) w.heap.size 34 (txC t (.slice Am t.moves.length cm) (.slice At t.seq.todo.length ct) (.slice Ae t.mem.length ce)) := Blk.new _ _ _
  have k0 : Keep Nothing w (w.alloc (.cells (txC t (.slice Am t.moves.length cm) (.slice At t.seq.todo.length ct) (.slice Ae t.mem.length ce)) 34)) := (Keep.refl _ _).alloc _
  go_enter Tryz.func5, Tryz.ntmps5
  go_upto_region 1 with (first | (refine wpList_boxed rfl rfl (cs := txC t _ _ _) rfl ?_))
  generalize w.alloc (.cells (txC t (.slice Am t.moves.length cm) (.slice At t.seq.todo.length ct) (.slice Ae t.mem.length ce)) 34) = w0 at *
  have HR := Lib.hid (show ∀ W, Keep Nothing w W → Reads W w.heap.size 66 Am t.moves.length (moveLs t.moves) ∧ Reads W w.heap.size 33 Ae t.mem.length (memLs t.mem) from fun W k => ⟨rm.below k.all, re.below k.all⟩)
  clear rm re
  generalize w.heap.size = q at *
  have a1 := (q0.cell 1).trans txC_at.2.1
  have a5 := (q0.cell 5).trans (txC_at5 _ _ _ _).1
  have a70 := (q0.cell 70).trans (txC_at5 _ _ _ _).2
  go_upto_region 3 with fail
  clear a1 a5 a70
  go_loopg [3, 4] 101 (fun f s3 i wr => ∃ (k : Nat) (n : Int), k + f = 101 ∧ i = .int .i64 k ∧ s3 = .int .i64 n ∧ Keep Nothing w wr ∧ Blk wr q 34 (txC t (.slice Am t.moves.length cm) (.slice At t.seq.todo.length ct) (.slice Ae t.mem.length ce)))
  case atStart => exact ⟨0, _, by omega, rfl, rfl, k0, q0⟩
  case round =>
    clear k0 q0
    obtain ⟨k, n, hkf, rfl, rfl, hkw, q0⟩ := hrel
    have HKF := Lib.hid hkf
    have hk101 : k ≤ 101 := by omega
    clear hkf
    have a2 := (q0.cell 2).trans txC_at.2.2.1
    by_cases hlt : k < t.moves.length ∧ k < 100
    · obtain ⟨hl1, hl2⟩ := hlt
      obtain ⟨x, hx⟩ : ∃ x, t.moves[k]? = some x := ⟨_, List.getElem?_eq_getElem hl1⟩
      obtain ⟨g1, o1, rfl, _, hc1⟩ := (HR.out _ hkw).1.at0 (by omega) (by omega)
      have e0 := hc1 _ _ (flat_at moveL_len t.moves k 0 x hx (.string x.name) (by simp [moveL]))
      have e65 := hc1 _ _ (flat_at moveL_len t.moves k 65 x hx (.string x.why) (by have := (moveC_at x).2; simpa [moveC] using this))
      rw [Nat.add_zero] at e0
      rw [← Nat.add_assoc] at e65
      have hi0 : (0 : Int) ≤ (k : Int) := Int.natCast_nonneg _
      have hi1 : (k : Int) < (t.moves.length : Int) := by omega
      clear hc1 hx
      go_wp2_with fail
      refine wp_region_still_lit (by kernel_rfl) (by kernel_rfl) ?_
      repeat (first | ((with_reducible refine wpStill_step (fun K hK => ?_)); go_simp; with_reducible refine hK _ ?_; clear hK K) | ((with_reducible refine wpStill_skip ?_ ?_); (focus rfl)))
      (with_reducible refine wpStill_nil ?_)
      change Exit.inBlock _ _ _ _ wr.drew
      go_wp2_with fail
      go_roundg (gk - 1)
      case measure => have := HKF.out; omega
      case rel => exact ⟨k + 1, _, by have := HKF.out; omega, by go_num, rfl, hkw.drew, q0.drew⟩
    · have fin : t.moves.length ≤ k ∨ (k < t.moves.length ∧ decide ((k : Int) < 100) = false) := by
        by_cases h1 : t.moves.length ≤ k
        · exact .inl h1
        · exact .inr ⟨by omega, decide_eq_false (by omega)⟩
      clear hlt HKF
      rcases fin with f1 | ⟨f1, f2⟩
      all_goals
        go_wp2_with fail
        go_loopg [3, 5] 101 (fun f s3 i wr => ∃ (k : Nat) (n : Int), k + f = 101 ∧ i = .int .i64 k ∧ s3 = .int .i64 n ∧ Keep Nothing w wr ∧ Blk wr q 34 (txC t (.slice Am t.moves.length cm) (.slice At t.seq.todo.length ct) (.slice Ae t.mem.length ce)))
        case atStart => exact ⟨0, _, by omega, rfl, rfl, hkw, q0⟩
        case round =>
          clear hkw q0 a2
          obtain ⟨j, n, hkf, rfl, rfl, hkw, q0⟩ := hrel
          have HKF := Lib.hid hkf
          have hj101 : j ≤ 101 := by omega
          clear hkf
          have a74 := (q0.cell 74).trans txC_at.2.2.2.2.2
          have a2 := (q0.cell 2).trans txC_at.2.2.1
          by_cases hlt : j < t.mem.length ∧ j < 100
          · obtain ⟨hl1, hl2⟩ := hlt
            obtain ⟨x, hx⟩ : ∃ x, t.mem[j]? = some x := ⟨_, List.getElem?_eq_getElem hl1⟩
            obtain ⟨g1, o1, rfl, _, hc1⟩ := (HR.out _ hkw).2.at0 (by omega) (by omega)
            have e32 := hc1 _ _ (flat_at memL_len t.mem j 32 x hx (.slice x.adr x.data.length x.cap) (by have := memC_at x; simpa [memC] using this))
            rw [← Nat.add_assoc] at e32
            clear hc1 hx
            go_wp2_with fail
            go_roundg (gk - 1)
            case measure => have := HKF.out; omega
            case rel => exact ⟨j + 1, _, by have := HKF.out; omega, by go_num, rfl, hkw, q0⟩
          · have fin : t.mem.length ≤ j ∨ (j < t.mem.length ∧ decide ((j : Int) < 100) = false) := by
              by_cases h1 : t.mem.length ≤ j
              · exact .inl h1
              · exact .inr ⟨by omega, decide_eq_false (by omega)⟩
            obtain ⟨z1, h1⟩ : ∃ z, decide (n < 80000) = z := ⟨_, rfl⟩
            obtain ⟨z2, h2⟩ : ∃ z, decide ((t.moves.length : Int) < 100) = z := ⟨_, rfl⟩
            clear hlt HKF
            rcases fin with f3 | ⟨f3, f4⟩
            all_goals cases z1 <;> cases z2
            all_goals
              go_wp2_with fail
              go_ret
              exact ⟨_, rfl, hkw⟩
end Go.Proofs.YtppmolneklidfaaGreat
