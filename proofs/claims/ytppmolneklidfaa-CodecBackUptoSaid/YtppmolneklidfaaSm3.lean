/-
  Contract of codec.sameSeq. No statement of the seat is proved here.
-/
import Derived.Test.YtppmolneklidfaaSm2
namespace Go.Proofs.Ytppmolneklidfaa
open Go.RowKit

def sameSeqP (p q : SeqD) : Bool := (p.kind == q.kind) && ((p.branch.toList == q.branch.toList) && ((p.orig == q.orig) && ((p.cur == q.cur) && (eqL todoEq p.todo q.todo && ((p.done == q.done) && ((p.made == q.made) && (p.stopped == q.stopped)))))))
theorem sameSeqP_refl (p : SeqD) : sameSeqP p p = true := by simp [sameSeqP, eqL_refl todoEq_refl]
theorem seqC_ids_ (q : SeqD) (tv : Value) : idC q.orig = (seqC q tv).extract 2 (2 + (idC q.orig).size) ∧ idC q.cur = (seqC q tv).extract 34 (34 + (idC q.cur).size) := by
  have h1 := idL_len q.orig
  have h2 := idL_len q.cur
  constructor
  · apply Array.ext'
    simp [seqC, seqL, idC, h1]
  · apply Array.ext'
    simp [seqC, seqL, idC, h1, h2]
attribute [local go_sem ↓] ld_id eq_id ne_id
set_option maxHeartbeats 8000000 in
set_option maxRecDepth 100000 in
theorem sameSeq_any (p q : SeqD) (A A' : Option Addr) (c c' : Nat) (B : Nat) (w : World) (hB : B ≤ w.heap.size) (hr : Reads w B 33 A p.todo.length (todoLs p.todo)) (hr' : Reads w B 33 A' q.todo.length (todoLs q.todo)) (hl : p.todo.length ≤ 9223372036854775807) (hm : q.todo.length ≤ 9223372036854775807) :
    Calls Try.prog 83 #[.agg (seqC p (.slice A p.todo.length c)), .agg (seqC q (.slice A' q.todo.length c'))] w fun r w' => r = .returned (.bool (sameSeqP p q)) ∧ Keep Nothing w w' := by
  obtain ⟨pv, hpv⟩ : ∃ v, v = Value.slice A p.todo.length c := ⟨_, rfl⟩
  obtain ⟨qv, hqv⟩ : ∃ v, v = Value.slice A' q.todo.length c' := ⟨_, rfl⟩
  rw [← hpv, ← hqv]
  have q1 : Blk ((w.alloc (.cells (seqC p pv) 67)).alloc (.cells (seqC q qv) 67)) w.heap.size 67 (seqC p pv) := (Blk.new _ _ _).alloc _
  have q2 : Blk ((w.alloc (.cells (seqC p pv) 67)).alloc (.cells (seqC q qv) 67)) (w.heap.size + 1) 67 (seqC q qv) := by
    have := Blk.new (w.alloc (.cells (seqC p pv) 67)) 67 (seqC q qv)
    simpa using this
  have k0 : Keep Nothing w ((w.alloc (.cells (seqC p pv) 67)).alloc (.cells (seqC q qv) 67)) := ((Keep.refl _ _).alloc _).alloc _
  have HPV := Lib.hid hpv
  have HQV := Lib.hid hqv
  clear hpv hqv
  go_enter Try.func83, Try.ntmps83
  go_upto_region 1 with (first | (refine wpList_boxed rfl rfl (cs := seqC p pv) rfl ?_) | (refine wpList_boxed rfl rfl (cs := seqC q qv) rfl ?_))
  generalize (w.alloc (.cells (seqC p pv) 67)).alloc (.cells (seqC q qv) 67) = w0 at *
  have rp := hr.below (k0.below hB (fun _ _ h => h))
  have rq := hr'.below (k0.below hB (fun _ _ h => h))
  generalize w.heap.size = g at *
  have a0 := (q1.cell 0).trans (seqC_at _ _).1
  have a1 := (q1.cell 1).trans (seqC_at _ _).2.1
  have a4 := (q1.cell 66).trans (seqC_at _ _).2.2.1
  have b0 := (q2.cell 0).trans (seqC_at _ _).1
  have b1 := (q2.cell 1).trans (seqC_at _ _).2.1
  have b4 := (q2.cell 66).trans (seqC_at _ _).2.2.1
  rw [HPV.out] at a4
  rw [HQV.out] at b4
  have L1 : (LdId (.pointer (some ⟨g, 2, none⟩))).run Try.prog w0 = _ := ldId_mid_ q1 (seqC_ids_ _ _).1
  have L2 : (LdId (.pointer (some ⟨g + 1, 2, none⟩))).run Try.prog w0 = _ := ldId_mid_ q2 (seqC_ids_ _ _).1
  have L3 : (LdId (.pointer (some ⟨g, 34, none⟩))).run Try.prog w0 = _ := ldId_mid_ q1 (seqC_ids_ _ _).2
  have L4 : (LdId (.pointer (some ⟨g + 1, 34, none⟩))).run Try.prog w0 = _ := ldId_mid_ q2 (seqC_ids_ _ _).2
  have G1 := fun (a b : Operand) (W : World) => guard_id .eql a b p.orig q.orig W
  have G2 := fun (a b : Operand) (W : World) => guard_id .eql a b p.cur q.cur W
  have E1 := fun W => run_EqId W p.orig q.orig
  have E2 := fun W => run_EqId W p.cur q.cur
  have HM := Lib.hid (show sameSeqP p q = ((p.kind == q.kind) && ((p.branch.toList == q.branch.toList) && ((p.orig == q.orig) && ((p.cur == q.cur) && (eqL todoEq p.todo q.todo && ((p.done == q.done) && ((p.made == q.made) && (p.stopped == q.stopped)))))))) from rfl)
  have HEQ := Lib.hid (equal_todo p.todo q.todo A A' c c' B w0 rp rq hl hm)
  clear rp rq hr hr'
  have fin : ∀ z W, sameSeqP p q = z → Keep Nothing w W → (Ending.returned (.bool z) = .returned (.bool (sameSeqP p q)) ∧ Keep Nothing w W) := fun z W h k => ⟨by rw [h], k⟩
  have HF := Lib.hid fin
  clear fin
  obtain ⟨z1, h1⟩ : ∃ z, (p.kind == q.kind) = z := ⟨_, rfl⟩
  obtain ⟨z2, h2⟩ : ∃ z, (p.branch.toList == q.branch.toList) = z := ⟨_, rfl⟩
  obtain ⟨z3, h3⟩ : ∃ z, (p.orig == q.orig) = z := ⟨_, rfl⟩
  obtain ⟨z4, h4⟩ : ∃ z, (p.cur == q.cur) = z := ⟨_, rfl⟩
  obtain ⟨z5, h5⟩ : ∃ z, eqL todoEq p.todo q.todo = z := ⟨_, rfl⟩
  obtain ⟨z6, h6⟩ : ∃ z, (p.done == q.done) = z := ⟨_, rfl⟩
  obtain ⟨z7, h7⟩ : ∃ z, (p.made == q.made) = z := ⟨_, rfl⟩
  obtain ⟨z8, h8⟩ : ∃ z, (p.stopped == q.stopped) = z := ⟨_, rfl⟩
  rw [h1, h2, h3, h4, h5, h6, h7, h8] at HM
  rw [h3] at E1
  rw [h4] at E2
  rw [h5] at HEQ
  clear h3 h4 h5
  cases z1
  · go_wp2_with fail
    go_ret
    exact HF.out _ _ HM.out k0
  · skip
    cases z2
    · go_wp2_with fail
      go_ret
      exact HF.out _ _ HM.out k0
    · skip
      cases z3
      · go_wp2_with fail
        go_ret
        exact HF.out _ _ HM.out k0
      · skip
        cases z4
        · go_wp2_with fail
          go_ret
          exact HF.out _ _ HM.out k0
        · skip
          go_wp2_with fail
          refine HEQ.out.mono ?_
          rintro r w1 ⟨rfl, k1⟩
          have x1 := q1.keep k1 (fun h => h)
          have x2 := q2.keep k1 (fun h => h)
          have kk := k0.trans k1
          clear q1 q2 k0 k1 a0 a1 a4 b0 b1 b4 L1 L2 L3 L4 G1 G2 E1 E2 HEQ
          have a67 := (x1.cell 67).trans (seqC_at _ _).2.2.2.1
          have b67 := (x2.cell 67).trans (seqC_at _ _).2.2.2.1
          have a68 := (x1.cell 68).trans (seqC_at _ _).2.2.2.2.1
          have b68 := (x2.cell 68).trans (seqC_at _ _).2.2.2.2.1
          have a69 := (x1.cell 69).trans (seqC_at _ _).2.2.2.2.2
          have b69 := (x2.cell 69).trans (seqC_at _ _).2.2.2.2.2
          cases z5
          · go_wp2_with fail
            go_ret
            exact HF.out _ _ HM.out kk
          · skip
            cases z6
            · go_wp2_with fail
              go_ret
              exact HF.out _ _ HM.out kk
            · skip
              cases z7
              · go_wp2_with fail
                go_ret
                exact HF.out _ _ HM.out kk
              · skip
                go_wp2_with fail
                go_ret
                exact HF.out _ _ HM.out kk
end Go.Proofs.Ytppmolneklidfaa
