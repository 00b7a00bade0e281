/-
  Texts of the codec joined (Sm5, Sm6c). No statement of the seat is proved here.
-/
import Derived.Test.YtppmolneklidfaaGreatZ29
namespace Go.Proofs.YtppmolneklidfaaGreat
open Go.RowKit

def restR (p q : SeqD) : Bool := (p.branch.toList == q.branch.toList) && ((p.orig == q.orig) && ((p.cur == q.cur) && ((p.done == q.done) && ((p.made == q.made) && ((p.stopped == q.stopped) && (p.todo.length == q.todo.length))))))
def sameSeqR (p q : SeqD) : Bool := (p.kind == q.kind) && ((p.kind == 0) || (restR p q && eqL todoEq p.todo q.todo))
attribute [local go_sem ↓] ld_id eq_id ne_id ldm_todo nem_todo
set_option maxHeartbeats 8000000 in
set_option maxRecDepth 100000 in
theorem rsameSeq_any (p q : SeqD) (A A' : Option Addr) (c c' : Nat) (B : Nat) (w : World) (hB : B ≤ w.heap.size) (hr : Reads w B 33 A p.todo.length (todoLs p.todo)) (hr' : Reads w B 33 A' q.todo.length (todoLs q.todo)) (hl : p.todo.length ≤ 9223372036854775807) (hm : q.todo.length ≤ 9223372036854775807) :
    Calls Tryz.prog 74 #[.agg (seqC p (.slice A p.todo.length c)), .agg (seqC q (.slice A' q.todo.length c'))] w fun r w' => r = .returned (.bool (sameSeqR p q)) ∧ Keep Nothing w w' := by
  obtain ⟨pv, hpv⟩ : ∃ v, v = Value.slice A p.todo.length c := ⟨_, rfl⟩
  obtain ⟨qv, hqv⟩ : ∃ v, v = Value.slice A' q.todo.length c' := ⟨_, rfl⟩
  rw [← hpv, ← hqv]
  have q1 : Blk ((w.alloc (.cells (seqC p pv) 31)).alloc (.cells (seqC q qv) 31)) w.heap.size 31 (seqC p pv) := (Blk.new _ _ _).alloc _
  have q2 : Blk ((w.alloc (.cells (seqC p pv) 31)).alloc (.cells (seqC q qv) 31)) (w.heap.size + 1) 31 (seqC q qv) := by
    have := Blk.new (w.alloc (.cells (seqC p pv) 31)) 31 (seqC q qv)
    simpa using this
  have k0 : Keep Nothing w ((w.alloc (.cells (seqC p pv) 31)).alloc (.cells (seqC q qv) 31)) := ((Keep.refl _ _).alloc _).alloc _
  have HPV := Lib.hid hpv
  have HQV := Lib.hid hqv
  clear hpv hqv
  go_enter Tryz.func74, Tryz.ntmps74
  go_upto_region 1 with (first | (refine wpList_boxed rfl rfl (cs := seqC p pv) rfl ?_) | (refine wpList_boxed rfl rfl (cs := seqC q qv) rfl ?_))
  generalize (w.alloc (.cells (seqC p pv) 31)).alloc (.cells (seqC q qv) 31) = w0 at *
  have rp := hr.below (k0.below hB (fun _ _ h => h))
  have rq := hr'.below (k0.below hB (fun _ _ h => h))
  generalize w.heap.size = g at *
  have HM := Lib.hid (show sameSeqR p q = ((p.kind == q.kind) && ((p.kind == 0) || (restR p q && eqL todoEq p.todo q.todo))) from rfl)
  have HRR := Lib.hid (show restR p q = ((p.branch.toList == q.branch.toList) && ((p.orig == q.orig) && ((p.cur == q.cur) && ((p.done == q.done) && ((p.made == q.made) && ((p.stopped == q.stopped) && (p.todo.length == q.todo.length))))))) from rfl)
  have HF := Lib.hid (show ∀ z W, sameSeqR p q = z → Keep Nothing w W → (Ending.returned (.bool z) = .returned (.bool (sameSeqR p q)) ∧ Keep Nothing w W) from fun z W h k => ⟨by rw [h], k⟩)
  clear hr hr'
  have a0 := (q1.cell 0).trans (seqC_at _ _).1
  have b0 := (q2.cell 0).trans (seqC_at _ _).1
  obtain ⟨z1, h1⟩ : ∃ z, (p.kind == q.kind) = z := ⟨_, rfl⟩
  have h1n : (p.kind != q.kind) = !z1 := by rw [← h1]; rfl
  rw [h1] at HM
  clear h1
  cases z1
  · go_wp2_with fail
    go_ret
    exact HF.out _ _ HM.out k0
  obtain ⟨z0, h0⟩ : ∃ z, (p.kind == 0) = z := ⟨_, rfl⟩
  rw [h0] at HM
  cases z0
  case true =>
    go_wp2_with fail
    go_ret
    exact HF.out _ _ HM.out k0
  go_upto_region 5 with fail
  clear a0 b0 h0 h1n
  go_cut [62] (fun s62 wx => s62 = .bool (!restR p q) ∧ w0 = wx)
  case first =>
    have a1 := (q1.cell 1).trans (seqC_at _ _).2.1
    have a4 := (q1.cell 66).trans (seqC_at _ _).2.2.1
    have a5 := (q1.cell 67).trans (seqC_at _ _).2.2.2.1
    have a6 := (q1.cell 68).trans (seqC_at _ _).2.2.2.2.1
    have a7 := (q1.cell 69).trans (seqC_at _ _).2.2.2.2.2
    have b1 := (q2.cell 1).trans (seqC_at _ _).2.1
    have b4 := (q2.cell 66).trans (seqC_at _ _).2.2.1
    have b5 := (q2.cell 67).trans (seqC_at _ _).2.2.2.1
    have b6 := (q2.cell 68).trans (seqC_at _ _).2.2.2.2.1
    have b7 := (q2.cell 69).trans (seqC_at _ _).2.2.2.2.2
    rw [HPV.out] at a4
    rw [HQV.out] at b4
    have L1 : (LdId (.pointer (some ⟨g, 2, none⟩))).run Tryz.prog w0 = _ := ldId_mid_ q1 (seqC_ids_ _ _).1
    have L2 : (LdId (.pointer (some ⟨g + 1, 2, none⟩))).run Tryz.prog w0 = _ := ldId_mid_ q2 (seqC_ids_ _ _).1
    have L3 : (LdId (.pointer (some ⟨g, 34, none⟩))).run Tryz.prog w0 = _ := ldId_mid_ q1 (seqC_ids_ _ _).2
    have L4 : (LdId (.pointer (some ⟨g + 1, 34, none⟩))).run Tryz.prog w0 = _ := ldId_mid_ q2 (seqC_ids_ _ _).2
    have G1 := fun (a b : Operand) (W : World) => guard_id .neq a b p.orig q.orig W
    have G2 := fun (a b : Operand) (W : World) => guard_id .neq a b p.cur q.cur W
    have E1 := fun W => run_NeId W p.orig q.orig
    have E2 := fun W => run_NeId W p.cur q.cur
    have HB := Lib.hid (show ∀ z, restR p q = z → Value.bool (!z) = Value.bool (!restR p q) from fun z h => by rw [h])
    obtain ⟨z2, h2⟩ : ∃ z, (p.branch.toList == q.branch.toList) = z := ⟨_, rfl⟩
    obtain ⟨z3, h3⟩ : ∃ z, (p.orig == q.orig) = z := ⟨_, rfl⟩
    obtain ⟨z4, h4⟩ : ∃ z, (p.cur == q.cur) = z := ⟨_, rfl⟩
    obtain ⟨z5, h5⟩ : ∃ z, (p.done == q.done) = z := ⟨_, rfl⟩
    obtain ⟨z6, h6⟩ : ∃ z, (p.made == q.made) = z := ⟨_, rfl⟩
    obtain ⟨z7, h7⟩ : ∃ z, (p.stopped == q.stopped) = z := ⟨_, rfl⟩
    obtain ⟨z8, h8⟩ : ∃ z, (p.todo.length == q.todo.length) = z := ⟨_, rfl⟩
    have h2n : (p.branch.toList != q.branch.toList) = !z2 := by rw [← h2]; rfl
    have h5n : (p.done != q.done) = !z5 := by rw [← h5]; rfl
    have h6n : (p.made != q.made) = !z6 := by rw [← h6]; rfl
    have h7n : (p.stopped != q.stopped) = !z7 := by rw [← h7]; rfl
    have h8n : ((p.todo.length : Int) != (q.todo.length : Int)) = !z8 := by rw [← h8, Bool.eq_iff_iff]; simp only [bne, Bool.not_eq_true', beq_eq_false_iff_ne, ne_eq, Int.ofNat_inj]
    rw [h2, h3, h4, h5, h6, h7, h8] at HRR
    rw [h3] at E1
    rw [h4] at E2
    clear h3 h4 h8 HM HF k0 rp rq
    generalize restR p q = rr at *
    cases z2
    · go_wp2_with fail
      go_meet
      exact ⟨HB.out _ HRR.out, rfl⟩
    cases z3
    · go_wp2_with fail
      go_meet
      exact ⟨HB.out _ HRR.out, rfl⟩
    cases z4
    · go_wp2_with fail
      go_meet
      exact ⟨HB.out _ HRR.out, rfl⟩
    cases z5
    · go_wp2_with fail
      go_meet
      exact ⟨HB.out _ HRR.out, rfl⟩
    cases z6
    · go_wp2_with fail
      go_meet
      exact ⟨HB.out _ HRR.out, rfl⟩
    cases z7
    · go_wp2_with fail
      go_meet
      exact ⟨HB.out _ HRR.out, rfl⟩
    cases z8
    all_goals
      go_wp2_with fail
      go_meet
      exact ⟨HB.out _ HRR.out, rfl⟩
  case rest =>
    obtain ⟨rfl, rfl⟩ := hcut
    have HLEN := Lib.hid (show restR p q = true → p.todo.length = q.todo.length from fun h => by
      rw [HRR.out] at h
      simp only [Bool.and_eq_true] at h
      exact eq_of_beq h.2.2.2.2.2.2)
    clear HRR
    generalize restR p q = rr at *
    cases rr
    · go_wp2_with fail
      go_ret
      exact HF.out _ _ HM.out k0
    have HLM := Lib.hid (HLEN.out rfl)
    have hlm2 : p.todo.length ≤ q.todo.length := by rw [HLM.out]; exact Nat.le_refl _
    have HM2 := Lib.hid (show sameSeqR p q = eqL todoEq p.todo q.todo from by rw [HM.out]; rfl)
    clear HLEN HM
    go_wp2_with fail
    go_loopg [5] p.todo.length (fun f i wr => ∃ k : Nat, k + f = p.todo.length ∧ i = .int .i64 k ∧ (∀ p' : Addr, wr.cell? p' = w0.cell? p') ∧ Keep Nothing w wr ∧ ∀ (j : Nat) (x y : TodoD), j < k → p.todo[j]? = some x → q.todo[j]? = some y → todoEq x y = true)
    case atStart => exact ⟨0, by omega, rfl, fun _ => rfl, k0, fun j x y h => absurd h (by omega)⟩
    case round =>
      obtain ⟨k, hkf, rfl, hsame, hkw, hall⟩ := hrel
      have HKF := Lib.hid hkf
      have hk : k ≤ p.todo.length := by omega
      clear hkf
      have HS := Lib.hid hsame
      have HALL := Lib.hid hall
      clear hsame hall
      have a4 : wr.cell? ⟨g, 66, none⟩ = some (.slice A p.todo.length c) := by rw [HS.out, q1.cell, (seqC_at _ _).2.2.1, HPV.out]
      have b4 : wr.cell? ⟨g + 1, 66, none⟩ = some (.slice A' q.todo.length c') := by rw [HS.out, q2.cell, (seqC_at _ _).2.2.1, HQV.out]
      by_cases hlt : k < p.todo.length
      · obtain ⟨x, hx⟩ : ∃ x, p.todo[k]? = some x := ⟨_, List.getElem?_eq_getElem hlt⟩
        obtain ⟨y, hy⟩ : ∃ y, q.todo[k]? = some y := ⟨_, List.getElem?_eq_getElem (by omega : k < q.todo.length)⟩
        obtain ⟨g1, o1, rfl, _, hc1⟩ := rp.at0 (by omega) (by omega)
        obtain ⟨g2, o2, rfl, _, hc2⟩ := rq.at0 (by omega) (by omega)
        have L1 : (LdTodo (.pointer (some ⟨g1, o1 + k * 33, none⟩))).run Tryz.prog wr.drew = .ok (.agg (todoC x)) wr.drew := load_flat Tryz.underlying113 rfl info_todo todoL_len (fun j u hj => (HS.out _).trans (hc1 j u hj)) hx
        have L2 : (LdTodo (.pointer (some ⟨g2, o2 + k * 33, none⟩))).run Tryz.prog wr.drew = .ok (.agg (todoC y)) wr.drew := load_flat Tryz.underlying113 rfl info_todo todoL_len (fun j u hj => (HS.out _).trans (hc2 j u hj)) hy
        have G1 := fun (a b : Operand) (W : World) => guard_todo .neq a b x y W
        have E1 := fun W => NeTodo.run W x y
        have hi0 : (0 : Int) ≤ (k : Int) := Int.natCast_nonneg _
        have hi1 : (k : Int) < (p.todo.length : Int) := by omega
        have hi2 : (k : Int) < (q.todo.length : Int) := by omega
        have HX := Lib.hid hx
        have HY := Lib.hid hy
        clear hc1 hc2 hx hy
        generalize hz : todoEq x y = z at *
        have HZ := Lib.hid hz
        clear hz
        go_wp2_with fail
        refine wp_region_still_lit (by kernel_rfl) (by kernel_rfl) ?_
        repeat (first | ((with_reducible refine wpStill_step (fun K hK => ?_)); go_simp; with_reducible refine hK _ ?_; clear hK K) | ((with_reducible refine wpStill_skip ?_ ?_); (focus rfl)))
        (with_reducible refine wpStill_nil ?_)
        change Exit.then _ _ _ _ wr.drew
        cases z
        · go_wp2_with fail
          go_ret
          exact HF.out _ _ (by rw [HM2.out, eqL_false k x y HX.out HY.out HZ.out]) hkw.drew
        · go_wp2_with fail
          go_roundg (gk - 1)
          case measure => have := HKF.out; omega
          case rel =>
            refine ⟨k + 1, by have := HKF.out; omega, by go_num, fun p => HS.out p, hkw.drew, fun j a b hj h1 h2 => ?_⟩
            rcases Nat.lt_or_ge j k with q | q
            · exact HALL.out j a b q h1 h2
            · obtain rfl : j = k := by omega
              rw [HX.out] at h1
              rw [HY.out] at h2
              injection h1 with h1
              injection h2 with h2
              subst h1 h2
              exact HZ.out
      · obtain rfl : k = p.todo.length := by omega
        go_wp2_with fail
        go_ret
        exact HF.out _ _ (by rw [HM2.out, eqL_true HLM.out (fun j x y h1 h2 => HALL.out j x y (by have := (List.getElem?_eq_some_iff.1 h1).1; omega) h1 h2)]) hkw
end Go.Proofs.YtppmolneklidfaaGreat

namespace Go.Proofs.YtppmolneklidfaaGreat
open Go.RowKit

def CvBS (v : Value) : Sem Value := convert 36 9 v
theorem cv_bs (v : Value) : convert 36 9 v = CvBS v := rfl
theorem CvBS.run {w : World} {B : Nat} {A : Option Addr} {n c : Nat} {l : List UInt8} (h : Reads w B 1 A n (l.map bv)) : (CvBS (.slice A n c)).run Tryz.prog w = .ok (.string ⟨l.toArray⟩) w := by
  show (convert 36 9 (.slice A n c)).run Tryz.prog w = _
  rw [run_convert_bytes_string w 36 9 5 A n c Tryz.underlying36 Tryz.underlying5 Tryz.underlying9]
  exact run_str_of h
end Go.Proofs.YtppmolneklidfaaGreat
