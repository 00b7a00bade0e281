/-
  Comparing entries; contract of sameEntries. No statement of the seat is proved here.
-/
import Derived.Test.YtppmolneklidfaaKnown
namespace Go.Proofs.Ytppmolneklidfaa
open Go.RowKit

def entEq (x y : Ent) : Bool := (x.name.toList == y.name.toList) && ((x.kind == y.kind) && (x.id == y.id))

section
variable {P : Program}
theorem run_part_one (w : World) {ty : TypeId} {d : TypeDesc} (hu : P.underlying ty = some d) (hd : (match d with | .struct _ | .array _ _ => true | _ => false) = false) (cs : Array Value) (i : Nat) (v : Value) (hv : cs[i]? = some v) : (part ty cs i).run P w = .ok v w := by
  have : (isAgg ty).run P w = .ok false w := by
    unfold isAgg
    rw [Sem.run_bind, run_underlying hu w]
    cases d <;> simp_all
  simp [part, Sem.run_bind, this, hv]
theorem run_part_agg (w : World) {ty : TypeId} {d : TypeDesc} (hu : P.underlying ty = some d) (hd : (match d with | .struct _ | .array _ _ => true | _ => false) = true) (cs : Array Value) (i : Nat) (vs : Array Value) (hi : (P.info? ty).map (·.size) = some vs.size) (hv : vs = cs.extract i (i + vs.size)) : (part ty cs i).run P w = .ok (.agg vs) w := by
  cases hq : P.info? ty with
  | none => simp [hq] at hi
  | some inf =>
    have hs : inf.size = vs.size := by simpa [hq] using hi
    simp [part, Sem.run_bind, run_isAgg hu hd, sizeOf, typeInfo, hq, hs, ← hv]
theorem still_bin {ops : Array Oper} {o : Oper} {a : Act} {w : World} {rest : List Oper} {Q : Act → Prop} (hgd : o.guard = none) {op : BinOp} {t t' : TypeId} {x y : Operand} (ho : o.op = .binOp op t x y t') {u v r : Value} (hx : a.eval x = u) (hy : a.eval y = v) (hg : (eqGuard op t x y u v).run P w = .ok () w) (hrun : (binOp op t u v).run P w = .ok r w)
    (h : wpStill P ops w Q rest (a.put o.dst r)) : wpStill P ops w Q (o :: rest) a := by
  refine wpStill_step fun K hK => ?_
  have hw : Region.wanted o (yielded ops a.tmps) = true := by simp [Region.wanted, hgd]
  rw [if_pos hw]
  unfold Oper.still execOp
  simp only [ho, hx, hy, Sem.run_bind, hg, hrun, Result.andThen_ok, Sem.run_pure]
  exact ⟨rfl, hK _ h⟩
theorem run_eqFields_nil (w : World) (d : Nat) (xs ys : Array Value) : (Op.eqFields d xs ys []).run P w = .ok true w := rfl
theorem run_eqFields_cons (w : World) (d : Nat) (xs ys : Array Value) (f : Field) (fs : List Field) (hf : f.name ≠ "_") {a b : Value} {r r2 : Bool} (h1 : (part f.type xs f.offset).run P w = .ok a w) (h2 : (part f.type ys f.offset).run P w = .ok b w) (h3 : (Op.equalIn d f.type a b).run P w = .ok r w)
    (h4 : (Op.eqFields d xs ys fs).run P w = .ok r2 w) : (Op.eqFields d xs ys (f :: fs)).run P w = .ok (r && r2) w := by
  unfold Op.eqFields
  rw [if_pos hf]
  simp only [Sem.run_bind, h1, h2, h3, Result.andThen_ok]
  cases r
  · rfl
  · simp [h4]
end

theorem run_equalIn_id (w : World) (d : Nat) (i j : Id) : (Op.equalIn (d + 2) 42 (idV i) (idV j)).run Try.prog w = .ok (i == j) w := by
  obtain ⟨inf, hi, hs⟩ : ∃ inf, Try.prog.info? 5 = some inf ∧ inf.size = 1 := by
    have := infoU8
    cases h : Try.prog.info? 5 with
    | none => rw [h] at this; cases this
    | some inf => exact ⟨inf, rfl, by rw [h] at this; simpa using this⟩
  have h := run_equalIn_row (P := Try.prog) w d (t := 42) (len := 32) Try.underlying42 Try.underlying5 hi hs (i.1.map fun x => (x.toNat : Int)) (j.1.map fun x => (x.toNat : Int)) (by simp [i.2]) (by simp [j.2])
  rw [← idC_ints, ← idC_ints, ids_beq] at h
  exact h

theorem stood_ent : Try.prog.stoodInHeld 87 = false := by kernel_rfl
theorem plain_ent : Try.prog.eqGuardType Try.prog.depth 87 = false := by kernel_rfl
theorem fields_ent : Try.prog.underlying 87 = some (.struct (Try.prog.fieldsOf 87)) := by kernel_rfl
theorem run_equalIn_ent (w : World) (d : Nat) (x y : Ent) : (Op.equalIn (d + 3) 87 (entV x) (entV y)).run Try.prog w = .ok (entEq x y) w := by
  unfold entV
  rw [run_equalIn_struct w (d + 2) 87 (entC x) (entC y) fields_ent stood_ent]
  unfold Program.fieldsOf
  rw [Try.underlying87]
  unfold entEq
  refine run_eqFields_cons w _ _ _ _ _ (by decide) (run_part_one w Try.underlying9 rfl _ _ _ (by simp [entC, entL])) (run_part_one w Try.underlying9 rfl _ _ _ (by simp [entC, entL])) (run_equalIn_string w _ _ _ _ Try.underlying9) ?_
  refine run_eqFields_cons w _ _ _ _ _ (by decide) (run_part_one w Try.underlying3 rfl _ _ _ (by simp [entC, entL])) (run_part_one w Try.underlying3 rfl _ _ _ (by simp [entC, entL])) (run_equalIn_int w _ _ .i64 _ _ _ Try.underlying3) ?_
  rw [← Bool.and_true (x.id == y.id)]
  refine run_eqFields_cons w _ _ _ _ _ (by decide) (run_part_agg w Try.underlying42 rfl _ _ (idC x.id) (by rw [idC_size]; exact info42) (entC_id x)) (run_part_agg w Try.underlying42 rfl _ _ (idC y.id) (by rw [idC_size]; exact info42) (entC_id y)) (run_equalIn_id w d x.id y.id) ?_
  exact run_eqFields_nil w _ _ _
theorem run_neq_ent (w : World) (x y : Ent) : (binOp .neq 87 (entV x) (entV y)).run Try.prog w = .ok (.bool (!entEq x y)) w := by
  show (binOp .neq 87 (.agg (entC x)) (.agg (entC y))).run Try.prog w = _
  rw [run_neq_struct]
  have := run_equalIn_ent w 9997 x y
  unfold entV at this
  rw [this]
  rfl
theorem guard_ent (op : BinOp) (a b : Operand) (x y : Ent) (w : World) : (eqGuard op 87 a b (entV x) (entV y)).run Try.prog w = .ok () w :=
  run_eqGuard_agg (P := Try.prog) w op 87 a b (entC x) (entC y) plain_ent

def entsEq : List Ent → List Ent → Bool
  | [], [] => true
  | x :: l, y :: m => entEq x y && entsEq l m
  | _, _ => false
theorem entEq_refl (x : Ent) : entEq x x = true := by simp [entEq]
theorem entsEq_refl : ∀ l : List Ent, entsEq l l = true
  | [] => rfl
  | x :: l => by simp [entsEq, entEq_refl, entsEq_refl l]

set_option maxHeartbeats 1000000 in
set_option maxRecDepth 100000 in
theorem sameEntries_refl (l : List Ent) (A A' : Option Addr) (c c' : Nat) (B : Nat) (w : World) (hr : Reads w B 34 A l.length (entLs l)) (hr' : Reads w B 34 A' l.length (entLs l)) (hl : l.length ≤ 9223372036854775807) :
    Calls Try.prog 16 #[.slice A l.length c, .slice A' l.length c'] w fun r w' => r = .returned (.bool true) ∧ Keep Nothing w w' := by
  go_enter Try.func16, Try.ntmps16
  go_wp2_with fail
  go_loopw [5] (fun i wr => ∃ k : Nat, k ≤ l.length ∧ i = .int .i64 k ∧ (∀ p : Addr, wr.cell? p = w.cell? p) ∧ Keep Nothing w wr) (fun i _ => l.length - (intOf i).toNat)
  case atStart => exact ⟨0, Nat.zero_le _, rfl, fun _ => rfl, Keep.refl _ _⟩
  case round =>
    obtain ⟨k, hk, rfl, hsame, hkw⟩ := hrel
    have HS := Lib.hid hsame
    clear hsame
    by_cases hlt : k < l.length
    · obtain ⟨x, hx⟩ : ∃ x, l[k]? = some x := ⟨_, List.getElem?_eq_getElem hlt⟩
      obtain ⟨g1, o1, rfl, _, hc1⟩ := hr.at0 (by omega) (by omega)
      obtain ⟨g2, o2, rfl, _, hc2⟩ := hr'.at0 (by omega) (by omega)
      have L1 := Lib.hid (load_ent_at0 (w := wr.drew) (fun j u hj => (HS.out _).trans (hc1 j u hj)) hx)
      have L2 := Lib.hid (load_ent_at0 (w := wr.drew) (fun j u hj => (HS.out _).trans (hc2 j u hj)) hx)
      have hi0 : (0 : Int) ≤ (k : Int) := Int.natCast_nonneg _
      have hi1 : (k : Int) < (l.length : Int) := by omega
      clear hc1 hc2 hx
      go_wp2_with fail
      refine wp_region_still_lit (by kernel_rfl) (by kernel_rfl) ?_
      still_step
      still_step
      still_step
      refine still_load rfl rfl rfl L1.out ?_
      go_frame
      still_step
      still_step
      still_step
      refine still_load rfl rfl rfl L2.out ?_
      go_frame
      refine still_bin rfl rfl (u := entV x) rfl (v := entV x) rfl (guard_ent _ _ _ x x _) (run_neq_ent _ x x) ?_
      rw [entEq_refl]
      go_frame
      refine wpStill_nil ?_
      change Exit.then _ _ _ _ wr.drew
      go_wp2_with fail
      go_roundw
      case rel => exact ⟨k + 1, by omega, by go_num, fun p => HS.out p, hkw.drew⟩
      case measure => simp [intOf]; omega
    · obtain rfl : k = l.length := by omega
      go_wp2_with fail
      go_ret
      exact ⟨rfl, hkw⟩
end Go.Proofs.Ytppmolneklidfaa
