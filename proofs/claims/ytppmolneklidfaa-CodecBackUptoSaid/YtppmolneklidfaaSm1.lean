/-
  Comparing moves, steps to do, bytes; contracts of slices.Equal at them. No statement of the seat is proved here.
-/
import Derived.Test.YtppmolneklidfaaTx1
import Derived.Test.YtppmolneklidfaaSame
namespace Go.Proofs.Ytppmolneklidfaa
open Go.RowKit

/-! ### Lists compared one by one -/
def eqL {α : Type} (f : α → α → Bool) : List α → List α → Bool
  | [], [] => true
  | x :: l, y :: m => f x y && eqL f l m
  | _, _ => false
theorem eqL_len {α : Type} {f : α → α → Bool} : ∀ {l m : List α}, l.length ≠ m.length → eqL f l m = false
  | [], [], h => absurd rfl h
  | [], _ :: _, _ => rfl
  | _ :: _, [], _ => rfl
  | x :: l, y :: m, h => by
    show (f x y && eqL f l m) = false
    rw [eqL_len (by simpa using h), Bool.and_false]
theorem eqL_true {α : Type} {f : α → α → Bool} : ∀ {l m : List α}, l.length = m.length → (∀ (j : Nat) (x y : α), l[j]? = some x → m[j]? = some y → f x y = true) → eqL f l m = true
  | [], [], _, _ => rfl
  | [], _ :: _, h, _ => by simp at h
  | _ :: _, [], h, _ => by simp at h
  | x :: l, y :: m, h, hf => by
    show (f x y && eqL f l m) = true
    rw [hf 0 x y rfl rfl, eqL_true (by simpa using h) (fun j a b ha hb => hf (j + 1) a b ha hb)]
    rfl
theorem eqL_false {α : Type} {f : α → α → Bool} : ∀ {l m : List α} (j : Nat) (x y : α), l[j]? = some x → m[j]? = some y → f x y = false → eqL f l m = false
  | [], _, _, _, _, h, _, _ => by simp at h
  | _ :: _, [], _, _, _, _, h, _ => by simp at h
  | a :: l, b :: m, 0, x, y, h1, h2, h3 => by
    simp only [List.getElem?_cons_zero, Option.some.injEq] at h1 h2
    subst h1 h2
    show (f a b && _) = false
    rw [h3, Bool.false_and]
  | a :: l, b :: m, j + 1, x, y, h1, h2, h3 => by
    show (_ && eqL f l m) = false
    rw [eqL_false j x y (by simpa using h1) (by simpa using h2) h3, Bool.and_false]
theorem eqL_refl {α : Type} {f : α → α → Bool} (hf : ∀ x, f x x = true) (l : List α) : eqL f l l = true :=
  eqL_true rfl (fun j x y h1 h2 => by rw [h1] at h2; injection h2 with h2; subst h2; exact hf x)

/-! ### Moves and steps to do -/
def moveEq (x y : MoveD) : Bool := (x.name.toList == y.name.toList) && ((x.old == y.old) && ((x.new_ == y.new_) && (x.why.toList == y.why.toList)))
def todoEq (x y : TodoD) : Bool := (x.act == y.act) && (x.id == y.id)
theorem moveEq_refl (x : MoveD) : moveEq x x = true := by simp [moveEq]
theorem todoEq_refl (x : TodoD) : todoEq x x = true := by simp [todoEq]
theorem stood_move : Try.prog.stoodInHeld 128 = false := by kernel_rfl
theorem plain_move : Try.prog.eqGuardType Try.prog.depth 128 = false := by kernel_rfl
theorem fields_move : Try.prog.underlying 128 = some (.struct (Try.prog.fieldsOf 128)) := by kernel_rfl
theorem stood_todo : Try.prog.stoodInHeld 82 = false := by kernel_rfl
theorem plain_todo : Try.prog.eqGuardType Try.prog.depth 82 = false := by kernel_rfl
theorem fields_todo_ : Try.prog.underlying 82 = some (.struct (Try.prog.fieldsOf 82)) := by kernel_rfl
theorem run_equalIn_move (w : World) (d : Nat) (x y : MoveD) : (Op.equalIn (d + 3) 128 (.agg (moveC x)) (.agg (moveC y))).run Try.prog w = .ok (moveEq x y) w := by
  have hx := (moveC_at x).2
  have hy := (moveC_at y).2
  rw [run_equalIn_struct w (d + 2) 128 (moveC x) (moveC y) fields_move stood_move]
  unfold Program.fieldsOf
  rw [Try.underlying128]
  unfold moveEq
  refine run_eqFields_cons w _ _ _ _ _ (by decide) (run_part_one w Try.underlying9 rfl _ _ _ (moveC_at x).1) (run_part_one w Try.underlying9 rfl _ _ _ (moveC_at y).1) (run_equalIn_string w _ _ _ _ Try.underlying9) ?_
  refine run_eqFields_cons w _ _ _ _ _ (by decide) (run_part_agg w Try.underlying42 rfl _ _ (idC x.old) (by rw [idC_size]; exact info42) (moveC_old x)) (run_part_agg w Try.underlying42 rfl _ _ (idC y.old) (by rw [idC_size]; exact info42) (moveC_old y)) (run_equalIn_id w d x.old y.old) ?_
  refine run_eqFields_cons w _ _ _ _ _ (by decide) (run_part_agg w Try.underlying42 rfl _ _ (idC x.new_) (by rw [idC_size]; exact info42) (moveC_new x)) (run_part_agg w Try.underlying42 rfl _ _ (idC y.new_) (by rw [idC_size]; exact info42) (moveC_new y)) (run_equalIn_id w d x.new_ y.new_) ?_
  rw [← Bool.and_true (x.why.toList == y.why.toList)]
  refine run_eqFields_cons w _ _ _ _ _ (by decide) (run_part_one w Try.underlying9 rfl _ _ _ hx) (run_part_one w Try.underlying9 rfl _ _ _ hy) (run_equalIn_string w _ _ _ _ Try.underlying9) ?_
  exact run_eqFields_nil w _ _ _
theorem run_equalIn_todo (w : World) (d : Nat) (x y : TodoD) : (Op.equalIn (d + 3) 82 (.agg (todoC x)) (.agg (todoC y))).run Try.prog w = .ok (todoEq x y) w := by
  rw [run_equalIn_struct w (d + 2) 82 (todoC x) (todoC y) fields_todo_ stood_todo]
  unfold Program.fieldsOf
  rw [Try.underlying82]
  unfold todoEq
  refine run_eqFields_cons w _ _ _ _ _ (by decide) (run_part_one w Try.underlying3 rfl _ _ _ (todoC_at x)) (run_part_one w Try.underlying3 rfl _ _ _ (todoC_at y)) (run_equalIn_int w _ _ .i64 _ _ _ Try.underlying3) ?_
  rw [← Bool.and_true (x.id == y.id)]
  refine run_eqFields_cons w _ _ _ _ _ (by decide) (run_part_agg w Try.underlying42 rfl _ _ (idC x.id) (by rw [idC_size]; exact info42) (todoC_id x)) (run_part_agg w Try.underlying42 rfl _ _ (idC y.id) (by rw [idC_size]; exact info42) (todoC_id y)) (run_equalIn_id w d x.id y.id) ?_
  exact run_eqFields_nil w _ _ _

def LdMove (v : Value) : Sem Value := Instr.loadAt 128 v
theorem ldm_move (v : Value) : Instr.loadAt 128 v = LdMove v := rfl
def NeMove (u v : Value) : Sem Value := binOp .neq 128 u v
theorem nem_move (u v : Value) : binOp .neq 128 u v = NeMove u v := rfl
theorem NeMove.run (w : World) (x y : MoveD) : (NeMove (.agg (moveC x)) (.agg (moveC y))).run Try.prog w = .ok (.bool (!moveEq x y)) w := by
  show (binOp .neq 128 (.agg (moveC x)) (.agg (moveC y))).run Try.prog w = _
  rw [run_neq_struct, run_equalIn_move w 9997 x y]
  rfl
theorem guard_move (op : BinOp) (a b : Operand) (x y : MoveD) (w : World) : (eqGuard op 128 a b (.agg (moveC x)) (.agg (moveC y))).run Try.prog w = .ok () w :=
  run_eqGuard_agg (P := Try.prog) w op 128 a b (moveC x) (moveC y) plain_move
section
attribute [local go_sem ↓] ldm_move nem_move
set_option maxHeartbeats 2000000 in
set_option maxRecDepth 100000 in
theorem equal_move (l m : List MoveD) (A A' : Option Addr) (c c' : Nat) (B : Nat) (w : World) (hr : Reads w B 66 A l.length (moveLs l)) (hr' : Reads w B 66 A' m.length (moveLs m)) (hl : l.length ≤ 9223372036854775807) (hm : m.length ≤ 9223372036854775807) :
    Calls Try.prog 81 #[.slice A l.length c, .slice A' m.length c'] w fun r w' => r = .returned (.bool (eqL moveEq l m)) ∧ Keep Nothing w w' := by
  by_cases hlm : l.length = m.length
  · have d0 : ((l.length : Int) != (m.length : Int)) = false := by rw [hlm]; simp
    have HLM := Lib.hid hlm
    have hlm2 : l.length ≤ m.length := by omega
    clear hlm
    go_enter Try.func81, Try.ntmps81
    go_wp2_with fail
    go_loopw [13] (fun i wr => ∃ k : Nat, k ≤ l.length ∧ i = .int .i64 k ∧ (∀ p : Addr, wr.cell? p = w.cell? p) ∧ Keep Nothing w wr ∧ ∀ (j : Nat) (x y : MoveD), j < k → l[j]? = some x → m[j]? = some y → moveEq x y = true) (fun i _ => l.length - (intOf i).toNat)
    case atStart => exact ⟨0, Nat.zero_le _, rfl, fun _ => rfl, Keep.refl _ _, fun j x y h => absurd h (by omega)⟩
    case round =>
      obtain ⟨k, hk, rfl, hsame, hkw, hall⟩ := hrel
      have HS := Lib.hid hsame
      clear hsame
      have HALL := Lib.hid hall
      clear hall
      by_cases hlt : k < l.length
      · obtain ⟨x, hx⟩ : ∃ x, l[k]? = some x := ⟨_, List.getElem?_eq_getElem hlt⟩
        obtain ⟨y, hy⟩ : ∃ y, m[k]? = some y := ⟨_, List.getElem?_eq_getElem (by omega : k < m.length)⟩
        obtain ⟨g1, o1, rfl, _, hc1⟩ := hr.at0 (by omega) (by omega)
        obtain ⟨g2, o2, rfl, _, hc2⟩ := hr'.at0 (by omega) (by omega)
        have L1 : (LdMove (.pointer (some ⟨g1, o1 + k * 66, none⟩))).run Try.prog wr.drew = .ok (.agg (moveC x)) wr.drew := load_flat Try.underlying128 rfl info_move moveL_len (fun j u hj => (HS.out _).trans (hc1 j u hj)) hx
        have L2 : (LdMove (.pointer (some ⟨g2, o2 + k * 66, none⟩))).run Try.prog wr.drew = .ok (.agg (moveC y)) wr.drew := load_flat Try.underlying128 rfl info_move moveL_len (fun j u hj => (HS.out _).trans (hc2 j u hj)) hy
        have G1 := fun (a b : Operand) (W : World) => guard_move .neq a b x y W
        have E1 := fun W => NeMove.run W x y
        have hi0 : (0 : Int) ≤ (k : Int) := Int.natCast_nonneg _
        have hi1 : (k : Int) < (l.length : Int) := by omega
        have hi2 : (k : Int) < (m.length : Int) := by omega
        have HX := Lib.hid hx
        have HY := Lib.hid hy
        clear hc1 hc2 hx hy
        generalize hz : moveEq x y = z at *
        have HZ := Lib.hid hz
        clear hz
        go_wp2_with fail
        refine wp_region_still_lit (by kernel_rfl) (by kernel_rfl) ?_
        repeat (first | ((with_reducible refine wpStill_step (fun K hK => ?_)); go_simp; with_reducible refine hK _ ?_; clear hK K) | ((with_reducible refine wpStill_skip ?_ ?_); (focus rfl)))
        (with_reducible refine wpStill_nil ?_)
        change Exit.then _ _ _ _ wr.drew
        cases z
        · go_wp2_with fail
          go_ret
          exact ⟨by rw [eqL_false k x y HX.out HY.out HZ.out]; rfl, hkw.drew⟩
        · go_wp2_with fail
          go_roundw
          case rel =>
            refine ⟨k + 1, by omega, by go_num, fun p => HS.out p, hkw.drew, fun j a b hj h1 h2 => ?_⟩
            rcases Nat.lt_or_ge j k with q | q
            · exact HALL.out j a b q h1 h2
            · obtain rfl : j = k := by omega
              rw [HX.out] at h1
              rw [HY.out] at h2
              injection h1 with h1
              injection h2 with h2
              subst h1 h2
              exact HZ.out
          case measure => simp [intOf]; omega
      · obtain rfl : k = l.length := by omega
        go_wp2_with fail
        go_ret
        exact ⟨by rw [eqL_true HLM.out (fun j x y h1 h2 => HALL.out j x y (by have := (List.getElem?_eq_some_iff.1 h1).1; omega) h1 h2)]; rfl, hkw⟩
  · have d0 : ((l.length : Int) != (m.length : Int)) = true := by simp; omega
    have HLM := Lib.hid hlm
    go_enter Try.func81, Try.ntmps81
    go_wp2_with fail
    go_ret
    exact ⟨by rw [eqL_len HLM.out]; rfl, Keep.refl _ _⟩
end

def LdTodo (v : Value) : Sem Value := Instr.loadAt 82 v
theorem ldm_todo (v : Value) : Instr.loadAt 82 v = LdTodo v := rfl
def NeTodo (u v : Value) : Sem Value := binOp .neq 82 u v
theorem nem_todo (u v : Value) : binOp .neq 82 u v = NeTodo u v := rfl
theorem NeTodo.run (w : World) (x y : TodoD) : (NeTodo (.agg (todoC x)) (.agg (todoC y))).run Try.prog w = .ok (.bool (!todoEq x y)) w := by
  show (binOp .neq 82 (.agg (todoC x)) (.agg (todoC y))).run Try.prog w = _
  rw [run_neq_struct, run_equalIn_todo w 9997 x y]
  rfl
theorem guard_todo (op : BinOp) (a b : Operand) (x y : TodoD) (w : World) : (eqGuard op 82 a b (.agg (todoC x)) (.agg (todoC y))).run Try.prog w = .ok () w :=
  run_eqGuard_agg (P := Try.prog) w op 82 a b (todoC x) (todoC y) plain_todo
section
attribute [local go_sem ↓] ldm_todo nem_todo
set_option maxHeartbeats 2000000 in
set_option maxRecDepth 100000 in
theorem equal_todo (l m : List TodoD) (A A' : Option Addr) (c c' : Nat) (B : Nat) (w : World) (hr : Reads w B 33 A l.length (todoLs l)) (hr' : Reads w B 33 A' m.length (todoLs m)) (hl : l.length ≤ 9223372036854775807) (hm : m.length ≤ 9223372036854775807) :
    Calls Try.prog 97 #[.slice A l.length c, .slice A' m.length c'] w fun r w' => r = .returned (.bool (eqL todoEq l m)) ∧ Keep Nothing w w' := by
  by_cases hlm : l.length = m.length
  · have d0 : ((l.length : Int) != (m.length : Int)) = false := by rw [hlm]; simp
    have HLM := Lib.hid hlm
    have hlm2 : l.length ≤ m.length := by omega
    clear hlm
    go_enter Try.func97, Try.ntmps97
    go_wp2_with fail
    go_loopw [13] (fun i wr => ∃ k : Nat, k ≤ l.length ∧ i = .int .i64 k ∧ (∀ p : Addr, wr.cell? p = w.cell? p) ∧ Keep Nothing w wr ∧ ∀ (j : Nat) (x y : TodoD), j < k → l[j]? = some x → m[j]? = some y → todoEq x y = true) (fun i _ => l.length - (intOf i).toNat)
    case atStart => exact ⟨0, Nat.zero_le _, rfl, fun _ => rfl, Keep.refl _ _, fun j x y h => absurd h (by omega)⟩
    case round =>
      obtain ⟨k, hk, rfl, hsame, hkw, hall⟩ := hrel
      have HS := Lib.hid hsame
      clear hsame
      have HALL := Lib.hid hall
      clear hall
      by_cases hlt : k < l.length
      · obtain ⟨x, hx⟩ : ∃ x, l[k]? = some x := ⟨_, List.getElem?_eq_getElem hlt⟩
        obtain ⟨y, hy⟩ : ∃ y, m[k]? = some y := ⟨_, List.getElem?_eq_getElem (by omega : k < m.length)⟩
        obtain ⟨g1, o1, rfl, _, hc1⟩ := hr.at0 (by omega) (by omega)
        obtain ⟨g2, o2, rfl, _, hc2⟩ := hr'.at0 (by omega) (by omega)
        have L1 : (LdTodo (.pointer (some ⟨g1, o1 + k * 33, none⟩))).run Try.prog wr.drew = .ok (.agg (todoC x)) wr.drew := load_flat Try.underlying82 rfl info_todo todoL_len (fun j u hj => (HS.out _).trans (hc1 j u hj)) hx
        have L2 : (LdTodo (.pointer (some ⟨g2, o2 + k * 33, none⟩))).run Try.prog wr.drew = .ok (.agg (todoC y)) wr.drew := load_flat Try.underlying82 rfl info_todo todoL_len (fun j u hj => (HS.out _).trans (hc2 j u hj)) hy
        have G1 := fun (a b : Operand) (W : World) => guard_todo .neq a b x y W
        have E1 := fun W => NeTodo.run W x y
        have hi0 : (0 : Int) ≤ (k : Int) := Int.natCast_nonneg _
        have hi1 : (k : Int) < (l.length : Int) := by omega
        have hi2 : (k : Int) < (m.length : Int) := by omega
        have HX := Lib.hid hx
        have HY := Lib.hid hy
        clear hc1 hc2 hx hy
        generalize hz : todoEq x y = z at *
        have HZ := Lib.hid hz
        clear hz
        go_wp2_with fail
        refine wp_region_still_lit (by kernel_rfl) (by kernel_rfl) ?_
        repeat (first | ((with_reducible refine wpStill_step (fun K hK => ?_)); go_simp; with_reducible refine hK _ ?_; clear hK K) | ((with_reducible refine wpStill_skip ?_ ?_); (focus rfl)))
        (with_reducible refine wpStill_nil ?_)
        change Exit.then _ _ _ _ wr.drew
        cases z
        · go_wp2_with fail
          go_ret
          exact ⟨by rw [eqL_false k x y HX.out HY.out HZ.out]; rfl, hkw.drew⟩
        · go_wp2_with fail
          go_roundw
          case rel =>
            refine ⟨k + 1, by omega, by go_num, fun p => HS.out p, hkw.drew, fun j a b hj h1 h2 => ?_⟩
            rcases Nat.lt_or_ge j k with q | q
            · exact HALL.out j a b q h1 h2
            · obtain rfl : j = k := by omega
              rw [HX.out] at h1
              rw [HY.out] at h2
              injection h1 with h1
              injection h2 with h2
              subst h1 h2
              exact HZ.out
          case measure => simp [intOf]; omega
      · obtain rfl : k = l.length := by omega
        go_wp2_with fail
        go_ret
        exact ⟨by rw [eqL_true HLM.out (fun j x y h1 h2 => HALL.out j x y (by have := (List.getElem?_eq_some_iff.1 h1).1; omega) h1 h2)]; rfl, hkw⟩
  · have d0 : ((l.length : Int) != (m.length : Int)) = true := by simp; omega
    have HLM := Lib.hid hlm
    go_enter Try.func97, Try.ntmps97
    go_wp2_with fail
    go_ret
    exact ⟨by rw [eqL_len HLM.out]; rfl, Keep.refl _ _⟩
end
end Go.Proofs.Ytppmolneklidfaa
