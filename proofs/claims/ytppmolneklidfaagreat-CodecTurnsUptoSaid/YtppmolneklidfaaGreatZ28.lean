/-
  Texts of the codec joined (Sm1, Sm2, Sm3). No statement of the seat is proved here.
-/
import Derived.Test.YtppmolneklidfaaGreatZ22
import Derived.Test.YtppmolneklidfaaGreatZ06
import Derived.Test.YtppmolneklidfaaGreatZ12
namespace Go.Proofs.YtppmolneklidfaaGreat
open Go.RowKit

/-! ### Lists compared one by one -/
def eqL {α : Type} (f : α → α → Bool) : List α → List α → Bool
  | [], [] => true
  | x :: l, y :: m => f x y && eqL f l m
  | _, _ => false
theorem eqL_len {α : Type} {f : α → α → Bool} : ∀ {l m : List α}, l.length ≠ m.length → eqL f l m = false
  | [], [], h => absurd rfl h
  | [], _ :: _, _ => rfl
  | _ :: _, [], _ => rfl
  | x :: l, y :: m, h => by
    show (f x y && eqL f l m) = false
    rw [eqL_len (by simpa using h), Bool.and_false]
theorem eqL_true {α : Type} {f : α → α → Bool} : ∀ {l m : List α}, l.length = m.length → (∀ (j : Nat) (x y : α), l[j]? = some x → m[j]? = some y → f x y = true) → eqL f l m = true
  | [], [], _, _ => rfl
  | [], _ :: _, h, _ => by simp at h
  | _ :: _, [], h, _ => by simp at h
  | x :: l, y :: m, h, hf => by
    show (f x y && eqL f l m) = true
    rw [hf 0 x y rfl rfl, eqL_true (by simpa using h) (fun j a b ha hb => hf (j + 1) a b ha hb)]
    rfl
theorem eqL_false {α : Type} {f : α → α → Bool} : ∀ {l m : List α} (j : Nat) (x y : α), l[j]? = some x → m[j]? = some y → f x y = false → eqL f l m = false
  | [], _, _, _, _, h, _, _ => by simp at h
  | _ :: _, [], _, _, _, _, h, _ => by simp at h
  | a :: l, b :: m, 0, x, y, h1, h2, h3 => by
    simp only [List.getElem?_cons_zero, Option.some.injEq] at h1 h2
    subst h1 h2
    show (f a b && _) = false
    rw [h3, Bool.false_and]
  | a :: l, b :: m, j + 1, x, y, h1, h2, h3 => by
    show (_ && eqL f l m) = false
    rw [eqL_false j x y (by simpa using h1) (by simpa using h2) h3, Bool.and_false]
theorem eqL_refl {α : Type} {f : α → α → Bool} (hf : ∀ x, f x x = true) (l : List α) : eqL f l l = true :=
  eqL_true rfl (fun j x y h1 h2 => by rw [h1] at h2; injection h2 with h2; subst h2; exact hf x)

/-! ### Moves and steps to do -/
def moveEq (x y : MoveD) : Bool := (x.name.toList == y.name.toList) && ((x.old == y.old) && ((x.new_ == y.new_) && (x.why.toList == y.why.toList)))
def todoEq (x y : TodoD) : Bool := (x.act == y.act) && (x.id == y.id)
theorem moveEq_refl (x : MoveD) : moveEq x x = true := by simp [moveEq]
theorem todoEq_refl (x : TodoD) : todoEq x x = true := by simp [todoEq]
theorem stood_move : Tryz.prog.stoodInHeld 60 = false := by kernel_rfl
theorem plain_move : Tryz.prog.eqGuardType Tryz.prog.depth 60 = false := by kernel_rfl
theorem fields_move : Tryz.prog.underlying 60 = some (.struct (Tryz.prog.fieldsOf 60)) := by kernel_rfl
theorem stood_todo : Tryz.prog.stoodInHeld 113 = false := by kernel_rfl
theorem plain_todo : Tryz.prog.eqGuardType Tryz.prog.depth 113 = false := by kernel_rfl
theorem fields_todo_ : Tryz.prog.underlying 113 = some (.struct (Tryz.prog.fieldsOf 113)) := by kernel_rfl
theorem run_equalIn_move (w : World) (d : Nat) (x y : MoveD) : (Op.equalIn (d + 3) 60 (.agg (moveC x)) (.agg (moveC y))).run Tryz.prog w = .ok (moveEq x y) w := by
  have hx := (moveC_at x).2
  have hy := (moveC_at y).2
  rw [run_equalIn_struct w (d + 2) 60 (moveC x) (moveC y) fields_move stood_move]
  unfold Program.fieldsOf
  rw [Tryz.underlying60]
  unfold moveEq
  refine run_eqFields_cons w _ _ _ _ _ (by decide) (run_part_one w Tryz.underlying9 rfl _ _ _ (moveC_at x).1) (run_part_one w Tryz.underlying9 rfl _ _ _ (moveC_at y).1) (run_equalIn_string w _ _ _ _ Tryz.underlying9) ?_
  refine run_eqFields_cons w _ _ _ _ _ (by decide) (run_part_agg w Tryz.underlying24 rfl _ _ (idC x.old) (by rw [idC_size]; exact info42) (moveC_old x)) (run_part_agg w Tryz.underlying24 rfl _ _ (idC y.old) (by rw [idC_size]; exact info42) (moveC_old y)) (run_equalIn_id w d x.old y.old) ?_
  refine run_eqFields_cons w _ _ _ _ _ (by decide) (run_part_agg w Tryz.underlying24 rfl _ _ (idC x.new_) (by rw [idC_size]; exact info42) (moveC_new x)) (run_part_agg w Tryz.underlying24 rfl _ _ (idC y.new_) (by rw [idC_size]; exact info42) (moveC_new y)) (run_equalIn_id w d x.new_ y.new_) ?_
  rw [← Bool.and_true (x.why.toList == y.why.toList)]
  refine run_eqFields_cons w _ _ _ _ _ (by decide) (run_part_one w Tryz.underlying9 rfl _ _ _ hx) (run_part_one w Tryz.underlying9 rfl _ _ _ hy) (run_equalIn_string w _ _ _ _ Tryz.underlying9) ?_
  exact run_eqFields_nil w _ _ _
theorem run_equalIn_todo (w : World) (d : Nat) (x y : TodoD) : (Op.equalIn (d + 3) 113 (.agg (todoC x)) (.agg (todoC y))).run Tryz.prog w = .ok (todoEq x y) w := by
  rw [run_equalIn_struct w (d + 2) 113 (todoC x) (todoC y) fields_todo_ stood_todo]
  unfold Program.fieldsOf
  rw [Tryz.underlying113]
  unfold todoEq
  refine run_eqFields_cons w _ _ _ _ _ (by decide) (run_part_one w Tryz.underlying3 rfl _ _ _ (todoC_at x)) (run_part_one w Tryz.underlying3 rfl _ _ _ (todoC_at y)) (run_equalIn_int w _ _ .i64 _ _ _ Tryz.underlying3) ?_
  rw [← Bool.and_true (x.id == y.id)]
  refine run_eqFields_cons w _ _ _ _ _ (by decide) (run_part_agg w Tryz.underlying24 rfl _ _ (idC x.id) (by rw [idC_size]; exact info42) (todoC_id x)) (run_part_agg w Tryz.underlying24 rfl _ _ (idC y.id) (by rw [idC_size]; exact info42) (todoC_id y)) (run_equalIn_id w d x.id y.id) ?_
  exact run_eqFields_nil w _ _ _

def LdMove (v : Value) : Sem Value := Instr.loadAt 60 v
theorem ldm_move (v : Value) : Instr.loadAt 60 v = LdMove v := rfl
def NeMove (u v : Value) : Sem Value := binOp .neq 60 u v
theorem nem_move (u v : Value) : binOp .neq 60 u v = NeMove u v := rfl
theorem NeMove.run (w : World) (x y : MoveD) : (NeMove (.agg (moveC x)) (.agg (moveC y))).run Tryz.prog w = .ok (.bool (!moveEq x y)) w := by
  show (binOp .neq 60 (.agg (moveC x)) (.agg (moveC y))).run Tryz.prog w = _
  rw [run_neq_struct, run_equalIn_move w 9997 x y]
  rfl
theorem guard_move (op : BinOp) (a b : Operand) (x y : MoveD) (w : World) : (eqGuard op 60 a b (.agg (moveC x)) (.agg (moveC y))).run Tryz.prog w = .ok () w :=
  run_eqGuard_agg (P := Tryz.prog) w op 60 a b (moveC x) (moveC y) plain_move
section
attribute [local go_sem ↓] ldm_move nem_move
set_option maxHeartbeats 2000000 in
set_option maxRecDepth 100000 in
theorem equal_move (l m : List MoveD) (A A' : Option Addr) (c c' : Nat) (B : Nat) (w : World) (hr : Reads w B 66 A l.length (moveLs l)) (hr' : Reads w B 66 A' m.length (moveLs m)) (hl : l.length ≤ 9223372036854775807) (hm : m.length ≤ 9223372036854775807) :
    Calls Tryz.prog 75 #[.slice A l.length c, .slice A' m.length c'] w fun r w' => r = .returned (.bool (eqL moveEq l m)) ∧ Keep Nothing w w' := by
  by_cases hlm : l.length = m.length
  · have d0 : ((l.length : Int) != (m.length : Int)) = false := by rw [hlm]; simp
    have HLM := Lib.hid hlm
    have hlm2 : l.length ≤ m.length := by omega
    clear hlm
    go_enter Tryz.func75, Tryz.ntmps75
    go_wp2_with fail
    go_loopw [13] (fun i wr => ∃ k : Nat, k ≤ l.length ∧ i = .int .i64 k ∧ (∀ p : Addr, wr.cell? p = w.cell? p) ∧ Keep Nothing w wr ∧ ∀ (j : Nat) (x y : MoveD), j < k → l[j]? = some x → m[j]? = some y → moveEq x y = true) (fun i _ => l.length - (intOf i).toNat)
    case atStart => exact ⟨0, Nat.zero_le _, rfl, fun _ => rfl, Keep.refl _ _, fun j x y h => absurd h (by omega)⟩
    case round =>
      obtain ⟨k, hk, rfl, hsame, hkw, hall⟩ := hrel
      have HS := Lib.hid hsame
      clear hsame
      have HALL := Lib.hid hall
      clear hall
      by_cases hlt : k < l.length
      · obtain ⟨x, hx⟩ : ∃ x, l[k]? = some x := ⟨_, List.getElem?_eq_getElem hlt⟩
        obtain ⟨y, hy⟩ : ∃ y, m[k]? = some y := ⟨_, List.getElem?_eq_getElem (by omega : k < m.length)⟩
        obtain ⟨g1, o1, rfl, _, hc1⟩ := hr.at0 (by omega) (by omega)
        obtain ⟨g2, o2, rfl, _, hc2⟩ := hr'.at0 (by omega) (by omega)
        have L1 : (LdMove (.pointer (some ⟨g1, o1 + k * 66, none⟩))).run Tryz.prog wr.drew = .ok (.agg (moveC x)) wr.drew := load_flat Tryz.underlying60 rfl info_move moveL_len (fun j u hj => (HS.out _).trans (hc1 j u hj)) hx
        have L2 : (LdMove (.pointer (some ⟨g2, o2 + k * 66, none⟩))).run Tryz.prog wr.drew = .ok (.agg (moveC y)) wr.drew := load_flat Tryz.underlying60 rfl info_move moveL_len (fun j u hj => (HS.out _).trans (hc2 j u hj)) hy
        have G1 := fun (a b : Operand) (W : World) => guard_move .neq a b x y W
        have E1 := fun W => NeMove.run W x y
        have hi0 : (0 : Int) ≤ (k : Int) := Int.natCast_nonneg _
        have hi1 : (k : Int) < (l.length : Int) := by omega
        have hi2 : (k : Int) < (m.length : Int) := by omega
        have HX := Lib.hid hx
        have HY := Lib.hid hy
        clear hc1 hc2 hx hy
        generalize hz : moveEq x y = z at *
        have HZ := Lib.hid hz
        clear hz
        go_wp2_with fail
        refine wp_region_still_lit (by kernel_rfl) (by kernel_rfl) ?_
        repeat (first | ((with_reducible refine wpStill_step (fun K hK => ?_)); go_simp; with_reducible refine hK _ ?_; clear hK K) | ((with_reducible refine wpStill_skip ?_ ?_); (focus rfl)))
        (with_reducible refine wpStill_nil ?_)
        change Exit.then _ _ _ _ wr.drew
        cases z
        · go_wp2_with fail
          go_ret
          exact ⟨by rw [eqL_false k x y HX.out HY.out HZ.out]; rfl, hkw.drew⟩
        · go_wp2_with fail
          go_roundw
          case rel =>
            refine ⟨k + 1, by omega, by go_num, fun p => HS.out p, hkw.drew, fun j a b hj h1 h2 => ?_⟩
            rcases Nat.lt_or_ge j k with q | q
            · exact HALL.out j a b q h1 h2
            · obtain rfl : j = k := by omega
              rw [HX.out] at h1
              rw [HY.out] at h2
              injection h1 with h1
              injection h2 with h2
              subst h1 h2
              exact HZ.out
          case measure => simp [intOf]; omega
      · obtain rfl : k = l.length := by omega
        go_wp2_with fail
        go_ret
        exact ⟨by rw [eqL_true HLM.out (fun j x y h1 h2 => HALL.out j x y (by have := (List.getElem?_eq_some_iff.1 h1).1; omega) h1 h2)]; rfl, hkw⟩
  · have d0 : ((l.length : Int) != (m.length : Int)) = true := by simp; omega
    have HLM := Lib.hid hlm
    go_enter Tryz.func75, Tryz.ntmps75
    go_wp2_with fail
    go_ret
    exact ⟨by rw [eqL_len HLM.out]; rfl, Keep.refl _ _⟩
end

def LdTodo (v : Value) : Sem Value := Instr.loadAt 113 v
theorem ldm_todo (v : Value) : Instr.loadAt 113 v = LdTodo v := rfl
def NeTodo (u v : Value) : Sem Value := binOp .neq 113 u v
theorem nem_todo (u v : Value) : binOp .neq 113 u v = NeTodo u v := rfl
theorem NeTodo.run (w : World) (x y : TodoD) : (NeTodo (.agg (todoC x)) (.agg (todoC y))).run Tryz.prog w = .ok (.bool (!todoEq x y)) w := by
  show (binOp .neq 113 (.agg (todoC x)) (.agg (todoC y))).run Tryz.prog w = _
  rw [run_neq_struct, run_equalIn_todo w 9997 x y]
  rfl
theorem guard_todo (op : BinOp) (a b : Operand) (x y : TodoD) (w : World) : (eqGuard op 113 a b (.agg (todoC x)) (.agg (todoC y))).run Tryz.prog w = .ok () w :=
  run_eqGuard_agg (P := Tryz.prog) w op 113 a b (todoC x) (todoC y) plain_todo
section
attribute [local go_sem ↓] ldm_todo nem_todo
set_option maxHeartbeats 2000000 in
set_option maxRecDepth 100000 in
theorem equal_todo (l m : List TodoD) (A A' : Option Addr) (c c' : Nat) (B : Nat) (w : World) (hr : Reads w B 33 A l.length (todoLs l)) (hr' : Reads w B 33 A' m.length (todoLs m)) (hl : l.length ≤ 9223372036854775807) (hm : m.length ≤ 9223372036854775807) :
    Calls Tryz.prog 89 #[.slice A l.length c, .slice A' m.length c'] w fun r w' => r = .returned (.bool (eqL todoEq l m)) ∧ Keep Nothing w w' := by
  by_cases hlm : l.length = m.length
  · have d0 : ((l.length : Int) != (m.length : Int)) = false := by rw [hlm]; simp
    have HLM := Lib.hid hlm
    have hlm2 : l.length ≤ m.length := by omega
    clear hlm
    go_enter Tryz.func89, Tryz.ntmps89
    go_wp2_with fail
    go_loopw [13] (fun i wr => ∃ k : Nat, k ≤ l.length ∧ i = .int .i64 k ∧ (∀ p : Addr, wr.cell? p = w.cell? p) ∧ Keep Nothing w wr ∧ ∀ (j : Nat) (x y : TodoD), j < k → l[j]? = some x → m[j]? = some y → todoEq x y = true) (fun i _ => l.length - (intOf i).toNat)
    case atStart => exact ⟨0, Nat.zero_le _, rfl, fun _ => rfl, Keep.refl _ _, fun j x y h => absurd h (by omega)⟩
    case round =>
      obtain ⟨k, hk, rfl, hsame, hkw, hall⟩ := hrel
      have HS := Lib.hid hsame
      clear hsame
      have HALL := Lib.hid hall
      clear hall
      by_cases hlt : k < l.length
      · obtain ⟨x, hx⟩ : ∃ x, l[k]? = some x := ⟨_, List.getElem?_eq_getElem hlt⟩
        obtain ⟨y, hy⟩ : ∃ y, m[k]? = some y := ⟨_, List.getElem?_eq_getElem (by omega : k < m.length)⟩
        obtain ⟨g1, o1, rfl, _, hc1⟩ := hr.at0 (by omega) (by omega)
        obtain ⟨g2, o2, rfl, _, hc2⟩ := hr'.at0 (by omega) (by omega)
        have L1 : (LdTodo (.pointer (some ⟨g1, o1 + k * 33, none⟩))).run Tryz.prog wr.drew = .ok (.agg (todoC x)) wr.drew := load_flat Tryz.underlying113 rfl info_todo todoL_len (fun j u hj => (HS.out _).trans (hc1 j u hj)) hx
        have L2 : (LdTodo (.pointer (some ⟨g2, o2 + k * 33, none⟩))).run Tryz.prog wr.drew = .ok (.agg (todoC y)) wr.drew := load_flat Tryz.underlying113 rfl info_todo todoL_len (fun j u hj => (HS.out _).trans (hc2 j u hj)) hy
        have G1 := fun (a b : Operand) (W : World) => guard_todo .neq a b x y W
        have E1 := fun W => NeTodo.run W x y
        have hi0 : (0 : Int) ≤ (k : Int) := Int.natCast_nonneg _
        have hi1 : (k : Int) < (l.length : Int) := by omega
        have hi2 : (k : Int) < (m.length : Int) := by omega
        have HX := Lib.hid hx
        have HY := Lib.hid hy
        clear hc1 hc2 hx hy
        generalize hz : todoEq x y = z at *
        have HZ := Lib.hid hz
        clear hz
        go_wp2_with fail
        refine wp_region_still_lit (by kernel_rfl) (by kernel_rfl) ?_
        repeat (first | ((with_reducible refine wpStill_step (fun K hK => ?_)); go_simp; with_reducible refine hK _ ?_; clear hK K) | ((with_reducible refine wpStill_skip ?_ ?_); (focus rfl)))
        (with_reducible refine wpStill_nil ?_)
        change Exit.then _ _ _ _ wr.drew
        cases z
        · go_wp2_with fail
          go_ret
          exact ⟨by rw [eqL_false k x y HX.out HY.out HZ.out]; rfl, hkw.drew⟩
        · go_wp2_with fail
          go_roundw
          case rel =>
            refine ⟨k + 1, by omega, by go_num, fun p => HS.out p, hkw.drew, fun j a b hj h1 h2 => ?_⟩
            rcases Nat.lt_or_ge j k with q | q
            · exact HALL.out j a b q h1 h2
            · obtain rfl : j = k := by omega
              rw [HX.out] at h1
              rw [HY.out] at h2
              injection h1 with h1
              injection h2 with h2
              subst h1 h2
              exact HZ.out
          case measure => simp [intOf]; omega
      · obtain rfl : k = l.length := by omega
        go_wp2_with fail
        go_ret
        exact ⟨by rw [eqL_true HLM.out (fun j x y h1 h2 => HALL.out j x y (by have := (List.getElem?_eq_some_iff.1 h1).1; omega) h1 h2)]; rfl, hkw⟩
  · have d0 : ((l.length : Int) != (m.length : Int)) = true := by simp; omega
    have HLM := Lib.hid hlm
    go_enter Tryz.func89, Tryz.ntmps89
    go_wp2_with fail
    go_ret
    exact ⟨by rw [eqL_len HLM.out]; rfl, Keep.refl _ _⟩
end
end Go.Proofs.YtppmolneklidfaaGreat

namespace Go.Proofs.YtppmolneklidfaaGreat
open Go.RowKit

theorem byte_ne (x y : UInt8) : ((x.toNat : Int) != (y.toNat : Int)) = !(x == y) := by
  rw [Bool.eq_iff_iff]
  simp only [bne, Bool.not_eq_true', beq_eq_false_iff_ne, ne_eq, Int.ofNat_inj, UInt8.toNat_inj]
theorem eqL_beq : ∀ (l m : List UInt8), eqL (fun a b => a == b) l m = (l == m)
  | [], [] => rfl
  | [], _ :: _ => rfl
  | _ :: _, [] => rfl
  | x :: l, y :: m => by
    show ((x == y) && eqL _ l m) = _
    rw [eqL_beq l m]
    rfl

set_option maxHeartbeats 2000000 in
set_option maxRecDepth 100000 in
theorem equal_bytes (l m : List UInt8) (A A' : Option Addr) (c c' : Nat) (B : Nat) (w : World) (hr : Reads w B 1 A l.length (l.map bv)) (hr' : Reads w B 1 A' m.length (m.map bv)) (hl : l.length ≤ 9223372036854775807) (hm : m.length ≤ 9223372036854775807) :
    Calls Tryz.prog 80 #[.slice A l.length c, .slice A' m.length c'] w fun r w' => r = .returned (.bool (l == m)) ∧ Keep Nothing w w' := by
  rw [← eqL_beq]
  by_cases hlm : l.length = m.length
  · have d0 : ((l.length : Int) != (m.length : Int)) = false := by rw [hlm]; simp
    have HLM := Lib.hid hlm
    have hlm2 : l.length ≤ m.length := by omega
    clear hlm
    go_enter Tryz.func80, Tryz.ntmps80
    go_wp2_with fail
    go_loopw [13] (fun i wr => ∃ k : Nat, k ≤ l.length ∧ i = .int .i64 k ∧ (∀ p : Addr, wr.cell? p = w.cell? p) ∧ Keep Nothing w wr ∧ ∀ (j : Nat) (x y : UInt8), j < k → l[j]? = some x → m[j]? = some y → (x == y) = true) (fun i _ => l.length - (intOf i).toNat)
    case atStart => exact ⟨0, Nat.zero_le _, rfl, fun _ => rfl, Keep.refl _ _, fun j x y h => absurd h (by omega)⟩
    case round =>
      obtain ⟨k, hk, rfl, hsame, hkw, hall⟩ := hrel
      have HS := Lib.hid hsame
      clear hsame
      have HALL := Lib.hid hall
      clear hall
      by_cases hlt : k < l.length
      · obtain ⟨x, hx⟩ : ∃ x, l[k]? = some x := ⟨_, List.getElem?_eq_getElem hlt⟩
        obtain ⟨y, hy⟩ : ∃ y, m[k]? = some y := ⟨_, List.getElem?_eq_getElem (by omega : k < m.length)⟩
        obtain ⟨g1, o1, rfl, _, hc1⟩ := hr.at0 (by omega) (by omega)
        obtain ⟨g2, o2, rfl, _, hc2⟩ := hr'.at0 (by omega) (by omega)
        have e1 : wr.cell? ⟨g1, o1 + k, none⟩ = some (.int .u8 (x.toNat : Int)) := (HS.out _).trans (hc1 k _ (by rw [List.getElem?_map, hx]; rfl))
        have e2 : wr.cell? ⟨g2, o2 + k, none⟩ = some (.int .u8 (y.toNat : Int)) := (HS.out _).trans (hc2 k _ (by rw [List.getElem?_map, hy]; rfl))
        have hne := byte_ne x y
        have hi0 : (0 : Int) ≤ (k : Int) := Int.natCast_nonneg _
        have hi1 : (k : Int) < (l.length : Int) := by omega
        have hi2 : (k : Int) < (m.length : Int) := by omega
        have HX := Lib.hid hx
        have HY := Lib.hid hy
        clear hc1 hc2 hx hy
        generalize hz : (x == y) = z at *
        have HZ := Lib.hid hz
        clear hz
        generalize (x.toNat : Int) = xi at *
        generalize (y.toNat : Int) = yi at *
        go_wp2_with fail
        refine wp_region_still_lit (by kernel_rfl) (by kernel_rfl) ?_
        repeat (first | ((with_reducible refine wpStill_step (fun K hK => ?_)); go_simp; with_reducible refine hK _ ?_; clear hK K) | ((with_reducible refine wpStill_skip ?_ ?_); (focus rfl)))
        (with_reducible refine wpStill_nil ?_)
        change Exit.then _ _ _ _ wr.drew
        cases z
        · go_wp2_with fail
          go_ret
          exact ⟨by rw [eqL_false k x y HX.out HY.out HZ.out]; rfl, hkw.drew⟩
        · go_wp2_with fail
          go_roundw
          case rel =>
            refine ⟨k + 1, by omega, by go_num, fun p => HS.out p, hkw.drew, fun j a b hj h1 h2 => ?_⟩
            rcases Nat.lt_or_ge j k with q | q
            · exact HALL.out j a b q h1 h2
            · obtain rfl : j = k := by omega
              rw [HX.out] at h1
              rw [HY.out] at h2
              injection h1 with h1
              injection h2 with h2
              subst h1 h2
              exact HZ.out
          case measure => simp [intOf]; omega
      · obtain rfl : k = l.length := by omega
        go_wp2_with fail
        go_ret
        exact ⟨by rw [eqL_true HLM.out (fun j x y h1 h2 => HALL.out j x y (by have := (List.getElem?_eq_some_iff.1 h1).1; omega) h1 h2)]; rfl, hkw⟩
  · have d0 : ((l.length : Int) != (m.length : Int)) = true := by simp; omega
    have HLM := Lib.hid hlm
    go_enter Tryz.func80, Tryz.ntmps80
    go_wp2_with fail
    go_ret
    exact ⟨by rw [eqL_len HLM.out]; rfl, Keep.refl _ _⟩

theorem ldId_mid_ {w : World} {g off : Nat} {t : TypeId} {cs : Array Value} {i : Id} (h : Blk w g t cs) (hi : idC i = cs.extract off (off + (idC i).size)) : (Instr.loadAt 24 (.pointer (some ⟨g, off, none⟩))).run Tryz.prog w = .ok (idV i) w :=
  run_loadAt_blk (P := Tryz.prog) h off (idC i) Tryz.underlying24 rfl (by rw [idC_size]; exact info42) hi
def memEq (x y : MemD) : Bool := (x.key == y.key) && (x.data == y.data)
theorem memEq_refl (x : MemD) : memEq x x = true := by simp [memEq]
attribute [local go_sem ↓] ld_id eq_id ne_id
set_option maxHeartbeats 2000000 in
set_option maxRecDepth 100000 in
theorem sameMem_any (x y : MemD) (B : Nat) (w : World) (hB : B ≤ w.heap.size) (hx : Reads w B 1 x.adr x.data.length (x.data.map bv)) (hy : Reads w B 1 y.adr y.data.length (y.data.map bv)) (lx : x.data.length ≤ 9223372036854775807) (ly : y.data.length ≤ 9223372036854775807) :
    Calls Tryz.prog 79 #[.agg (memC x), .agg (memC y)] w fun r w' => r = .returned (.bool (memEq x y)) ∧ Keep Nothing w w' := by
  have q1 : Blk ((w.alloc (.cells (memC x) 62)).alloc (.cells (memC y) 62)) w.heap.size 62 (memC x) := (Blk.new _ _ _).alloc _
  have q2 : Blk ((w.alloc (.cells (memC x) 62)).alloc (.cells (memC y) 62)) (w.heap.size + 1) 62 (memC y) := by
    have := Blk.new (w.alloc (.cells (memC x) 62)) 62 (memC y)
    simpa using this
  have k0 : Keep Nothing w ((w.alloc (.cells (memC x) 62)).alloc (.cells (memC y) 62)) := ((Keep.refl _ _).alloc _).alloc _
  go_enter Tryz.func79, Tryz.ntmps79
  go_upto_region 1 with (first | (refine wpList_boxed rfl rfl (cs := memC x) rfl ?_) | (refine wpList_boxed rfl rfl (cs := memC y) rfl ?_))
  generalize (w.alloc (.cells (memC x) 62)).alloc (.cells (memC y) 62) = w0 at *
  have rx := hx.below (k0.below hB (fun _ _ h => h))
  have ry := hy.below (k0.below hB (fun _ _ h => h))
  have L1 : (LdId (.pointer (some ⟨w.heap.size, 0, none⟩))).run Tryz.prog w0 = _ := ldId_mid_ q1 (memC_id x)
  have L2 : (LdId (.pointer (some ⟨w.heap.size + 1, 0, none⟩))).run Tryz.prog w0 = _ := ldId_mid_ q2 (memC_id y)
  have G1 := fun (a b : Operand) (W : World) => guard_id .eql a b x.key y.key W
  have E1 := fun W => run_EqId W x.key y.key
  have c1 := (q1.cell 32).trans (memC_at x)
  have c2 := (q2.cell 32).trans (memC_at y)
  have HM := Lib.hid (show memEq x y = ((x.key == y.key) && (x.data == y.data)) from rfl)
  clear q1 q2
  generalize w.heap.size = q at *
  generalize (x.key == y.key) = z at *
  cases z
  · go_wp2_with fail
    go_ret
    exact ⟨by rw [HM.out]; rfl, k0⟩
  · go_wp2_with (first | (go_at_call 80; refine (equal_bytes x.data y.data _ _ _ _ B _ rx ry lx ly).mono ?_; rintro r w1 ⟨rfl, k1⟩))
    go_ret
    exact ⟨by rw [HM.out]; rfl, k0.trans k1⟩

/-! ### EqualFunc at memories, by that function -/
set_option maxHeartbeats 2000000 in
set_option maxRecDepth 100000 in
theorem equalFunc_mem (l m : List MemD) (A A' : Option Addr) (c c' : Nat) (B : Nat) (w : World) (hB : B ≤ w.heap.size) (hr : Reads w B 33 A l.length (memLs l)) (hr' : Reads w B 33 A' m.length (memLs m)) (hl : l.length ≤ 9223372036854775807) (hm : m.length ≤ 9223372036854775807)
    (hd : ∀ x ∈ l, Reads w B 1 x.adr x.data.length (x.data.map bv) ∧ x.data.length ≤ maxLen) (hd' : ∀ x ∈ m, Reads w B 1 x.adr x.data.length (x.data.map bv) ∧ x.data.length ≤ maxLen) :
    Calls Tryz.prog 78 #[.slice A l.length c, .slice A' m.length c', .func (.func 79) #[] #[]] w fun r w' => r = .returned (.bool (eqL memEq l m)) ∧ Keep Nothing w w' := by
  by_cases hlm : l.length = m.length
  · have d0 : ((l.length : Int) != (m.length : Int)) = false := by rw [hlm]; simp
    have HLM := Lib.hid hlm
    have hlm2 : l.length ≤ m.length := by omega
    have HD := Lib.hid hd
    have HD' := Lib.hid hd'
    have HR := Lib.hid (show ∀ W, Keep Nothing w W → Reads W B 33 A l.length (memLs l) ∧ Reads W B 33 A' m.length (memLs m) from fun W k => ⟨hr.below (k.below hB (fun _ _ h => h)), hr'.below (k.below hB (fun _ _ h => h))⟩)
    clear hlm hd hd' hr hr'
    go_enter Tryz.func78, Tryz.ntmps78
    go_wp2_with fail
    go_loopw [17] (fun i wr => ∃ k : Nat, k ≤ l.length ∧ i = .int .i64 k ∧ Keep Nothing w wr ∧ ∀ (j : Nat) (x y : MemD), j < k → l[j]? = some x → m[j]? = some y → memEq x y = true) (fun i _ => l.length - (intOf i).toNat)
    case atStart => exact ⟨0, Nat.zero_le _, rfl, Keep.refl _ _, fun j x y h => absurd h (by omega)⟩
    case round =>
      obtain ⟨k, hk, rfl, hkw, hall⟩ := hrel
      have HALL := Lib.hid hall
      clear hall
      by_cases hlt : k < l.length
      · obtain ⟨x, hx⟩ : ∃ x, l[k]? = some x := ⟨_, List.getElem?_eq_getElem hlt⟩
        obtain ⟨y, hy⟩ : ∃ y, m[k]? = some y := ⟨_, List.getElem?_eq_getElem (by omega : k < m.length)⟩
        obtain ⟨g1, o1, rfl, _, hc1⟩ := (HR.out _ hkw).1.at0 (by omega) (by omega)
        have L1 := Lib.hid (load_flat (w := wr) Tryz.underlying62 rfl info_mem memL_len (fun j u hj => hc1 j u hj) hx)
        have HX := Lib.hid hx
        have HY := Lib.hid hy
        have HDX := HD.out x (List.mem_of_getElem? hx)
        have HDY := HD'.out y (List.mem_of_getElem? hy)
        have RX := Lib.hid HDX.1
        have RY := Lib.hid HDY.1
        have lx : x.data.length ≤ 9223372036854775807 := by have := HDX.2; unfold maxLen at this; omega
        have ly : y.data.length ≤ 9223372036854775807 := by have := HDY.2; unfold maxLen at this; omega
        clear hc1 hx hy HDX HDY
        go_upto_region 6 with (first | (refine wpList_load rfl rfl rfl L1.out ?_) | (refine wpList_allocAgg rfl rfl (zero_mem _) ?_) | (refine wpList_storeBlk rfl rfl (vs := memC x) rfl rfl (Blk.new _ _ _) (by rw [memC_size, memC_size]) (by rw [memC_size]; exact info_mem) (memL_one _) ?_; intro w1 x1 kc zc))
        have k1 := hkw.trans (Keep.ofNew (S := Nothing) kc)
        have hz1 : wr.heap.size < w1.heap.size := x1.lt
        generalize wr.heap.size = z1 at *
        clear kc zc L1
        obtain ⟨g2, o2, rfl, _, hc2⟩ := (HR.out _ k1).2.at0 (by omega) (by omega)
        have L2 := Lib.hid (load_flat (w := w1) Tryz.underlying62 rfl info_mem memL_len (fun j u hj => hc2 j u hj) HY.out)
        clear hc2
        go_upto_region 7 with (first | (refine wpList_load rfl rfl rfl L2.out ?_) | (refine wpList_allocAgg rfl rfl (zero_mem _) ?_) | (refine wpList_storeBlk rfl rfl (vs := memC y) rfl rfl (Blk.new _ _ _) (by rw [memC_size, memC_size]) (by rw [memC_size]; exact info_mem) (memL_one _) ?_; intro w2 x2 kc zc))
        have k2 := k1.trans (Keep.ofNew (S := Nothing) kc)
        have x1' := x1.keep (Keep.ofNew (S := Nothing) kc) (fun h => h)
        generalize w1.heap.size = z2 at *
        clear kc zc L2 x1
        have t1 : True := trivial
        go_wp2_with (first | (have _t := t1; refine wpList_load rfl rfl rfl (load_whole x1' Tryz.underlying62 rfl (by rw [memC_size]; exact info_mem)) ?_; clear t1) | (refine wpList_load rfl rfl rfl (load_whole x2 Tryz.underlying62 rfl (by rw [memC_size]; exact info_mem)) ?_))
        refine (sameMem_any x y B _ (by have := k2.size; omega) (RX.out.below (k2.below hB (fun _ _ h => h))) (RY.out.below (k2.below hB (fun _ _ h => h))) lx ly).mono ?_
        rintro r w3 ⟨rfl, k3⟩
        have kk := k2.trans k3
        generalize hz : memEq x y = z at *
        have HZ := Lib.hid hz
        clear hz
        cases z
        · go_wp2_with fail
          go_ret
          exact ⟨by rw [eqL_false k x y HX.out HY.out HZ.out]; rfl, kk⟩
        · go_wp2_with fail
          go_roundw
          case rel =>
            refine ⟨k + 1, by omega, by go_num, kk, fun j a b hj h1 h2 => ?_⟩
            rcases Nat.lt_or_ge j k with q | q
            · exact HALL.out j a b q h1 h2
            · obtain rfl : j = k := by omega
              rw [HX.out] at h1
              rw [HY.out] at h2
              injection h1 with h1
              injection h2 with h2
              subst h1 h2
              exact HZ.out
          case measure => simp [intOf]; omega
      · obtain rfl : k = l.length := by omega
        go_wp2_with fail
        go_ret
        exact ⟨by rw [eqL_true HLM.out (fun j x y h1 h2 => HALL.out j x y (by have := (List.getElem?_eq_some_iff.1 h1).1; omega) h1 h2)]; rfl, hkw⟩
  · have d0 : ((l.length : Int) != (m.length : Int)) = true := by simp; omega
    have HLM := Lib.hid hlm
    go_enter Tryz.func78, Tryz.ntmps78
    go_wp2_with fail
    go_ret
    exact ⟨by rw [eqL_len HLM.out]; rfl, Keep.refl _ _⟩
end Go.Proofs.YtppmolneklidfaaGreat

namespace Go.Proofs.YtppmolneklidfaaGreat
open Go.RowKit

def sameSeqP (p q : SeqD) : Bool := (p.kind == q.kind) && ((p.branch.toList == q.branch.toList) && ((p.orig == q.orig) && ((p.cur == q.cur) && (eqL todoEq p.todo q.todo && ((p.done == q.done) && ((p.made == q.made) && (p.stopped == q.stopped)))))))
theorem sameSeqP_refl (p : SeqD) : sameSeqP p p = true := by simp [sameSeqP, eqL_refl todoEq_refl]
theorem seqC_ids_ (q : SeqD) (tv : Value) : idC q.orig = (seqC q tv).extract 2 (2 + (idC q.orig).size) ∧ idC q.cur = (seqC q tv).extract 34 (34 + (idC q.cur).size) := by
  have h1 := idL_len q.orig
  have h2 := idL_len q.cur
  constructor
  · apply Array.ext'
    simp [seqC, seqL, idC, h1]
  · apply Array.ext'
    simp [seqC, seqL, idC, h1, h2]
attribute [local go_sem ↓] ld_id eq_id ne_id
set_option maxHeartbeats 8000000 in
set_option maxRecDepth 100000 in
theorem sameSeq_any (p q : SeqD) (A A' : Option Addr) (c c' : Nat) (B : Nat) (w : World) (hB : B ≤ w.heap.size) (hr : Reads w B 33 A p.todo.length (todoLs p.todo)) (hr' : Reads w B 33 A' q.todo.length (todoLs q.todo)) (hl : p.todo.length ≤ 9223372036854775807) (hm : q.todo.length ≤ 9223372036854775807) :
    Calls Tryz.prog 77 #[.agg (seqC p (.slice A p.todo.length c)), .agg (seqC q (.slice A' q.todo.length c'))] w fun r w' => r = .returned (.bool (sameSeqP p q)) ∧ Keep Nothing w w' := by
  obtain ⟨pv, hpv⟩ : ∃ v, v = Value.slice A p.todo.length c := ⟨_, rfl⟩
  obtain ⟨qv, hqv⟩ : ∃ v, v = Value.slice A' q.todo.length c' := ⟨_, rfl⟩
  rw [← hpv, ← hqv]
  have q1 : Blk ((w.alloc (.cells (seqC p pv) 31)).alloc (.cells (seqC q qv) 31)) w.heap.size 31 (seqC p pv) := (Blk.new _ _ _).alloc _
  have q2 : Blk ((w.alloc (.cells (seqC p pv) 31)).alloc (.cells (seqC q qv) 31)) (w.heap.size + 1) 31 (seqC q qv) := by
    have := Blk.new (w.alloc (.cells (seqC p pv) 31)) 31 (seqC q qv)
    simpa using this
  have k0 : Keep Nothing w ((w.alloc (.cells (seqC p pv) 31)).alloc (.cells (seqC q qv) 31)) := ((Keep.refl _ _).alloc _).alloc _
  have HPV := Lib.hid hpv
  have HQV := Lib.hid hqv
  clear hpv hqv
  go_enter Tryz.func77, Tryz.ntmps77
  go_upto_region 1 with (first | (refine wpList_boxed rfl rfl (cs := seqC p pv) rfl ?_) | (refine wpList_boxed rfl rfl (cs := seqC q qv) rfl ?_))
  generalize (w.alloc (.cells (seqC p pv) 31)).alloc (.cells (seqC q qv) 31) = w0 at *
  have rp := hr.below (k0.below hB (fun _ _ h => h))
  have rq := hr'.below (k0.below hB (fun _ _ h => h))
  generalize w.heap.size = g at *
  have a0 := (q1.cell 0).trans (seqC_at _ _).1
  have a1 := (q1.cell 1).trans (seqC_at _ _).2.1
  have a4 := (q1.cell 66).trans (seqC_at _ _).2.2.1
  have b0 := (q2.cell 0).trans (seqC_at _ _).1
  have b1 := (q2.cell 1).trans (seqC_at _ _).2.1
  have b4 := (q2.cell 66).trans (seqC_at _ _).2.2.1
  rw [HPV.out] at a4
  rw [HQV.out] at b4
  have L1 : (LdId (.pointer (some ⟨g, 2, none⟩))).run Tryz.prog w0 = _ := ldId_mid_ q1 (seqC_ids_ _ _).1
  have L2 : (LdId (.pointer (some ⟨g + 1, 2, none⟩))).run Tryz.prog w0 = _ := ldId_mid_ q2 (seqC_ids_ _ _).1
  have L3 : (LdId (.pointer (some ⟨g, 34, none⟩))).run Tryz.prog w0 = _ := ldId_mid_ q1 (seqC_ids_ _ _).2
  have L4 : (LdId (.pointer (some ⟨g + 1, 34, none⟩))).run Tryz.prog w0 = _ := ldId_mid_ q2 (seqC_ids_ _ _).2
  have G1 := fun (a b : Operand) (W : World) => guard_id .eql a b p.orig q.orig W
  have G2 := fun (a b : Operand) (W : World) => guard_id .eql a b p.cur q.cur W
  have E1 := fun W => run_EqId W p.orig q.orig
  have E2 := fun W => run_EqId W p.cur q.cur
  have HM := Lib.hid (show sameSeqP p q = ((p.kind == q.kind) && ((p.branch.toList == q.branch.toList) && ((p.orig == q.orig) && ((p.cur == q.cur) && (eqL todoEq p.todo q.todo && ((p.done == q.done) && ((p.made == q.made) && (p.stopped == q.stopped)))))))) from rfl)
  have HEQ := Lib.hid (equal_todo p.todo q.todo A A' c c' B w0 rp rq hl hm)
  clear rp rq hr hr'
  have fin : ∀ z W, sameSeqP p q = z → Keep Nothing w W → (Ending.returned (.bool z) = .returned (.bool (sameSeqP p q)) ∧ Keep Nothing w W) := fun z W h k => ⟨by rw [h], k⟩
  have HF := Lib.hid fin
  clear fin
  obtain ⟨z1, h1⟩ : ∃ z, (p.kind == q.kind) = z := ⟨_, rfl⟩
  obtain ⟨z2, h2⟩ : ∃ z, (p.branch.toList == q.branch.toList) = z := ⟨_, rfl⟩
  obtain ⟨z3, h3⟩ : ∃ z, (p.orig == q.orig) = z := ⟨_, rfl⟩
  obtain ⟨z4, h4⟩ : ∃ z, (p.cur == q.cur) = z := ⟨_, rfl⟩
  obtain ⟨z5, h5⟩ : ∃ z, eqL todoEq p.todo q.todo = z := ⟨_, rfl⟩
  obtain ⟨z6, h6⟩ : ∃ z, (p.done == q.done) = z := ⟨_, rfl⟩
  obtain ⟨z7, h7⟩ : ∃ z, (p.made == q.made) = z := ⟨_, rfl⟩
  obtain ⟨z8, h8⟩ : ∃ z, (p.stopped == q.stopped) = z := ⟨_, rfl⟩
  rw [h1, h2, h3, h4, h5, h6, h7, h8] at HM
  rw [h3] at E1
  rw [h4] at E2
  rw [h5] at HEQ
  clear h3 h4 h5
  cases z1
  · go_wp2_with fail
    go_ret
    exact HF.out _ _ HM.out k0
  · skip
    cases z2
    · go_wp2_with fail
      go_ret
      exact HF.out _ _ HM.out k0
    · skip
      cases z3
      · go_wp2_with fail
        go_ret
        exact HF.out _ _ HM.out k0
      · skip
        cases z4
        · go_wp2_with fail
          go_ret
          exact HF.out _ _ HM.out k0
        · skip
          go_wp2_with fail
          refine HEQ.out.mono ?_
          rintro r w1 ⟨rfl, k1⟩
          have x1 := q1.keep k1 (fun h => h)
          have x2 := q2.keep k1 (fun h => h)
          have kk := k0.trans k1
          clear q1 q2 k0 k1 a0 a1 a4 b0 b1 b4 L1 L2 L3 L4 G1 G2 E1 E2 HEQ
          have a67 := (x1.cell 67).trans (seqC_at _ _).2.2.2.1
          have b67 := (x2.cell 67).trans (seqC_at _ _).2.2.2.1
          have a68 := (x1.cell 68).trans (seqC_at _ _).2.2.2.2.1
          have b68 := (x2.cell 68).trans (seqC_at _ _).2.2.2.2.1
          have a69 := (x1.cell 69).trans (seqC_at _ _).2.2.2.2.2
          have b69 := (x2.cell 69).trans (seqC_at _ _).2.2.2.2.2
          cases z5
          · go_wp2_with fail
            go_ret
            exact HF.out _ _ HM.out kk
          · skip
            cases z6
            · go_wp2_with fail
              go_ret
              exact HF.out _ _ HM.out kk
            · skip
              cases z7
              · go_wp2_with fail
                go_ret
                exact HF.out _ _ HM.out kk
              · skip
                go_wp2_with fail
                go_ret
                exact HF.out _ _ HM.out kk
end Go.Proofs.YtppmolneklidfaaGreat
