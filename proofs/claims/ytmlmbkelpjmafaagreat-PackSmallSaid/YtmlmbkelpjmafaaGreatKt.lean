/-
  sync.Once.Do in one goroutine, the first time. No statement of the seat is proved here.
-/
import Derived.Test.YtmlmbkelpjmafaaGreatKs
namespace Go.Proofs.YtmlmbkelpjmafaaGreat
open Go.RowKit Go.Shelf
set_option maxRecDepth 1000000 in
set_option maxHeartbeats 4000000 in
theorem load_any9 (a : Addr) (w : World) (h : w.cell? a = some (.int .u32 0)) : Calls Tryz.prog 41 #[.pointer (some a)] w fun e w' => e = .returned (.bool false) ∧ w = w' := by
  have hl := run_call_load (P := Tryz.prog) Tryz.func60 (by kernel_rfl) (by kernel_rfl) (by kernel_rfl) .u32 (by kernel_rfl) (w := w) (a := a) (x := 0) h
  go_enter Tryz.func41, Tryz.ntmps41
  go_wp2_with fail
  go_ret
  exact ⟨rfl, rfl⟩
set_option maxRecDepth 1000000 in
set_option maxHeartbeats 4000000 in
theorem slow_any9 (q : Nat) (pl : Addr) (W : World) (R : World → Prop) (h0 : W.cell? ⟨q, 0, none⟩ = some (.int .u32 0)) (h1 : W.cell? ⟨q, 1, none⟩ = some (.int .i32 0)) (f1 : W.frozen? ⟨q, 1, none⟩ = false)
    (HC : Calls Tryz.prog 29 #[.pointer (some pl)] (W.setCell ⟨q, 1, none⟩ (.int .i32 1)) fun e w' => e = .returned (.tuple #[]) ∧ R w')
    (hR : ∀ w', R w' → w'.cell? ⟨q, 0, none⟩ = some (.int .u32 0) ∧ w'.cell? ⟨q, 1, none⟩ = some (.int .i32 1) ∧ w'.frozen? ⟨q, 0, none⟩ = false ∧ w'.frozen? ⟨q, 1, none⟩ = false) :
    Calls Tryz.prog 42 #[.pointer (some ⟨q, 0, none⟩), .func (.func 29) #[] #[.pointer (some pl)]] W fun e w' => e = .returned (.tuple #[]) ∧ ∃ w9, R w9 ∧ w' = (w9.drew.setCell ⟨q, 0, none⟩ (.int .u32 1)).setCell ⟨q, 1, none⟩ (.int .i32 0) := by
  have HLD := Lib.hid (load_any9 ⟨q, 0, none⟩ (W.setCell ⟨q, 1, none⟩ (.int .i32 1)) ((World.cell?_setCell_other _ ⟨q, 1, none⟩ ⟨q, 0, none⟩ _ (by simp)).trans h0))
  have hnot : ∀ (x : Bool) (w : World), (Op.unary .not (.bool x)).run Tryz.prog w = .ok (.bool (!x)) w := fun _ _ => rfl
  have HCC := Lib.hid HC
  have HRR := Lib.hid hR
  have HLK := Lib.hid (lock_free9 ⟨q, 1, none⟩ W h1 f1)
  clear HC hR
  go_enter_defers Tryz.func42, Tryz.ntmps42
  go_wp2_with (first
    | (go_at_call 61; (with_reducible refine HLK.out.mono ?_); rintro e w' ⟨rfl, rfl⟩)
    | (go_at_call 41; (with_reducible refine HLD.out.mono ?_); rintro e w' ⟨rfl, rfl⟩)
    | (go_at_call 29; (with_reducible refine HCC.out.mono ?_); rintro e w9 ⟨rfl, hr9⟩; have HR9 := Lib.hid hr9; clear hr9))
  obtain ⟨r0, r1, rf0, rf1⟩ := HRR.out w9 HR9.out
  refine leaves_cons (f := 63) (args := #[.pointer (some ⟨q, 0, none⟩), .bool true]) (by simp) (by simp [go_sem]) ?_
  refine (store_deferred9 ⟨q, 0, none⟩ (.int .u32 0) .returning _ r0 rf0).mono ?_
  rintro e u' w'' ⟨rfl, rfl, rfl⟩
  refine leaves_cons (f := 62) (args := #[.pointer (some ⟨q, 1, none⟩)]) (by simp [settle]) (by simp [go_sem]) ?_
  refine (unlock_deferred9 ⟨q, 1, none⟩ _ _ ?_ (by simp [rf1])).mono ?_
  · refine (World.cell?_setCell_other _ ⟨q, 0, none⟩ ⟨q, 1, none⟩ _ (by simp)).trans ?_
    rw [World.cell?_drew]
    exact r1
  rintro e u' w'' ⟨rfl, rfl, rfl⟩
  simp [Leaves, settle, results, Tryz.results42]
  exact ⟨w9, HR9.out, rfl⟩
set_option maxRecDepth 1000000 in
set_option maxHeartbeats 4000000 in
theorem once_any9 (q : Nat) (pl : Addr) (W : World) (R : World → Prop) (h0 : W.cell? ⟨q, 0, none⟩ = some (.int .u32 0)) (h1 : W.cell? ⟨q, 1, none⟩ = some (.int .i32 0)) (f1 : W.frozen? ⟨q, 1, none⟩ = false)
    (HC : Calls Tryz.prog 29 #[.pointer (some pl)] (W.setCell ⟨q, 1, none⟩ (.int .i32 1)) fun e w' => e = .returned (.tuple #[]) ∧ R w')
    (hR : ∀ w', R w' → w'.cell? ⟨q, 0, none⟩ = some (.int .u32 0) ∧ w'.cell? ⟨q, 1, none⟩ = some (.int .i32 1) ∧ w'.frozen? ⟨q, 0, none⟩ = false ∧ w'.frozen? ⟨q, 1, none⟩ = false) :
    Calls Tryz.prog 28 #[.pointer (some ⟨q, 0, none⟩), .func (.func 29) #[] #[.pointer (some pl)]] W fun e w' => e = .returned (.tuple #[]) ∧ ∃ w9, R w9 ∧ w' = (w9.drew.setCell ⟨q, 0, none⟩ (.int .u32 1)).setCell ⟨q, 1, none⟩ (.int .i32 0) := by
  have HLD := Lib.hid (load_any9 ⟨q, 0, none⟩ W h0)
  have HSL := Lib.hid (slow_any9 q pl W R h0 h1 f1 HC hR)
  clear HC hR h0 h1 f1
  go_enter Tryz.func28, Tryz.ntmps28
  go_wp2_with (first
    | (go_at_call 41; (with_reducible refine HLD.out.mono ?_); rintro e w' ⟨rfl, rfl⟩)
    | (go_at_call 42; (with_reducible refine HSL.out.mono ?_); rintro e w' ⟨rfl, hx⟩; have HX := Lib.hid hx; clear hx))
  go_end0
  exact ⟨rfl, HX.out⟩
end Go.Proofs.YtmlmbkelpjmafaaGreat
