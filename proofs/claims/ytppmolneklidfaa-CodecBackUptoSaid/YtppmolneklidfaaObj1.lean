/-
  Contracts of codec's kind, of slices.Clone at bytes. No statement of the seat is proved here.
-/
import Derived.Test.YtppmolneklidfaaBody
namespace Go.Proofs.Ytppmolneklidfaa
open Go.RowKit

def kindOf (x : UInt8) : Int := if x = 99 then 3 else if x = 116 then 2 else if x = 98 then 1 else 0
set_option maxHeartbeats 1000000 in
theorem kind_any (x : UInt8) (w : World) : Calls Try.prog 67 #[.int .u8 (x.toNat : Int)] w fun r w' => r = .returned (.int .i64 (kindOf x)) ∧ w = w' := by
  have hne : ∀ y : UInt8, x ≠ y → ((x.toNat : Int) == (y.toNat : Int)) = false := fun y h => beq_eq_false_iff_ne.2 (fun q => h (UInt8.toNat_inj.1 (by omega)))
  by_cases h1 : x = 99
  · subst h1
    have HK := Lib.hid (show kindOf 99 = 3 from rfl)
    clear hne
    go_enter Try.func67, Try.ntmps67
    go_wp2
    go_ret
    exact ⟨by rw [HK.out]; rfl, rfl⟩
  · have d1 : ((x.toNat : Int) == 99) = false := hne 99 h1
    by_cases h2 : x = 116
    · subst h2
      have HK := Lib.hid (show kindOf 116 = 2 from rfl)
      clear hne d1
      go_enter Try.func67, Try.ntmps67
      go_wp2
      go_ret
      exact ⟨by rw [HK.out]; rfl, rfl⟩
    · have d2 : ((x.toNat : Int) == 116) = false := hne 116 h2
      by_cases h3 : x = 98
      · subst h3
        have HK := Lib.hid (show kindOf 98 = 1 from rfl)
        clear hne d1 d2
        go_enter Try.func67, Try.ntmps67
        go_wp2
        go_ret
        exact ⟨by rw [HK.out]; rfl, rfl⟩
      · have d3 : ((x.toNat : Int) == 98) = false := hne 98 h3
        have HK := Lib.hid (show kindOf x = 0 from by unfold kindOf; rw [if_neg h1, if_neg h2, if_neg h3])
        clear hne h1 h2 h3
        generalize x.toNat = y at *
        go_enter Try.func67, Try.ntmps67
        go_wp2
        go_ret
        exact ⟨by rw [HK.out]; rfl, rfl⟩

theorem nil_none (w : World) (n c : Nat) : (binOp .eql 23 (.slice none n c) (.slice none 0 0)).run Try.prog w = .ok (.bool true) w := by kernel_rfl
theorem nil_some (w : World) (a : Addr) (n c : Nat) : (binOp .eql 23 (.slice (some a) n c) (.slice none 0 0)).run Try.prog w = .ok (.bool false) w := by kernel_rfl
theorem guard_nil (w : World) (x y : Operand) (A : Option Addr) (n c : Nat) : (eqGuard .eql 23 x y (.slice A n c) (.slice none 0 0)).run Try.prog w = .ok () w := by kernel_rfl
def ClonePost (b : List UInt8) (w : World) (r : Ending) (w' : World) : Prop := ∃ A c, r = .returned (.slice A b.length c) ∧ Own w' w.heap.size 5 1 A b.length c (b.map bv) ∧ Keep Nothing w w'
set_option maxHeartbeats 1000000 in
set_option maxRecDepth 100000 in
theorem clone_any (b : List UInt8) (A : Option Addr) (c : Nat) (B : Nat) (w : World) (hr : Reads w B 1 A b.length (b.map bv)) (hB : B ≤ w.heap.size) (hl : b.length ≤ 140737488355328) :
    Calls Try.prog 68 #[.slice A b.length c] w (ClonePost b w) := by
  cases A with
  | none =>
    have h0 : b = [] := by
      rcases Nat.eq_zero_or_pos b.length with h | h
      · exact List.eq_nil_of_length_eq_zero h
      · obtain ⟨ad, e, _⟩ := hr.2 h
        cases e
    subst h0
    go_enter Try.func68, Try.ntmps68
    go_wp2_with (first | (refine wpList_bin rfl rfl rfl rfl (guard_nil _ _ _ _ _ _) (nil_none _ _ _) ?_))
    go_ret
    exact ⟨none, 0, rfl, Own.nil _ _ _ _, Keep.refl _ _⟩
  | some ad =>
    go_enter Try.func68, Try.ntmps68
    go_wp2_with (first | (refine wpList_bin (o := ⟨some 4, _, _, _, _, _⟩) rfl rfl rfl rfl (guard_nil _ _ _ _ _ _) (nil_some _ _ _ _) ?_) | (at_builtin; refine wpList_append_sl rfl elemU8 rfl rfl (Own.fresh0 (heap_alloc_new _ _) (Nat.le_refl _)) rfl (hr.alloc hB _) (bvs_one b) (by unfold maxLen; omega) (by omega) (by simp) ?_; intro A2 c2 w2 ho2 hk2))
    go_ret
    simp only [Nat.zero_add, List.nil_append] at ho2
    refine ⟨A2, c2, by simp, ho2, ?_⟩
    exact ((Keep.refl Nothing w).alloc _).then_ hk2 (fun i hi h => by
      rcases h with h | ⟨h, _⟩
      · simp at h
      · omega)

theorem encObj_e (k : Int) (b : List UInt8) : (encObj (bodyE k b) k b).2 = bodyE k b := by unfold encObj; split <;> simp_all
theorem load_obj {w : World} {g : Nat} {t : TypeId} {k : Int} {v : Value} (h : Blk w g t #[.int .i64 k, v]) : (Instr.loadAt 38 (.pointer (some ⟨g, 0, none⟩))).run Try.prog w = .ok (.agg #[.int .i64 k, v]) w :=
  run_loadAt_blk (P := Try.prog) h 0 #[.int .i64 k, v] Try.underlying38 rfl (by kernel_rfl) (by simp)
end Go.Proofs.Ytppmolneklidfaa
