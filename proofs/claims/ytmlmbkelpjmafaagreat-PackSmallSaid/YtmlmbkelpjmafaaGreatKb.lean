/-
  Contracts of slices.swapRangeCmpFunc, rotateCmpFunc at pack's rows. No statement of the seat is proved here.
-/
import Derived.Test.YtmlmbkelpjmafaaGreatKa
import Derived.Test.YtmlmbkelpjmafaaGreatPTLib
import Derived.Test.YtmlmbkelpjmafaaGreatChecked
import Derived.Shelf.SlSortCmp.KitK
import Derived.Sort.WalkB2
import Derived.Sort.WalkB12
import Derived.Sort.LotA
import Derived.Deep.LoopGhost
import Derived.Deep.CutBlock
import Derived.WalkSpells
namespace Go.Proofs.YtmlmbkelpjmafaaGreat
open Go.RowKit Go.Lib Go.Sort Go.Shelf
variable {α : Type}
/-- A row of the sort's, told by a function. -/
def AtF [Inhabited α] (d : Array α) (t : Nat) : α := d[t]!
theorem swapR_next (f : Nat → α) {a b i t : Nat} (h : a + i < b) : swapR f a b (i + 1) t = if t = a + i then f (b + i) else if t = b + i then f (a + i) else swapR f a b i t := by
  unfold swapR
  repeat' split
  all_goals first | rfl | (exfalso; omega) | (congr 1; omega)
theorem swapR_at (f : Nat → α) {a b i : Nat} (h : a + i < b) : swapR f a b i (a + i) = f (a + i) ∧ swapR f a b i (b + i) = f (b + i) := by
  unfold swapR
  constructor
  · rw [if_neg (by omega), if_neg (by omega)]
  · rw [if_neg (by omega), if_neg (by omega)]
theorem at_ext [Inhabited α] {d d' : Array α} {F : Nat → α} (hs : d'.size = d.size) (h1 : ∀ t, t < d.size → AtF d' t = F t) (h2 : ∀ t, d.size ≤ t → F t = AtF d t) : AtF d' = F := by
  funext t
  rcases Nat.lt_or_ge t d.size with q | q
  · exact h1 t q
  · rw [h2 t q]
    unfold AtF
    simp [show ¬ t < d.size by omega, show ¬ t < d'.size by omega]
theorem agg_known (w : World) : (isAgg 47).run Tryz.prog w = .ok true w := by kernel_rfl
theorem size_known (w : World) : (Go.sizeOf 47).run Tryz.prog w = .ok 34 w := by kernel_rfl
def LdK (p : Value) : Sem Value := Instr.loadAt 47 p
theorem ld_k (p : Value) : Instr.loadAt 47 p = LdK p := rfl
def StK (p v : Value) : Sem Unit := Instr.storeAt 47 p v
theorem st_k (p v : Value) : Instr.storeAt 47 p v = StK p v := rfl
theorem ldk_run {W : World} {a : Addr} {vs : Array Value} (h : Sem.run Tryz.prog (loadCellsFrom a 0 34 #[]) W = .ok vs W) : (LdK (.pointer (some a))).run Tryz.prog W = .ok (.agg vs) W := by
  simp [LdK, Instr.loadAt, Instr.sureAddr, loadVar, loadCells, h, Result.andThen]
theorem stk_run {W W' : World} {a : Addr} {vs : List Value} (hn : vs.length = 34) (h : Sem.run Tryz.prog (storeCells a vs 0) W = .ok () W') : (StK (.pointer (some a)) (.agg vs.toArray)).run Tryz.prog W = .ok () W' := by
  simp [StK, Instr.storeAt, Instr.sureAddr, storeVar, Value.cells, hn, h]
attribute [local go_sem ↓] ld_k st_k
variable [Inhabited α] {enc : α → List Value} {d0 : Array α} {blk off : Nat} {w0 : World}
set_option maxHeartbeats 4000000 in
set_option maxRecDepth 1000000 in
theorem swapRange_any (R : RowK enc 34 w0 blk off d0) {d : Array α} (hs : d0.size = d.size) {w : World} (S : SWK enc 34 w0 blk off d w) (cap a b n : Nat) (f : Value) (hab : a + n ≤ b) (hb : b + n ≤ d.size) (hsz : d.size < 1000000) :
    Calls Tryz.prog 91 #[.slice (some ⟨blk, off, none⟩) d.size cap, .int .i64 a, .int .i64 b, .int .i64 n, f] w fun e w' => e = .returned (.tuple #[]) ∧ ∃ d' : Array α, d'.size = d.size ∧ AtF d' = swapR (AtF d) a b n ∧ SWK enc 34 w0 blk off d' w' := by
  have mixed : Tryz.prog.follows Departure.mixedOrders = true := by kernel_rfl
  have aE := agg_known
  have zE := size_known
  have S0 : Aside (SWK enc 34 w0 blk off d w) := S
  clear S
  go_enter Tryz.func91, Tryz.ntmps91
  go_wp2
  go_loopg [10] n (fun kx s10 wr => ∃ (i : Nat) (dk : Array α), s10 = .int .i64 i ∧ i ≤ n ∧ n - i ≤ kx ∧ dk.size = d.size ∧ Aside (∀ t, t < d.size → AtF dk t = swapR (AtF d) a b i t) ∧ Aside (SWK enc 34 w0 blk off dk wr))
  case atStart => exact ⟨0, d, rfl, Nat.zero_le _, Nat.le_refl _, rfl, (fun t _ => by unfold swapR; rw [if_neg (by omega), if_neg (by omega)]), S0⟩
  case round =>
    clear S0
    obtain ⟨i, dk, rfl, hi, hkx, hds, HF, S1⟩ := hrel
    by_cases hlt : i < n
    · have hltz : (i : Int) < (n : Int) := by omega
      go_upto_region 3 with fail
      have ea : ((a : Int) + (i : Int)).toNat = a + i := by omega
      have pa : (0 : Int) ≤ (a : Int) + (i : Int) := by omega
      have ba : (a : Int) + (i : Int) < (d.size : Int) := by omega
      have ra : IntKind.i64.wrap ((a : Int) + (i : Int)) = (a : Int) + (i : Int) := by rw [IntKind.wrap_i64]; omega
      have ec : ((b : Int) + (i : Int)).toNat = b + i := by omega
      have pc : (0 : Int) ≤ (b : Int) + (i : Int) := by omega
      have bc : (b : Int) + (i : Int) < (d.size : Int) := by omega
      have rc : IntKind.i64.wrap ((b : Int) + (i : Int)) = (b : Int) + (i : Int) := by rw [IntKind.wrap_i64]; omega
      have S2 : Aside (SWK enc 34 w0 blk off (swp dk (a + i) (b + i)) ((wr.drew.setCells blk (off + (a + i) * 34) (enc dk[b + i]!)).setCells blk (off + (b + i) * 34) (enc dk[a + i]!))) := S1.out.swapped R (a + i) (b + i) (by omega) (by omega)
      have l1 := ldk_run (S1.out.ld1 R (by omega) Tryz.prog (a + i) (by omega))
      have l2 := ldk_run (S1.out.ld1 R (by omega) Tryz.prog (b + i) (by omega))
      have s1 := stk_run (R.hk _) (S1.out.st1 R (by omega) Tryz.prog (a + i) (by omega) dk[b + i]!)
      have s2 := stk_run (R.hk _) (S1.out.st2 R (by omega) Tryz.prog (a + i) (b + i) (by omega) (by omega) dk[b + i]! dk[a + i]!)
      have n1 : (enc dk[a + i]!).length = 34 := R.hk _
      have n2 : (enc dk[b + i]!).length = 34 := R.hk _
      have HF2 : Aside (∀ t, t < d.size → AtF (swp dk (a + i) (b + i)) t = swapR (AtF d) a b (i + 1) t) := fun t ht => by
        have e1 := (swapR_at (AtF d) (a := a) (b := b) (i := i) (by omega)).1
        have e2 := (swapR_at (AtF d) (a := a) (b := b) (i := i) (by omega)).2
        rw [swapR_next (AtF d) (by omega)]
        by_cases q : t = a + i
        · subst q
          rw [if_pos rfl, ← e2, ← HF.out (b + i) (by omega)]
          exact swp_left dk (a + i) (b + i) (by omega) (by omega)
        · rw [if_neg q]
          by_cases r : t = b + i
          · subst r
            rw [if_pos rfl, ← e1, ← HF.out (a + i) (by omega)]
            exact swp_right dk (a + i) (b + i) (by omega)
          · rw [if_neg r, ← HF.out t ht]
            exact swp_other dk (a + i) (b + i) t q r
      generalize enc dk[a + i]! = cI at S2 l1 s2 n1
      generalize enc dk[b + i]! = cJ at S2 l2 s1 s2 n2
      clear S1 HF
      go_big_region_o
      clear l1 l2 s1 s2
      generalize (wr.drew.setCells blk (off + (a + i) * 34) cJ).setCells blk (off + (b + i) * 34) cI = w2 at S2 ⊢
      go_wp2
      go_roundg (n - (i + 1))
      case measure => omega
      case rel => exact ⟨i + 1, swp dk (a + i) (b + i), by simp, by omega, Nat.le_refl _, by rw [size_swp]; exact hds, HF2, S2⟩
    · obtain rfl : i = n := by omega
      go_wp2
      go_end0
      exact ⟨rfl, dk, hds, at_ext hds HF.out (fun t ht => by unfold swapR; rw [if_neg (by omega), if_neg (by omega)]), S1.out⟩
set_option maxHeartbeats 4000000 in
set_option maxRecDepth 1000000 in
theorem rotate_any (R : RowK enc 34 w0 blk off d0) {d : Array α} (hs : d0.size = d.size) {w : World} (S : SWK enc 34 w0 blk off d w) (cap a m b : Nat) (f : Value) (ham : a < m) (hmb : m < b) (hb : b ≤ d.size) (hsz : d.size < 1000000) :
    Calls Tryz.prog 72 #[.slice (some ⟨blk, off, none⟩) d.size cap, .int .i64 a, .int .i64 m, .int .i64 b, f] w fun e w' => e = .returned (.tuple #[]) ∧ ∃ d' : Array α, d'.size = d.size ∧ AtF d' = rotF (AtF d) a m b ∧ SWK enc 34 w0 blk off d' w' := by
  have S0 : Aside (SWK enc 34 w0 blk off d w) := S
  clear S
  have hi0 : (m : Int) - (a : Int) = ((m - a : Nat) : Int) := by omega
  have hj0 : (b : Int) - (m : Int) = ((b - m : Nat) : Int) := by omega
  go_enter Tryz.func72, Tryz.ntmps72
  go_wp2
  go_loopg [10, 11] (b - a) (fun kx s10 s11 wr => ∃ (i j : Nat) (dk : Array α), s10 = .int .i64 i ∧ s11 = .int .i64 j ∧ 0 < i ∧ 0 < j ∧ a + i ≤ m ∧ m + j ≤ b ∧ i + j ≤ kx ∧ dk.size = d.size ∧ Aside (rotF (AtF dk) (m - i) m (m + j) = rotF (AtF d) a m b) ∧ Aside (SWK enc 34 w0 blk off dk wr))
  case atStart => exact ⟨m - a, b - m, d, by rw [← hi0], by rw [← hj0], by omega, by omega, by omega, by omega, by omega, rfl, (by show rotF (AtF d) (m - (m - a)) m (m + (b - m)) = rotF (AtF d) a m b; rw [show m - (m - a) = a by omega, show m + (b - m) = b by omega]), S0⟩
  case round =>
    clear S0 hi0 hj0
    obtain ⟨i, j, dk, rfl, rfl, hi, hj, hai, hbj, hkx, hds, HF, S1⟩ := hrel
    have e1 : ((m - i : Nat) : Int) = (m : Int) - (i : Int) := by omega
    have e2 : ((m + j - i : Nat) : Int) = (m : Int) + (j : Int) - (i : Int) := by omega
    rcases Nat.lt_trichotomy i j with q | q | q
    · have q1 : (i : Int) ≠ (j : Int) := by omega
      have q2 : ¬ (j : Int) < (i : Int) := by omega
      have HC := Lib.hid (swapRange_any R (d := dk) (by omega) S1.out cap (m - i) (m + j - i) i f (by omega) (by omega) (by omega))
      rw [e1, e2, hds] at HC
      clear S1 e1 e2
      go_wp2_with (go_at_call 91; (with_reducible refine HC.out.mono ?_); rintro _ w2 ⟨rfl, d2, hd2, hf2, S2'⟩; have S2 := Lib.hid S2'; have HF2 := Lib.hid hf2; clear S2' hf2)
      go_roundg (i + (j - i))
      case measure => omega
      case rel => exact ⟨i, j - i, d2, rfl, by go_num, hi, by omega, hai, by omega, Nat.le_refl _, by omega, (by show rotF (AtF d2) (m - i) m (m + (j - i)) = _; rw [HF2.out, rot_right (AtF dk) (by omega) hi q]; exact HF.out), S2.out⟩
    · subst q
      have HC := Lib.hid (swapRange_any R (d := dk) (by omega) S1.out cap (m - i) m i f (by omega) (by omega) (by omega))
      rw [e1, hds] at HC
      clear S1 e1 e2
      go_wp2_with (go_at_call 91; (with_reducible refine HC.out.mono ?_); rintro _ w2 ⟨rfl, d2, hd2, hf2, S2'⟩; have S2 := Lib.hid S2'; have HF2 := Lib.hid hf2; clear S2' hf2)
      go_end0
      exact ⟨rfl, d2, by omega, by rw [HF2.out, rot_last (AtF dk) (by omega)]; exact HF.out, S2.out⟩
    · have q1 : (i : Int) ≠ (j : Int) := by omega
      have q2 : (j : Int) < (i : Int) := by omega
      have HC := Lib.hid (swapRange_any R (d := dk) (by omega) S1.out cap (m - i) m j f (by omega) (by omega) (by omega))
      rw [e1, hds] at HC
      clear S1 e1 e2
      go_wp2_with (go_at_call 91; (with_reducible refine HC.out.mono ?_); rintro _ w2 ⟨rfl, d2, hd2, hf2, S2'⟩; have S2 := Lib.hid S2'; have HF2 := Lib.hid hf2; clear S2' hf2)
      go_roundg (i - j + j)
      case measure => omega
      case rel => exact ⟨i - j, j, d2, by go_num, rfl, by omega, hj, by omega, hbj, Nat.le_refl _, by omega, (by show rotF (AtF d2) (m - (i - j)) m (m + j) = _; rw [HF2.out, rot_left (AtF dk) (by omega) hj q]; exact HF.out), S2.out⟩
end Go.Proofs.YtmlmbkelpjmafaaGreat
