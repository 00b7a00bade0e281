/-
  slices.symMergeCmpFunc at pack's rows where a block has one element. No statement of the seat is proved here.
-/
import Derived.Test.YtmlmbkelpjmafaaGreatKb
namespace Go.Proofs.YtmlmbkelpjmafaaGreat
open Go.RowKit Go.Lib Go.Sort Go.Shelf
variable {α : Type} [Inhabited α] {enc : α → List Value} {d0 : Array α} {blk off : Nat} {w0 : World}
/-- The merge's compare: below. -/
def Lt9 (cf : α → α → Int) (x y : α) : Prop := cf x y < 0
def Tri9 (cf : α → α → Int) (f : Nat → α) (a b : Nat) : Prop := ∀ i j, a ≤ i → i < b → a ≤ j → j < b → i ≠ j → cf (f i) (f j) < 0 ∨ cf (f j) (f i) < 0
theorem at_swp {d : Array α} {k : Nat} (h : k + 1 < d.size) : AtF (swp d k (k + 1)) = swapR (AtF d) k (k + 1) 1 := by
  refine at_ext (size_swp d k (k + 1)) (fun t ht => ?_) (fun t ht => by unfold swapR; rw [if_neg (by omega), if_neg (by omega)])
  unfold swapR
  by_cases q : t = k
  · subst q
    rw [if_pos (by omega), show t - t + (t + 1) = t + 1 by omega]
    exact swp_left d t (t + 1) (by omega) (by omega)
  · by_cases r : t = k + 1
    · subst r
      rw [if_neg (by omega), if_pos (by omega), show k + 1 - (k + 1) + k = k by omega]
      exact swp_right d k (k + 1) (by omega)
    · rw [if_neg (by omega), if_neg (by omega)]
      exact swp_other d k (k + 1) t q r
attribute [local go_sem ↓] ld_k st_k
set_option maxHeartbeats 8000000 in
set_option maxRecDepth 1000000 in
theorem symm_one (R : RowK enc 34 w0 blk off d0) {cf : α → α → Int} {g : Nat} {cb : Array Value} (eg : ∀ args w, (callFunc g args).run Tryz.prog w = .ok (.enter g args) w) (C : CmpLays Tryz.prog g cb enc 34 cf blk off d0.size w0) (htr : ∀ x y z, Lt9 cf x y → Lt9 cf y z → Lt9 cf x z)
    {d : Array α} (hs : d0.size = d.size) {w : World} (S : SWK enc 34 w0 blk off d w) (cap a b : Nat) (hab : a + 1 < b) (hb : b ≤ d.size) (hsz : d.size < 1000000) (hu : UpF (Lt9 cf) (AtF d) (a + 1) b) (ht : Tri9 cf (AtF d) a b) :
    Calls Tryz.prog 56 #[.slice (some ⟨blk, off, none⟩) d.size cap, .int .i64 a, .int .i64 ((a : Int) + 1), .int .i64 b, .func (.func g) #[] cb] w fun e w' => e = .returned (.tuple #[]) ∧ ∃ d' : Array α, d'.size = d.size ∧ Merged (Lt9 cf) (AtF d) (AtF d') a b ∧ SWK enc 34 w0 blk off d' w' := by
  have mixed : Tryz.prog.follows Departure.mixedOrders = true := by kernel_rfl
  have S0 : Aside (SWK enc 34 w0 blk off d w) := S
  have HU := Lib.hid hu
  have HT := Lib.hid ht
  clear S hu ht
  have e0 : ((a : Int) + 1 - (a : Int)) = 1 := by omega
  go_enter Tryz.func56, Tryz.ntmps56
  go_wp2_with fail
  go_loopg [10, 11] b (fun kx s10 s11 wr => ∃ (i j : Nat), s10 = .int .i64 i ∧ s11 = .int .i64 j ∧ a + 1 ≤ i ∧ i ≤ j ∧ j ≤ b ∧ j - i ≤ kx ∧ Aside (i = a + 1 ∨ Lt9 cf (AtF d (i - 1)) (AtF d a)) ∧ Aside (j = b ∨ Lt9 cf (AtF d a) (AtF d j)) ∧ Aside (SWK enc 34 w0 blk off d wr))
  case atStart => exact ⟨a + 1, b, by go_num, rfl, Nat.le_refl _, by omega, Nat.le_refl _, by omega, .inl rfl, .inl rfl, S0⟩
  case round =>
    clear S0
    obtain ⟨i, j, rfl, rfl, hai, hij, hjb, hkx, HI, HJ, S1⟩ := hrel
    by_cases hlt : i < j
    · have hltz : (i : Int) < (j : Int) := by omega
      go_upto_region 5 with fail
      obtain ⟨h, hh⟩ : ∃ h : Nat, (i + j) / 2 = h := ⟨_, rfl⟩
      have e1 : ((i : Int) + (j : Int)) / 2 = (h : Int) := by omega
      rw [e1]
      have hh1 : i ≤ h := by omega
      have hh2 : h < j := by omega
      have z1 : (h : Int) < (d.size : Int) := by omega
      have z2 : (a : Int) < (d.size : Int) := by omega
      have l1 := fun n os => ldk_run (S1.out.ld R (by omega) Tryz.prog h (by omega) n os)
      have l2 := fun n os => ldk_run (S1.out.ld R (by omega) Tryz.prog a (by omega) n os)
      have hcg := fun n os => S1.out.cmp C (by omega) d[h]! d[a]! n os
      clear e1
      by_cases hlv : cf d[h]! d[a]! < 0
      · have hlv' : cf d[h]! d[a]! < 0 := hlv
        go_quiet_grown (first | (go_at_fn g; refine Calls.grown_of (hcg _ _)))
        have S2 : Aside (SWK enc 34 w0 blk off d (grow (wr.drewN nq) osq)) := S1.out.grown nq osq
        clear l1 l2 hcg S1
        generalize grow (wr.drewN nq) osq = w2 at S2 ⊢
        go_wp2_with fail
        go_roundg (j - (h + 1))
        case measure => omega
        case rel => exact ⟨h + 1, j, by go_num, rfl, by omega, by omega, hjb, Nat.le_refl _, .inr hlv', HJ, S2⟩
      · have hlv' := Lib.hid (show ¬ cf (AtF d h) (AtF d a) < 0 from hlv)
        go_quiet_grown (first | (go_at_fn g; refine Calls.grown_of (hcg _ _)))
        have S2 : Aside (SWK enc 34 w0 blk off d (grow (wr.drewN nq) osq)) := S1.out.grown nq osq
        clear l1 l2 hcg S1
        generalize grow (wr.drewN nq) osq = w2 at S2 ⊢
        go_wp2_with fail
        go_roundg (h - i)
        case measure => omega
        case rel => exact ⟨i, h, rfl, rfl, hai, hh1, by omega, Nat.le_refl _, HI, .inr ((HT.out a h (Nat.le_refl _) (by omega) (by omega) (by omega) (by omega)).resolve_right (Int.not_lt.2 hlv'.out)), S2⟩
    · obtain rfl : i = j := by omega
      clear hlt hij hkx
      have HM := Lib.hid (ins_first htr (by omega) HU.out hai hjb HI.out HJ.out)
      clear HI HJ
      go_wp2_with fail
      go_loopg [13] (i - 1 - a) (fun kx s13 wr => ∃ (k : Nat) (dk : Array α), s13 = .int .i64 k ∧ a ≤ k ∧ k ≤ i - 1 ∧ i - 1 - k ≤ kx ∧ dk.size = d.size ∧ Aside (AtF dk = rotF (AtF d) a (a + 1) (k + 1)) ∧ Aside (SWK enc 34 w0 blk off dk wr))
      case atStart => exact ⟨a, d, rfl, Nat.le_refl _, by omega, Nat.le_refl _, rfl, (rotF_none (AtF d) (.inr rfl)).symm, S1⟩
      case round =>
        clear S1
        obtain ⟨k, dk, rfl, hak, hki, hkx, hds, HF, S1⟩ := hrel
        by_cases hlt : k < i - 1
        · have hltz : (k : Int) < (i : Int) - 1 := by omega
          go_upto_region 11 with fail
          have ea : ((k : Int)).toNat = k := by omega
          have pa : (0 : Int) ≤ (k : Int) := by omega
          have ba : (k : Int) < (d.size : Int) := by omega
          have ra : IntKind.i64.wrap (k : Int) = (k : Int) := by rw [IntKind.wrap_i64]; omega
          have ec : ((k : Int) + 1).toNat = k + 1 := by omega
          have pc : (0 : Int) ≤ (k : Int) + 1 := by omega
          have bc : (k : Int) + 1 < (d.size : Int) := by omega
          have rc : IntKind.i64.wrap ((k : Int) + 1) = (k : Int) + 1 := by rw [IntKind.wrap_i64]; omega
          have S2 : Aside (SWK enc 34 w0 blk off (swp dk k (k + 1)) ((wr.drew.setCells blk (off + k * 34) (enc dk[k + 1]!)).setCells blk (off + (k + 1) * 34) (enc dk[k]!))) := S1.out.swapped R k (k + 1) (by omega) (by omega)
          have l1 := ldk_run (S1.out.ld1 R (by omega) Tryz.prog k (by omega))
          have l2 := ldk_run (S1.out.ld1 R (by omega) Tryz.prog (k + 1) (by omega))
          have s1 := stk_run (R.hk _) (S1.out.st1 R (by omega) Tryz.prog k (by omega) dk[k + 1]!)
          have s2 := stk_run (R.hk _) (S1.out.st2 R (by omega) Tryz.prog k (k + 1) (by omega) (by omega) dk[k + 1]! dk[k]!)
          have HF2 : Aside (AtF (swp dk k (k + 1)) = rotF (AtF d) a (a + 1) (k + 1 + 1)) := by
            show AtF (swp dk k (k + 1)) = rotF (AtF d) a (a + 1) (k + 2)
            rw [← ins_up (AtF d) hak, ← HF.out]
            exact at_swp (by omega)
          generalize enc dk[k]! = cI at S2 l1 s2
          generalize enc dk[k + 1]! = cJ at S2 l2 s1 s2
          clear S1 HF
          go_big_region_o
          clear l1 l2 s1 s2
          generalize (wr.drew.setCells blk (off + k * 34) cJ).setCells blk (off + (k + 1) * 34) cI = w2 at S2 ⊢
          go_wp2_with fail
          go_roundg (i - 1 - (k + 1))
          case measure => omega
          case rel => exact ⟨k + 1, swp dk k (k + 1), by go_num, by omega, by omega, Nat.le_refl _, by rw [size_swp]; exact hds, HF2, S2⟩
        · obtain rfl : k = i - 1 := by omega
          have hltz : ¬ ((i - 1 : Nat) : Int) < (i : Int) - 1 := by omega
          go_wp2_with fail
          (try simp only [Exit.inBlock, Exit.then])
          refine bodyPost_ret (results_none rfl _ _ _) rfl ?_
          refine ⟨rfl, dk, hds, ?_, S1.out⟩
          have := HF.out
          rw [show i - 1 + 1 = i by omega] at this
          rw [this]
          exact HM.out
theorem at_swp2 {d : Array α} {k : Nat} (h : k + 1 < d.size) : AtF (swp d (k + 1) k) = swapR (AtF d) k (k + 1) 1 := by
  refine at_ext (size_swp d (k + 1) k) (fun t ht => ?_) (fun t ht => by unfold swapR; rw [if_neg (by omega), if_neg (by omega)])
  unfold swapR
  by_cases q : t = k
  · subst q
    rw [if_pos (by omega), show t - t + (t + 1) = t + 1 by omega]
    exact swp_right d (t + 1) t (by omega)
  · by_cases r : t = k + 1
    · subst r
      rw [if_neg (by omega), if_pos (by omega), show k + 1 - (k + 1) + k = k by omega]
      exact swp_left d (k + 1) k (by omega) (by omega)
    · rw [if_neg (by omega), if_neg (by omega)]
      exact swp_other d (k + 1) k t r q
set_option maxHeartbeats 8000000 in
set_option maxRecDepth 1000000 in
theorem symm_last (R : RowK enc 34 w0 blk off d0) {cf : α → α → Int} {g : Nat} {cb : Array Value} (eg : ∀ args w, (callFunc g args).run Tryz.prog w = .ok (.enter g args) w) (C : CmpLays Tryz.prog g cb enc 34 cf blk off d0.size w0) (htr : ∀ x y z, Lt9 cf x y → Lt9 cf y z → Lt9 cf x z)
    {d : Array α} (hs : d0.size = d.size) {w : World} (S : SWK enc 34 w0 blk off d w) (cap a m : Nat) (ham : a + 1 < m) (hb : m + 1 ≤ d.size) (hsz : d.size < 1000000) (hu : UpF (Lt9 cf) (AtF d) a m) (ht : Tri9 cf (AtF d) a (m + 1)) :
    Calls Tryz.prog 56 #[.slice (some ⟨blk, off, none⟩) d.size cap, .int .i64 a, .int .i64 m, .int .i64 ((m : Int) + 1), .func (.func g) #[] cb] w fun e w' => e = .returned (.tuple #[]) ∧ ∃ d' : Array α, d'.size = d.size ∧ Merged (Lt9 cf) (AtF d) (AtF d') a (m + 1) ∧ SWK enc 34 w0 blk off d' w' := by
  have mixed : Tryz.prog.follows Departure.mixedOrders = true := by kernel_rfl
  have S0 : Aside (SWK enc 34 w0 blk off d w) := S
  have HU := Lib.hid hu
  have HT := Lib.hid ht
  clear S hu ht
  have e0 : ((m : Int) + 1 - (m : Int)) = 1 := by omega
  have e9 : ¬ ((m : Int) - (a : Int)) = 1 := by omega
  have e8 : ((m : Int) - (a : Int) == 1) = false := beq_eq_false_iff_ne.2 e9
  go_enter Tryz.func56, Tryz.ntmps56
  go_wp2_with fail
  go_loopg [14, 15] m (fun kx s14 s15 wr => ∃ (i j : Nat), s14 = .int .i64 i ∧ s15 = .int .i64 j ∧ a ≤ i ∧ i ≤ j ∧ j ≤ m ∧ j - i ≤ kx ∧ Aside (i = a ∨ Lt9 cf (AtF d (i - 1)) (AtF d m)) ∧ Aside (j = m ∨ Lt9 cf (AtF d m) (AtF d j)) ∧ Aside (SWK enc 34 w0 blk off d wr))
  case atStart => exact ⟨a, m, rfl, rfl, Nat.le_refl _, by omega, Nat.le_refl _, by omega, .inl rfl, .inl rfl, S0⟩
  case round =>
    clear S0
    obtain ⟨i, j, rfl, rfl, hai, hij, hjb, hkx, HI, HJ, S1⟩ := hrel
    by_cases hlt : i < j
    · have hltz : (i : Int) < (j : Int) := by omega
      go_upto_region 17 with fail
      obtain ⟨h, hh⟩ : ∃ h : Nat, (i + j) / 2 = h := ⟨_, rfl⟩
      have e1 : ((i : Int) + (j : Int)) / 2 = (h : Int) := by omega
      rw [e1]
      have hh1 : i ≤ h := by omega
      have hh2 : h < j := by omega
      have z1 : (h : Int) < (d.size : Int) := by omega
      have z2 : (m : Int) < (d.size : Int) := by omega
      have l1 := fun n os => ldk_run (S1.out.ld R (by omega) Tryz.prog h (by omega) n os)
      have l2 := fun n os => ldk_run (S1.out.ld R (by omega) Tryz.prog m (by omega) n os)
      have hcg := fun n os => S1.out.cmp C (by omega) d[m]! d[h]! n os
      clear e1
      by_cases hlv : cf d[m]! d[h]! < 0
      · have hlv' : cf d[m]! d[h]! < 0 := hlv
        go_quiet_grown (first | (go_at_fn g; refine Calls.grown_of (hcg _ _)))
        have S2 : Aside (SWK enc 34 w0 blk off d (grow (wr.drewN nq) osq)) := S1.out.grown nq osq
        clear l1 l2 hcg S1
        generalize grow (wr.drewN nq) osq = w2 at S2 ⊢
        go_wp2_with fail
        go_roundg (h - i)
        case measure => omega
        case rel => exact ⟨i, h, rfl, rfl, hai, hh1, by omega, Nat.le_refl _, HI, .inr hlv', S2⟩
      · have hlv' := Lib.hid (show ¬ cf (AtF d m) (AtF d h) < 0 from hlv)
        go_quiet_grown (first | (go_at_fn g; refine Calls.grown_of (hcg _ _)))
        have S2 : Aside (SWK enc 34 w0 blk off d (grow (wr.drewN nq) osq)) := S1.out.grown nq osq
        clear l1 l2 hcg S1
        generalize grow (wr.drewN nq) osq = w2 at S2 ⊢
        go_wp2_with fail
        go_roundg (j - (h + 1))
        case measure => omega
        case rel => exact ⟨h + 1, j, by go_num, rfl, by omega, by omega, hjb, Nat.le_refl _, .inr ((HT.out h m (by omega) (by omega) (by omega) (by omega) (by omega)).resolve_right (Int.not_lt.2 hlv'.out)), HJ, S2⟩
    · obtain rfl : i = j := by omega
      clear hlt hij hkx
      have HM := Lib.hid (ins_last htr HU.out hai hjb HI.out HJ.out)
      clear HI HJ
      go_wp2_with fail
      go_loopg [17] (m - i) (fun kx s17 wr => ∃ (k : Nat) (dk : Array α), s17 = .int .i64 k ∧ i ≤ k ∧ k ≤ m ∧ k - i ≤ kx ∧ dk.size = d.size ∧ Aside (AtF dk = rotF (AtF d) k m (m + 1)) ∧ Aside (SWK enc 34 w0 blk off dk wr))
      case atStart => exact ⟨m, d, rfl, hjb, Nat.le_refl _, Nat.le_refl _, rfl, (rotF_none (AtF d) (.inl rfl)).symm, S1⟩
      case round =>
        clear S1
        obtain ⟨k, dk, rfl, hik, hkm, hkx, hds, HF, S1⟩ := hrel
        by_cases hlt : i < k
        · obtain ⟨q, rfl⟩ : ∃ q, k = q + 1 := ⟨k - 1, by omega⟩
          have hltz : (i : Int) < (q : Int) + 1 := by omega
          go_upto_region 23 with fail
          have ea : ((q : Int)).toNat = q := by omega
          have pa : (0 : Int) ≤ (q : Int) := by omega
          have ba : (q : Int) < (d.size : Int) := by omega
          have ra : IntKind.i64.wrap (q : Int) = (q : Int) := by rw [IntKind.wrap_i64]; omega
          have ec : ((q : Int) + 1).toNat = q + 1 := by omega
          have pc : (0 : Int) ≤ (q : Int) + 1 := by omega
          have bc : (q : Int) + 1 < (d.size : Int) := by omega
          have rc : IntKind.i64.wrap ((q : Int) + 1) = (q : Int) + 1 := by rw [IntKind.wrap_i64]; omega
          have S2 : Aside (SWK enc 34 w0 blk off (swp dk (q + 1) q) ((wr.drew.setCells blk (off + (q + 1) * 34) (enc dk[q]!)).setCells blk (off + q * 34) (enc dk[q + 1]!))) := S1.out.swapped R (q + 1) q (by omega) (by omega)
          have l1 := ldk_run (S1.out.ld1 R (by omega) Tryz.prog q (by omega))
          have l2 := ldk_run (S1.out.ld1 R (by omega) Tryz.prog (q + 1) (by omega))
          have s1 := stk_run (R.hk _) (S1.out.st1 R (by omega) Tryz.prog (q + 1) (by omega) dk[q]!)
          have s2 := stk_run (R.hk _) (S1.out.st2 R (by omega) Tryz.prog (q + 1) q (by omega) (by omega) dk[q]! dk[q + 1]!)
          have HF2 : Aside (AtF (swp dk (q + 1) q) = rotF (AtF d) q m (m + 1)) := by
            show AtF (swp dk (q + 1) q) = rotF (AtF d) (q + 1 - 1) m (m + 1)
            rw [← ins_down (AtF d) (k := q + 1) (by omega) hkm, ← HF.out]
            exact at_swp2 (by omega)
          generalize enc dk[q]! = cI at S2 l1 s1 s2
          generalize enc dk[q + 1]! = cJ at S2 l2 s2
          clear S1 HF
          go_big_region_o
          clear l1 l2 s1 s2
          generalize (wr.drew.setCells blk (off + (q + 1) * 34) cI).setCells blk (off + q * 34) cJ = w2 at S2 ⊢
          go_wp2_with fail
          go_roundg (q - i)
          case measure => omega
          case rel => exact ⟨q, swp dk (q + 1) q, by first | rfl | go_num, by omega, by omega, Nat.le_refl _, by rw [size_swp]; exact hds, HF2, S2⟩
        · obtain rfl : k = i := by omega
          have hltz : ¬ (k : Int) < (k : Int) := by omega
          go_wp2_with fail
          (try simp only [Exit.inBlock, Exit.then])
          refine bodyPost_ret (results_none rfl _ _ _) rfl ?_
          refine ⟨rfl, dk, hds, ?_, S1.out⟩
          rw [HF.out]
          exact HM.out
end Go.Proofs.YtmlmbkelpjmafaaGreat
