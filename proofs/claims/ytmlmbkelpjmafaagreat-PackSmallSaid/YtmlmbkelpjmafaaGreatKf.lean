/-
  Contracts of slices.insertionSortCmpFunc, stableCmpFunc, SortStableFunc at pack's rows (at most 40 elements). No statement of the seat is proved here.
-/
import Derived.Test.YtmlmbkelpjmafaaGreatKe
namespace Go.Proofs.YtmlmbkelpjmafaaGreat
open Go.RowKit Go.Lib Go.Sort Go.Shelf
section
variable {α : Type}
theorem tri_pair {cf : α → α → Int} {f : Nat → α} {a b : Nat} : Tri9 cf f a b ↔ (rowF f a b).Pairwise (fun x y => cf x y < 0 ∨ cf y x < 0) := by
  unfold rowF
  rw [List.pairwise_map, List.pairwise_iff_getElem]
  constructor
  · intro h i j hi hj hij
    simp only [List.length_range'] at hi hj
    simp only [List.getElem_range', Nat.one_mul]
    exact h (a + i) (a + j) (by omega) (by omega) (by omega) (by omega) (by omega)
  · intro h i j hi hib hj hjb hij
    rcases Nat.lt_or_gt_of_ne hij with q | q
    · have := h (i - a) (j - a) (by simp; omega) (by simp; omega) (by omega)
      simp only [List.getElem_range', Nat.one_mul] at this
      rwa [show a + (i - a) = i by omega, show a + (j - a) = j by omega] at this
    · have := h (j - a) (i - a) (by simp; omega) (by simp; omega) (by omega)
      simp only [List.getElem_range', Nat.one_mul] at this
      rw [show a + (i - a) = i by omega, show a + (j - a) = j by omega] at this
      exact this.symm
theorem Tri9.perm {cf : α → α → Int} {f g : Nat → α} {a b : Nat} (h : Tri9 cf f a b) (hp : (rowF g a b).Perm (rowF f a b)) : Tri9 cf g a b :=
  tri_pair.2 ((hp.pairwise_iff (fun h => h.symm)).2 (tri_pair.1 h))
theorem Merged.trans {lt : α → α → Prop} {f g h : Nat → α} {a m b : Nat} (ham : a ≤ m) (hmb : m ≤ b) (h1 : Merged lt f g a m) (h2 : Merged lt g h a b) : Merged lt f h a b :=
  ⟨h2.up, h2.perm.trans (part_perm (Nat.le_refl _) ham hmb h1.perm (fun t ht => h1.out t (by omega))), fun t ht => (h2.out t ht).trans (h1.out t (by omega))⟩
end
variable {α : Type} [Inhabited α] {enc : α → List Value} {d0 : Array α} {blk off : Nat} {w0 : World}
attribute [local go_sem ↓] ld_k st_k
set_option maxHeartbeats 8000000 in
set_option maxRecDepth 1000000 in
theorem insert_any (R : RowK enc 34 w0 blk off d0) {cf : α → α → Int} {g : Nat} {cb : Array Value} (eg : ∀ args w, (callFunc g args).run Tryz.prog w = .ok (.enter g args) w) (C : CmpLays Tryz.prog g cb enc 34 cf blk off d0.size w0) (htr : ∀ x y z, Lt9 cf x y → Lt9 cf y z → Lt9 cf x z)
    {d : Array α} (hs : d0.size = d.size) {w : World} (S : SWK enc 34 w0 blk off d w) (cap a b : Nat) (hab : a < b) (hb : b ≤ d.size) (hsz : d.size < 1000000) (ht : Tri9 cf (AtF d) a b) :
    Calls Tryz.prog 55 #[.slice (some ⟨blk, off, none⟩) d.size cap, .int .i64 a, .int .i64 b, .func (.func g) #[] cb] w fun e w' => e = .returned (.tuple #[]) ∧ ∃ d' : Array α, d'.size = d.size ∧ Merged (Lt9 cf) (AtF d) (AtF d') a b ∧ SWK enc 34 w0 blk off d' w' := by
  have mixed : Tryz.prog.follows Departure.mixedOrders = true := by kernel_rfl
  have S0 : Aside (SWK enc 34 w0 blk off d w) := S
  have HT := Lib.hid ht
  have HTR := Lib.hid htr
  clear S ht htr
  go_enter Tryz.func55, Tryz.ntmps55
  go_wp2_with fail
  go_loopg [8] (b - (a + 1)) (fun kx s8 wr => ∃ (i : Nat) (di : Array α), s8 = .int .i64 i ∧ a + 1 ≤ i ∧ i ≤ b ∧ b - i ≤ kx ∧ di.size = d.size ∧ Aside (Merged (Lt9 cf) (AtF d) (AtF di) a i) ∧ Aside (SWK enc 34 w0 blk off di wr))
  case atStart => exact ⟨a + 1, d, by go_num, Nat.le_refl _, by omega, Nat.le_refl _, rfl, Merged.refl (fun i j h1 h2 h3 => by omega), S0⟩
  case round =>
    clear S0
    obtain ⟨i, di, rfl, hai, hib, hkx, hds, HM, S1⟩ := hrel
    by_cases hlt : i < b
    · have hltz : (i : Int) < (b : Int) := by omega
      have HT1 := Lib.hid (HT.out.perm (part_perm (Nat.le_refl _) (by omega) (by omega) HM.out.perm (fun t ht => HM.out.out t (by omega))) : Tri9 cf (AtF di) a b)
      go_upto_region 3 with fail
      go_wp2_with fail
      go_loopg [9] (i - a) (fun kx s9 wr => ∃ (j : Nat) (dk : Array α), s9 = .int .i64 j ∧ a ≤ j ∧ j ≤ i ∧ j - a ≤ kx ∧ dk.size = d.size ∧ Aside (AtF dk = rotF (AtF di) j i (i + 1)) ∧ Aside (j = i ∨ Lt9 cf (AtF di i) (AtF di j)) ∧ Aside (SWK enc 34 w0 blk off dk wr))
      case atStart => exact ⟨i, di, rfl, by omega, Nat.le_refl _, Nat.le_refl _, hds, (rotF_none (AtF di) (.inl rfl)).symm, .inl rfl, S1⟩
      case round =>
        clear S1
        obtain ⟨j, dk, rfl, haj, hji, hjx, hdk, HF, HJ, S1⟩ := hrel
        have vj : dk[j]! = AtF di i := by
          show AtF dk j = _
          rw [HF.out, rotF_fst _ (Nat.le_refl _) (by omega), show j - j + i = i by omega]
        rcases Nat.lt_or_ge a j with hja | hja
        · obtain ⟨q, rfl⟩ : ∃ q, j = q + 1 := ⟨j - 1, by omega⟩
          have hjz : (a : Int) < (q : Int) + 1 := by omega
          have vq : dk[q]! = AtF di q := by
            show AtF dk q = _
            rw [HF.out, rotF_out _ hji (by omega) (.inl (by omega))]
          go_upto_region 4 with fail
          have ea : ((q : Int)).toNat = q := by omega
          have pa : (0 : Int) ≤ (q : Int) := by omega
          have ba : (q : Int) < (d.size : Int) := by omega
          have ra : IntKind.i64.wrap (q : Int) = (q : Int) := by rw [IntKind.wrap_i64]; omega
          have ec : ((q : Int) + 1).toNat = q + 1 := by omega
          have pc : (0 : Int) ≤ (q : Int) + 1 := by omega
          have bc : (q : Int) + 1 < (d.size : Int) := by omega
          have rc : IntKind.i64.wrap ((q : Int) + 1) = (q : Int) + 1 := by rw [IntKind.wrap_i64]; omega
          have l1 := fun n os => ldk_run (S1.out.ld R (by omega) Tryz.prog (q + 1) (by omega) n os)
          have l2 := fun n os => ldk_run (S1.out.ld R (by omega) Tryz.prog q (by omega) n os)
          have hcg := fun n os => S1.out.cmp C (by omega) dk[q + 1]! dk[q]! n os
          by_cases hlv : cf dk[q + 1]! dk[q]! < 0
          · have HLV := Lib.hid (show Lt9 cf (AtF di i) (AtF di q) by rw [← vj, ← vq]; exact hlv)
            clear vj vq
            go_quiet_grown (first | (go_at_fn g; refine Calls.grown_of (hcg _ _)))
            have S2 : Aside (SWK enc 34 w0 blk off dk (grow (wr.drewN nq) osq)) := S1.out.grown nq osq
            clear l1 l2 hcg S1
            generalize grow (wr.drewN nq) osq = w2 at S2 ⊢
            go_upto_region 6 with fail
            have S3 : Aside (SWK enc 34 w0 blk off (swp dk (q + 1) q) ((w2.drew.setCells blk (off + (q + 1) * 34) (enc dk[q]!)).setCells blk (off + q * 34) (enc dk[q + 1]!))) := S2.out.swapped R (q + 1) q (by omega) (by omega)
            have l1 := ldk_run (S2.out.ld1 R (by omega) Tryz.prog q (by omega))
            have l2 := ldk_run (S2.out.ld1 R (by omega) Tryz.prog (q + 1) (by omega))
            have s1 := stk_run (R.hk _) (S2.out.st1 R (by omega) Tryz.prog (q + 1) (by omega) dk[q]!)
            have s2 := stk_run (R.hk _) (S2.out.st2 R (by omega) Tryz.prog (q + 1) q (by omega) (by omega) dk[q]! dk[q + 1]!)
            have HF2 : Aside (AtF (swp dk (q + 1) q) = rotF (AtF di) q i (i + 1)) := by
              show AtF (swp dk (q + 1) q) = rotF (AtF di) (q + 1 - 1) i (i + 1)
              rw [← ins_down (AtF di) (k := q + 1) (by omega) hji, ← HF.out]
              exact at_swp2 (by omega)
            generalize enc dk[q]! = cI at S3 l1 s1 s2
            generalize enc dk[q + 1]! = cJ at S3 l2 s2
            clear S2 HF
            go_big_region_o
            clear l1 l2 s1 s2
            generalize (w2.drew.setCells blk (off + (q + 1) * 34) cI).setCells blk (off + q * 34) cJ = w3 at S3 ⊢
            go_wp2_with fail
            go_roundg (q - a)
            case measure => omega
            case rel => exact ⟨q, swp dk (q + 1) q, by first | rfl | go_num, by omega, by omega, Nat.le_refl _, by rw [size_swp]; exact hdk, HF2, .inr HLV.out, S3⟩
          · have HLV := Lib.hid (show Lt9 cf (AtF di q) (AtF di i) from (HT1.out q i (by omega) (by omega) (by omega) hlt (by omega)).resolve_right (by rw [← vj, ← vq]; exact hlv))
            clear vj vq
            go_quiet_grown (first | (go_at_fn g; refine Calls.grown_of (hcg _ _)))
            have S2 : Aside (SWK enc 34 w0 blk off dk (grow (wr.drewN nq) osq)) := S1.out.grown nq osq
            clear l1 l2 hcg S1
            generalize grow (wr.drewN nq) osq = w2 at S2 ⊢
            have HM2 := Lib.hid (Merged.trans (by omega) (by omega) HM.out (by rw [HF.out]; exact ins_last HTR.out HM.out.up haj hji (.inr HLV.out) HJ.out) : Merged (Lt9 cf) (AtF d) (AtF dk) a (i + 1))
            go_wp2_with fail
            go_roundg (b - (i + 1))
            case measure => omega
            case rel => exact ⟨i + 1, dk, by go_num, by omega, by omega, Nat.le_refl _, hdk, HM2.out, S2⟩
        · have hjz : ¬ (a : Int) < (j : Int) := by omega
          have hjd : decide ((j : Int) > (a : Int)) = false := decide_eq_false (by omega)
          have hje : j = a := by omega
          have HM2 := Lib.hid (Merged.trans (by omega) (by omega) HM.out (by rw [HF.out]; exact ins_last HTR.out HM.out.up haj hji (.inl hje) HJ.out) : Merged (Lt9 cf) (AtF d) (AtF dk) a (i + 1))
          have S2 : Aside (SWK enc 34 w0 blk off dk wr.drew) := S1.out.drew
          clear vj S1 hje
          go_upto_region 4 with fail
          go_big_region_o
          all_goals go_wp2_with fail
          go_roundg (b - (i + 1))
          case measure => omega
          case rel => exact ⟨i + 1, dk, by go_num, by omega, by omega, Nat.le_refl _, hdk, HM2.out, S2⟩
    · obtain rfl : i = b := by omega
      clear hlt
      go_wp2_with fail
      go_end0
      exact ⟨rfl, di, hds, HM.out, S1.out⟩
set_option maxHeartbeats 8000000 in
set_option maxRecDepth 1000000 in
theorem insert_none (A : Option Addr) (n cap a b : Nat) (f : Value) (w : World) (ha : a < 1000000) (hab : b ≤ a) :
    Calls Tryz.prog 55 #[.slice A n cap, .int .i64 a, .int .i64 b, f] w fun e w' => e = .returned (.tuple #[]) ∧ w = w' := by
  have hz : ¬ (a : Int) + 1 < (b : Int) := by omega
  go_enter Tryz.func55, Tryz.ntmps55
  go_wp2_with fail
  go_loopg [8] 0 (fun _ s8 wr => s8 = .int .i64 ((a : Int) + 1) ∧ w = wr)
  case atStart => exact ⟨rfl, rfl⟩
  case round =>
    obtain ⟨rfl, rfl⟩ := hrel
    go_wp2_with fail
    go_end0
    exact ⟨rfl, rfl⟩
set_option maxHeartbeats 8000000 in
set_option maxRecDepth 1000000 in
theorem stable_any (R : RowK enc 34 w0 blk off d0) {cf : α → α → Int} {g : Nat} {cb : Array Value} (eg : ∀ args w, (callFunc g args).run Tryz.prog w = .ok (.enter g args) w) (C : CmpLays Tryz.prog g cb enc 34 cf blk off d0.size w0) (htr : ∀ x y z, Lt9 cf x y → Lt9 cf y z → Lt9 cf x z)
    {d : Array α} (hs : d0.size = d.size) {w : World} (S : SWK enc 34 w0 blk off d w) (cap : Nat) (hn : 0 < d.size) (hsz : d.size < 40) (ht : Tri9 cf (AtF d) 0 d.size) :
    Calls Tryz.prog 34 #[.slice (some ⟨blk, off, none⟩) d.size cap, .int .i64 (d.size : Int), .func (.func g) #[] cb] w fun e w' => e = .returned (.tuple #[]) ∧ ∃ d' : Array α, d'.size = d.size ∧ Merged (Lt9 cf) (AtF d) (AtF d') 0 d.size ∧ SWK enc 34 w0 blk off d' w' := by
  have S0 : Aside (SWK enc 34 w0 blk off d w) := S
  have HT := Lib.hid ht
  have HTR := Lib.hid htr
  clear S ht htr
  go_enter Tryz.func34, Tryz.ntmps34
  go_wp2_with fail
  go_loopg [7, 8] 1 (fun kx s7 s8 wr => (s7 = .int .i64 0 ∧ s8 = .int .i64 20 ∧ kx = 1 ∧ w = wr) ∨ (20 ≤ d.size ∧ s7 = .int .i64 20 ∧ s8 = .int .i64 40 ∧ ∃ d1 : Array α, Hid (d1.size = d.size) ∧ Hid (Merged (Lt9 cf) (AtF d) (AtF d1) 0 20) ∧ Hid (SWK enc 34 w0 blk off d1 wr)))
  case atStart => exact .inl ⟨rfl, rfl, rfl, rfl⟩
  case round =>
    rcases hrel with ⟨rfl, rfl, hk1, rfl⟩ | ⟨h20, rfl, rfl, d1, HD1, HM1, S1⟩
    · by_cases h20 : 20 ≤ d.size
      · have z1 : (20 : Int) ≤ (d.size : Int) := by omega
        have HC := Lib.hid (insert_any R eg C HTR.out hs S0.out cap 0 20 (by omega) h20 (by omega) (HT.out.part (Nat.le_refl _) h20))
        rw [show ((0 : Nat) : Int) = 0 from rfl, show ((20 : Nat) : Int) = 20 from rfl] at HC
        go_wp2_with (go_at_call 55; (with_reducible refine HC.out.mono ?_); rintro _ w2 ⟨rfl, d2, hd2, hf2, S2'⟩; have HD2 := Lib.hid hd2; have S2 := Lib.hid S2'; have HF2 := Lib.hid hf2; clear S2' hf2 hd2)
        go_roundg 0
        case measure => omega
        case rel => exact .inr ⟨h20, rfl, rfl, d2, HD2, HF2, S2⟩
      · have z1 : ¬ (20 : Int) ≤ (d.size : Int) := by omega
        have z2 : ¬ (20 : Int) < (d.size : Int) := by omega
        have HC := Lib.hid (insert_any R eg C HTR.out hs S0.out cap 0 d.size hn (Nat.le_refl _) (by omega) HT.out)
        rw [show ((0 : Nat) : Int) = 0 from rfl] at HC
        go_wp2_with (go_at_call 55; (with_reducible refine HC.out.mono ?_); rintro _ w2 ⟨rfl, d2, hd2, hf2, S2'⟩; have HD2 := Lib.hid hd2; have S2 := Lib.hid S2'; have HF2 := Lib.hid hf2; clear S2' hf2 hd2)
        go_loopg [6] 0 (fun _ s6 wr => s6 = .int .i64 20 ∧ w2 = wr)
        case atStart => exact ⟨rfl, rfl⟩
        case round =>
          obtain ⟨rfl, rfl⟩ := hrel
          go_wp2_with fail
          go_end0
          exact ⟨rfl, d2, HD2.out, HF2.out, S2.out⟩
    · have z1 : ¬ (40 : Int) ≤ (d.size : Int) := by omega
      by_cases h21 : d.size = 20
      · have z2 : ¬ (20 : Int) < (d.size : Int) := by omega
        have HC := Lib.hid (insert_none (some ⟨blk, off, none⟩) d.size cap 20 d.size (.func (.func g) #[] cb) wr (by omega) (by omega))
        rw [show ((20 : Nat) : Int) = 20 from rfl] at HC
        have H21 := Lib.hid h21
        clear h21
        go_wp2_with (go_at_call 55; (with_reducible refine HC.out.mono ?_); rintro _ w2 ⟨rfl, rfl⟩)
        go_loopg [6] 0 (fun _ s6 w9 => s6 = .int .i64 20 ∧ wr = w9)
        case atStart => exact ⟨rfl, rfl⟩
        case round =>
          obtain ⟨rfl, rfl⟩ := hrel
          go_wp2_with fail
          go_end0
          exact ⟨rfl, d1, HD1.out, by rw [H21.out]; exact HM1.out, S1.out⟩
      · have z2 : (20 : Int) < (d.size : Int) := by omega
        have HP1 := Lib.hid (part_perm (Nat.le_refl 0) (by omega) h20 HM1.out.perm (fun t ht => HM1.out.out t (by omega)) : (rowF (AtF d1) 0 d.size).Perm (rowF (AtF d) 0 d.size))
        have HT1 := Lib.hid (HT.out.perm HP1.out)
        have HC := Lib.hid (insert_any R eg C HTR.out (by rw [hs, HD1.out]) S1.out cap 20 d.size (by omega) (by rw [HD1.out]; exact Nat.le_refl _) (by rw [HD1.out]; omega) (HT1.out.part (by omega) (Nat.le_refl _)))
        rw [HD1.out, show ((20 : Nat) : Int) = 20 from rfl] at HC
        clear S1
        go_wp2_with (go_at_call 55; (with_reducible refine HC.out.mono ?_); rintro _ w2 ⟨rfl, d2, hd9, hf9, S9'⟩; have HD2 := Lib.hid hd9; have S2 := Lib.hid S9'; have HF2 := Lib.hid hf9; clear S9' hf9 hd9)
        have HC := Lib.hid (symMerge_any R eg C HTR.out cap (by omega) d.size 0 20 d.size d2 w2 (by rw [hs, HD2.out]) S2.out (by omega) (by omega) (by omega) (by rw [HD2.out]; exact Nat.le_refl _) (fun i j p1 p2 p3 => by rw [HF2.out.out i (by omega), HF2.out.out j (by omega)]; exact HM1.out.up i j p1 p2 p3) HF2.out.up (HT1.out.perm (part_perm (by omega) (by omega) (Nat.le_refl _) HF2.out.perm (fun t ht => HF2.out.out t (by omega)))))
        rw [HD2.out, show ((0 : Nat) : Int) = 0 from rfl, show ((20 : Nat) : Int) = 20 from rfl] at HC
        have HP2 := Lib.hid ((part_perm (Nat.zero_le _) h20 (Nat.le_refl _) HF2.out.perm (fun t ht => HF2.out.out t (by omega))).trans HP1.out : (rowF (AtF d2) 0 d.size).Perm (rowF (AtF d) 0 d.size))
        have HO2 := Lib.hid (fun t (ht : t < 0 ∨ d.size ≤ t) => (HF2.out.out t (by omega)).trans (HM1.out.out t (by omega)))
        go_loopg [6] 1 (fun kx s6 w9 => (s6 = .int .i64 20 ∧ kx = 1 ∧ w2 = w9) ∨ (s6 = .int .i64 40 ∧ ∃ d3 : Array α, Hid (d3.size = d.size) ∧ Hid (Merged (Lt9 cf) (AtF d) (AtF d3) 0 d.size) ∧ Hid (SWK enc 34 w0 blk off d3 w9)))
        case atStart => exact .inl ⟨rfl, rfl, rfl⟩
        case round =>
          rcases hrel with ⟨rfl, hk1, rfl⟩ | ⟨rfl, d3, HD3, HM3, S3⟩
          · go_wp2_with fail
            go_loopg [7, 8] 0 (fun _ s7 s8 w9 => s7 = .int .i64 0 ∧ s8 = .int .i64 40 ∧ w2 = w9)
            case atStart => exact ⟨rfl, rfl, rfl⟩
            case round =>
              obtain ⟨rfl, rfl, rfl⟩ := hrel
              go_wp2_with (go_at_call 56; (with_reducible refine HC.out.mono ?_); rintro _ w3 ⟨rfl, d3, hd9, hf9, S9'⟩; have HD3 := Lib.hid hd9; have S3 := Lib.hid S9'; have HF3 := Lib.hid hf9; clear S9' hf9 hd9)
              go_roundg 0
              case measure => omega
              case rel => exact .inr ⟨rfl, d3, Lib.hid HD3.out, Lib.hid ⟨HF3.out.up, HF3.out.perm.trans HP2.out, fun t ht => (HF3.out.out t ht).trans (HO2.out t ht)⟩, S3⟩
          · go_wp2_with fail
            go_end0
            exact ⟨rfl, d3, HD3.out, HM3.out, S3.out⟩
end Go.Proofs.YtmlmbkelpjmafaaGreat
