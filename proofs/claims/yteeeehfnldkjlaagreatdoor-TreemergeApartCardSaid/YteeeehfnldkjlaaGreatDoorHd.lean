/-
 The law walk of TreemergeApart. No statement of the seat is proved here.
-/
import Derived.Test.YteeeehfnldkjlaaGreatDoorTZGg
import Derived.Test.YteeeehfnldkjlaaGreatDoorWl
import Derived.Test.YteeeehfnldkjlaaGreatDoorHe
import Derived.BigRegion
namespace Go.Proofs.YteeeehfnldkjlaaGreatDoor
open Go.RowKit Go.Maps
def howC (H : List Nat) : Array Value := (H.map fun h => Value.int .i64 (h : Nat)).toArray
theorem howC_set (H : List Nat) (k v : Nat) : (howC H).setIfInBounds k (.int .i64 (v : Nat)) = howC (H.set k v) := by
 unfold howC
 rw [List.setIfInBounds_toArray, List.map_set]
theorem howC_at {H : List Nat} {k v : Nat} (h : H[k]? = some v) : (howC H)[k]? = some (.int .i64 (v : Nat)) := by
 unfold howC
 rw [List.getElem?_toArray, List.getElem?_map, h]
 rfl
theorem wrap_small {t : Int} (h1 : -4611686018427387904 ≤ t) (h2 : t ≤ 4611686018427387904) : IntKind.i64.wrap t = t := by
 unfold IntKind.wrap
 show (if (true && decide (t % (18446744073709551616 : Int) ≥ (9223372036854775808 : Int))) = true then t % 18446744073709551616 - 18446744073709551616 else t % 18446744073709551616) = t
 rw [Bool.true_and]
 simp only [decide_eq_true_eq]
 split <;> omega
theorem tdiv_small {x : Int} {N : Nat} (hN : 2 ≤ N) (h : -9223372036854775808 ≤ x ∧ x ≤ 9223372036854775807) : IntKind.i64.wrap (x.tdiv (N : Int)) = x.tdiv (N : Int) := by
 have h1 : (x.tdiv (N : Int)).natAbs = x.natAbs / N := by rw [Int.natAbs_tdiv]; rfl
 have h2 : x.natAbs / N ≤ x.natAbs / 2 := Nat.div_le_div_left hN (by omega)
 exact wrap_small (by omega) (by omega)
theorem own_of_blk {w : World} {z g : Nat} {cs : Array Value} {l : List UInt8} (hb : Blk w g 5 cs) (hcs : cs.toList = l.map byteV) (hz : z ≤ g) (hl : l.length ≤ maxLen) : OwnB w z (some ⟨g, 0, none⟩) l.length l := by
 have hs : cs.size = l.length := by rw [← Array.length_toList, hcs, List.length_map]
 refine ⟨by simp, .inr ⟨g, l.length, cs, rfl, hz, hb, Nat.le_refl _, hl, by rw [Nat.mul_one]; exact hs, ?_⟩⟩
 rw [hcs]
 exact List.take_of_length_le (by simp)
theorem conv_one {W : World} {g : Nat} {x : Value} {b : UInt8} (hb : Blk W g 5 #[x]) (hx : x = byteV b) : (convert 39 9 (.slice (some ⟨g, 0, none⟩) 1 1)).run Tryz.prog W = .ok (.string ⟨#[b]⟩) W := by
 subst hx
 rw [run_convert_bytes_string _ 39 9 5 (some ⟨g, 0, none⟩) 1 1 Tryz.underlying39 Tryz.underlying5 Tryz.underlying9, run_str_of (l := [b]) (Reads.of_blk (n := 1) (size := 1) (xs := [byteV b]) hb rfl rfl)]
theorem byte_at {k i : Nat} (h : k + i < 256) : byteV (UInt8.ofNat (k + i)) = .int .u8 ((k : Int) + (i : Int)) := by
 unfold byteV
 have : (UInt8.ofNat (k + i)).toNat = k + i := by rw [UInt8.toNat_ofNat']; omega
 rw [this]
 simp
theorem file_load3 {w : World} {q : Nat} {s : ByteArray} {k : Int} {A : Option Addr} {n c : Nat} (h : Blk w q 41 #[.string s, .int .i64 k, .slice A n c]) : (LdF (.pointer (some ⟨q, 0, none⟩))).run Tryz.prog w = .ok (.agg #[.string s, .int .i64 k, .slice A n c]) w :=
 run_loadAt_blk (P := Tryz.prog) h 0 #[.string s, .int .i64 k, .slice A n c] Tryz.underlying41 rfl info_file (by simp)
theorem R4.enter {w w' : World} {z : Nat} {a b c d : FRow} (h : R4 w z [] a b c d) (hb : Below w.heap.size w w') (hz : z ≤ w.heap.size) {g1 g2 : Nat} (h1 : w.heap.size ≤ g1 ∧ g1 < w'.heap.size) (h2 : w.heap.size ≤ g2 ∧ g2 < w'.heap.size) : R4 w' z [g1, g2] a b c d :=
 have h0 : R4 w' z [] a b c d := h.same (E := []) (S := fun _ => False) (Kept.ofBelow hb) hz (by simp) (fun p hp _ => hb.block p hp) (fun _ _ _ _ _ q => q)
 (h0.watch h2.2 (FRow.off_new h.ra h2.1) (FRow.off_new h.rb h2.1) (FRow.off_new h.rc h2.1) (FRow.off_new h.rd h2.1)).watch h1.2 (FRow.off_new h.ra h1.1) (FRow.off_new h.rb h1.1) (FRow.off_new h.rc h1.1) (FRow.off_new h.rd h1.1)
theorem box_put {w : World} {z : Nat} {G : List Nat} {a b c d : FRow} (h : R4 w z G a b c d) (hz : z ≤ w.heap.size) {g : Nat} (hg : g ∈ G) (hzg : z ≤ g) {u0 u1 u2 : Value} (hb : Blk w g 41 #[u0, u1, u2]) (v0 v1 v2 : Value) :
 R4 (((w.setCell ⟨g, 0, none⟩ v0).setCell ⟨g, 1, none⟩ v1).setCell ⟨g, 2, none⟩ v2) z G a b c d ∧ Blk (((w.setCell ⟨g, 0, none⟩ v0).setCell ⟨g, 1, none⟩ v1).setCell ⟨g, 2, none⟩ v2) g 41 #[v0, v1, v2] ∧ Kept z [41] [] w (((w.setCell ⟨g, 0, none⟩ v0).setCell ⟨g, 1, none⟩ v1).setCell ⟨g, 2, none⟩ v2) ∧ ∀ p, p ≠ g → (((w.setCell ⟨g, 0, none⟩ v0).setCell ⟨g, 1, none⟩ v1).setCell ⟨g, 2, none⟩ v2).heap[p]? = w.heap[p]? := by
 have b1 := hb.set_ 0 v0
 have b2 := b1.set_ 1 v1
 have b3 := b2.set_ 2 v2
 have r1 := h.setCell hz (p := ⟨g, 0, none⟩) hg hzg hb v0
 have r2 := r1.setCell (by simpa using hz) (p := ⟨g, 1, none⟩) hg hzg b1 v1
 have r3 := r2.setCell (by simpa using hz) (p := ⟨g, 2, none⟩) hg hzg b2 v2
 refine ⟨r3, b3, ?_, fun p hp => ?_⟩
 · have t : Tch z [41] [] w g := .inr ⟨hzg, 41, by simp, _, (0, 0), hb⟩
   exact Keep.setCell (Keep.setCell (Keep.setCell (Keep.refl _ _) (.inl t) v0) (.inl t) v1) (.inl t) v2
 · rw [Below.heap_setCell _ _ _ _ hp, Below.heap_setCell _ _ _ _ hp, Below.heap_setCell _ _ _ _ hp]
theorem apB_len (i : Nat) : (apB i).length = i := by unfold apB; simp
theorem apL_len (g : Nat → Nat → Option FileD) (H : List Nat) (i : Nat) : (apL g H i).length ≤ i := by
 unfold apL
 exact Nat.le_trans (List.length_filterMap_le _ _) (by simp)
/-- The law's two files, where their bytes stand. -/
def ftF (i s : Nat) : FT := (apF i, (some ⟨s, 0, none⟩, 2))
def ftC (i s : Nat) : FT := (apC i, (some ⟨s, 0, none⟩, 4))
def cellsF (i s : Nat) : Array Value := fileC (apF i) (some ⟨s, 0, none⟩) 2
def cellsC (i s : Nat) : Array Value := fileC (apC i) (some ⟨s, 0, none⟩) 4
attribute [local go_sem ↓] ld_f sl_b
set_option maxHeartbeats 4000000 in
set_option maxRecDepth 100000 in
theorem apart_law (n : Int) (u v : List Int) (A1 A2 : Option Addr) (c1 c2 B : Nat) (w : World) (hB : B ≤ w.heap.size) (h1 : Reads w B 1 A1 u.length (u.map (Value.int .i64))) (h2 : Reads w B 1 A2 v.length (v.map (Value.int .i64))) (d1 : ∀ x ∈ u, -9223372036854775808 ≤ x ∧ x ≤ 9223372036854775807) (d2 : ∀ x ∈ v, -9223372036854775808 ≤ x ∧ x ≤ 9223372036854775807) (hv : VarM w) :
 Calls Tryz.prog 11 #[.int .i64 n, .slice A1 u.length c1, .slice A2 v.length c2] w fun e w' => e = .returned (.bool true) ∧ Below w.heap.size w w' := by
 obtain ⟨z, hz⟩ : ∃ z, w.heap.size = z := ⟨_, rfl⟩
 have HK := Lib.hid (known17_any w hv)
 rw [hz] at HK hB
 rw [hz]
 have HI := Lib.hid (And.intro h1 h2)
 have HD := Lib.hid (And.intro d1 d2)
 have HV := Lib.hid hv
 clear h1 h2 d1 d2 hv
 have HW1 := Lib.hid (fun W => within17_any n 20 W (by omega) (by omega))
 obtain ⟨N, hN, hN2, hN21⟩ : ∃ N : Nat, 2 + n % 20 = (N : Int) ∧ 2 ≤ N ∧ N ≤ 21 := ⟨(2 + n % 20).toNat, by omega, by omega, by omega⟩
 go_enter Tryz.func11, Tryz.ntmps11
 go_upto_region 4 with (first
  | (go_at_call 14; (with_reducible refine HK.out.mono ?_); rintro _ w1 ⟨rfl, hb1⟩; have HB1 := Lib.hid hb1; clear hb1)
  | (go_at_call 28; (with_reducible refine (HW1.out _).mono ?_); rintro _ _ ⟨rfl, rfl⟩))
 clear HK HW1 hN
 obtain ⟨q, hq⟩ : ∃ q, w1.heap.size = q := ⟨_, rfl⟩
 have HZQ := Lib.hid (show z ≤ q from by rw [← hq, ← hz]; exact HB1.out.size)
 go_cut [7] (fun s7 wx => s7 = .slice (some ⟨q, 0, none⟩) N N ∧ Hid (Blk wx q 3 (howC (List.replicate N 0))) ∧ Hid (wx.heap.size = q + 1) ∧ Hid (Below q w1 wx))
 case first =>
  as_aux_lemma =>
   go_wp2_with (refine wpList_make_one rfl rfl Tryz.underlying54 info_int rfl (by omega) N (by omega) rfl rfl rfl rfl ?_)
   go_meet
   have hrep : howC (List.replicate N 0) = Array.replicate N (Value.int .i64 0) := by unfold howC; rw [List.map_replicate]; simp
   exact ⟨rfl, Lib.hid (by rw [hrep]; exact blk_new_at _ _ _ _ hq), Lib.hid (size_at _ _ _ hq), Lib.hid (below_at _ hq)⟩
 case rest =>
  obtain ⟨rfl, HH, HS, HBW⟩ := hcut
  generalize wc = w2 at *
  have HB2 := Lib.hid (show Below z w w2 from HB1.out.trans (HBW.out.mono HZQ.out))
  clear HB1 HBW hq
  go_upto_block 0 with fail
  go_cut [8] (fun _ wx => ∃ H, Hid (H.length = N) ∧ Hid (Blk wx q 3 (howC H)) ∧ Hid (wx.heap.size = q + 1) ∧ Hid (Below q w2 wx))
  case first =>
   as_aux_lemma =>
    go_wp2_with fail
    go_loopw [8] (fun s8 wr => ∃ (i : Nat) (H : List Nat), s8 = .int .i64 (i : Nat) ∧ i ≤ u.length ∧ Hid (H.length = N) ∧ Hid (Blk wr q 3 (howC H)) ∧ Hid (wr.heap.size = q + 1) ∧ Hid (Below q w2 wr)) (fun s8 _ => u.length - (intOf s8).toNat)
    case atStart => exact ⟨0, List.replicate N 0, rfl, Nat.zero_le _, Lib.hid (by simp), HH, HS, Lib.hid (Below.refl _ _)⟩
    case round =>
     obtain ⟨i, H, rfl, hiu, HL, HB, HSZ, HBW⟩ := hrel
     by_cases hi : i < u.length ∧ i < 12
     · obtain ⟨hi1, hi2⟩ := hi
       have p1 : (i : Int) < (u.length : Int) := by omega
       have p2 : (i : Int) < 12 := by omega
       have p0 : (0 : Int) ≤ (i : Int) := by omega
       obtain ⟨x, hx⟩ : ∃ x, u[i]? = some x := ⟨_, List.getElem?_eq_getElem hi1⟩
       have hx2 := HD.out.1 x (List.mem_of_getElem? hx)
       obtain ⟨g, off, eA, hg, hcc⟩ := (HI.out.1.below ((HB2.out.trans (HBW.out.mono HZQ.out)).mono hB)).at0 (by omega) (by omega)
       subst eA
       have e0 : wr.drew.cell? ⟨g, off + i, none⟩ = some (.int .i64 x) := hcc i _ (by rw [List.getElem?_map, hx]; rfl)
       obtain ⟨k, hk, hkN⟩ : ∃ k : Nat, x % (N : Int) = (k : Int) ∧ k < N := ⟨(x % (N : Int)).toNat, by have := Int.emod_nonneg x (b := (N : Int)) (by omega); have := Int.emod_lt_of_pos x (b := (N : Int)) (by omega); omega, by have := Int.emod_nonneg x (b := (N : Int)) (by omega); have := Int.emod_lt_of_pos x (b := (N : Int)) (by omega); omega⟩
       obtain ⟨b, hb, hb2⟩ : ∃ b : Nat, x.tdiv (N : Int) % 2 = (b : Int) ∧ b < 2 := ⟨(x.tdiv (N : Int) % 2).toNat, by omega, by omega⟩
       have HWa := Lib.hid (fun W => ((within17_any x N W (by omega) (by omega)).mono fun _ _ h => (⟨hk ▸ h.1, h.2.symm⟩ : _ = Ending.returned (.int .i64 (k : Nat)) ∧ _ = W)))
       have HWb := Lib.hid (fun W => ((within17_any (x.tdiv (N : Int)) 2 W (by omega) (by omega)).mono fun _ _ h => (⟨hb ▸ h.1, h.2.symm⟩ : _ = Ending.returned (.int .i64 (b : Nat)) ∧ _ = W)))
       obtain ⟨h, hh⟩ : ∃ h, H[k]? = some h := ⟨_, List.getElem?_eq_getElem (by rw [HL.out]; exact hkN)⟩
       have c0 : wr.drew.cell? ⟨q, k, none⟩ = some (.int .i64 (h : Nat)) := (HB.out.drew.cell k).trans (howC_at hh)
       have z0 : wr.drew.frozen? ⟨q, k, none⟩ = false := HB.out.drew.frozen k
       have p3 : (k : Int) < (N : Int) := by omega
       have p4 : (0 : Int) ≤ (k : Int) := by omega
       have p5 : ((N : Int) == 0) = false := beq_eq_false_iff_ne.2 (by omega)
       have p6 : ¬ (N : Int) = 0 := by omega
       have p7 : ¬ N = 0 := by omega
       have p8 := tdiv_small (x := x) hN2 hx2
       clear hcc hx hh hiu hk hb hx2
       go_upto_region 8 with fail
       refine wp_region_still_tail 16 (by kernel_rfl) (by kernel_rfl) ?_; simp only [List.take_succ_cons, List.take_zero, List.drop_succ_cons, List.drop_zero]; repeat (first | ((with_reducible refine wpStill_step (fun K hK => ?_)); go_simp; with_reducible refine hK _ ?_; clear hK K) | ((with_reducible refine wpStill_skip ?_ ?_); (focus rfl)))
       (with_reducible refine wpStill_step (fun K hK => ?_)); go_simp; (with_reducible refine ⟨_, HWa.out _, hK _ ?_⟩); clear hK K; repeat (first | ((with_reducible refine wpStill_step (fun K hK => ?_)); go_simp; with_reducible refine hK _ ?_; clear hK K) | ((with_reducible refine wpStill_skip ?_ ?_); (focus rfl)))
       (with_reducible refine wpStill_step (fun K hK => ?_)); go_simp; (with_reducible refine ⟨_, HWb.out _, hK _ ?_⟩); clear hK K; repeat (first | ((with_reducible refine wpStill_step (fun K hK => ?_)); go_simp; with_reducible refine hK _ ?_; clear hK K) | ((with_reducible refine wpStill_skip ?_ ?_); (focus rfl)))
       (with_reducible refine wpStill_nil ?_); change wpList _ _ _ _ _ wr.drew
       go_wp2_with fail
       go_roundw
       case rel => exact ⟨i + 1, H.set k (1 + b), by go_num, by omega, Lib.hid (by rw [List.length_set]; exact HL.out), Lib.hid (by rw [← howC_set]; exact HB.out.drew.set_ k (.int .i64 ((1 + b : Nat) : Int))), Lib.hid (by simpa using HSZ.out), Lib.hid (HBW.out.drew.setCell (p := ⟨q, k, none⟩) (Nat.le_refl _) _)⟩
       case measure => simp [intOf]; omega
     · rcases (by omega : ¬ i < u.length ∨ (i < u.length ∧ ¬ i < 12)) with q1 | ⟨q1, q2⟩
       · have p1 : ¬ (i : Int) < (u.length : Int) := by omega
         go_wp2_with fail
         go_meet
         exact ⟨H, HL, HB, HSZ, HBW⟩
       · have p1 : (i : Int) < (u.length : Int) := by omega
         have p2 : ¬ (i : Int) < 12 := by omega
         go_wp2_with fail
         go_meet
         exact ⟨H, HL, HB, HSZ, HBW⟩
  case rest =>
   obtain ⟨H1, HL1, HH1, HS1, HBW1⟩ := hcut
   generalize wc = w3 at *
   have HB3 := Lib.hid (show Below z w w3 from HB2.out.trans (HBW1.out.mono HZQ.out))
   clear HH HS HB2 HBW1
   go_upto_block 2 with fail
   go_cut [9] (fun _ wx => ∃ H, Hid (H.length = N) ∧ Hid (Blk wx q 3 (howC H)) ∧ Hid (wx.heap.size = q + 1) ∧ Hid (Below q w3 wx))
   case first =>
    as_aux_lemma =>
     go_wp2_with fail
     go_loopw [9] (fun s9 wr => ∃ (i : Nat) (H : List Nat), s9 = .int .i64 (i : Nat) ∧ i ≤ v.length ∧ Hid (H.length = N) ∧ Hid (Blk wr q 3 (howC H)) ∧ Hid (wr.heap.size = q + 1) ∧ Hid (Below q w3 wr)) (fun s9 _ => v.length - (intOf s9).toNat)
     case atStart => exact ⟨0, H1, rfl, Nat.zero_le _, HL1, HH1, HS1, Lib.hid (Below.refl _ _)⟩
     case round =>
      obtain ⟨i, H, rfl, hiu, HL, HB, HSZ, HBW⟩ := hrel
      by_cases hi : i < v.length ∧ i < 12
      · obtain ⟨hi1, hi2⟩ := hi
        have p1 : (i : Int) < (v.length : Int) := by omega
        have p2 : (i : Int) < 12 := by omega
        have p0 : (0 : Int) ≤ (i : Int) := by omega
        obtain ⟨x, hx⟩ : ∃ x, v[i]? = some x := ⟨_, List.getElem?_eq_getElem hi1⟩
        have hx2 := HD.out.2 x (List.mem_of_getElem? hx)
        obtain ⟨g, off, eA, hg, hcc⟩ := (HI.out.2.below ((HB3.out.trans (HBW.out.mono HZQ.out)).mono hB)).at0 (by omega) (by omega)
        subst eA
        have e0 : wr.drew.cell? ⟨g, off + i, none⟩ = some (.int .i64 x) := hcc i _ (by rw [List.getElem?_map, hx]; rfl)
        obtain ⟨k, hk, hkN⟩ : ∃ k : Nat, x % (N : Int) = (k : Int) ∧ k < N := ⟨(x % (N : Int)).toNat, by have := Int.emod_nonneg x (b := (N : Int)) (by omega); have := Int.emod_lt_of_pos x (b := (N : Int)) (by omega); omega, by have := Int.emod_nonneg x (b := (N : Int)) (by omega); have := Int.emod_lt_of_pos x (b := (N : Int)) (by omega); omega⟩
        obtain ⟨b, hb, hb2⟩ : ∃ b : Nat, x.tdiv (N : Int) % 2 = (b : Int) ∧ b < 2 := ⟨(x.tdiv (N : Int) % 2).toNat, by omega, by omega⟩
        have HWa := Lib.hid (fun W => ((within17_any x N W (by omega) (by omega)).mono fun _ _ h => (⟨hk ▸ h.1, h.2.symm⟩ : _ = Ending.returned (.int .i64 (k : Nat)) ∧ _ = W)))
        have HWb := Lib.hid (fun W => ((within17_any (x.tdiv (N : Int)) 2 W (by omega) (by omega)).mono fun _ _ h => (⟨hb ▸ h.1, h.2.symm⟩ : _ = Ending.returned (.int .i64 (b : Nat)) ∧ _ = W)))
        obtain ⟨h, hh⟩ : ∃ h, H[k]? = some h := ⟨_, List.getElem?_eq_getElem (by rw [HL.out]; exact hkN)⟩
        have c0 : wr.drew.cell? ⟨q, k, none⟩ = some (.int .i64 (h : Nat)) := (HB.out.drew.cell k).trans (howC_at hh)
        have z0 : wr.drew.frozen? ⟨q, k, none⟩ = false := HB.out.drew.frozen k
        have p3 : (k : Int) < (N : Int) := by omega
        have p4 : (0 : Int) ≤ (k : Int) := by omega
        have p5 : ((N : Int) == 0) = false := beq_eq_false_iff_ne.2 (by omega)
        have p6 : ¬ (N : Int) = 0 := by omega
        have p7 : ¬ N = 0 := by omega
        have p8 := tdiv_small (x := x) hN2 hx2
        clear hcc hx hh hiu hk hb hx2
        have e0' : wr.cell? ⟨g, off + i, none⟩ = some (.int .i64 x) := e0
        have c0' : wr.cell? ⟨q, k, none⟩ = some (.int .i64 (h : Nat)) := c0
        have z0' : wr.frozen? ⟨q, k, none⟩ = false := z0
        clear e0 c0 z0
        by_cases h0 : h = 0
        · subst h0
          go_wp2_with (first
           | (go_at_call 28; (with_reducible refine (HWa.out _).mono ?_); rintro _ _ ⟨rfl, rfl⟩)
           | (go_at_call 28; (with_reducible refine (HWb.out _).mono ?_); rintro _ _ ⟨rfl, rfl⟩))
          go_roundw
          case rel => exact ⟨i + 1, H.set k (3 + b), by go_num, by omega, Lib.hid (by rw [List.length_set]; exact HL.out), Lib.hid (by rw [← howC_set]; exact HB.out.set_ k (.int .i64 ((3 + b : Nat) : Int))), Lib.hid (by simpa using HSZ.out), Lib.hid (HBW.out.setCell (p := ⟨q, k, none⟩) (Nat.le_refl _) _)⟩
          case measure => simp [intOf]; omega
        · have h1 : ((h : Int) == 0) = false := beq_eq_false_iff_ne.2 (by omega)
          have h2 : ¬ (h : Int) = 0 := by omega
          have h3 : ¬ h = 0 := h0
          go_wp2_with (go_at_call 28; (with_reducible refine (HWa.out _).mono ?_); rintro _ _ ⟨rfl, rfl⟩)
          go_roundw
          case rel => exact ⟨i + 1, H, by go_num, by omega, HL, HB, HSZ, HBW⟩
          case measure => simp [intOf]; omega
      · rcases (by omega : ¬ i < v.length ∨ (i < v.length ∧ ¬ i < 12)) with q1 | ⟨q1, q2⟩
        · have p1 : ¬ (i : Int) < (v.length : Int) := by omega
          go_wp2_with fail
          go_meet
          exact ⟨H, HL, HB, HSZ, HBW⟩
        · have p1 : (i : Int) < (v.length : Int) := by omega
          have p2 : ¬ (i : Int) < 12 := by omega
          go_wp2_with fail
          go_meet
          exact ⟨H, HL, HB, HSZ, HBW⟩
   case rest =>
    obtain ⟨H2, HL2, HH2, HS2, HBW2⟩ := hcut
    generalize wc = w4 at *
    have HB4 := Lib.hid (show Below z w w4 from HB3.out.trans (HBW2.out.mono HZQ.out))
    clear HL1 HH1 HS1 HB3 HBW2 HI HD
    obtain ⟨q', hq'⟩ : ∃ q', w4.heap.size = q' := ⟨_, rfl⟩
    have hqq : q + 1 = q' := by rw [← hq', HS2.out]
    go_wp2_with fail
    go_loopw [11, 12, 13, 14, 15] (fun s11 s12 s13 s14 s15 wr => ∃ (i : Nat) (A1 : Option Addr) (c1 : Nat) (A2 : Option Addr) (c2 : Nat) (A3 : Option Addr) (c3 : Nat) (A4 : Option Addr) (c4 : Nat), s11 = .slice A1 (apB i).length c1 ∧ s12 = .slice A2 (apL apO H2 i).length c2 ∧ s13 = .slice A3 (apL apT H2 i).length c3 ∧ s14 = .slice A4 (apL apW H2 i).length c4 ∧ s15 = .int .i64 (i : Nat) ∧ i ≤ N ∧ Hid (R4 wr q' [] (A1, c1, apB i) (A2, c2, apL apO H2 i) (A3, c3, apL apT H2 i) (A4, c4, apL apW H2 i)) ∧ Hid (Below q' w4 wr)) (fun _ _ _ _ s15 _ => N - (intOf s15).toNat)
    case atStart => exact ⟨0, none, 0, none, 0, none, 0, none, 0, rfl, rfl, rfl, rfl, rfl, Nat.zero_le _, Lib.hid (R4.nil_ _ _), Lib.hid (Below.refl _ _)⟩
    case round =>
     obtain ⟨i, A1, c1, A2, c2, A3, c3, A4, c4, rfl, rfl, rfl, rfl, rfl, hiN, HR4, HBW⟩ := hrel
     by_cases hi : i < N
     · have hi' : (i : Int) < (N : Int) := by omega
       have i0 : (0 : Int) ≤ (i : Int) := by omega
       obtain ⟨s, hs⟩ : ∃ s, wr.heap.size = s := ⟨_, rfl⟩
       have hqs : q' ≤ s := by rw [← hs, ← hq']; exact HBW.out.size
       have x1 := conv_one (b := UInt8.ofNat (97 + i)) (blk_new_at wr 5 #[.int .u8 (97 + (i : Int))] s hs) (byte_at (k := 97) (by omega)).symm
       have x2 : (⟨#[102]⟩ : ByteArray) ++ ⟨#[UInt8.ofNat (97 + i)]⟩ = ⟨#[102, UInt8.ofNat (97 + i)]⟩ := rfl
       obtain ⟨bb, hbb⟩ : ∃ bb, UInt8.ofNat (97 + i) = bb := ⟨_, rfl⟩
       rw [hbb] at x1 x2
       have HBB := Lib.hid hbb
       have HN := Lib.hid (And.intro hi hN21)
       clear hbb
       go_upto_region 19 with fail
       go_cut [16] (fun s16 wx => s16 = .pointer (some ⟨s + 2, 0, none⟩) ∧ Hid (Blk wx (s + 1) 5 #[.int .u8 (48 + (i : Int)), .int .u8 10]) ∧ Hid (Blk wx (s + 2) 41 #[.string ⟨#[102, bb]⟩, .int .i64 1, .slice (some ⟨s + 1, 0, none⟩) 2 2]) ∧ Hid (wx.heap.size = s + 3) ∧ Hid (Below s wr wx))
       case first =>
        as_aux_lemma =>
         go_wp2_with fail
         go_meet
         exact ⟨rfl, Lib.hid ((blk_new_at (wr.alloc _) _ _ _ (size_at wr _ _ hs)).alloc _), Lib.hid (blk_new_at _ _ _ _ (size_at _ _ _ (size_at wr _ _ hs))), Lib.hid (size_at _ _ _ (size_at _ _ _ (size_at wr _ _ hs))), Lib.hid ((below_at _ hs).trans (((below_at _ (size_at wr _ _ hs)).mono (by omega)).trans ((below_at _ (size_at _ _ _ (size_at wr _ _ hs))).mono (by omega))))⟩
       case rest =>
        obtain ⟨rfl, HD0, HX0, HS0, HB0⟩ := hcut
        generalize wc = w5 at *
        clear x1 x2
        have hs5 := HS0.out
        have l5 : (LdF (.pointer (some ⟨s + 2, 0, none⟩))).run Tryz.prog w5 = .ok (.agg #[.string ⟨#[102, bb]⟩, .int .i64 1, .slice (some ⟨s + 1, 0, none⟩) 2 2]) w5 := file_load3 HX0.out
        go_upto_region 20 with fail
        go_cut [17] (fun s17 wx => s17 = .pointer (some ⟨s + 3, 0, none⟩) ∧ Hid (Blk wx (s + 1) 5 #[.int .u8 (48 + (i : Int)), .int .u8 10]) ∧ Hid (Blk wx (s + 2) 41 #[.string ⟨#[102, bb]⟩, .int .i64 1, .slice (some ⟨s + 1, 0, none⟩) 2 2]) ∧ Hid (Blk wx (s + 3) 41 #[.string ⟨#[102, bb]⟩, .int .i64 1, .slice (some ⟨s + 1, 0, none⟩) 2 2]) ∧ Hid (wx.heap.size = s + 4) ∧ Hid (Below s wr wx))
        case first =>
         as_aux_lemma =>
          go_wp2_with fail
          go_meet
          exact ⟨rfl, Lib.hid (HD0.out.alloc _), Lib.hid (HX0.out.alloc _), Lib.hid (blk_new_at _ _ _ _ hs5), Lib.hid (size_at _ _ _ hs5), Lib.hid (HB0.out.trans ((below_at _ hs5).mono (by omega)))⟩
        case rest =>
         obtain ⟨rfl, HD1, HX1, HY1, HS1, HB1⟩ := hcut
         generalize wc = w6 at *
         clear l5 hs5 HD0 HX0 HS0 HB0
         have hs6 := HS1.out
         have y0 := (HY1.out.alloc (.cells #[.int .u8 (48 + (i : Int)), .int .u8 10, .int .u8 (65 + (i : Int)), .int .u8 10] 5)).cell 2
         have y1 := (HY1.out.alloc (.cells #[.int .u8 (48 + (i : Int)), .int .u8 10, .int .u8 (65 + (i : Int)), .int .u8 10] 5)).frozen 2
         simp only [List.getElem?_toArray, List.getElem?_cons_zero, List.getElem?_cons_succ] at y0
         go_upto_region 21 with fail
         go_cut [17] (fun s17 wx => s17 = .pointer (some ⟨s + 3, 0, none⟩) ∧ Hid (Blk wx (s + 1) 5 #[.int .u8 (48 + (i : Int)), .int .u8 10]) ∧ Hid (Blk wx (s + 2) 41 #[.string ⟨#[102, bb]⟩, .int .i64 1, .slice (some ⟨s + 1, 0, none⟩) 2 2]) ∧ Hid (Blk wx (s + 3) 41 #[.string ⟨#[102, bb]⟩, .int .i64 1, .slice (some ⟨s + 4, 0, none⟩) 4 4]) ∧ Hid (Blk wx (s + 4) 5 #[.int .u8 (48 + (i : Int)), .int .u8 10, .int .u8 (65 + (i : Int)), .int .u8 10]) ∧ Hid (wx.heap.size = s + 5) ∧ Hid (Below s wr wx))
         case first =>
          as_aux_lemma =>
           go_wp2_with fail
           go_meet
           have q1 : s + 1 ≠ s + 3 := by omega
           have q2 : s + 2 ≠ s + 3 := by omega
           have hs7 : (w6.setCell ⟨s + 3, 2, none⟩ (.slice (some ⟨s + 4, 0, none⟩) 4 4)).heap.size = s + 4 := by simpa using hs6
           exact ⟨rfl, Lib.hid ((HD1.out.far (p := ⟨s + 3, 2, none⟩) q1 _).alloc _), Lib.hid ((HX1.out.far (p := ⟨s + 3, 2, none⟩) q2 _).alloc _), Lib.hid ((HY1.out.set_ 2 _).alloc _), Lib.hid (blk_new_at _ _ _ _ hs7), Lib.hid (size_at _ _ _ hs7), Lib.hid ((HB1.out.setCell (p := ⟨s + 3, 2, none⟩) (by show s ≤ s + 3; omega) _).trans ((below_at _ hs7).mono (by omega)))⟩
         case rest =>
          obtain ⟨rfl, HD2, HX2, HY2, HE2, HS2', HB2⟩ := hcut
          generalize wc = w7 at *
          clear y0 y1 hs6 HD1 HX1 HY1 HS1 HB1
          have HFL := Lib.hid (show (#[.string ⟨#[102, bb]⟩, .int .i64 1, .slice (some ⟨s + 1, 0, none⟩) 2 2] : Array Value).toList = ftL (ftF i (s + 1)) from by rw [← HBB.out]; rfl)
          have HCL := Lib.hid (show (#[.string ⟨#[102, bb]⟩, .int .i64 1, .slice (some ⟨s + 4, 0, none⟩) 4 4] : Array Value).toList = ftL (ftC i (s + 4)) from by rw [← HBB.out]; rfl)
          have hi20 : i ≤ 20 := by have := HN.out; omega
          have KF := Lib.hid (show DataK w7 q' (ftF i (s + 1)) from ⟨Nat.le_refl _, by show 2 ≤ maxLen; unfold maxLen; omega, .inr (own_of_blk (l := (apF i).d) HD2.out (by show [Value.int .u8 (48 + (i : Int)), .int .u8 10] = [byteV (UInt8.ofNat (48 + i)), byteV 10]; rw [byte_at (k := 48) (by omega)]; rfl) (by omega) (by show 2 ≤ maxLen; unfold maxLen; omega))⟩)
          have KC := Lib.hid (show DataK w7 q' (ftC i (s + 4)) from ⟨Nat.le_refl _, by show 4 ≤ maxLen; unfold maxLen; omega, .inr (own_of_blk (l := (apC i).d) HE2.out (by show [Value.int .u8 (48 + (i : Int)), .int .u8 10, .int .u8 (65 + (i : Int)), .int .u8 10] = [byteV (UInt8.ofNat (48 + i)), byteV 10, byteV (UInt8.ofNat (65 + i)), byteV 10]; rw [byte_at (k := 48) (by omega), byte_at (k := 65) (by omega)]; rfl) (by omega) (by show 4 ≤ maxLen; unfold maxLen; omega))⟩)
          have HR7 := Lib.hid (HR4.out.enter (hs ▸ HB2.out) (hs ▸ hqs) (g1 := s + 2) (g2 := s + 3) ⟨by omega, by rw [HS2'.out]; omega⟩ ⟨by omega, by rw [HS2'.out]; omega⟩)
          have HB7 := Lib.hid (show Below q' w4 w7 from HBW.out.trans (HB2.out.mono hqs))
          have hq7 : q' ≤ w7.heap.size := by rw [HS2'.out]; omega
          have l7 : (LdF (.pointer (some ⟨s + 2, 0, none⟩))).run Tryz.prog w7 = .ok (.agg #[.string ⟨#[102, bb]⟩, .int .i64 1, .slice (some ⟨s + 1, 0, none⟩) 2 2]) w7 := file_load3 HX2.out
          have hlB := apB_len i
          clear HD2 HE2 HB2 HR4 HBW
          go_upto_region 22 with fail
          go_cut [11] (fun s11 wx => ∃ A9 c9, s11 = .slice A9 (apB (i + 1)).length c9 ∧ Hid (R4 wx q' [s + 2, s + 3] (A9, c9, apB (i + 1)) (A2, c2, apL apO H2 i) (A3, c3, apL apT H2 i) (A4, c4, apL apW H2 i)) ∧ Hid (Blk wx (s + 2) 41 #[.string ⟨#[102, bb]⟩, .int .i64 1, .slice (some ⟨s + 1, 0, none⟩) 2 2]) ∧ Hid (Blk wx (s + 3) 41 #[.string ⟨#[102, bb]⟩, .int .i64 1, .slice (some ⟨s + 4, 0, none⟩) 4 4]) ∧ Hid (DataK wx q' (ftF i (s + 1)) ∧ DataK wx q' (ftC i (s + 4))) ∧ Hid (Below q' w4 wx) ∧ Hid (s + 5 ≤ wx.heap.size))
          case first =>
           as_aux_lemma =>
            obtain ⟨ds, h1, h2, h3⟩ := HR7.out.ra
            have HO := Lib.hid h2
            have HP := Lib.hid (And.intro h1 h3)
            clear h1 h2 h3
            go_wp2_with (first
             | (refine wpList_buildSlice1 rfl elemFile rfl zero_file rfl rfl (by omega) rfl ?_)
             | (at_builtin; refine wpList_append_slf rfl elemFile rfl rfl (n := (apB i).length) (xs := ds.flatMap ftL) (Own.alloc HO.out _) (m := 1) (by omega) rfl (Reads.of_blk (n := 1) (xs := ftL (ftF i (s + 1))) (heap_alloc_new _ _) HFL.out rfl) (ftL_one _) (by unfold maxLen; omega) (by omega) (by simp; omega) ?_; intro A9 c9 w9 o9 k9 n9; have HO9 := Lib.hid o9; have HK9 := Lib.hid k9; have HN9 := Lib.hid n9; clear o9 k9 n9))
            go_meet
            obtain ⟨p1, p2, p3⟩ := R4.push HR7.out hq7 KF.out HP.out.1 HP.out.2 HO9.out HK9.out HN9.out
            exact ⟨A9, c9, by rw [apB_len], Lib.hid (by rw [apB_succ]; exact p1), Lib.hid ((p3 (s + 2) (by simp)).trans HX2.out), Lib.hid ((p3 (s + 3) (by simp)).trans HY2.out), Lib.hid ⟨KF.out.frm p2 hq7 (by intro g hg; cases hg) (by decide) (by intro g hg; cases hg), KC.out.frm p2 hq7 (by intro g hg; cases hg) (by decide) (by intro g hg; cases hg)⟩, Lib.hid (HB7.out.trans (p2.below (Nat.le_refl _) hq7 (by simp))), Lib.hid (by have := p2.size; have := HS2'.out; omega)⟩
          case rest =>
           obtain ⟨A9, c9, rfl, HR9, HX9, HY9, HK9, HB9, HS9⟩ := hcut
           generalize wc = w9 at *
           clear l7 hq7 HX2 HY2 HS2' KF KC HR7 HB7 hlB
           obtain ⟨t, ht⟩ : ∃ t, w9.heap.size = t := ⟨_, rfl⟩
           have hst : s + 5 ≤ t := ht ▸ HS9.out
           have hq9 : q' ≤ w9.heap.size := by omega
           have l1 : (LdF (.pointer (some ⟨s + 2, 0, none⟩))).run Tryz.prog w9.drew = .ok (.agg #[.string ⟨#[102, bb]⟩, .int .i64 1, .slice (some ⟨s + 1, 0, none⟩) 2 2]) w9.drew := file_load3 HX9.out.drew
           have l2 : ∀ o, (LdF (.pointer (some ⟨s + 2, 0, none⟩))).run Tryz.prog (w9.alloc o).drew = .ok (.agg #[.string ⟨#[102, bb]⟩, .int .i64 1, .slice (some ⟨s + 1, 0, none⟩) 2 2]) (w9.alloc o).drew := fun o => file_load3 (HX9.out.alloc o).drew
           have l3 : ∀ o o', (LdF (.pointer (some ⟨s + 2, 0, none⟩))).run Tryz.prog ((w9.alloc o).alloc o').drew = .ok (.agg #[.string ⟨#[102, bb]⟩, .int .i64 1, .slice (some ⟨s + 1, 0, none⟩) 2 2]) ((w9.alloc o).alloc o').drew := fun o o' => file_load3 ((HX9.out.alloc o).alloc o').drew
           have hrw : R4 ((w9.alloc (.cells #[.string ⟨#[102, bb]⟩, .int .i64 1, .slice (some ⟨s + 1, 0, none⟩) 2 2] 41)).alloc (.cells #[.string ⟨#[102, bb]⟩, .int .i64 1, .slice (some ⟨s + 1, 0, none⟩) 2 2] 41)) q' [t + 1, t, s + 2, s + 3] (A9, c9, apB (i + 1)) (A2, c2, apL apO H2 i) (A3, c3, apL apT H2 i) (A4, c4, apL apW H2 i) := by
            have h1 := HR9.out.watchNew hq9 (.cells #[.string ⟨#[102, bb]⟩, .int .i64 1, .slice (some ⟨s + 1, 0, none⟩) 2 2] 41)
            have h2 := h1.watchNew (by simp; omega) (.cells #[.string ⟨#[102, bb]⟩, .int .i64 1, .slice (some ⟨s + 1, 0, none⟩) 2 2] 41)
            rw [size_at w9 _ _ ht, ht] at h2
            exact h2
           have hdk : ∀ y, DataK w9 q' y → DataK ((w9.alloc (.cells #[.string ⟨#[102, bb]⟩, .int .i64 1, .slice (some ⟨s + 1, 0, none⟩) 2 2] 41)).alloc (.cells #[.string ⟨#[102, bb]⟩, .int .i64 1, .slice (some ⟨s + 1, 0, none⟩) 2 2] 41)).drew q' y := fun y hy => hy.keepB ((((Below.refl _ w9).alloc (Nat.le_refl _) _).alloc (by simp) _).drew) hq9
           have HRW := Lib.hid hrw
           have HDK := Lib.hid hdk
           clear hrw hdk
           go_upto_region 23 with fail
           go_cut [18, 19] (fun s18 s19 wx => ∃ g1 g2, s18 = .pointer (some ⟨g1, 0, none⟩) ∧ s19 = .pointer (some ⟨g2, 0, none⟩) ∧ Hid (g1 ≠ g2 ∧ s + 5 ≤ g1 ∧ s + 5 ≤ g2) ∧ Hid (Blk wx g1 41 #[.string ⟨#[102, bb]⟩, .int .i64 1, .slice (some ⟨s + 1, 0, none⟩) 2 2]) ∧ Hid (Blk wx g2 41 #[.string ⟨#[102, bb]⟩, .int .i64 1, .slice (some ⟨s + 1, 0, none⟩) 2 2]) ∧ Hid (Blk wx (s + 2) 41 #[.string ⟨#[102, bb]⟩, .int .i64 1, .slice (some ⟨s + 1, 0, none⟩) 2 2]) ∧ Hid (Blk wx (s + 3) 41 #[.string ⟨#[102, bb]⟩, .int .i64 1, .slice (some ⟨s + 4, 0, none⟩) 4 4]) ∧ Hid (R4 wx q' [g1, g2, s + 2, s + 3] (A9, c9, apB (i + 1)) (A2, c2, apL apO H2 i) (A3, c3, apL apT H2 i) (A4, c4, apL apW H2 i)) ∧ Hid (DataK wx q' (ftF i (s + 1)) ∧ DataK wx q' (ftC i (s + 4))) ∧ Hid (Below q' w4 wx) ∧ Hid (q' ≤ wx.heap.size))
           case first =>
            as_aux_lemma =>
             have y1 : Blk ((w9.alloc (.cells #[.string ⟨#[102, bb]⟩, .int .i64 1, .slice (some ⟨s + 1, 0, none⟩) 2 2] 41)).alloc (.cells #[.string ⟨#[102, bb]⟩, .int .i64 1, .slice (some ⟨s + 1, 0, none⟩) 2 2] 41)).drew t 41 #[.string ⟨#[102, bb]⟩, .int .i64 1, .slice (some ⟨s + 1, 0, none⟩) 2 2] := (blk_new_at _ _ _ _ ht).alloc _
             have y2 : Blk ((w9.alloc (.cells #[.string ⟨#[102, bb]⟩, .int .i64 1, .slice (some ⟨s + 1, 0, none⟩) 2 2] 41)).alloc (.cells #[.string ⟨#[102, bb]⟩, .int .i64 1, .slice (some ⟨s + 1, 0, none⟩) 2 2] 41)).drew (t + 1) 41 #[.string ⟨#[102, bb]⟩, .int .i64 1, .slice (some ⟨s + 1, 0, none⟩) 2 2] := blk_new_at _ _ _ _ (size_at _ _ _ ht)
             have y3 : Below q' w4 ((w9.alloc (.cells #[.string ⟨#[102, bb]⟩, .int .i64 1, .slice (some ⟨s + 1, 0, none⟩) 2 2] 41)).alloc (.cells #[.string ⟨#[102, bb]⟩, .int .i64 1, .slice (some ⟨s + 1, 0, none⟩) 2 2] 41)).drew := ((HB9.out.alloc hq9 _).alloc (by simp; omega) _).drew
             have y4 : q' ≤ ((w9.alloc (.cells #[.string ⟨#[102, bb]⟩, .int .i64 1, .slice (some ⟨s + 1, 0, none⟩) 2 2] 41)).alloc (.cells #[.string ⟨#[102, bb]⟩, .int .i64 1, .slice (some ⟨s + 1, 0, none⟩) 2 2] 41)).drew.heap.size := by show q' ≤ ((w9.alloc (.cells #[.string ⟨#[102, bb]⟩, .int .i64 1, .slice (some ⟨s + 1, 0, none⟩) 2 2] 41)).alloc (.cells #[.string ⟨#[102, bb]⟩, .int .i64 1, .slice (some ⟨s + 1, 0, none⟩) 2 2] 41)).heap.size; simp; omega
             have HYY := Lib.hid (And.intro y1 (And.intro y2 (And.intro y3 y4)))
             have HXX := Lib.hid (And.intro ((HX9.out.alloc (.cells #[.string ⟨#[102, bb]⟩, .int .i64 1, .slice (some ⟨s + 1, 0, none⟩) 2 2] 41)).alloc (.cells #[.string ⟨#[102, bb]⟩, .int .i64 1, .slice (some ⟨s + 1, 0, none⟩) 2 2] 41)).drew ((HY9.out.alloc (.cells #[.string ⟨#[102, bb]⟩, .int .i64 1, .slice (some ⟨s + 1, 0, none⟩) 2 2] 41)).alloc (.cells #[.string ⟨#[102, bb]⟩, .int .i64 1, .slice (some ⟨s + 1, 0, none⟩) 2 2] 41)).drew)
             clear y1 y2 y3 y4
             go_region
             all_goals
              go_wp2_with fail
              go_meet
              first
               | exact ⟨t, t + 1, rfl, rfl, Lib.hid ⟨by omega, by omega, by omega⟩, Lib.hid HYY.out.1, Lib.hid HYY.out.2.1, Lib.hid HXX.out.1, Lib.hid HXX.out.2, Lib.hid ((HRW.out.drew (by simp; omega)).forget (by intro g hg; simp at hg ⊢; omega)), Lib.hid ⟨HDK.out _ HK9.out.1, HDK.out _ HK9.out.2⟩, Lib.hid HYY.out.2.2.1, Lib.hid HYY.out.2.2.2⟩
               | exact ⟨t + 1, t, rfl, rfl, Lib.hid ⟨by omega, by omega, by omega⟩, Lib.hid HYY.out.2.1, Lib.hid HYY.out.1, Lib.hid HXX.out.1, Lib.hid HXX.out.2, Lib.hid ((HRW.out.drew (by simp; omega)).forget (by intro g hg; simp at hg ⊢; omega)), Lib.hid ⟨HDK.out _ HK9.out.1, HDK.out _ HK9.out.2⟩, Lib.hid HYY.out.2.2.1, Lib.hid HYY.out.2.2.2⟩
           case rest =>
            obtain ⟨g1, g2, rfl, rfl, HGG, HG1, HG2, HX10, HY10, HR10, HK10, HB10, HS10⟩ := hcut
            generalize wc = w10 at *
            clear l1 l2 l3 HRW HDK hq9 ht hst HX9 HY9 HR9 HK9 HB9 HS9
            obtain ⟨h, hh⟩ : ∃ h, H2[i]? = some h := ⟨_, List.getElem?_eq_getElem (by rw [HL2.out]; exact hi)⟩
            have HHE := Lib.hid (show H2.getD i 0 = h from by rw [List.getD_eq_getElem?_getD, hh]; rfl)
            have c0 : w10.cell? ⟨q, i, none⟩ = some (.int .i64 (h : Nat)) := ((HH2.out.below HB10.out (by omega)).cell i).trans (howC_at hh)
            have HHW := Lib.hid (fun W (k : Below q' w4 W) => show W.cell? ⟨q, i, none⟩ = some (.int .i64 (h : Nat)) from ((HH2.out.below k (by omega)).cell i).trans (howC_at hh))
            clear hh
            have hqs2 : q' ≤ s + 3 := by omega
            have hgg := HGG.out
            have e0 := HG1.out.cell 0
            have e1 := HG1.out.cell 1
            have e2 := HG1.out.cell 2
            have f0 := HG2.out.cell 0
            have f1 := HG2.out.cell 1
            have f2 := HG2.out.cell 2
            have e3 := fun j => HG1.out.frozen j
            have f3 := fun j => HG2.out.frozen j
            simp only [List.getElem?_toArray, List.getElem?_cons_zero, List.getElem?_cons_succ] at e0 e1 e2 f0 f1 f2
            have l17 : (LdF (.pointer (some ⟨s + 3, 0, none⟩))).run Tryz.prog w10 = .ok (.agg #[.string ⟨#[102, bb]⟩, .int .i64 1, .slice (some ⟨s + 4, 0, none⟩) 4 4]) w10 := file_load3 HY10.out
            have BP1 := Lib.hid (box_put HR10.out HS10.out (g := g1) (by simp) (by omega) HG1.out (.string ⟨#[102, bb]⟩) (.int .i64 1) (.slice (some ⟨s + 4, 0, none⟩) 4 4))
            have BP2 := Lib.hid (box_put HR10.out HS10.out (g := g2) (by simp) (by omega) HG2.out (.string ⟨#[102, bb]⟩) (.int .i64 1) (.slice (some ⟨s + 4, 0, none⟩) 4 4))
            have DKK := Lib.hid (fun W (k : Kept q' [41] [] w10 W) y (hy : DataK w10 q' y) => show DataK W q' y from hy.frm k HS10.out (by intro g hg; cases hg) (by decide) (by intro g hg; cases hg))
            go_upto_block 6 with fail
            go_cut [18] (fun s18 wx => s18 = .pointer (some ⟨g1, 0, none⟩) ∧ Hid (Blk wx g1 41 (if h = 1 then #[.string ⟨#[102, bb]⟩, .int .i64 1, .slice (some ⟨s + 4, 0, none⟩) 4 4] else #[.string ⟨#[102, bb]⟩, .int .i64 1, .slice (some ⟨s + 1, 0, none⟩) 2 2])) ∧ Hid (Blk wx g2 41 (if h = 3 then #[.string ⟨#[102, bb]⟩, .int .i64 1, .slice (some ⟨s + 4, 0, none⟩) 4 4] else #[.string ⟨#[102, bb]⟩, .int .i64 1, .slice (some ⟨s + 1, 0, none⟩) 2 2])) ∧ Hid (Blk wx (s + 2) 41 #[.string ⟨#[102, bb]⟩, .int .i64 1, .slice (some ⟨s + 1, 0, none⟩) 2 2]) ∧ Hid (Blk wx (s + 3) 41 #[.string ⟨#[102, bb]⟩, .int .i64 1, .slice (some ⟨s + 4, 0, none⟩) 4 4]) ∧ Hid (R4 wx q' [g1, g2, s + 2, s + 3] (A9, c9, apB (i + 1)) (A2, c2, apL apO H2 i) (A3, c3, apL apT H2 i) (A4, c4, apL apW H2 i)) ∧ Hid (DataK wx q' (ftF i (s + 1)) ∧ DataK wx q' (ftC i (s + 4))) ∧ Hid (Below q' w4 wx) ∧ Hid (q' ≤ wx.heap.size))
            case first =>
             as_aux_lemma =>
              by_cases h1 : h = 1
              · subst h1
                go_wp2_with fail
                go_meet
                exact ⟨rfl, Lib.hid (by (first | rw [if_pos trivial] | rw [if_pos rfl]); exact BP1.out.2.1), Lib.hid (by rw [if_neg (by first | decide | omega | simp)]; exact (BP1.out.2.2.2 g2 (by omega)).trans HG2.out), Lib.hid ((BP1.out.2.2.2 (s + 2) (by omega)).trans HX10.out), Lib.hid ((BP1.out.2.2.2 (s + 3) (by omega)).trans HY10.out), Lib.hid BP1.out.1, Lib.hid ⟨DKK.out _ BP1.out.2.2.1 _ HK10.out.1, DKK.out _ BP1.out.2.2.1 _ HK10.out.2⟩, Lib.hid (HB10.out.trans (BP1.out.2.2.1.below (Nat.le_refl _) HS10.out (by simp))), Lib.hid (Nat.le_trans HS10.out BP1.out.2.2.1.size)⟩
              · have k1 : ((h : Int) == 1) = false := beq_eq_false_iff_ne.2 (by omega)
                have k2 : ¬ (h : Int) = 1 := by omega
                by_cases h3 : h = 3
                · subst h3
                  go_wp2_with fail
                  go_meet
                  exact ⟨rfl, Lib.hid (by rw [if_neg (by first | decide | omega | simp)]; exact (BP2.out.2.2.2 g1 (by omega)).trans HG1.out), Lib.hid (by (first | rw [if_pos trivial] | rw [if_pos rfl]); exact BP2.out.2.1), Lib.hid ((BP2.out.2.2.2 (s + 2) (by omega)).trans HX10.out), Lib.hid ((BP2.out.2.2.2 (s + 3) (by omega)).trans HY10.out), Lib.hid BP2.out.1, Lib.hid ⟨DKK.out _ BP2.out.2.2.1 _ HK10.out.1, DKK.out _ BP2.out.2.2.1 _ HK10.out.2⟩, Lib.hid (HB10.out.trans (BP2.out.2.2.1.below (Nat.le_refl _) HS10.out (by simp))), Lib.hid (Nat.le_trans HS10.out BP2.out.2.2.1.size)⟩
                · have k3 : ((h : Int) == 3) = false := beq_eq_false_iff_ne.2 (by omega)
                  have k4 : ¬ (h : Int) = 3 := by omega
                  go_wp2_with fail
                  go_meet
                  exact ⟨rfl, Lib.hid (by rw [if_neg h1]; exact HG1.out), Lib.hid (by rw [if_neg h3]; exact HG2.out), HX10, HY10, HR10, HK10, HB10, HS10⟩
            case rest =>
             obtain ⟨rfl, XG1, XG2, HX11, HY11, HR11, HK11, HB11, HS11⟩ := hcut
             generalize wc = w11 at *
             clear e0 e1 e2 f0 f1 f2 e3 f3 l17 BP1 BP2 DKK HG1 HG2 HX10 HY10 HR10 HK10 HB10 HS10 c0
             have hcA : (#[.string ⟨#[102, bb]⟩, .int .i64 1, .slice (some ⟨s + 1, 0, none⟩) 2 2] : Array Value) = fileC (ftF i (s + 1)).1 (ftF i (s + 1)).2.1 (ftF i (s + 1)).2.2 := by rw [← HBB.out]; rfl
             have hcC : (#[.string ⟨#[102, bb]⟩, .int .i64 1, .slice (some ⟨s + 4, 0, none⟩) 4 4] : Array Value) = fileC (ftC i (s + 4)).1 (ftC i (s + 4)).2.1 (ftC i (s + 4)).2.2 := by rw [← HBB.out]; rfl
             obtain ⟨X1, hX1, hK1, hB1⟩ : ∃ X1 : FT, X1.1 = (if h = 1 then apC i else apF i) ∧ (∀ W, DataK W q' (ftF i (s + 1)) ∧ DataK W q' (ftC i (s + 4)) → DataK W q' X1) ∧ Blk w11 g1 41 (fileC X1.1 X1.2.1 X1.2.2) := by
              by_cases k : h = 1
              · exact ⟨ftC i (s + 4), by rw [if_pos k]; rfl, fun _ q => q.2, by have := XG1.out; rw [if_pos k, hcC] at this; exact this⟩
              · exact ⟨ftF i (s + 1), by rw [if_neg k]; rfl, fun _ q => q.1, by have := XG1.out; rw [if_neg k, hcA] at this; exact this⟩
             obtain ⟨X2, hX2, hK2, hB2⟩ : ∃ X2 : FT, X2.1 = (if h = 3 then apC i else apF i) ∧ (∀ W, DataK W q' (ftF i (s + 1)) ∧ DataK W q' (ftC i (s + 4)) → DataK W q' X2) ∧ Blk w11 g2 41 (fileC X2.1 X2.2.1 X2.2.2) := by
              by_cases k : h = 3
              · exact ⟨ftC i (s + 4), by rw [if_pos k]; rfl, fun _ q => q.2, by have := XG2.out; rw [if_pos k, hcC] at this; exact this⟩
              · exact ⟨ftF i (s + 1), by rw [if_neg k]; rfl, fun _ q => q.1, by have := XG2.out; rw [if_neg k, hcA] at this; exact this⟩
             have PX1 := Lib.hid (And.intro hX1 hK1)
             have PX2 := Lib.hid (And.intro hX2 hK2)
             have BG2 := Lib.hid hB2
             have DD := Lib.hid (fun W W' (k : Kept q' [41] [] W W') (hz : q' ≤ W.heap.size) y (hy : DataK W q' y) => show DataK W' q' y from hy.frm k hz (by intro g hg; cases hg) (by decide) (by intro g hg; cases hg))
             have ll1 : (LdF (.pointer (some ⟨g1, 0, none⟩))).run Tryz.prog w11 = .ok (.agg (fileC X1.1 X1.2.1 X1.2.2)) w11 := file_load hB1
             have c1' : w11.cell? ⟨q, i, none⟩ = some (.int .i64 (h : Nat)) := HHW.out w11 HB11.out
             clear XG1 XG2 hcA hcC hX1 hK1 hB1 hX2 hK2 hB2
             have hS11 := HS11.out
             have lO := apL_len apO H2 i
             go_upto_if 133 with fail
             go_cut [12] (fun s12 wx => ∃ A2' c2', s12 = .slice A2' (apL apO H2 (i + 1)).length c2' ∧ Hid (R4 wx q' [g1, g2, s + 2, s + 3] (A9, c9, apB (i + 1)) (A2', c2', apL apO H2 (i + 1)) (A3, c3, apL apT H2 i) (A4, c4, apL apW H2 i)) ∧ Hid (Blk wx g2 41 (fileC X2.1 X2.2.1 X2.2.2)) ∧ Hid (Blk wx (s + 2) 41 #[.string ⟨#[102, bb]⟩, .int .i64 1, .slice (some ⟨s + 1, 0, none⟩) 2 2]) ∧ Hid (Blk wx (s + 3) 41 #[.string ⟨#[102, bb]⟩, .int .i64 1, .slice (some ⟨s + 4, 0, none⟩) 4 4]) ∧ Hid (DataK wx q' (ftF i (s + 1)) ∧ DataK wx q' (ftC i (s + 4))) ∧ Hid (Below q' w4 wx) ∧ Hid (q' ≤ wx.heap.size))
             case first =>
              as_aux_lemma =>
               by_cases h2 : h = 2
               · subst h2
                 have eO : apL apO H2 (i + 1) = apL apO H2 i := by rw [apL_succ, HHE.out]; simp [apO]
                 have HEO := Lib.hid eO
                 clear eO
                 go_wp2_with fail
                 go_meet
                 exact ⟨A2, c2, by rw [HEO.out], Lib.hid (by rw [HEO.out]; exact HR11.out), BG2, HX11, HY11, HK11, HB11, HS11⟩
               · have k1 : ((h : Int) == 2) = false := beq_eq_false_iff_ne.2 (by omega)
                 have k2 : ¬ (h : Int) = 2 := by omega
                 have eO : apL apO H2 (i + 1) = apL apO H2 i ++ [X1.1] := by rw [apL_succ, HHE.out, PX1.out.1]; simp [apO, h2]
                 have HEO := Lib.hid eO
                 obtain ⟨ds, d1, d2, d3⟩ := HR11.out.rb
                 have HO := Lib.hid d2
                 have HP := Lib.hid (And.intro d1 d3)
                 clear d1 d2 d3 eO h2
                 go_wp2_with (first
                  | (refine wpList_buildSlice1 rfl elemFile rfl zero_file rfl rfl (by omega) rfl ?_)
                  | (at_builtin; refine wpList_append_slf rfl elemFile rfl rfl (n := (apL apO H2 i).length) (xs := ds.flatMap ftL) (Own.alloc HO.out _) (m := 1) (by omega) rfl (Reads.of_blk (n := 1) (xs := ftL X1) (heap_alloc_new _ _) rfl rfl) (ftL_one _) (by unfold maxLen; omega) (by omega) (by simp; omega) ?_; intro A2' c2' w12 o9 k9 n9; have HO9 := Lib.hid o9; have HK9 := Lib.hid k9; have HN9 := Lib.hid n9; clear o9 k9 n9))
                 go_meet
                 obtain ⟨p1, p2, p3⟩ := R4.push HR11.out.rot hS11 (PX1.out.2 _ HK11.out) HP.out.1 HP.out.2 HO9.out HK9.out HN9.out
                 exact ⟨A2', c2', by rw [HEO.out, List.length_append]; rfl, Lib.hid (by rw [HEO.out]; exact p1.rot.rot.rot), Lib.hid ((p3 g2 (by simp)).trans BG2.out), Lib.hid ((p3 (s + 2) (by simp)).trans HX11.out), Lib.hid ((p3 (s + 3) (by simp)).trans HY11.out), Lib.hid ⟨DD.out _ _ p2 hS11 _ HK11.out.1, DD.out _ _ p2 hS11 _ HK11.out.2⟩, Lib.hid (HB11.out.trans (p2.below (Nat.le_refl _) hS11 (by simp))), Lib.hid (Nat.le_trans hS11 p2.size)⟩
             case rest =>
              obtain ⟨B2, b2, rfl, HR12, BG12, HX12, HY12, HK12, HB12, HS12⟩ := hcut
              generalize wc = w12 at *
              clear ll1 c1' hS11 lO HR11 BG2 HX11 HY11 HK11 HB11 HS11 PX1
              have hS12 := HS12.out
              have lT := apL_len apT H2 i
              have ll2 : (LdF (.pointer (some ⟨g2, 0, none⟩))).run Tryz.prog w12 = .ok (.agg (fileC X2.1 X2.2.1 X2.2.2)) w12 := file_load BG12.out
              have c2' : w12.cell? ⟨q, i, none⟩ = some (.int .i64 (h : Nat)) := HHW.out w12 HB12.out
              go_upto_if 142 with fail
              go_cut [13] (fun s13 wx => ∃ A3' c3', s13 = .slice A3' (apL apT H2 (i + 1)).length c3' ∧ Hid (R4 wx q' [g1, g2, s + 2, s + 3] (A9, c9, apB (i + 1)) (B2, b2, apL apO H2 (i + 1)) (A3', c3', apL apT H2 (i + 1)) (A4, c4, apL apW H2 i)) ∧ Hid (Blk wx (s + 2) 41 #[.string ⟨#[102, bb]⟩, .int .i64 1, .slice (some ⟨s + 1, 0, none⟩) 2 2]) ∧ Hid (Blk wx (s + 3) 41 #[.string ⟨#[102, bb]⟩, .int .i64 1, .slice (some ⟨s + 4, 0, none⟩) 4 4]) ∧ Hid (DataK wx q' (ftF i (s + 1)) ∧ DataK wx q' (ftC i (s + 4))) ∧ Hid (Below q' w4 wx) ∧ Hid (q' ≤ wx.heap.size))
              case first =>
               as_aux_lemma =>
                by_cases h2 : h = 4
                · subst h2
                  have eO : apL apT H2 (i + 1) = apL apT H2 i := by rw [apL_succ, HHE.out]; simp [apT]
                  have HEO := Lib.hid eO
                  clear eO
                  go_wp2_with fail
                  go_meet
                  exact ⟨A3, c3, by rw [HEO.out], Lib.hid (by rw [HEO.out]; exact HR12.out), HX12, HY12, HK12, HB12, HS12⟩
                · have k1 : ((h : Int) == 4) = false := beq_eq_false_iff_ne.2 (by omega)
                  have k2 : ¬ (h : Int) = 4 := by omega
                  have eO : apL apT H2 (i + 1) = apL apT H2 i ++ [X2.1] := by rw [apL_succ, HHE.out, PX2.out.1]; simp [apT, h2]
                  have HEO := Lib.hid eO
                  obtain ⟨ds, d1, d2, d3⟩ := HR12.out.rc
                  have HO := Lib.hid d2
                  have HP := Lib.hid (And.intro d1 d3)
                  clear d1 d2 d3 eO h2
                  go_wp2_with (first
                   | (refine wpList_buildSlice1 rfl elemFile rfl zero_file rfl rfl (by omega) rfl ?_)
                   | (at_builtin; refine wpList_append_slf rfl elemFile rfl rfl (n := (apL apT H2 i).length) (xs := ds.flatMap ftL) (Own.alloc HO.out _) (m := 1) (by omega) rfl (Reads.of_blk (n := 1) (xs := ftL X2) (heap_alloc_new _ _) rfl rfl) (ftL_one _) (by unfold maxLen; omega) (by omega) (by simp; omega) ?_; intro A3' c3' w13 o9 k9 n9; have HO9 := Lib.hid o9; have HK9 := Lib.hid k9; have HN9 := Lib.hid n9; clear o9 k9 n9))
                  go_meet
                  obtain ⟨p1, p2, p3⟩ := R4.push HR12.out.rot.rot hS12 (PX2.out.2 _ HK12.out) HP.out.1 HP.out.2 HO9.out HK9.out HN9.out
                  exact ⟨A3', c3', by rw [HEO.out, List.length_append]; rfl, Lib.hid (by rw [HEO.out]; exact p1.rot.rot), Lib.hid ((p3 (s + 2) (by simp)).trans HX12.out), Lib.hid ((p3 (s + 3) (by simp)).trans HY12.out), Lib.hid ⟨DD.out _ _ p2 hS12 _ HK12.out.1, DD.out _ _ p2 hS12 _ HK12.out.2⟩, Lib.hid (HB12.out.trans (p2.below (Nat.le_refl _) hS12 (by simp))), Lib.hid (Nat.le_trans hS12 p2.size)⟩
              case rest =>
               obtain ⟨B3, b3, rfl, HR13, HX13, HY13, HK13, HB13, HS13⟩ := hcut
               generalize wc = w13 at *
               clear ll2 c2' hS12 lT HR12 BG12 HX12 HY12 HK12 HB12 HS12 PX2
               have c3' : w13.cell? ⟨q, i, none⟩ = some (.int .i64 (h : Nat)) := HHW.out w13 HB13.out
               go_upto_region 33 with fail
               go_cut [158] (fun s158 wx => s158 = .bool (decide (h = 1 ∨ h = 3)) ∧ w13 = wx)
               case first =>
                as_aux_lemma =>
                 by_cases h1 : h = 1
                 · subst h1
                   go_wp2_with fail
                   go_meet
                   exact ⟨by simp, rfl⟩
                 · have k1 : ((h : Int) == 1) = false := beq_eq_false_iff_ne.2 (by omega)
                   have k2 : ¬ (h : Int) = 1 := by omega
                   by_cases h3 : h = 3
                   · subst h3
                     go_wp2_with fail
                     go_meet
                     exact ⟨by simp, rfl⟩
                   · have k3 : ((h : Int) == 3) = false := beq_eq_false_iff_ne.2 (by omega)
                     have k4 : ¬ (h : Int) = 3 := by omega
                     go_wp2_with fail
                     go_meet
                     exact ⟨by simp [h1, h3], rfl⟩
               case rest =>
                obtain ⟨rfl, rfl⟩ := hcut
                clear c3'
                have e0 := HX13.out.cell 0
                have e1 := HX13.out.cell 1
                have e2 := HX13.out.cell 2
                have e3 := fun j => HX13.out.frozen j
                simp only [List.getElem?_toArray, List.getElem?_cons_zero, List.getElem?_cons_succ] at e0 e1 e2
                have l17 : (LdF (.pointer (some ⟨s + 3, 0, none⟩))).run Tryz.prog w13 = .ok (.agg #[.string ⟨#[102, bb]⟩, .int .i64 1, .slice (some ⟨s + 4, 0, none⟩) 4 4]) w13 := file_load3 HY13.out
                have BP3 := Lib.hid (box_put HR13.out HS13.out (g := s + 2) (by simp) (by omega) HX13.out (.string ⟨#[102, bb]⟩) (.int .i64 1) (.slice (some ⟨s + 4, 0, none⟩) 4 4))
                have hcA := Lib.hid (show (#[.string ⟨#[102, bb]⟩, .int .i64 1, .slice (some ⟨s + 1, 0, none⟩) 2 2] : Array Value) = fileC (ftF i (s + 1)).1 (ftF i (s + 1)).2.1 (ftF i (s + 1)).2.2 from by rw [← HBB.out]; rfl)
                have hcC := Lib.hid (show (#[.string ⟨#[102, bb]⟩, .int .i64 1, .slice (some ⟨s + 4, 0, none⟩) 4 4] : Array Value) = fileC (ftC i (s + 4)).1 (ftC i (s + 4)).2.1 (ftC i (s + 4)).2.2 from by rw [← HBB.out]; rfl)
                go_upto_if 158 with fail
                go_cut [16] (fun s16 wx => s16 = .pointer (some ⟨s + 2, 0, none⟩) ∧ Hid (∃ X3 : FT, X3.1 = (if h = 1 ∨ h = 3 then apC i else apF i) ∧ DataK wx q' X3 ∧ Blk wx (s + 2) 41 (fileC X3.1 X3.2.1 X3.2.2)) ∧ Hid (R4 wx q' [s + 2] (A9, c9, apB (i + 1)) (B2, b2, apL apO H2 (i + 1)) (B3, b3, apL apT H2 (i + 1)) (A4, c4, apL apW H2 i)) ∧ Hid (Below q' w4 wx) ∧ Hid (q' ≤ wx.heap.size))
                case first =>
                 as_aux_lemma =>
                  by_cases hc : h = 1 ∨ h = 3
                  · have dc : decide (h = 1 ∨ h = 3) = true := decide_eq_true hc
                    have HHC := Lib.hid hc
                    clear hc
                    rw [dc]
                    go_wp2_with fail
                    go_meet
                    exact ⟨rfl, Lib.hid ⟨ftC i (s + 4), by rw [if_pos HHC.out]; rfl, DD.out _ _ BP3.out.2.2.1 HS13.out _ HK13.out.2, by rw [← hcC.out]; exact BP3.out.2.1⟩, Lib.hid (BP3.out.1.forget (by intro g hg; simp at hg ⊢; omega)), Lib.hid (HB13.out.trans (BP3.out.2.2.1.below (Nat.le_refl _) HS13.out (by simp))), Lib.hid (Nat.le_trans HS13.out BP3.out.2.2.1.size)⟩
                  · have dc : decide (h = 1 ∨ h = 3) = false := decide_eq_false hc
                    have HHC := Lib.hid hc
                    clear hc
                    rw [dc]
                    go_wp2_with fail
                    go_meet
                    exact ⟨rfl, Lib.hid ⟨ftF i (s + 1), by rw [if_neg HHC.out]; rfl, HK13.out.1, by rw [← hcA.out]; exact HX13.out⟩, Lib.hid (HR13.out.forget (by intro g hg; simp at hg ⊢; omega)), HB13, HS13⟩
                case rest =>
                 obtain ⟨rfl, HX14, HR14, HB14, HS14⟩ := hcut
                 generalize wc = w14 at *
                 clear e0 e1 e2 e3 l17 BP3 hcA hcC HX13 HY13 HR13 HK13 HB13 HS13
                 have c4' : w14.cell? ⟨q, i, none⟩ = some (.int .i64 (h : Nat)) := HHW.out w14 HB14.out
                 go_upto_region 35 with fail
                 go_cut [171] (fun s171 wx => s171 = .bool (decide (h ≠ 2 ∧ h ≠ 4)) ∧ w14 = wx)
                 case first =>
                  as_aux_lemma =>
                   by_cases h1 : h = 2
                   · subst h1
                     go_wp2_with fail
                     go_meet
                     exact ⟨by simp, rfl⟩
                   · have k1 : ((h : Int) == 2) = false := beq_eq_false_iff_ne.2 (by omega)
                     have k2 : ¬ (h : Int) = 2 := by omega
                     by_cases h3 : h = 4
                     · subst h3
                       go_wp2_with fail
                       go_meet
                       exact ⟨by simp, rfl⟩
                     · have k3 : ((h : Int) == 4) = false := beq_eq_false_iff_ne.2 (by omega)
                       have k4 : ¬ (h : Int) = 4 := by omega
                       go_wp2_with fail
                       go_meet
                       exact ⟨by simp [h1, h3]; exact ⟨k2, k4⟩, rfl⟩
                 case rest =>
                  obtain ⟨rfl, rfl⟩ := hcut
                  obtain ⟨X3, hX3, hK3, hB3⟩ := HX14.out
                  have PX3 := Lib.hid (And.intro hX3 hK3)
                  have ll3 : (LdF (.pointer (some ⟨s + 2, 0, none⟩))).run Tryz.prog w14 = .ok (.agg (fileC X3.1 X3.2.1 X3.2.2)) w14 := file_load hB3
                  have hS14 := HS14.out
                  have lW := apL_len apW H2 i
                  clear hX3 hK3 hB3 HX14 c4'
                  by_cases hc : h ≠ 2 ∧ h ≠ 4
                  · have dc : decide (h ≠ 2 ∧ h ≠ 4) = true := decide_eq_true hc
                    have eO : apL apW H2 (i + 1) = apL apW H2 i ++ [X3.1] := by rw [apL_succ, HHE.out, PX3.out.1]; simp [apW, hc.1, hc.2]
                    have HEO := Lib.hid eO
                    obtain ⟨ds, d1, d2, d3⟩ := HR14.out.rd
                    have HO := Lib.hid d2
                    have HP := Lib.hid (And.intro d1 d3)
                    clear d1 d2 d3 eO hc
                    rw [dc]
                    go_wp2_with (first
                     | (refine wpList_buildSlice1 rfl elemFile rfl zero_file rfl rfl (by omega) rfl ?_)
                     | (at_builtin; refine wpList_append_slf rfl elemFile rfl rfl (n := (apL apW H2 i).length) (xs := ds.flatMap ftL) (Own.alloc HO.out _) (m := 1) (by omega) rfl (Reads.of_blk (n := 1) (xs := ftL X3) (heap_alloc_new _ _) rfl rfl) (ftL_one _) (by unfold maxLen; omega) (by omega) (by simp; omega) ?_; intro A4' c4' w15 o9 k9 n9; have HO9 := Lib.hid o9; have HK9 := Lib.hid k9; have HN9 := Lib.hid n9; clear o9 k9 n9))
                    obtain ⟨p1, p2, p3⟩ := R4.push HR14.out.rot.rot.rot hS14 PX3.out.2 HP.out.1 HP.out.2 HO9.out HK9.out HN9.out
                    go_roundw
                    case rel => exact ⟨i + 1, A9, c9, B2, b2, B3, b3, A4', c4', rfl, rfl, rfl, by rw [HEO.out, List.length_append]; rfl, by go_num, hi, Lib.hid (by rw [HEO.out]; exact p1.rot.forget (by simp)), Lib.hid (HB14.out.trans (p2.below (Nat.le_refl _) hS14 (by simp)))⟩
                    case measure => simp [intOf]; omega
                  · have dc : decide (h ≠ 2 ∧ h ≠ 4) = false := decide_eq_false hc
                    have eO : apL apW H2 (i + 1) = apL apW H2 i := by
                     rw [apL_succ, HHE.out]
                     have : h = 2 ∨ h = 4 := by omega
                     simp [apW, this]
                    have HEO := Lib.hid eO
                    clear eO hc
                    rw [dc]
                    go_wp2_with fail
                    go_roundw
                    case rel => exact ⟨i + 1, A9, c9, B2, b2, B3, b3, A4, c4, rfl, rfl, rfl, by rw [HEO.out], by go_num, hi, Lib.hid (by rw [HEO.out]; exact HR14.out.forget (by simp)), HB14⟩
                    case measure => simp [intOf]; omega
     · obtain rfl : i = N := by omega
       have hi' : ¬ (i : Int) < (i : Int) := by omega
       obtain ⟨f1, f2, f3, f4⟩ : FI wr wr.heap.size A1 (apB i) ∧ FI wr wr.heap.size A2 (apL apO H2 i) ∧ FI wr wr.heap.size A3 (apL apT H2 i) ∧ FI wr wr.heap.size A4 (apL apW H2 i) := by
        have hz' : q' ≤ wr.heap.size := by rw [← hq']; exact HBW.out.size
        exact ⟨FM.fi HR4.out.ra hz', FM.fi HR4.out.rb hz', FM.fi HR4.out.rc hz', FM.fi HR4.out.rd hz'⟩
       have hzr : Below z w wr := HB4.out.trans (HBW.out.mono (by have := HZQ.out; omega))
       have pp : ∀ (l : List FileD), (∀ f ∈ l, ∃ j, f.p = apP j) → ∀ f ∈ l, f.p.length ≤ 1000000 := fun l hl f hf => by
        obtain ⟨j, e⟩ := hl f hf
        rw [e]
        show 2 ≤ 1000000
        omega
       have pB : ∀ f ∈ apB i, ∃ j, f.p = apP j := fun f hf => by
        obtain ⟨j, _, rfl⟩ := List.mem_map.1 hf
        exact ⟨j, rfl⟩
       have pO : ∀ f ∈ apL apO H2 i, ∃ j, f.p = apP j := fun f hf => by
        obtain ⟨j, _, e⟩ := List.mem_filterMap.1 hf
        exact ⟨j, (apO_some e).1⟩
       have pT : ∀ f ∈ apL apT H2 i, ∃ j, f.p = apP j := fun f hf => by
        obtain ⟨j, _, e⟩ := List.mem_filterMap.1 hf
        exact ⟨j, (apT_some e).1⟩
       have HM := Lib.hid (merge_comes A1 A2 A3 c1 c2 c3 wr.heap.size wr (Nat.le_refl _) f1 f2 f3 (HV.out.below (hz.symm ▸ hzr) HV.out.pos) (pp _ pB) (pp _ pO) (pp _ pT) (ap_merge (H := H2) (n := i) (by omega)))
       have HW4 := Lib.hid f4
       have HZR := Lib.hid hzr
       have hz2 : z ≤ wr.heap.size := by rw [← hz]; exact hzr.size
       have lW := apL_len apW H2 i
       clear f1 f2 f3 f4 hzr pp pB pO pT HR4 HBW
       go_upto_region 37 with fail
       go_cut [20, 21, 22] (fun s20 s21 s22 wx => ∃ R rc V vc, s20 = .slice R (apL apW H2 i).length rc ∧ s21 = .slice V 0 vc ∧ s22 = .int .i64 0 ∧ Hid (FI wx wx.heap.size R (apL apW H2 i)) ∧ Hid (Below wr.heap.size wr wx))
       case first =>
        as_aux_lemma =>
         go_wp2_with (go_at_call 16; refine HM.out.mono ?_; rintro _ w5 ⟨R, rc, V, vc, rfl, hf5, _, hb5⟩; have HF5 := Lib.hid hf5; have HB5 := Lib.hid hb5; clear hf5 hb5)
         go_meet
         exact ⟨R, rc, V, vc, rfl, rfl, rfl, HF5, HB5⟩
       case rest =>
        obtain ⟨R, rc, V, vc, rfl, rfl, rfl, HF5, HB5⟩ := hcut
        generalize wc = w5 at *
        have hsf := sameFiles_any (apL apW H2 i) (apL apW H2 i) R A4 rc c4 w5.heap.size w5 (Nat.le_refl _) HF5.out ((HW4.out.below HB5.out).more HB5.out.size) (by omega)
        rw [decide_eq_true (rfl : apL apW H2 i = apL apW H2 i)] at hsf
        have HSF := Lib.hid hsf
        have HBL := Lib.hid (show Below z w w5 from HZR.out.trans (HB5.out.mono hz2))
        have hz5 : z ≤ w5.heap.size := Nat.le_trans hz2 HB5.out.size
        clear hsf HM HW4
        go_wp2_with (go_at_call 19; (with_reducible refine HSF.out.mono ?_); rintro _ w6 ⟨rfl, hb6⟩; have HB6 := Lib.hid (HBL.out.trans (hb6.mono hz5)); clear hb6)
        go_ret
        exact ⟨by simp, HB6.out⟩
end Go.Proofs.YteeeehfnldkjlaaGreatDoor
