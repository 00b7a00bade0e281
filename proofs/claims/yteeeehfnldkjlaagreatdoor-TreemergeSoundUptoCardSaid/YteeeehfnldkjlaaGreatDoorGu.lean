/-
  Contract of the reference's crowded at few files, of its Check at a small tree. No statement of the seat is proved here.
-/
import Derived.Test.YteeeehfnldkjlaaGreatDoorGt
import Derived.Test.YteeeehfnldkjlaaGreatDoorTZGg
import Derived.BigQuiet
namespace Go.Proofs.YteeeehfnldkjlaaGreatDoor
open Go.RowKit
set_option maxHeartbeats 1000000 in
set_option maxRecDepth 100000 in
theorem crowded_small (l : List FileD) (A : Option Addr) (c B : Nat) (w : World) (hB : B ≤ w.heap.size) (hr : FI w B A l) (hp : ∀ f ∈ l, f.p.length ≤ 100000000) (h0 : ∀ f ∈ l, 0 < (rnP f.p).length) (hll : l.length ≤ 512) :
    Calls Tryz.prog 59 #[.slice A l.length c] w fun e w' => e = .returned (.bool false) ∧ Below w.heap.size w w' := by
  have HT := Lib.hid (tops_any l A c B w hB hr hp h0 (by omega))
  clear hr hp h0
  have h1 : (l.length : Int) ≤ 512 := by omega
  go_enter Tryz.func59, Tryz.ntmps59
  go_wp2_with (go_at_call 93; refine HT.out.mono ?_; rintro _ w1 ⟨A1, n1, c1, rfl, hn1, hb1⟩; have HB1 := Lib.hid hb1; have hn2 : ¬ (512 : Int) < (n1 : Int) := (by omega); clear hb1)
  go_ret
  exact ⟨rfl, HB1.out⟩
set_option maxHeartbeats 4000000 in
set_option maxRecDepth 100000 in
theorem rcheck_ok (l : List FileD) (A : Option Addr) (c B : Nat) (w : World) (hB : B ≤ w.heap.size) (hr : FI w B A l) (ht : TreeOk l) (hll : l.length ≤ 512) :
    Calls Tryz.prog 27 #[.slice A l.length c] w fun e w' => e = .returned (.int .i64 0) ∧ Below w.heap.size w w' := by
  have hn0 : ∀ f ∈ l, 0 < (rnP f.p).length := fun f hf => by
    rcases fileE_cases f with ⟨_, h⟩ | ⟨_, ⟨_, h⟩ | ⟨h, _⟩⟩
    · rw [ht.file f hf] at h; omega
    · rw [ht.file f hf] at h; omega
    · exact h
  have hp : ∀ f ∈ l, f.p.length ≤ 100000000 := fun f hf => by have := fileE_short (ht.file f hf); omega
  obtain ⟨z, hz⟩ : ∃ z, w.heap.size = z := ⟨_, rfl⟩
  have HC := Lib.hid (fun W (k : Below z w W) => crowded_small l A c B W (Nat.le_trans hB (hz ▸ k.size)) (hr.below (k.mono (hz ▸ hB))) hp hn0 hll)
  rw [hz]
  have hBz : B ≤ z := hz ▸ hB
  have HFI := Lib.hid (fun W (k : Below z w W) => hr.below (k.mono hBz))
  have HN := Lib.hid (fun f W (hf : f ∈ l) => rnames_any f.p W (hp f hf))
  have H0 := Lib.hid hn0
  have HZ := Lib.hid hz
  have HT := Lib.hid ht
  clear hr hp hn0 hz hB ht
  have hl1 : (l.length : Int) ≤ 512 := by omega
  go_enter Tryz.func27, Tryz.ntmps27
  go_wp2_with fail
  go_loopw [3] (fun s3 wr => ∃ i : Nat, s3 = .int .i64 (i : Nat) ∧ i ≤ l.length ∧ Hid (Below z w wr)) (fun s3 _ => l.length - (intOf s3).toNat)
  case atStart => exact ⟨0, rfl, Nat.zero_le _, Lib.hid (Below.refl _ _)⟩
  case round =>
    obtain ⟨i, rfl, hil, HB⟩ := hrel
    by_cases hi : i < l.length
    · obtain ⟨x, hx⟩ : ∃ x, l[i]? = some x := ⟨_, List.getElem?_eq_getElem hi⟩
      have hxm := List.mem_of_getElem? hx
      obtain ⟨g, off, DA, dc, eA, hg, _, e0, e1, e2, _⟩ := (HFI.out wr HB.out).at_ hx
      subst eA
      have hcs := fileE_cases x
      rw [HT.out.file x hxm] at hcs
      have hk : ¬ x.k < 1 ∧ ¬ 3 < x.k ∧ x.d.length ≤ 65536 := by omega
      obtain ⟨hk1, hk2, hk3⟩ := hk
      have h0x := H0.out x hxm
      have HNX := Lib.hid (HN.out x wr hxm)
      obtain ⟨R, hR⟩ : ∃ R, rnP x.p = R := ⟨_, rfl⟩
      rw [hR] at HNX h0x
      clear hcs hR
      have hi' : (i : Int) < (l.length : Int) := by omega
      have i0 : (0 : Int) ≤ (i : Int) := by omega
      have q7 : ¬ (65536 : Int) < (x.d.length : Int) := by omega
      have q8 : ((R.length : Int) == 0) = false := beq_eq_false_iff_ne.2 (by omega)
      have q9 : ¬ (R.length : Int) = 0 := by omega
      have hwz : z ≤ wr.heap.size := HZ.out ▸ HB.out.size
      have HG := Lib.hid hg
      clear hg h0x hxm
      unfold strC at HNX e0
      have HCE := Lib.hid (fun W (k : Below wr.heap.size wr W) => show W.cell? ⟨g, off + i * 3 + 2, none⟩ = some (.slice DA x.d.length dc) from ((k.mono (Nat.le_trans hBz hwz)).cell (p := ⟨g, off + i * 3 + 2, none⟩) HG.out).trans e2)
      go_upto_region 12 with (go_at_call 30; refine HNX.out.mono ?_; rintro _ w2 ⟨A2, c2, rfl, _, hb2⟩; have e9 := HCE.out _ hb2; have HB2 := Lib.hid hb2; clear hb2)
      have HBZ := Lib.hid (show Below z w w2 from HB.out.trans (HB2.out.mono hwz))
      clear HNX e0 e1 e2 HCE e9 HB HB2
      go_cut [46] (fun s46 wx => s46 = .bool false ∧ wx = w2.drew)
      case first =>
        have e0 : w2.cell? ⟨g, off + i * 3, none⟩ = some (.string ⟨x.p.toArray⟩) := by
          obtain ⟨_, _, _, _, eA, _, _, e0, _⟩ := (HFI.out w2 HBZ.out).at_ hx
          injection eA with eA
          injection eA with eA eB
          subst eA eB
          exact e0
        rcases i with _ | j
        · go_region
          go_wp2_with fail
          go_meet
          exact ⟨rfl, rfl⟩
        · obtain ⟨y, hy⟩ : ∃ y, l[j]? = some y := ⟨_, List.getElem?_eq_getElem (by omega)⟩
          have f0 : w2.cell? ⟨g, off + j * 3, none⟩ = some (.string ⟨y.p.toArray⟩) := by
            obtain ⟨_, _, _, _, eA, _, _, e0, _⟩ := (HFI.out w2 HBZ.out).at_ hy
            injection eA with eA
            injection eA with eA eB
            subst eA eB
            exact e0
          have hlt : y.p < x.p := by
            have := List.pairwise_iff_getElem.1 HT.out.rise j (j + 1) (by simp; omega) (by simp; omega) (by omega)
            simp only [List.getElem_map] at this
            obtain ⟨h1, e1⟩ := List.getElem?_eq_some_iff.1 hy
            obtain ⟨h2, e2⟩ := List.getElem?_eq_some_iff.1 hx
            rw [e1, e2] at this
            exact this
          have b1 : Op.bytesLess x.p y.p = false := by
            rw [bytesLess_eq]
            exact decide_eq_false fun q => List.lt_irrefl _ (List.lt_trans hlt q)
          have b2 : (x.p == y.p) = false := beq_eq_false_iff_ne.2 fun q => by rw [q] at hlt; exact List.lt_irrefl _ hlt
          have j0 : (0 : Int) ≤ (j : Int) := by omega
          have j1 : (j : Int) < (l.length : Int) := by omega
          clear hx hy hlt
          go_region
          go_wp2_with fail
          go_meet
          exact ⟨rfl, rfl⟩
      case rest =>
        obtain ⟨rfl, rfl⟩ := hcut
        have HX := Lib.hid hx
        clear hx hk1 hk2 hk3 q7
        go_wp2_with fail
        go_loopw [4] (fun s4 wx => ∃ k kk : Nat, s4 = .int .i64 (k : Nat) ∧ k ≤ i ∧ wx = w2.drewN kk) (fun s4 _ => i - (intOf s4).toNat)
        case atStart => exact ⟨0, 1, rfl, Nat.zero_le _, rfl⟩
        case round =>
          obtain ⟨k, kk, rfl, hki, rfl⟩ := hrel
          have e0 : w2.cell? ⟨g, off + i * 3, none⟩ = some (.string ⟨x.p.toArray⟩) := by
            obtain ⟨_, _, _, _, eA, _, _, e0, _⟩ := (HFI.out w2 HBZ.out).at_ HX.out
            injection eA with eA
            injection eA with eA eB
            subst eA eB
            exact e0
          by_cases hk : k < i
          · obtain ⟨y, hy⟩ : ∃ y, l[k]? = some y := ⟨_, List.getElem?_eq_getElem (by omega)⟩
            have f0 : w2.cell? ⟨g, off + k * 3, none⟩ = some (.string ⟨y.p.toArray⟩) := by
              obtain ⟨_, _, _, _, eA, _, _, e0, _⟩ := (HFI.out w2 HBZ.out).at_ hy
              injection eA with eA
              injection eA with eA eB
              subst eA eB
              exact e0
            have hbf : belowB x.p y.p = false := by
              unfold belowB
              rw [List.contains_eq_mem, decide_eq_false_iff_not]
              exact HT.out.apart x (List.mem_of_getElem? HX.out) y (List.mem_of_getElem? hy)
            have hb1 : ∀ m, Calls Tryz.prog 24 #[strC x.p, strC y.p] (w2.drewN (kk + m)) (fun e w'' => e = .returned (.bool false) ∧ ∃ n, w'' = w2.drewN (kk + n)) := fun m => (rbelow_any x.p y.p (w2.drewN (kk + m))).mono fun _ _ h => ⟨hbf ▸ h.1, m, h.2.symm⟩
            unfold strC at hb1
            have HQ1 := Lib.hid hb1
            have k0 : (0 : Int) ≤ (k : Int) := by omega
            have k1 : (k : Int) < (i : Int) := by omega
            have k2 : (k : Int) < (l.length : Int) := by omega
            clear hb1 hbf hy
            go_upto_region 17 with fail
            go_quiet ((go_at_call 24; with_reducible exact HQ1.out _))
            go_wp2_with fail
            go_roundw
            case rel => exact ⟨k + 1, _, by go_num, hk, rfl⟩
            case measure => simp [intOf]; omega
          · obtain rfl : k = i := by omega
            have k1 : ¬ (k : Int) < (k : Int) := by omega
            go_wp2_with fail
            go_roundw
            case rel => exact ⟨k + 1, by go_num, hi, Lib.hid (HBZ.out.trans ((((Kept.refl w2.heap.size [] [] w2).drewN kk).all).mono (HZ.out ▸ HBZ.out.size)))⟩
            case measure => simp [intOf]; omega
    · obtain rfl : i = l.length := by omega
      have hi' : ¬ (l.length : Int) < (l.length : Int) := by omega
      have HCW := Lib.hid (HC.out wr HB.out)
      have hwz : z ≤ wr.heap.size := HZ.out ▸ HB.out.size
      go_wp2_with (go_at_call 59; refine HCW.out.mono ?_; rintro _ w2 ⟨rfl, hb2⟩; have HB2 := Lib.hid (HB.out.trans (hb2.mono hwz)); clear hb2)
      go_ret
      exact ⟨rfl, HB2.out⟩
end Go.Proofs.YteeeehfnldkjlaaGreatDoor
