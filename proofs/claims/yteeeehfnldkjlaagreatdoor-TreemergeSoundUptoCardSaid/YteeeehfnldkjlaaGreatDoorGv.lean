/-
  The law walk of TreemergeSound. No statement of the seat is proved here.
-/
import Derived.Test.YteeeehfnldkjlaaGreatDoorGu
import Derived.Test.YteeeehfnldkjlaaGreatDoorGla
import Derived.Test.YteeeehfnldkjlaaGreatDoorWn
namespace Go.Proofs.YteeeehfnldkjlaaGreatDoor
open Go.RowKit Go.Maps
theorem clash_cells2 {w : World} {B : Nat} {A : Option Addr} {v : List ClashD} (h : Reads w B 2 A v.length (v.flatMap clashL)) {k : Nat} {x : ClashD} (hk : v[k]? = some x) : ∃ g o, A = some ⟨g, o, none⟩ ∧ w.cell? ⟨g, o + k * 2, none⟩ = some (.string ⟨x.p.toArray⟩) ∧ w.cell? ⟨g, o + k * 2 + 1, none⟩ = some (.int .i64 (x.why : Nat)) := by
  have hlt := (List.getElem?_eq_some_iff.1 hk).1
  obtain ⟨g, o, rfl, _, hc⟩ := h.at0 (by omega) (by omega)
  refine ⟨g, o, rfl, ?_, ?_⟩
  · exact hc _ _ ((flat2 v k x hk 0 (by omega)).trans rfl)
  · exact hc _ _ ((flat2 v k x hk 1 (by omega)).trans rfl)
theorem TreeOk.nil_ : TreeOk [] := ⟨fun _ h => (by cases h), List.Pairwise.nil, fun _ h => (by cases h)⟩
theorem sound_says (b o t : List FileD) : ∃ x v n, SaysP (treemergeP (goodP b) (goodP o) (goodP t)) x v n ∧ (n ≠ 0 → x = [] ∧ v = []) ∧ TreeOk x ∧ x.length ≤ 512 ∧ RiseC v ∧ ClOk v := by
  cases h : treemergeP (goodP b) (goodP o) (goodP t) with
  | error e => exact ⟨[], [], e, .inl ⟨rfl, rfl, rfl⟩, fun _ => ⟨rfl, rfl⟩, TreeOk.nil_, Nat.zero_le _, List.Pairwise.nil, fun _ h => (by cases h)⟩
  | ok r =>
    obtain ⟨x, v⟩ := r
    obtain ⟨h1, h2, h3⟩ := merge_sound h
    have h4 := merge_size h
    have := (goodP_good b).2
    have := (goodP_good o).2
    have := (goodP_good t).2
    exact ⟨x, v, 0, .inr ⟨rfl, rfl⟩, fun q => absurd rfl q, (checkT_tree h1).1, by omega, h2, h3⟩
set_option maxHeartbeats 4000000 in
set_option maxRecDepth 100000 in
theorem sound_law (b o t : List FileD) (A1 A2 A3 : Option Addr) (c1 c2 c3 B : Nat) (w : World) (hB : B ≤ w.heap.size) (h1 : FI w B A1 b) (h2 : FI w B A2 o) (h3 : FI w B A3 t) (hv : VarM w) (l1 : ∀ f ∈ b, f.p.length ≤ 100000000) (l2 : ∀ f ∈ o, f.p.length ≤ 100000000) (l3 : ∀ f ∈ t, f.p.length ≤ 100000000) :
    Calls Tryz.prog 8 #[.slice A1 b.length c1, .slice A2 o.length c2, .slice A3 t.length c3] w fun e w' => e = .returned (.bool true) ∧ Below w.heap.size w w' := by
  obtain ⟨z, hz⟩ : ∃ z, w.heap.size = z := ⟨_, rfl⟩
  have HK := Lib.hid (known17_any w hv)
  have HG1 := Lib.hid (fun W (k : Below w.heap.size w W) => good_any b A1 c1 B W (Nat.le_trans hB k.size) (h1.below (k.mono hB)) l1)
  have HG2 := Lib.hid (fun W (k : Below w.heap.size w W) => good_any o A2 c2 B W (Nat.le_trans hB k.size) (h2.below (k.mono hB)) l2)
  have HG3 := Lib.hid (fun W (k : Below w.heap.size w W) => good_any t A3 c3 B W (Nat.le_trans hB k.size) (h3.below (k.mono hB)) l3)
  have HV := Lib.hid (fun W (k : Below w.heap.size w W) => hv.below k hv.pos)
  have HLB := Lib.hid (good_paths b)
  have HLO := Lib.hid (good_paths o)
  have HLT := Lib.hid (good_paths t)
  obtain ⟨x, v, n, s1, s2, s3, s4, s5, s6⟩ := sound_says b o t
  have HS1 := Lib.hid s1
  have HS2 := Lib.hid s2
  have HS3 := Lib.hid s3
  have HS4 := Lib.hid s4
  have HS5' := Lib.hid s5
  have HS6 := Lib.hid s6
  rw [hz] at HK HG1 HG2 HG3 HV
  generalize goodP b = gb at *
  generalize goodP o = go' at *
  generalize goodP t = gt at *
  rw [hz]
  clear h1 h2 h3 l1 l2 l3 hv s1 s2 s3 s4 s5 s6
  have HZ := Lib.hid hz
  clear hz
  go_enter Tryz.func8, Tryz.ntmps8
  go_upto_region 4 with (first
    | (go_at_call 14; (with_reducible refine HK.out.mono ?_); rintro _ w1 ⟨rfl, hb1⟩; have HB1 := Lib.hid hb1; clear hb1)
    | (go_at_call 21; (with_reducible refine (HG1.out w1 HB1.out).mono ?_); rintro _ w2 ⟨AB, cb, rfl, hf2, hb2⟩; have HF2 := Lib.hid hf2; have HB2 := Lib.hid (HB1.out.trans (hb2.mono (HZ.out ▸ HB1.out.size))); clear hf2 hb2)
    | (go_at_call 21; (with_reducible refine (HG2.out w2 HB2.out).mono ?_); rintro _ w3 ⟨AO, co, rfl, hf3, hb3⟩; have HF3 := Lib.hid hf3; have HF2' := Lib.hid (HF2.out.below hb3); have HB3 := Lib.hid (HB2.out.trans (hb3.mono (HZ.out ▸ HB2.out.size))); have HS3' := Lib.hid hb3.size; clear hf3 hb3)
    | (go_at_call 21; (with_reducible refine (HG3.out w3 HB3.out).mono ?_); rintro _ w4 ⟨AT, ct, rfl, hf4, hb4⟩; have HF4 := Lib.hid hf4; have HF3' := Lib.hid ((HF3.out.below hb4).more hb4.size); have HF2'' := Lib.hid ((HF2'.out.below (hb4.mono HS3'.out)).more (Nat.le_trans HS3'.out hb4.size)); have HB4 := Lib.hid (HB3.out.trans (hb4.mono (HZ.out ▸ HB3.out.size))); clear hf4 hb4))
  have hz4 : z ≤ w4.heap.size := HZ.out ▸ HB4.out.size
  have HM1 := Lib.hid (merge_says AB AO AT cb co ct w4.heap.size w4 (Nat.le_refl _) HF2''.out HF3'.out HF4.out (HV.out w4 HB4.out) HLB.out HLO.out HLT.out HS1.out)
  clear HK HG1 HG2 HG3 HV HB1 HF2 HB2 HF2' HF3 HS3' HB3 HF2'' HF3' HF4 HLB HLO HLT HS1
  go_upto_region 5 with (go_at_call 16; (with_reducible refine HM1.out.mono ?_); rintro _ w5 ⟨R1, r1, V1, v1, rfl, hf5, hv5, hvl, hb5⟩; have HF5 := Lib.hid hf5; have HV5 := Lib.hid hv5; have HB5 := Lib.hid (HB4.out.trans (hb5.mono hz4)); clear hf5 hv5 hb5)
  clear HM1 HB4 hz4
  by_cases hn : n = 0
  · subst hn
    go_wp2_with fail
    go_loopw [10] (fun s10 wr => ∃ k : Nat, s10 = .int .i64 (k : Nat) ∧ k ≤ v.length ∧ ∃ kk, wr = w5.drewN kk) (fun s10 _ => v.length - (intOf s10).toNat)
    case atStart => exact ⟨0, rfl, Nat.zero_le _, 0, rfl⟩
    case round =>
      obtain ⟨k, rfl, hkl, kk, rfl⟩ := hrel
      by_cases hk : k < v.length
      · obtain ⟨y, hy⟩ : ∃ y, v[k]? = some y := ⟨_, List.getElem?_eq_getElem hk⟩
        obtain ⟨g, off, eA, e0, e1⟩ := clash_cells2 HV5.out hy
        subst eA
        obtain ⟨p0, p1, p2⟩ := HS6.out y (List.mem_of_getElem? hy)
        have k0 : (0 : Int) ≤ (k : Int) := by omega
        have k1 : (k : Int) < (v.length : Int) := by omega
        have p1' : ¬ (y.why : Int) < 1 := by omega
        have p2' : ¬ (6 : Int) < (y.why : Int) := by omega
        have z1 : (y.p == []) = false := beq_eq_false_iff_ne.2 p0
        have z2 : ¬ y.p = [] := p0
        have z3 : decide (y.p = []) = false := decide_eq_false p0
        have z4 : y.p.isEmpty = false := by simpa using p0
        clear p0
        rcases k with _ | j
        · clear hy
          have e0' : w5.cell? ⟨g, off, none⟩ = some (.string ⟨y.p.toArray⟩) := by rw [Nat.zero_mul, Nat.add_zero] at e0; exact e0
          have e1' : w5.cell? ⟨g, off + 1, none⟩ = some (.int .i64 (y.why : Nat)) := by rw [Nat.zero_mul, Nat.add_zero] at e1; exact e1
          obtain ⟨W, hW⟩ : ∃ W, w5.drewN kk = W := ⟨_, rfl⟩
          have E0 : W.drew.cell? ⟨g, off, none⟩ = some (.string ⟨y.p.toArray⟩) := by rw [← hW]; exact e0'
          have E1 : W.drew.cell? ⟨g, off + 1, none⟩ = some (.int .i64 (y.why : Nat)) := by rw [← hW]; exact e1'
          have hW2 : W.drew = w5.drewN (kk + 1) := by rw [← hW]; rfl
          have HW2 := Lib.hid hW2
          rw [hW]
          clear e0 e1 e0' e1' hW hW2
          go_upto_region 10 with fail
          simp only [List.append_eq, List.cons_append, List.nil_append]
          go_big_region
          go_wp2_with fail
          go_roundw
          case rel => exact ⟨0 + 1, by go_num, hk, kk + 1, HW2.out⟩
          case measure => simp [intOf]; omega
        · obtain ⟨u, hu⟩ : ∃ u, v[j]? = some u := ⟨_, List.getElem?_eq_getElem (by omega)⟩
          have f0 : w5.cell? ⟨g, off + j * 2, none⟩ = some (.string ⟨u.p.toArray⟩) := by
            obtain ⟨_, _, eA, e0, _⟩ := clash_cells2 HV5.out hu
            injection eA with eA
            injection eA with eA eB
            subst eA eB
            exact e0
          have f1 : w5.cell? ⟨g, off + j * 2 + 1, none⟩ = some (.int .i64 (u.why : Nat)) := by
            obtain ⟨_, _, eA, _, e0⟩ := clash_cells2 HV5.out hu
            injection eA with eA
            injection eA with eA eB
            subst eA eB
            exact e0
          have hlt : ltC u y = true := by
            have := List.pairwise_iff_getElem.1 HS5'.out j (j + 1) (by omega) (by omega) (by omega)
            obtain ⟨h1, e1⟩ := List.getElem?_eq_some_iff.1 hu
            obtain ⟨h2, e2⟩ := List.getElem?_eq_some_iff.1 hy
            rw [e1, e2] at this
            exact this
          rw [ltC_iff] at hlt
          have j0 : (0 : Int) ≤ (j : Int) := by omega
          have j2 : (0 : Int) ≤ (j : Int) + 1 := by omega
          have j3 : (j : Int) + 1 < (v.length : Int) := by omega
          have j1 : (j : Int) < (v.length : Int) := by omega
          clear hu hy
          have b1 : Op.bytesLess y.p u.p = false := by
            rw [bytesLess_eq]
            refine decide_eq_false fun q => ?_
            rcases hlt with h | ⟨h, _⟩
            · exact List.lt_irrefl _ (List.lt_trans h q)
            · rw [h] at q; exact List.lt_irrefl _ q
          by_cases he : y.p = u.p
          · have b2 : (y.p == u.p) = true := beq_iff_eq.2 he
            have hw : ¬ (y.why : Int) ≤ (u.why : Int) := by
              rcases hlt with h | ⟨_, h⟩
              · rw [he] at h; exact absurd h (List.lt_irrefl _)
              · omega
            clear hlt he
            go_upto_region 10 with fail
            simp only [List.append_eq, List.cons_append, List.nil_append]
            go_big_region
            go_wp2_with fail
            go_roundw
            case rel => exact ⟨j + 1 + 1, by go_num, hk, kk + 1, rfl⟩
            case measure => simp [intOf]; omega
          · have b2 : (y.p == u.p) = false := beq_eq_false_iff_ne.2 he
            clear hlt he
            go_upto_region 10 with fail
            simp only [List.append_eq, List.cons_append, List.nil_append]
            go_big_region
            go_wp2_with fail
            go_roundw
            case rel => exact ⟨j + 1 + 1, by go_num, hk, kk + 1, rfl⟩
            case measure => simp [intOf]; omega
      · obtain rfl : k = v.length := by omega
        have k1 : ¬ (v.length : Int) < (v.length : Int) := by omega
        have HC := Lib.hid (rcheck_ok x R1 r1 w5.heap.size (w5.drewN kk) (Nat.le_refl _) (HF5.out.drewN kk) HS3.out HS4.out)
        go_wp2_with (go_at_call 27; refine HC.out.mono ?_; rintro _ w6 ⟨rfl, hb6⟩; have HB6 := Lib.hid (HB5.out.trans ((((Kept.refl w5.heap.size [] [] w5).drewN kk).all.mono (HZ.out ▸ HB5.out.size)).trans (hb6.mono (HZ.out ▸ HB5.out.size)))); clear hb6)
        go_ret
        exact ⟨rfl, HB6.out⟩
  · obtain ⟨rfl, rfl⟩ := HS2.out hn
    have hn' : ((n : Int) == 0) = false := beq_eq_false_iff_ne.2 (by omega)
    have hn2 : ¬ (n : Int) = 0 := by omega
    go_wp2_with fail
    go_ret
    exact ⟨rfl, HB5.out⟩
end Go.Proofs.YteeeehfnldkjlaaGreatDoor
