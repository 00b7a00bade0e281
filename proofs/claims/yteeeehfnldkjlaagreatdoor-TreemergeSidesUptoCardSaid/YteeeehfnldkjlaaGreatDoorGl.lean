/-
  The law walk of TreemergeSides. No statement of the seat is proved here.
-/
import Derived.Test.YteeeehfnldkjlaaGreatDoorGk
import Derived.Test.YteeeehfnldkjlaaGreatDoorWg
namespace Go.Proofs.YteeeehfnldkjlaaGreatDoor
open Go.RowKit Go.Maps
/-- What a merge tells: a tree, its clashes, a number. -/
def MergeSays (x : List FileD) (v : List ClashD) (n : Nat) (w : World) (e : Ending) (w' : World) : Prop := ∃ A c A' c', e = .returned (.tuple #[.slice A x.length c, .slice A' v.length c', .int .i64 (n : Nat)]) ∧ FI w' w'.heap.size A x ∧ Reads w' w'.heap.size 2 A' v.length (v.flatMap clashL) ∧ v.length ≤ 9223372036854775807 ∧ Below w.heap.size w w'
/-- The plain merge's answer, as it is told. -/
def SaysP (r : Except Nat (List FileD × List ClashD)) (x : List FileD) (v : List ClashD) (n : Nat) : Prop := r = .error n ∧ x = [] ∧ v = [] ∨ r = .ok (x, v) ∧ n = 0
theorem merge_says {b o t x : List FileD} {v : List ClashD} {n : Nat} (A1 A2 A3 : Option Addr) (c1 c2 c3 B : Nat) (w : World) (hB : B ≤ w.heap.size) (h1 : FI w B A1 b) (h2 : FI w B A2 o) (h3 : FI w B A3 t) (hv : VarM w) (l1 : ∀ f ∈ b, f.p.length ≤ 1000000) (l2 : ∀ f ∈ o, f.p.length ≤ 1000000) (l3 : ∀ f ∈ t, f.p.length ≤ 1000000)
    (hm : SaysP (treemergeP b o t) x v n) : Calls Tryz.prog 16 #[.slice A1 b.length c1, .slice A2 o.length c2, .slice A3 t.length c3] w (MergeSays x v n w) := by
  refine (merge_any b o t A1 A2 A3 c1 c2 c3 B w hB h1 h2 h3 hv l1 l2 l3).mono ?_
  rintro e w' ⟨hb, ⟨m, h, he⟩ | ⟨x', v', A, c, A', c', h, he, hf, ho⟩⟩
  · rcases hm with ⟨hm, rfl, rfl⟩ | ⟨hm, _⟩
    · rw [hm] at h
      injection h with h
      subst h
      exact ⟨none, 0, none, 0, he, FI.nil_ _ _ _, Reads.none_, Nat.zero_le _, hb⟩
    · rw [hm] at h; cases h
  · rcases hm with ⟨hm, _⟩ | ⟨hm, rfl⟩
    · rw [hm] at h; cases h
    · rw [hm] at h
      injection h with h
      injection h with e1 e2
      subst e1 e2
      have := ho.cap_le
      exact ⟨A, c, A', c', he, hf, ho.reads, Nat.le_trans this.1 this.2, hb⟩
theorem sides_says (b o t : List FileD) : ∃ x y v n, SaysP (treemergeP (goodP b) (goodP o) (goodP t)) x v n ∧ SaysP (treemergeP (goodP b) (goodP t) (goodP o)) y v n ∧ x.length ≤ 1000000000000 ∧ (v = [] → x = y) := by
  rcases merge_sides (goodP_good b).1 (goodP_good o).1 (goodP_good t).1 (Nat.le_trans (goodP_good b).2 (by decide)) (Nat.le_trans (goodP_good o).2 (by decide)) (Nat.le_trans (goodP_good t).2 (by decide)) with ⟨e, _, h1, h2⟩ | ⟨x, y, v, h1, h2, h3⟩
  · exact ⟨[], [], [], e, .inl ⟨h1, rfl, rfl⟩, .inl ⟨h2, rfl, rfl⟩, Nat.zero_le _, fun _ => rfl⟩
  · have := (checkT_tree (merge_sound h1).1).2.1
    exact ⟨x, y, v, 0, .inr ⟨h1, rfl⟩, .inr ⟨h2, rfl⟩, by omega, h3⟩
set_option maxHeartbeats 4000000 in
set_option maxRecDepth 100000 in
theorem sides_law (b o t : List FileD) (A1 A2 A3 : Option Addr) (c1 c2 c3 B : Nat) (w : World) (hB : B ≤ w.heap.size) (h1 : FI w B A1 b) (h2 : FI w B A2 o) (h3 : FI w B A3 t) (hv : VarM w) (l1 : ∀ f ∈ b, f.p.length ≤ 100000000) (l2 : ∀ f ∈ o, f.p.length ≤ 100000000) (l3 : ∀ f ∈ t, f.p.length ≤ 100000000) :
    Calls Tryz.prog 5 #[.slice A1 b.length c1, .slice A2 o.length c2, .slice A3 t.length c3] w fun e w' => e = .returned (.bool true) ∧ Below w.heap.size w w' := by
  obtain ⟨z, hz⟩ : ∃ z, w.heap.size = z := ⟨_, rfl⟩
  have HK := Lib.hid (known17_any w hv)
  have HG1 := Lib.hid (fun W (k : Below w.heap.size w W) => good_any b A1 c1 B W (Nat.le_trans hB k.size) (h1.below (k.mono hB)) l1)
  have HG2 := Lib.hid (fun W (k : Below w.heap.size w W) => good_any o A2 c2 B W (Nat.le_trans hB k.size) (h2.below (k.mono hB)) l2)
  have HG3 := Lib.hid (fun W (k : Below w.heap.size w W) => good_any t A3 c3 B W (Nat.le_trans hB k.size) (h3.below (k.mono hB)) l3)
  have HV := Lib.hid (fun W (k : Below w.heap.size w W) => hv.below k hv.pos)
  have HLB := Lib.hid (good_paths b)
  have HLO := Lib.hid (good_paths o)
  have HLT := Lib.hid (good_paths t)
  obtain ⟨x, y, v, n, s1, s2, hxl, hxy⟩ := sides_says b o t
  have HS1 := Lib.hid s1
  have HS2 := Lib.hid s2
  have HXL := Lib.hid hxl
  have HXY := Lib.hid hxy
  rw [hz] at HK HG1 HG2 HG3 HV
  generalize goodP b = gb at *
  generalize goodP o = go' at *
  generalize goodP t = gt at *
  rw [hz]
  clear h1 h2 h3 l1 l2 l3 hv s1 s2 hxl hxy
  have HZ := Lib.hid hz
  clear hz
  go_enter Tryz.func5, Tryz.ntmps5
  go_upto_region 4 with (first
    | (go_at_call 14; (with_reducible refine HK.out.mono ?_); rintro _ w1 ⟨rfl, hb1⟩; have HB1 := Lib.hid hb1; clear hb1)
    | (go_at_call 21; (with_reducible refine (HG1.out w1 HB1.out).mono ?_); rintro _ w2 ⟨AB, cb, rfl, hf2, hb2⟩; have HF2 := Lib.hid hf2; have HB2 := Lib.hid (HB1.out.trans (hb2.mono (HZ.out ▸ HB1.out.size))); clear hf2 hb2)
    | (go_at_call 21; (with_reducible refine (HG2.out w2 HB2.out).mono ?_); rintro _ w3 ⟨AO, co, rfl, hf3, hb3⟩; have HF3 := Lib.hid hf3; have HF2' := Lib.hid (HF2.out.below hb3); have HB3 := Lib.hid (HB2.out.trans (hb3.mono (HZ.out ▸ HB2.out.size))); have HS3 := Lib.hid hb3.size; clear hf3 hb3)
    | (go_at_call 21; (with_reducible refine (HG3.out w3 HB3.out).mono ?_); rintro _ w4 ⟨AT, ct, rfl, hf4, hb4⟩; have HF4 := Lib.hid hf4; have HF3' := Lib.hid ((HF3.out.below hb4).more hb4.size); have HF2'' := Lib.hid ((HF2'.out.below (hb4.mono HS3.out)).more (Nat.le_trans HS3.out hb4.size)); have HB4 := Lib.hid (HB3.out.trans (hb4.mono (HZ.out ▸ HB3.out.size))); clear hf4 hb4))
  obtain ⟨q, hq⟩ : ∃ q, w4.heap.size = q := ⟨_, rfl⟩
  have hzq : z ≤ q := by rw [← hq]; exact HZ.out ▸ HB4.out.size
  have HD := Lib.hid (show w4.heap.size = q ∧ z ≤ q from ⟨hq, hzq⟩)
  have HM1 := Lib.hid (fun W (k : Below q w4 W) => merge_says AB AO AT cb co ct w4.heap.size W k.size (HF2''.out.below (hq ▸ k)) (HF3'.out.below (hq ▸ k)) (HF4.out.below (hq ▸ k)) (HV.out W (HB4.out.trans (k.mono hzq))) HLB.out HLO.out HLT.out HS1.out)
  have HM2 := Lib.hid (fun W (k : Below q w4 W) => merge_says AB AT AO cb ct co w4.heap.size W k.size (HF2''.out.below (hq ▸ k)) (HF4.out.below (hq ▸ k)) (HF3'.out.below (hq ▸ k)) (HV.out W (HB4.out.trans (k.mono hzq))) HLB.out HLT.out HLO.out HS2.out)
  clear HK HG1 HG2 HG3 HV HB1 HF2 HB2 HF2' HF3 HS3 HB3 HF2'' HF3' HF4 HLB HLO HLT HS1 HS2 hq hzq
  go_upto_region 6 with (first
    | (go_at_call 16; (with_reducible refine (HM1.out w4 (Below.refl _ _)).mono ?_); rintro _ w5 ⟨R1, r1, V1, v1, rfl, hf5, hv5, hvl, hb5⟩; have HF5 := Lib.hid hf5; have HV5 := Lib.hid hv5; have HVL := Lib.hid hvl; have HB5 := Lib.hid (show Below q w4 w5 from HD.out.1 ▸ hb5); have HS5 := Lib.hid (show q ≤ w5.heap.size from HD.out.1 ▸ hb5.size); clear hf5 hv5 hvl hb5)
    | (go_at_call 16; (with_reducible refine (HM2.out w5 HB5.out).mono ?_); rintro _ w6 ⟨R2, r2, V2, v2, rfl, hf6, hv6, _, hb6⟩; have HF6 := Lib.hid hf6; have HV6 := Lib.hid hv6; have HF5' := Lib.hid ((HF5.out.below hb6).more hb6.size); have HV5' := Lib.hid ((HV5.out.below hb6).more hb6.size); have HB6 := Lib.hid (HB5.out.trans (hb6.mono HS5.out)); clear hf6 hv6 hb6))
  have HC1 := Lib.hid (sameClashes_any v v V1 V2 v1 v2 w6.heap.size w6 (Nat.le_refl _) HV5'.out HV6.out HVL.out)
  rw [decide_eq_true (rfl : v = v)] at HC1
  have HB6' := Lib.hid (show Below z w w6 from HB4.out.trans (HB6.out.mono HD.out.2))
  have HZ6 := Lib.hid (show z ≤ w6.heap.size from HZ.out ▸ HB6'.out.size)
  have HC2 := Lib.hid (fun (h : v = []) W (k : Below w6.heap.size w6 W) => show Calls Tryz.prog 19 #[.slice R1 x.length r1, .slice R2 y.length r2] W (fun e w' => e = .returned (.bool true) ∧ Below W.heap.size W w') from by
    obtain rfl := HXY.out h
    have := sameFiles_any x x R1 R2 r1 r2 w6.heap.size W k.size (HF5'.out.below k) (HF6.out.below k) HXL.out
    rw [decide_eq_true (rfl : x = x)] at this
    exact this)
  clear HM1 HM2 HF5 HV5 HVL HB4 HB5 HB6 HS5 HF6 HV6 HF5' HV5' HXL HXY HD
  by_cases hv0 : v = []
  · have HC2' := Lib.hid (HC2.out hv0)
    clear HC2
    have hl0 : v.length = 0 := by rw [hv0]; rfl
    have hn0 : decide (0 < v.length) = false := decide_eq_false (by omega)
    clear hv0 hl0
    go_wp2_with (first
      | (go_at_call 20; (with_reducible refine HC1.out.mono ?_); rintro _ w7 ⟨rfl, hb7⟩; have HB7 := Lib.hid hb7; clear hb7)
      | (go_at_call 19; (with_reducible refine (HC2'.out w7 HB7.out).mono ?_); rintro _ w8 ⟨rfl, hb8⟩; have HB8 := Lib.hid (HB7.out.trans (hb8.mono HB7.out.size)); clear hb8))
    go_ret
    exact ⟨rfl, HB6'.out.trans (HB8.out.mono HZ6.out)⟩
  · have hl0 : 0 < v.length := List.length_pos_iff.2 hv0
    have hn0 : (0 : Int) < (v.length : Int) := by omega
    clear hv0 HC2
    go_wp2_with (go_at_call 20; (with_reducible refine HC1.out.mono ?_); rintro _ w7 ⟨rfl, hb7⟩; have HB7 := Lib.hid hb7; clear hb7)
    go_ret
    exact ⟨rfl, HB6'.out.trans (HB7.out.mono HZ6.out)⟩
end Go.Proofs.YteeeehfnldkjlaaGreatDoor
