/-
  The law walk of TreemergeOne. No statement of the seat is proved here.
  Joined of: Gg.
-/
import Derived.Test.YteeeehfnldkjlaaGreatDoorTZGf
import Derived.Test.YteeeehfnldkjlaaGreatDoorTZ08
import Derived.Test.YteeeehfnldkjlaaGreatDoorTZ15
namespace Go.Proofs.YteeeehfnldkjlaaGreatDoor
open Go.RowKit Go.Maps
theorem nmFrom_short : ∀ (p cur : Pth), (∀ s ∈ nmFrom cur p, s.length ≤ 40) → cur.length + p.length + 1 ≤ (nmFrom cur p).length * 41
  | [], cur, h => by
    have := h cur (by unfold nmFrom; exact List.mem_singleton.2 rfl)
    unfold nmFrom
    simp only [List.length_nil, List.length_cons]
    omega
  | x :: p, cur, h => by
    unfold nmFrom at h ⊢
    split at h
    · rename_i hx
      rw [if_pos hx]
      have h1 := h cur List.mem_cons_self
      have h2 := nmFrom_short p [] fun s hs => h s (List.mem_cons_of_mem _ hs)
      simp only [List.length_nil, List.length_cons] at h2 ⊢
      omega
    · rename_i hx
      rw [if_neg hx]
      have h2 := nmFrom_short p (cur ++ [x]) h
      simp only [List.length_append, List.length_cons, List.length_nil] at h2 ⊢
      omega
/-- A file that a tree may hold has a short path. -/
theorem fileE_short {f : FileD} (h : fileE f = 0) : f.p.length ≤ 1000000 := by
  obtain ⟨_, _, h8, hn⟩ := fileE_kind h
  have := nmFrom_short f.p [] fun s hs => by
    have := hn s hs
    unfold nameOk at this
    simp only [Bool.and_eq_true, decide_eq_true_eq] at this
    exact this.2.1
  unfold nmP at h8
  simp only [List.length_nil] at this
  omega
theorem good_paths (l : List FileD) : ∀ f ∈ goodP l, f.p.length ≤ 1000000 := fun f hf => fileE_short ((goodP_good l).1.tree.file f hf)
theorem goodP_ok (l : List FileD) : checkT (goodP l) = 0 := good_check (goodP_good l).1 (Nat.le_trans (goodP_good l).2 (by decide))
/-- A merge that comes through, told with what it is. -/
def MergeOk (x : List FileD) (v : List ClashD) (w : World) (e : Ending) (w' : World) : Prop := ∃ A c A' c', e = .returned (.tuple #[.slice A x.length c, .slice A' v.length c', .int .i64 0]) ∧ FI w' w'.heap.size A x ∧ Own w' w.heap.size 44 2 A' v.length c' (v.flatMap clashL) ∧ Below w.heap.size w w'
theorem merge_comes {b o t x : List FileD} {v : List ClashD} (A1 A2 A3 : Option Addr) (c1 c2 c3 B : Nat) (w : World) (hB : B ≤ w.heap.size) (h1 : FI w B A1 b) (h2 : FI w B A2 o) (h3 : FI w B A3 t) (hv : VarM w) (l1 : ∀ f ∈ b, f.p.length ≤ 1000000) (l2 : ∀ f ∈ o, f.p.length ≤ 1000000) (l3 : ∀ f ∈ t, f.p.length ≤ 1000000)
    (hm : treemergeP b o t = .ok (x, v)) : Calls Tryz.prog 16 #[.slice A1 b.length c1, .slice A2 o.length c2, .slice A3 t.length c3] w (MergeOk x v w) := by
  refine (merge_any b o t A1 A2 A3 c1 c2 c3 B w hB h1 h2 h3 hv l1 l2 l3).mono ?_
  rintro e w' ⟨hb, ⟨n, h, _⟩ | ⟨x', v', A, c, A', c', h, he, hf, ho⟩⟩
  · rw [hm] at h; cases h
  · rw [hm] at h
    injection h with h
    injection h with e1 e2
    subst e1 e2
    exact ⟨A, c, A', c', he, hf, ho, hb⟩
attribute [local go_sem ↓] ld_f
set_option maxHeartbeats 4000000 in
set_option maxRecDepth 100000 in
theorem one_law (b s : List FileD) (A1 A2 : Option Addr) (c1 c2 B : Nat) (w : World) (hB : B ≤ w.heap.size) (h1 : FI w B A1 b) (h2 : FI w B A2 s) (hv : VarM w) (l1 : ∀ f ∈ b, f.p.length ≤ 100000000) (l2 : ∀ f ∈ s, f.p.length ≤ 100000000) :
    Calls Tryz.prog 6 #[.slice A1 b.length c1, .slice A2 s.length c2] w fun e w' => e = .returned (.bool true) ∧ Below w.heap.size w w' := by
  obtain ⟨z, hz⟩ : ∃ z, w.heap.size = z := ⟨_, rfl⟩
  have HK := Lib.hid (known17_any w hv)
  have HG1 := Lib.hid (fun W (k : Below w.heap.size w W) => good_any b A1 c1 B W (Nat.le_trans hB k.size) (h1.below (k.mono hB)) l1)
  have HG2 := Lib.hid (fun W (k : Below w.heap.size w W) => good_any s A2 c2 B W (Nat.le_trans hB k.size) (h2.below (k.mono hB)) l2)
  have HV := Lib.hid (fun W (k : Below w.heap.size w W) => hv.below k hv.pos)
  obtain ⟨gb, hgb⟩ : ∃ gb, goodP b = gb := ⟨_, rfl⟩
  obtain ⟨gs, hgs⟩ : ∃ gs, goodP s = gs := ⟨_, rfl⟩
  have HLB := Lib.hid (show ∀ f ∈ gb, f.p.length ≤ 1000000 from by rw [← hgb]; exact good_paths b)
  have HLS := Lib.hid (show ∀ f ∈ gs, f.p.length ≤ 1000000 from by rw [← hgs]; exact good_paths s)
  have HE1 := Lib.hid (show treemergeP gb gs gb = .ok (gs, []) from by rw [← hgb, ← hgs]; exact one_ours (goodP_ok b) (goodP_ok s))
  have HE2 := Lib.hid (show treemergeP gb gb gs = .ok (gs, []) from by rw [← hgb, ← hgs]; exact one_theirs (goodP_ok b) (goodP_ok s))
  have HE3 := Lib.hid (show treemergeP gb gs gs = .ok (gs, []) from by rw [← hgb, ← hgs]; exact one_both (goodP_ok b) (goodP_ok s))
  have HL := Lib.hid (show gs.length ≤ 1000000000000 from by rw [← hgs]; exact Nat.le_trans (goodP_good s).2 (by decide))
  rw [hz] at HK HG1 HG2 HV
  rw [hgb] at HG1
  rw [hgs] at HG2
  rw [hz]
  clear hgb hgs h1 h2 l1 l2 hv
  have HZ := Lib.hid hz
  clear hz
  go_enter Tryz.func6, Tryz.ntmps6
  go_upto_region 4 with (first
    | (go_at_call 14; (with_reducible refine HK.out.mono ?_); rintro _ w1 ⟨rfl, hb1⟩; have HB1 := Lib.hid hb1; clear hb1)
    | (go_at_call 21; (with_reducible refine (HG1.out w1 HB1.out).mono ?_); rintro _ w2 ⟨AB, cb, rfl, hf2, hb2⟩; have HF2 := Lib.hid hf2; have HB2 := Lib.hid (HB1.out.trans (hb2.mono (HZ.out ▸ HB1.out.size))); clear hf2 hb2)
    | (go_at_call 21; (with_reducible refine (HG2.out w2 HB2.out).mono ?_); rintro _ w3 ⟨AS, cs, rfl, hf3, hb3⟩; have HF3 := Lib.hid hf3; have HF2' := Lib.hid (HF2.out.below hb3); have HB3 := Lib.hid (HB2.out.trans (hb3.mono (HZ.out ▸ HB2.out.size))); have HS3 := Lib.hid hb3.size; clear hf3 hb3))
  have HBB := Lib.hid (HF2'.out.more HS3.out)
  obtain ⟨q, hq⟩ : ∃ q, w3.heap.size = q := ⟨_, rfl⟩
  have hzq : z ≤ q := by rw [← hq]; exact HZ.out ▸ HB3.out.size
  have HD := Lib.hid (show w3.heap.size = q ∧ z ≤ q from ⟨hq, hzq⟩)
  have HM1 := Lib.hid (fun W (k : Below q w3 W) => merge_comes AB AS AB cb cs cb w3.heap.size W k.size (HBB.out.below (hq ▸ k)) (HF3.out.below (hq ▸ k)) (HBB.out.below (hq ▸ k)) (HV.out W (HB3.out.trans (k.mono hzq))) HLB.out HLS.out HLB.out HE1.out)
  have HM2 := Lib.hid (fun W (k : Below q w3 W) => merge_comes AB AB AS cb cb cs w3.heap.size W k.size (HBB.out.below (hq ▸ k)) (HBB.out.below (hq ▸ k)) (HF3.out.below (hq ▸ k)) (HV.out W (HB3.out.trans (k.mono hzq))) HLB.out HLB.out HLS.out HE2.out)
  have HM3 := Lib.hid (fun W (k : Below q w3 W) => merge_comes AB AS AS cb cs cs w3.heap.size W k.size (HBB.out.below (hq ▸ k)) (HF3.out.below (hq ▸ k)) (HF3.out.below (hq ▸ k)) (HV.out W (HB3.out.trans (k.mono hzq))) HLB.out HLS.out HLS.out HE3.out)
  clear HK HG1 HG2 HV HB1 HF2 HB2 HF2' HS3 hq hzq HBB
  go_upto_region 7 with (first
    | (go_at_call 16; (with_reducible refine (HM1.out w3 (Below.refl _ _)).mono ?_); rintro _ w4 ⟨R1, r1, V1, v1, rfl, hf4, _, hb4⟩; have HF4 := Lib.hid hf4; have HB4 := Lib.hid (show Below q w3 w4 from HD.out.1 ▸ hb4); have HS4 := Lib.hid (show q ≤ w4.heap.size from HD.out.1 ▸ hb4.size); clear hf4 hb4)
    | (go_at_call 16; (with_reducible refine (HM2.out w4 HB4.out).mono ?_); rintro _ w5 ⟨R2, r2, V2, v2, rfl, hf5, _, hb5⟩; have HF5 := Lib.hid hf5; have HF4' := Lib.hid (HF4.out.below hb5); have HB5 := Lib.hid (HB4.out.trans (hb5.mono HS4.out)); have HS5 := Lib.hid hb5.size; clear hf5 hb5)
    | (go_at_call 16; (with_reducible refine (HM3.out w5 HB5.out).mono ?_); rintro _ w6 ⟨R3, r3, V3, v3, rfl, hf6, _, hb6⟩; have HF6 := Lib.hid hf6; have HF5' := Lib.hid (HF5.out.below hb6); have HF4'' := Lib.hid (HF4'.out.below (hb6.mono HS5.out)); have HB6 := Lib.hid (HB5.out.trans (hb6.mono (Nat.le_trans HS4.out HS5.out))); have HS6 := Lib.hid hb6.size; clear hf6 hb6))
  have h46 : w4.heap.size ≤ w6.heap.size := Nat.le_trans HS5.out HS6.out
  have h36 : w3.heap.size ≤ w6.heap.size := Nat.le_trans (Nat.le_of_eq HD.out.1) (Nat.le_trans HS4.out h46)
  have fs := (HF3.out.below (HD.out.1 ▸ HB6.out)).more h36
  have f4 := HF4''.out.more h46
  have f5 := HF5'.out.more HS6.out
  have f6 := HF6.out
  have same : ∀ (R : Option Addr) (r : Nat), FI w6 w6.heap.size R gs → ∀ W, Below w6.heap.size w6 W → Calls Tryz.prog 19 #[.slice R gs.length r, .slice AS gs.length cs] W fun e w' => e = .returned (.bool true) ∧ Below W.heap.size W w' := fun R r hr W k => by
    have := sameFiles_any gs gs R AS r cs w6.heap.size W k.size (hr.below k) (fs.below k) HL.out
    rw [decide_eq_true (rfl : gs = gs)] at this
    exact this
  have HC1 := Lib.hid (same R1 r1 f4)
  have HC2 := Lib.hid (same R2 r2 f5)
  have HC3 := Lib.hid (same R3 r3 f6)
  have HB6' := Lib.hid (show Below z w w6 from HB3.out.trans (HB6.out.mono HD.out.2))
  have HZ6 := Lib.hid (show z ≤ w6.heap.size from HZ.out ▸ HB6'.out.size)
  clear h46 h36 fs f4 f5 f6 same HM1 HM2 HM3 HF3 HF4 HF4' HF4'' HF5 HF5' HF6 HB3 HB4 HB5 HB6 HS4 HS5 HS6 HLB HLS HE1 HE2 HE3 HL HD
  go_wp2_with (first
    | (go_at_call 19; (with_reducible refine (HC1.out w6 (Below.refl _ _)).mono ?_); rintro _ w7 ⟨rfl, hb7⟩; have HB7 := Lib.hid hb7; clear hb7)
    | (go_at_call 19; (with_reducible refine (HC2.out w7 HB7.out).mono ?_); rintro _ w8 ⟨rfl, hb8⟩; have HB8 := Lib.hid (HB7.out.trans (hb8.mono HB7.out.size)); clear hb8)
    | (go_at_call 19; (with_reducible refine (HC3.out w8 HB8.out).mono ?_); rintro _ w9 ⟨rfl, hb9⟩; have HB9 := Lib.hid (HB8.out.trans (hb9.mono HB8.out.size)); clear hb9))
  go_ret
  exact ⟨rfl, HB6'.out.trans (HB9.out.mono HZ6.out)⟩
end Go.Proofs.YteeeehfnldkjlaaGreatDoor
