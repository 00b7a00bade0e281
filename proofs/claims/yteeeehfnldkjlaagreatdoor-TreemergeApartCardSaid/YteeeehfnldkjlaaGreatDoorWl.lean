/-
  Plain law of TreemergeApart: the law's files. No statement of the seat is proved here.
-/
import Derived.Test.YteeeehfnldkjlaaGreatDoorWh
import Derived.Test.YteeeehfnldkjlaaGreatDoorTZ17
namespace Go.Proofs.YteeeehfnldkjlaaGreatDoor
open Go.RowKit

theorem filterMap_same {α β : Type} {f g : α → Option β} : ∀ {l : List α}, (∀ a ∈ l, f a = g a) → l.filterMap f = l.filterMap g
  | [], _ => rfl
  | a :: l, h => by
    rw [List.filterMap_cons, List.filterMap_cons, h a (List.mem_cons_self ..), filterMap_same fun b hb => h b (List.mem_cons_of_mem _ hb)]
def apP (i : Nat) : Pth := [102, UInt8.ofNat (97 + i)]
def apF (i : Nat) : FileD := ⟨apP i, 1, [UInt8.ofNat (48 + i), 10]⟩
def apC (i : Nat) : FileD := ⟨apP i, 1, [UInt8.ofNat (48 + i), 10, UInt8.ofNat (65 + i), 10]⟩
def apO (h i : Nat) : Option FileD := if h = 2 then none else some (if h = 1 then apC i else apF i)
def apT (h i : Nat) : Option FileD := if h = 4 then none else some (if h = 3 then apC i else apF i)
def apW (h i : Nat) : Option FileD := if h = 2 ∨ h = 4 then none else some (if h = 1 ∨ h = 3 then apC i else apF i)
/-- What a side, or the answer, has of the first n files. -/
def apL (g : Nat → Nat → Option FileD) (H : List Nat) (n : Nat) : List FileD := (List.range n).filterMap fun i => g (H.getD i 0) i
def apB (n : Nat) : List FileD := (List.range n).map apF
theorem ap_lt : ∀ j < 26, ∀ i < j, apP i < apP j := by decide +kernel
theorem ap_nm : ∀ i < 26, ¬ (8 < (nmP (apP i)).length ∨ (nmP (apP i)).any (fun s => !nameOk s) = true) := by decide +kernel
theorem ap_dirs : ∀ i < 26, dirsP (apP i) = [] := by decide +kernel
theorem ap_idx : ∀ i < 26, ((apP i).getD 1 0).toNat - 97 = i := by decide +kernel
theorem ap_fileE {y : FileD} {i : Nat} (hi : i < 26) (h1 : y.p = apP i) (h2 : y.k = 1) (h3 : y.d.length ≤ 4) : fileE y = 0 := by
  unfold fileE
  rw [h1, h2, if_neg (by decide), if_neg (ap_nm i hi), if_neg (by omega)]
theorem ap_check {G : Nat → Option FileD} {n : Nat} (hn : n < 26) (hG : ∀ i, i < n → ∀ y, G i = some y → y.p = apP i ∧ y.k = 1 ∧ y.d.length ≤ 4) : checkT ((List.range n).filterMap G) = 0 := by
  have hm : ∀ f ∈ (List.range n).filterMap G, ∃ i, i < n ∧ f.p = apP i ∧ f.k = 1 ∧ f.d.length ≤ 4 := fun f hf => by
    obtain ⟨i, hi, e⟩ := List.mem_filterMap.1 hf
    exact ⟨i, List.mem_range.1 hi, hG i (List.mem_range.1 hi) f e⟩
  have hr : ∀ m, m ≤ n → RiseP (((List.range m).filterMap G).map (·.p)) := by
    intro m
    induction m with
    | zero => exact fun _ => List.Pairwise.nil
    | succ m ih =>
      intro hm'
      unfold RiseP at ih ⊢
      rw [List.range_succ, List.filterMap_append, List.map_append, List.pairwise_append]
      refine ⟨ih (by omega), ?_, fun a ha b hb => ?_⟩
      · cases h : G m with
        | none => simp [h]
        | some y => simp [h]
      · obtain ⟨x, hx, rfl⟩ := List.mem_map.1 ha
        obtain ⟨i, hi, e⟩ := List.mem_filterMap.1 hx
        obtain ⟨y, hy, rfl⟩ := List.mem_map.1 hb
        obtain ⟨j, hj, e2⟩ := List.mem_filterMap.1 hy
        have hi := List.mem_range.1 hi
        have hj : j = m := List.mem_singleton.1 hj
        subst hj
        rw [(hG i (by omega) x e).1, (hG j (by omega) y e2).1]
        exact ap_lt j (by omega) i hi
  have hl : ((List.range n).filterMap G).length ≤ n := Nat.le_trans (List.length_filterMap_le _ _) (by simp)
  have ht : TreeOk ((List.range n).filterMap G) := ⟨fun f hf => by obtain ⟨i, hi, h1, h2, h3⟩ := hm f hf; exact ap_fileE (by omega) h1 h2 h3, hr n (Nat.le_refl _), fun f hf g _ => by
    obtain ⟨i, hi, h1, _⟩ := hm f hf
    rw [h1, ap_dirs i (by omega)]
    simp⟩
  exact checkT_of ht (by omega) (crowd_small ht (by omega))
theorem ap_ne (i : Nat) : apC i ≠ apF i := fun h => by
  have := congrArg (fun f => f.d.length) h
  simp [apC, apF] at this
theorem apO_some {h i : Nat} {y : FileD} (e : apO h i = some y) : y.p = apP i ∧ y.k = 1 ∧ y.d.length ≤ 4 := by
  unfold apO at e
  split at e
  · cases e
  · injection e with e
    subst e
    split <;> exact ⟨rfl, rfl, by simp [apC, apF]⟩
theorem apT_some {h i : Nat} {y : FileD} (e : apT h i = some y) : y.p = apP i ∧ y.k = 1 ∧ y.d.length ≤ 4 := by
  unfold apT at e
  split at e
  · cases e
  · injection e with e
    subst e
    split <;> exact ⟨rfl, rfl, by simp [apC, apF]⟩
theorem apW_some {h i : Nat} {y : FileD} (e : apW h i = some y) : y.p = apP i ∧ y.k = 1 ∧ y.d.length ≤ 4 := by
  unfold apW at e
  split at e
  · cases e
  · injection e with e
    subst e
    split <;> exact ⟨rfl, rfl, by simp [apC, apF]⟩
theorem ap_want (h i : Nat) : (if apO h i = some (apF i) then apT h i else apO h i) = apW h i := by
  have hn := ap_ne i
  unfold apO apT apW
  by_cases q1 : h = 1
  · subst q1
    simp [hn]
  · by_cases q2 : h = 2
    · subst q2
      simp
    · by_cases q3 : h = 3
      · subst q3
        simp
      · by_cases q4 : h = 4
        · subst q4
          simp
        · simp [q1, q2, q3, q4]
theorem ap_base (n : Nat) : apB n = (List.range n).filterMap fun i => some (apF i) := by
  unfold apB
  rw [← List.filterMap_eq_map]
  rfl
/-- What comes of it. -/
theorem ap_merge {H : List Nat} {n : Nat} (hn : n < 26) : treemergeP (apB n) (apL apO H n) (apL apT H n) = .ok (apL apW H n, []) := by
  let ix : FileD → Nat := fun f => (f.p.getD 1 0).toNat - 97
  have hix : ∀ i, i < n → ix (apF i) = i := fun i hi => ap_idx i (by omega)
  have via : ∀ g : Nat → Nat → Option FileD, (apB n).filterMap (fun f => g (H.getD (ix f) 0) (ix f)) = apL g H n := fun g => by
    unfold apB apL
    rw [List.filterMap_map]
    refine filterMap_same fun i hi => ?_
    show g (H.getD (ix (apF i)) 0) (ix (apF i)) = _
    rw [hix i (List.mem_range.1 hi)]
  have mem : ∀ f ∈ apB n, ∃ i, i < n ∧ f = apF i := fun f hf => by
    obtain ⟨i, hi, rfl⟩ := List.mem_map.1 hf
    exact ⟨i, List.mem_range.1 hi, rfl⟩
  have vw : (apB n).filterMap (wantP (fun f => apO (H.getD (ix f) 0) (ix f)) fun f => apT (H.getD (ix f) 0) (ix f)) = apL apW H n := by
    rw [← via apW]
    refine filterMap_same fun f hf => ?_
    obtain ⟨i, hi, rfl⟩ := mem f hf
    unfold wantP
    simp only [hix i hi]
    exact ap_want _ _
  have cO : checkT (apL apO H n) = 0 := ap_check hn fun i _ y e => apO_some e
  have cT : checkT (apL apT H n) = 0 := ap_check hn fun i _ y e => apT_some e
  have cW : checkT (apL apW H n) = 0 := ap_check hn fun i _ y e => apW_some e
  have cB : checkT (apB n) = 0 := by
    rw [ap_base]
    exact ap_check hn fun i _ y e => by injection e with e; subst e; exact ⟨rfl, rfl, by simp [apF]⟩
  have h := merge_apart (base := apB n) (F := fun f => apO (H.getD (ix f) 0) (ix f)) (G := fun f => apT (H.getD (ix f) 0) (ix f)) cB (by rw [via apO]; exact cO) (by rw [via apT]; exact cT) (by rw [vw]; exact cW)
    (fun f hf y e => by obtain ⟨i, hi, rfl⟩ := mem f hf; simp only [hix i hi] at e; exact (apO_some e).1) (fun f hf y e => by obtain ⟨i, hi, rfl⟩ := mem f hf; simp only [hix i hi] at e; exact (apT_some e).1)
    (fun f hf => by
      obtain ⟨i, hi, rfl⟩ := mem f hf
      simp only [hix i hi]
      unfold apO apT
      by_cases q1 : H.getD i 0 = 1
      · right; rw [q1]; rfl
      · by_cases q2 : H.getD i 0 = 2
        · right; rw [q2]; rfl
        · left; rw [if_neg q2, if_neg q1])
  rw [via apO, via apT, vw] at h
  exact h
theorem apL_succ (g : Nat → Nat → Option FileD) (H : List Nat) (n : Nat) : apL g H (n + 1) = apL g H n ++ (g (H.getD n 0) n).toList := by
  unfold apL
  rw [List.range_succ, List.filterMap_append]
  congr 1
theorem apB_succ (n : Nat) : apB (n + 1) = apB n ++ [apF n] := by
  unfold apB
  rw [List.range_succ, List.map_append]
  rfl
end Go.Proofs.YteeeehfnldkjlaaGreatDoor
