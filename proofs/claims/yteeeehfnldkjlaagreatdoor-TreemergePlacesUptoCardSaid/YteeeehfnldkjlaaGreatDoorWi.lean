/-
 Plain: what comes to one place, and a file where a directory comes. No statement of the seat is proved here.
-/
import Derived.Test.YteeeehfnldkjlaaGreatDoorWq
import Derived.Test.YteeeehfnldkjlaaGreatDoorTZ17
namespace Go.Proofs.YteeeehfnldkjlaaGreatDoor

theorem one_of_mem {l : List FileD} {b : FileD} (hn : (l.map (·.p)).Nodup) (hm : ∀ f, f ∈ l ↔ f = b) : l = [b] := by
 match l, hn, hm with
 | [], _, hm => exact absurd ((hm b).2 rfl) (by simp)
 | [f], _, hm => rw [(hm f).1 (by simp)]
 | f :: g :: l, hn, hm =>
  rw [(hm f).1 (by simp), (hm g).1 (by simp)] at hn
  simp at hn
theorem detect_one {l : List ChangeD} {b x : FileD} (g1 : goneP l = [b]) (g2 : comeP l = [x]) (hd : x.d = b.d) : detectP l = [⟨b.p, x.p, 100⟩] := by
 unfold detectP
 simp only
 rw [g1, g2]
 have e : exactP [b] [x] = ([⟨b.p, x.p, 100⟩], [], []) := by
  rw [exactP]
  have hbest : bestP b [x] 0 none = some (0, x) := by
   unfold bestP
   simp [bestP, betterP, hd]
  simp only [hbest]
  rfl
 rw [e]
 have e2 : likelyP [] [] = [] := by unfold likelyP; split <;> rfl
 simp only
 rw [e2]
 rfl
theorem detect_pair {base l : List FileD} {b x : FileD} (tb : TreeOk base) (tl : TreeOk l) (h1 : ∀ f, (f ∈ base ∧ hasF l f.p = false ∧ countsP f = true) ↔ f = b) (h2 : ∀ f, (f ∈ l ∧ hasF base f.p = false ∧ countsP f = true) ↔ f = x) (hd : x.d = b.d) : detectP (diffT base l) = [⟨b.p, x.p, 100⟩] := by
 have hr := rise_nodup (diffT_rise (a := base) (b := l) tb.kinds)
 exact detect_one (one_of_mem (hr.sublist (gone_sub _)) fun f => by rw [mem_goneP tb.apt tb.kinds tl.kinds]; exact h1 f) (one_of_mem (hr.sublist (come_sub _)) fun f => by rw [mem_comeP tl.apt tb.kinds tl.kinds]; exact h2 f) hd
theorem detect_kept {base l : List FileD} (tb : TreeOk base) (tl : TreeOk l) (h : ∀ f ∈ base, hasF l f.p = true) : detectP (diffT base l) = [] := by
 refine detect_gone ?_
 rw [List.eq_nil_iff_forall_not_mem]
 intro f hf
 rw [mem_goneP tb.apt tb.kinds tl.kinds] at hf
 rw [h f hf.1] at hf
 cases hf.2.1
/-- Of a fold, where one thing alone has something below it. -/
theorem aside_one {l : List FileD} {c : List ClashD} {j : Nat} {f : FileD} (hj : l[j]? = some f) (hb : 0 < belowN l f.p) (ho : ∀ i g, i ≠ j → l[i]? = some g → belowN l g.p = 0) : ∀ n : Nat, n ≤ l.length → (List.range n).foldl asideS (l, c) = if n ≤ j then (l, c) else (moveP l j (nextF l true f.p), c ++ [⟨f.p, 6⟩])
 | 0, _ => by simp
 | n + 1, hn => by
  rw [range_fold, aside_one hj hb ho n (by omega)]
  rcases Nat.lt_trichotomy n j with q | q | q
  · rw [if_pos (by omega), if_pos (by omega)]
    have hg : l[n]? = some (l[n]'(by omega)) := List.getElem?_eq_getElem _
    rw [asideS_some hg, if_neg (by rw [ho n _ (by omega) hg]; omega)]
  · subst q
    rw [if_pos (Nat.le_refl _), if_neg (by omega), asideS_some hj, if_pos hb]
  · rw [if_neg (by omega), if_neg (by omega)]
    have hg : l[n]? = some (l[n]'(by omega)) := List.getElem?_eq_getElem _
    have hg' : (moveP l j (nextF l true f.p))[n]? = some (l[n]'(by omega)) := by
     unfold moveP
     rw [List.getElem?_modify, hg]
     have : j ≠ n := by omega
     simp [this]
    rw [asideS_some hg', if_neg (by rw [belowN_move hj, ho n _ (by omega) hg]; omega)]
theorem next_tilde {l : List FileD} {b : Bool} {p : Pth} (h : freeP l b (p ++ [126]) = true) : nextF l b p = p ++ [126] := by
 unfold nextF
 cases (l.map fun f => f.p.length).sum with
 | zero => rfl
 | succ n => rw [nextP, if_pos h]
theorem flat_dirs : ∀ (p cur : Pth), (47 : UInt8) ∉ p → dirsFrom cur p = []
 | [], _, _ => rfl
 | x :: p, cur, h => by
  unfold dirsFrom
  rw [if_neg fun e => h (by rw [e]; exact List.mem_cons_self ..)]
  exact flat_dirs p _ fun q => h (List.mem_cons_of_mem _ q)
theorem flat_names : ∀ (p cur : Pth), (47 : UInt8) ∉ p → nmFrom cur p = [cur ++ p]
 | [], cur, _ => by simp [nmFrom]
 | x :: p, cur, h => by
  unfold nmFrom
  rw [if_neg fun e => h (by rw [e]; exact List.mem_cons_self ..), flat_names p _ fun q => h (List.mem_cons_of_mem _ q)]
  simp
/-- A file at a name. -/
theorem flat_file {p : Pth} {k : Int} {d : List UInt8} (h : (47 : UInt8) ∉ p) (hn : nameOk p = true) (hk : k = 1 ∨ k = 2 ∨ k = 3) (hd : d.length ≤ 65536) : fileE ⟨p, k, d⟩ = 0 := by
 unfold fileE
 rw [if_neg (by simp only; omega)]
 have e : nmP p = [p] := by
  unfold nmP
  rw [flat_names p [] h, List.nil_append]
 rw [if_neg (by simp only [e]; simp [hn]), if_neg (by simp only; omega)]
theorem sort_tree {l : List FileD} (ha : Apt l) (hf : ∀ f ∈ l, fileE f = 0) (hd : ∀ f ∈ l, ∀ g ∈ l, g.p ∉ dirsP f.p) (hl : l.length ≤ 64) : checkT (sortF l) = 0 := by
 have m : ∀ f, f ∈ sortF l ↔ f ∈ l := fun f => (sortF_perm l).mem_iff
 have ht : TreeOk (sortF l) := ⟨fun f h => hf f ((m f).1 h), sortF_rise ha, fun f h g k => hd f ((m f).1 h) g ((m g).1 k)⟩
 exact checkT_of ht (by rw [sortF_len]; omega) (crowd_small ht (by rw [sortF_len]; exact hl))
end Go.Proofs.YteeeehfnldkjlaaGreatDoor
