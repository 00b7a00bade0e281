/-
  The law walk of TreeDiffs. No statement of the seat is proved here.
-/
import Derived.Test.YtbaapjlmpmpocaaGreatDoorDl
import Derived.Test.YtbaapjlmpmpocaaGreatDoorDT35
import Derived.Test.YtbaapjlmpmpocaaGreatDoorDTGe
import Derived.Test.YtbaapjlmpmpocaaGreatDoorDT17
import Derived.Test.YtbaapjlmpmpocaaGreatDoorDTId
import Derived.Test.YtbaapjlmpmpocaaGreatDoorDTVl
import Derived.Deep.RegionHeld3
namespace Go.Proofs.YtbaapjlmpmpocaaGreatDoor
open Go.RowKit Go.Maps

theorem mem_insG {f g : FileD} : ∀ {l : List FileD}, g ∈ insG f l ↔ g = f ∨ g ∈ l
  | [] => by simp [insG]
  | x :: l => by
    unfold insG
    split
    · rw [List.mem_cons, List.mem_cons, mem_insG (l := l)]
      constructor
      · rintro (h | h | h)
        · exact .inr (.inl h)
        · exact .inl h
        · exact .inr (.inr h)
      · rintro (h | h | h)
        · exact .inr (.inl h)
        · exact .inl h
        · exact .inr (.inr h)
    · rw [List.mem_cons]
theorem insG_rise {f : FileD} : ∀ {l : List FileD}, RiseP (l.map (·.p)) → (∀ g ∈ l, g.p ≠ f.p) → RiseP ((insG f l).map (·.p))
  | [], _, _ => by simp [insG, RiseP]
  | x :: l, h, hn => by
    unfold RiseP at h ⊢
    rw [List.map_cons, List.pairwise_cons] at h
    unfold insG
    split
    · rename_i hl
      rw [List.map_cons, List.pairwise_cons]
      refine ⟨fun y hy => ?_, insG_rise h.2 fun g hg => hn g (List.mem_cons_of_mem _ hg)⟩
      obtain ⟨g, hg, rfl⟩ := List.mem_map.1 hy
      rcases mem_insG.1 hg with rfl | hg
      · exact hl
      · exact h.1 _ (List.mem_map.2 ⟨g, hg, rfl⟩)
    · rename_i hl
      have hfx : f.p < x.p := by
        rcases pth_tri f.p x.p with q | q | q
        · exact q
        · exact absurd q.symm (hn x (List.mem_cons_self ..))
        · exact absurd q hl
      rw [List.map_cons, List.map_cons, List.pairwise_cons, List.pairwise_cons]
      refine ⟨fun y hy => ?_, h.1, h.2⟩
      rcases List.mem_cons.1 hy with rfl | hy
      · exact hfx
      · exact pth_trans hfx (h.1 y hy)
/-- Small trees. -/
structure GoodT (l : List FileD) : Prop where
  tree : TreeOk l
  data : ∀ f ∈ l, f.d.length ≤ 2000
theorem GoodT.nil_ : GoodT [] := ⟨⟨fun _ h => (by cases h), List.Pairwise.nil, fun _ h => (by cases h)⟩, fun _ h => (by cases h)⟩
theorem dirs_self (p : Pth) : p ∉ dirsP p := fun h => List.lt_irrefl _ (dirsP_lt h)
theorem GoodT.step {out : List FileD} (h : GoodT out) (f : FileD) : GoodT (goodStep out f) := by
  unfold goodStep
  split
  · exact h
  · rename_i h0
    split
    · rename_i hf
      unfold fitsG at hf
      rw [List.all_eq_true] at hf
      have hf' : ∀ g ∈ out, g.p ≠ (goodF f).p ∧ (goodF f).p ∉ dirsP g.p ∧ g.p ∉ dirsP (goodF f).p := fun g hg => by
        have := hf g hg
        simp only [Bool.and_eq_true, bne_iff_ne, Bool.not_eq_true', belowB, List.contains_eq_mem, decide_eq_false_iff_not] at this
        exact ⟨this.1.1, this.1.2, this.2⟩
      refine ⟨⟨fun g hg => ?_, insG_rise h.tree.rise fun g hg => (hf' g hg).1, fun g hg k hk => ?_⟩, fun g hg => ?_⟩
      · rcases mem_insG.1 hg with rfl | hg
        · exact Decidable.not_not.1 h0
        · exact h.tree.file g hg
      · rcases mem_insG.1 hg with rfl | hg
        · rcases mem_insG.1 hk with rfl | hk
          · exact dirs_self _
          · exact (hf' k hk).2.2
        · rcases mem_insG.1 hk with rfl | hk
          · exact (hf' g hg).2.1
          · exact h.tree.apart g hg k hk
      · rcases mem_insG.1 hg with rfl | hg
        · unfold goodF; simp only [List.length_take]; omega
        · exact h.data g hg
    · exact h
theorem good_fold : ∀ (l out : List FileD), GoodT out → GoodT (l.foldl goodStep out) ∧ (l.foldl goodStep out).length ≤ out.length + l.length
  | [], out, h => ⟨h, by simp⟩
  | f :: l, out, h => by
    have hs : (goodStep out f).length ≤ out.length + 1 := by
      unfold goodStep
      split
      · omega
      · split
        · rw [insG_len]; omega
        · omega
    obtain ⟨h1, h2⟩ := good_fold l _ (h.step f)
    refine ⟨h1, ?_⟩
    rw [List.foldl_cons, List.length_cons]
    omega
theorem goodP_good (l : List FileD) : GoodT (goodP l) ∧ (goodP l).length ≤ 40 := by
  obtain ⟨h1, h2⟩ := good_fold (l.take 40) [] GoodT.nil_
  refine ⟨h1, ?_⟩
  unfold goodP
  rw [List.length_nil, Nat.zero_add, List.length_take] at h2
  omega
theorem crowd_small {l : List FileD} (h : TreeOk l) (hl : l.length ≤ 64) : crowdP l = false := by
  unfold crowdP
  rw [List.any_eq_false]
  intro e _ q
  simp only [decide_eq_true_eq] at q
  unfold namesOf at q
  have h1 := keysP_len (((entsP l).filter fun x => x.1 == e.1).map (·.2))
  have h2 := List.length_filter_le (fun x => x.1 == e.1) (entsP l)
  have h3 := entsP_len h.file
  rw [List.length_map] at h1
  omega
theorem good_check {l : List FileD} (h : GoodT l) (hl : l.length ≤ 64) : checkT l = 0 := checkT_of h.tree (by omega) (crowd_small h.tree hl)
theorem nmFrom_short : ∀ (p cur : Pth), (∀ s ∈ nmFrom cur p, s.length ≤ 40) → cur.length + p.length + 1 ≤ (nmFrom cur p).length * 41
  | [], cur, h => by
    have := h cur (by unfold nmFrom; exact List.mem_singleton.2 rfl)
    unfold nmFrom
    simp only [List.length_nil, List.length_cons]
    omega
  | x :: p, cur, h => by
    unfold nmFrom at h ⊢
    split at h
    · rename_i hx
      rw [if_pos hx]
      have h1 := h cur List.mem_cons_self
      have h2 := nmFrom_short p [] fun s hs => h s (List.mem_cons_of_mem _ hs)
      simp only [List.length_nil, List.length_cons] at h2 ⊢
      omega
    · rename_i hx
      rw [if_neg hx]
      have h2 := nmFrom_short p (cur ++ [x]) h
      simp only [List.length_append, List.length_cons, List.length_nil] at h2 ⊢
      omega
theorem fileE_short {f : FileD} (h : fileE f = 0) : f.p.length ≤ 1000000 := by
  obtain ⟨_, _, h8, hn⟩ := fileE_kind h
  have := nmFrom_short f.p [] fun s hs => by
    have := hn s hs
    unfold nameOk at this
    simp only [Bool.and_eq_true, decide_eq_true_eq] at this
    exact this.2.1
  unfold nmP at h8
  simp only [List.length_nil] at this
  omega
theorem good_paths (l : List FileD) : ∀ f ∈ goodP l, f.p.length ≤ 1000000 := fun f hf => fileE_short ((goodP_good l).1.tree.file f hf)
theorem goodP_ok (l : List FileD) : checkT (goodP l) = 0 := good_check (goodP_good l).1 (Nat.le_trans (goodP_good l).2 (by decide))
theorem diffT_self {a : List FileD} : diffT a a = [] := by
  unfold diffT
  rw [List.filterMap_eq_nil_iff]
  intro p _
  unfold changeP
  rw [if_neg (by simp)]
/-! ### The changes done, step by step -/
/-- What was done of the changes, at the law's two counters. -/
def DoAt (a : List FileD) (x : List ChangeD) (b : List FileD) (i k : Nat) (pre : List FileD) : Prop := (doP (a.drop i) (x.drop k)).map (pre ++ ·) = some b
theorem drop_at {α : Type} {l : List α} {i : Nat} {x : α} (h : l[i]? = some x) : l.drop i = x :: l.drop (i + 1) := by rw [List.drop_eq_getElem?_toList_append, h]; rfl
theorem map_app {o : Option (List FileD)} {pre y b : List FileD} (h : (o.map (y ++ ·)).map (pre ++ ·) = some b) : o.map ((pre ++ y) ++ ·) = some b := by
  cases o with
  | none => cases h
  | some l => simpa using h
theorem do_new {a b pre : List FileD} {x : List ChangeD} {i k : Nat} {c : ChangeD} (hc : x[k]? = some c) (h0 : c.old.k = 0) (hi : a.length ≤ i ∨ ∃ f, a[i]? = some f ∧ c.new.p < f.p) (h : DoAt a x b i k pre) : DoAt a x b i (k + 1) (pre ++ [c.new]) := by
  unfold DoAt at h ⊢
  rw [drop_at hc] at h
  rcases hi with hi | ⟨f, hf, hl⟩
  · rw [List.drop_eq_nil_of_le hi, doP, if_pos h0] at h
    rw [List.drop_eq_nil_of_le hi]
    exact map_app (y := [c.new]) h
  · rw [drop_at hf, doP, if_pos ⟨h0, hl⟩] at h
    rw [drop_at hf]
    exact map_app (y := [c.new]) h
theorem do_bad {a b pre : List FileD} {x : List ChangeD} {i k : Nat} {c : ChangeD} (hi : a.length ≤ i) (hc : x[k]? = some c) (h0 : c.old.k ≠ 0) (h : DoAt a x b i k pre) : False := by
  unfold DoAt at h
  rw [drop_at hc, List.drop_eq_nil_of_le hi, doP, if_neg h0] at h
  cases h
theorem do_gone {a b pre : List FileD} {x : List ChangeD} {i k : Nat} {f : FileD} {c : ChangeD} (hf : a[i]? = some f) (hc : x[k]? = some c) (hn : ¬ (c.old.k = 0 ∧ c.new.p < f.p)) (hp : c.old.p = f.p) (h9 : c.new.k = 0) (h : DoAt a x b i k pre) : DoAt a x b (i + 1) (k + 1) pre := by
  unfold DoAt at h ⊢
  rw [drop_at hc, drop_at hf, doP, if_neg hn, if_pos hp, if_neg (by simp [h9])] at h
  have := map_app (y := []) h
  rwa [List.append_nil] at this
theorem do_turn {a b pre : List FileD} {x : List ChangeD} {i k : Nat} {f : FileD} {c : ChangeD} (hf : a[i]? = some f) (hc : x[k]? = some c) (hn : ¬ (c.old.k = 0 ∧ c.new.p < f.p)) (hp : c.old.p = f.p) (h9 : c.new.k ≠ 0) (h : DoAt a x b i k pre) : DoAt a x b (i + 1) (k + 1) (pre ++ [c.new]) := by
  unfold DoAt at h ⊢
  rw [drop_at hc, drop_at hf, doP, if_neg hn, if_pos hp, if_pos h9] at h
  exact map_app (y := [c.new]) h
theorem do_stay {a b pre : List FileD} {x : List ChangeD} {i k : Nat} {f : FileD} (hf : a[i]? = some f) (hc : x.length ≤ k ∨ ∃ c, x[k]? = some c ∧ ¬ (c.old.k = 0 ∧ c.new.p < f.p) ∧ c.old.p ≠ f.p) (h : DoAt a x b i k pre) : DoAt a x b (i + 1) k (pre ++ [f]) := by
  unfold DoAt at h ⊢
  rw [drop_at hf] at h
  rcases hc with hc | ⟨c, hc, hn, hp⟩
  · rw [List.drop_eq_nil_of_le hc, doP] at h
    rw [List.drop_eq_nil_of_le hc]
    exact map_app (y := [f]) h
  · rw [drop_at hc, doP, if_neg hn, if_neg hp] at h
    rw [drop_at hc]
    exact map_app (y := [f]) h
theorem do_end {a b pre : List FileD} {x : List ChangeD} (h : DoAt a x b a.length x.length pre) : pre = b := by
  unfold DoAt at h
  rw [List.drop_length, List.drop_length, doP] at h
  simpa using h
theorem plainly_of {l : List FileD} (h : TreeOk l) : Plainly l := fun f hf => by
  obtain ⟨hk, _, _, hn⟩ := fileE_kind (h.file f hf)
  refine ⟨by rcases hk with q | q | q <;> rw [q] <;> decide, fun q => ?_⟩
  have := hn [] (by rw [q]; exact List.mem_singleton.2 rfl)
  exact absurd this (by decide)
theorem diff_len9 (a b : List FileD) : (diffT a b).length ≤ a.length + b.length := by
  unfold diffT
  have h1 := List.length_filterMap_le (fun p => changeP (getF a p) (getF b p)) (keysP (a.map (·.p) ++ b.map (·.p)))
  have h2 := keysP_len (a.map (·.p) ++ b.map (·.p))
  rw [List.length_append, List.length_map, List.length_map] at h2
  omega
theorem good_doat (a b : List FileD) : DoAt (goodP a) (diffT (goodP a) (goodP b)) (goodP b) 0 0 [] := by
  have ta := (goodP_good a).1.tree
  have tb := (goodP_good b).1.tree
  unfold DoAt
  rw [List.drop_zero, List.drop_zero, do_diffT ta.rise tb.rise ta.kinds tb.kinds (plainly_of ta) (plainly_of tb)]
  rfl
theorem good_pure (a b : List FileD) : rdiffP (goodP a) (goodP b) = diffT (goodP a) (goodP b) := rdiff_diff _ _ (goodP_good a).1.tree.rise (goodP_good b).1.tree.rise (goodP_good a).1.tree.kinds (goodP_good b).1.tree.kinds
theorem CR.ci {w : World} {z B : Nat} {A : Option Addr} {c : Nat} {l : List ChangeD} (h : CR w z B A c l) (hB : B ≤ w.heap.size) : CI w w.heap.size A l := by
  obtain ⟨tv, h1, h2, h3⟩ := h
  exact ⟨tv, h1, h2.reads, fun k x y e1 e2 => ⟨(h3 k x y e1 e2).1.more hB, (h3 k x y e1 e2).2.more hB⟩⟩
theorem CI.more {w : World} {B B' : Nat} {A : Option Addr} {l : List ChangeD} (h : CI w B A l) (hB : B ≤ B') : CI w B' A l := by
  obtain ⟨tv, h1, h2, h3⟩ := h
  exact ⟨tv, h1, h2.more hB, fun k x y e1 e2 => ⟨(h3 k x y e1 e2).1.more hB, (h3 k x y e1 e2).2.more hB⟩⟩
theorem chg_at {w : World} {B : Nat} {A : Option Addr} {l : List ChangeD} (h : CI w B A l) {k : Nat} {x : ChangeD} (hk : l[k]? = some x) : ∃ g off oA oc nA nc, A = some ⟨g, off, none⟩ ∧ g < B ∧
    (∀ j u, (chgV x (.slice oA x.old.d.length oc, .slice nA x.new.d.length nc))[j]? = some u → w.cell? ⟨g, off + k * 6 + j, none⟩ = some u) ∧
    DataR w B x.old (.slice oA x.old.d.length oc) ∧ DataR w B x.new (.slice nA x.new.d.length nc) := by
  obtain ⟨tv, h1, h2, h3⟩ := h
  have hlt : k < l.length := (List.getElem?_eq_some_iff.1 hk).1
  obtain ⟨y, hy⟩ : ∃ y, tv[k]? = some y := ⟨_, List.getElem?_eq_getElem (by omega)⟩
  obtain ⟨⟨oA, oc, e1, o1, o2, o3⟩, ⟨nA, nc, e2, n1, n2, n3⟩⟩ := h3 k x y hk hy
  obtain ⟨g, off, rfl, hg, hc⟩ := h2.at0 (by omega) (by omega)
  obtain ⟨y1, y2⟩ := y
  simp only at e1 e2
  subst e1 e2
  refine ⟨g, off, oA, oc, nA, nc, rfl, hg, fun j u hj => ?_, ⟨oA, oc, rfl, o1, o2, o3⟩, ⟨nA, nc, rfl, n1, n2, n3⟩⟩
  rw [Nat.add_assoc]
  exact hc _ _ (chgL_at hk hy j u hj)
theorem slfc1 (x : FileD) (A : Option Addr) (c : Nat) (W : World) : (SlFl 1 #[(0, .agg (fileC x A c))]).run Tryz.prog W = .ok (.slice (some ⟨W.heap.size, 0, none⟩) 1 1) (W.alloc (.cells (fileC x A c) 27)) :=
  run_buildSlice1 elemFile zero_file rfl rfl (by omega) W
theorem same_self {x : FileD} {A C : Option Addr} {c d B : Nat} {w : World} (hB : B ≤ w.heap.size) (h1 : DataR w B x (.slice A x.d.length c)) (h2 : DataR w B x (.slice C x.d.length d)) :
    Calls Tryz.prog 13 #[.agg (fileC x A c), .agg (fileC x C d)] w fun e w' => e = .returned (.bool true) ∧ Below w.heap.size w w' := by
  obtain ⟨A', c', e, _, _, r1⟩ := h1
  injection e with e _ e1
  subst e e1
  obtain ⟨C', d', e, _, _, r2⟩ := h2
  injection e with e _ e1
  subst e e1
  have := same_any x x A C c d B w hB r1 r2
  rwa [sameB_eq, decide_eq_true rfl] at this
attribute [local go_sem] run_eql_strC run_neq_strC eqGuard_strC neGuard_strC slfc1
attribute [local go_sem ↓] ld_f sl_fl
set_option maxHeartbeats 16000000 in
set_option maxRecDepth 100000 in
theorem diffs_law (a0 b0 : List FileD) (A1 A2 : Option Addr) (c1 c2 B : Nat) (w : World) (hB : B ≤ w.heap.size) (h1 : FI w B A1 a0) (h2 : FI w B A2 b0) (hv : VarM w) (l1 : ∀ f ∈ a0, f.p.length ≤ 100000000) (l2 : ∀ f ∈ b0, f.p.length ≤ 100000000) :
    Calls Tryz.prog 4 #[.slice A1 a0.length c1, .slice A2 b0.length c2] w fun e w' => e = .returned (.bool true) ∧ Below w.heap.size w w' := by
  obtain ⟨z0, hz⟩ : ∃ z, w.heap.size = z := ⟨_, rfl⟩
  have HK := Lib.hid (known15_any w hv)
  have HG1 := Lib.hid (fun W (k : Below w.heap.size w W) => good_any a0 A1 c1 B W (Nat.le_trans hB k.size) (h1.below (k.mono hB)) l1)
  have HG2 := Lib.hid (fun W (k : Below w.heap.size w W) => good_any b0 A2 c2 B W (Nat.le_trans hB k.size) (h2.below (k.mono hB)) l2)
  have HDO := Lib.hid (good_doat a0 b0)
  have HTA := Lib.hid (goodP_good a0)
  have HTB := Lib.hid (goodP_good b0)
  have HCA := Lib.hid (checkT_fits (goodP_ok a0))
  have HCB := Lib.hid (checkT_fits (goodP_ok b0))
  have HPU := Lib.hid (good_pure a0 b0)
  rw [hz] at HK HG1 HG2
  generalize goodP a0 = a at *
  generalize goodP b0 = b at *
  rw [hz]
  clear h1 h2 l1 l2 hv
  have HZ := Lib.hid hz
  clear hz
  go_enter Tryz.func4, Tryz.ntmps4
  go_upto_region 4 with (first
    | (go_at_call 5; (with_reducible refine HK.out.mono ?_); rintro _ w1 ⟨rfl, hb1⟩; have HB1 := Lib.hid hb1; clear hb1)
    | (go_at_call 9; (with_reducible refine (HG1.out w1 HB1.out).mono ?_); rintro _ w2 ⟨AB, cb, rfl, hf2, hb2⟩; have HF2 := Lib.hid hf2; have HB2 := Lib.hid (HB1.out.trans (hb2.mono (HZ.out ▸ HB1.out.size))); clear hf2 hb2)
    | (go_at_call 9; (with_reducible refine (HG2.out w2 HB2.out).mono ?_); rintro _ w3 ⟨AO, co, rfl, hf3, hb3⟩; have HF3 := Lib.hid hf3; have HF2' := Lib.hid ((HF2.out.below hb3).more hb3.size); have HB3 := Lib.hid (HB2.out.trans (hb3.mono (HZ.out ▸ HB2.out.size))); clear hf3 hb3))
  clear HK HG1 HG2 HB1 HF2 HB2
  have hz3 : z0 ≤ w3.heap.size := HZ.out ▸ HB3.out.size
  have hla : a.length ≤ 40 := HTA.out.2
  have hlb : b.length ≤ 40 := HTB.out.2
  obtain ⟨X, hX⟩ : ∃ X, diffT a b = X := ⟨_, rfl⟩
  have HAP := Lib.hid (And.intro HTA.out.1.tree.apt HTB.out.1.tree.apt)
  have HT1 := Lib.hid (fun W (k : Below w3.heap.size w3 W) => twin_any a AB cb w3.heap.size W k.size (HF2'.out.below k) (by omega) (fun f hf => Nat.le_trans (HTA.out.1.data f hf) (by decide)))
  have HT2 := Lib.hid (fun W (k : Below w3.heap.size w3 W) => twin_any b AO co w3.heap.size W k.size (HF3.out.below k) (by omega) (fun f hf => Nat.le_trans (HTB.out.1.data f hf) (by decide)))
  have HDF := Lib.hid (fun W A A' c c' (h : FI W W.heap.size A a) (h' : FI W W.heap.size A' b) => diffT_any a b A A' c c' W.heap.size W (Nat.le_refl _) h h' HAP.out.1 HAP.out.2 HCA.out HCB.out)
  have HRD := Lib.hid (fun W (k : Below w3.heap.size w3 W) => rdiff_any a b AB AO cb co w3.heap.size W k.size (HF2'.out.below k) (HF3.out.below k) (by omega) (by omega))
  have HDA := Lib.hid (fun W (k : Below w3.heap.size w3 W) => diffT_any a a AB AB cb cb w3.heap.size W k.size (HF2'.out.below k) (HF2'.out.below k) HAP.out.1 HAP.out.1 HCA.out HCA.out)
  unfold DiffTPost at HDF HDA
  rw [HPU.out] at HRD
  rw [hX] at HDF HRD HDO
  rw [diffT_self] at HDA
  have HXL := Lib.hid (show X.length ≤ 1000000 from by
    rw [← hX]; exact Nat.le_trans (diff_len9 a b) (by omega))
  clear hX HCA HCB
  go_upto_region 6 with (first
    | (go_at_call 11; (with_reducible refine (HT1.out w3 (Below.refl _ _)).mono ?_); rintro _ w4 ⟨A4, c4, rfl, hf4, hb4⟩; have HF4 := Lib.hid hf4; have HB4 := Lib.hid hb4; clear hf4 hb4)
    | (go_at_call 11; (with_reducible refine (HT2.out w4 HB4.out).mono ?_); rintro _ w5 ⟨A5, c5, rfl, hf5, hb5⟩; have HF5 := Lib.hid hf5; have HF4' := Lib.hid ((HF4.out.below hb5).more hb5.size); have HB5 := Lib.hid (HB4.out.trans (hb5.mono HB4.out.size)); clear hf5 hb5)
    | (go_at_call 10; (with_reducible refine (HDF.out w5 A4 A5 c4 c5 HF4'.out HF5.out).mono ?_); rintro _ w6 ⟨A6, c6, rfl, ho6, hb6⟩; have HC6 := Lib.hid ho6.reads; have HB6 := Lib.hid (HB5.out.trans (hb6.mono HB5.out.size)); clear ho6 hb6)
    | (go_at_call 12; (with_reducible refine (HRD.out w6 HB6.out).mono ?_); rintro _ w7 ⟨A7, c7, rfl, hr7, hb7⟩; have HC7 := Lib.hid (hr7.ci (Nat.le_trans HB6.out.size hb7.size)); have HC6' := Lib.hid ((HC6.out.below hb7).more hb7.size); have HB7 := Lib.hid (HB6.out.trans (hb7.mono HB6.out.size)); clear hr7 hb7))
  clear HT1 HT2 HDF HRD HF4 HF5 HF4' HB4 HB5 HC6 HB6
  obtain ⟨z, hz7⟩ : ∃ z, w7.heap.size = z := ⟨_, rfl⟩
  have hz37 : w3.heap.size ≤ z := hz7 ▸ HB7.out.size
  have HX := Lib.hid (fun W (k : Below z w7 W) => (hz7 ▸ HC6'.out : CI w7 z A6 X).below k)
  have HY := Lib.hid (fun W (k : Below z w7 W) => (hz7 ▸ HC7.out : CI w7 z A7 X).below k)
  have HA := Lib.hid (fun W (k : Below z w7 W) => ((HF2'.out.below HB7.out).more hz37).below k)
  have HBB := Lib.hid (fun W (k : Below z w7 W) => ((HF3.out.below HB7.out).more hz37).below k)
  have HDD := Lib.hid (fun W (k : Below z w7 W) => HDA.out W (HB7.out.trans (k.mono hz37)))
  have HBE := Lib.hid (fun W (k : Below z w7 W) => HB3.out.trans ((HB7.out.mono hz3).trans (k.mono (Nat.le_trans hz3 hz37))))
  have hxl := HXL.out
  clear HC6' HC7 HF2' HF3 HDA HB3 HB7 HTA HTB HAP HPU HXL
  have HZ7 := Lib.hid hz7
  clear hz7
  go_wp2_with fail
  go_loopw [7] (fun s7 wr => ∃ k : Nat, s7 = .int .i64 (k : Nat) ∧ k ≤ X.length ∧ Hid (Below z w7 wr)) (fun s7 _ => X.length - (intOf s7).toNat)
  case atStart => exact ⟨0, rfl, Nat.zero_le _, Lib.hid (Below.refl _ _)⟩
  case round =>
    obtain ⟨k, rfl, hk, HW⟩ := hrel
    by_cases hlt : k < X.length
    ·
      obtain ⟨c, hc⟩ : ∃ c, X[k]? = some c := ⟨_, List.getElem?_eq_getElem hlt⟩
      have k0 : (0 : Int) ≤ (k : Int) := by omega
      have k1 : (k : Int) < (X.length : Int) := by omega
      have hzw : z ≤ wr.heap.size := HZ7.out ▸ HW.out.size
      obtain ⟨gx, ox, oA, oc, nA, nc, rfl, hgx, hcx, hox, hnx⟩ := chg_at (HX.out wr HW.out) hc
      obtain ⟨gy, oy, pA, pc, mA, mc, rfl, hgy, hcy, hoy, hny⟩ := chg_at (HY.out wr HW.out) hc
      have hS : ∀ W, Below wr.heap.size wr W → (LdF (.pointer (some ⟨gx, ox + k * 6, none⟩))).run Tryz.prog W = .ok (.agg (fileC c.old oA oc)) W ∧ (LdF (.pointer (some ⟨gy, oy + k * 6, none⟩))).run Tryz.prog W = .ok (.agg (fileC c.old pA pc)) W ∧ (LdF (.pointer (some ⟨gx, ox + k * 6 + 3, none⟩))).run Tryz.prog W = .ok (.agg (fileC c.new nA nc)) W ∧ (LdF (.pointer (some ⟨gy, oy + k * 6 + 3, none⟩))).run Tryz.prog W = .ok (.agg (fileC c.new mA mc)) W := fun W kW => by
        have ex : ∀ j u, (chgV c (.slice oA c.old.d.length oc, .slice nA c.new.d.length nc))[j]? = some u → W.cell? ⟨gx, ox + k * 6 + j, none⟩ = some u := fun j u h => (kW.cell (p := ⟨gx, ox + k * 6 + j, none⟩) (by show gx < wr.heap.size; omega)).trans (hcx j u h)
        have ey : ∀ j u, (chgV c (.slice pA c.old.d.length pc, .slice mA c.new.d.length mc))[j]? = some u → W.cell? ⟨gy, oy + k * 6 + j, none⟩ = some u := fun j u h => (kW.cell (p := ⟨gy, oy + k * 6 + j, none⟩) (by show gy < wr.heap.size; omega)).trans (hcy j u h)
        exact ⟨file_ld (ex 0 _ rfl) (ex 1 _ rfl) (ex 2 _ rfl), file_ld (ey 0 _ rfl) (ey 1 _ rfl) (ey 2 _ rfl), file_ld (ex 3 _ rfl) (ex 4 _ rfl) (ex 5 _ rfl), file_ld (ey 3 _ rfl) (ey 4 _ rfl) (ey 5 _ rfl)⟩
      have HO1 := Lib.hid (fun W (kW : Below wr.heap.size wr W) => same_self (B := z) (Nat.le_trans hzw kW.size) (hox.below (kW.mono hzw)) (hoy.below (kW.mono hzw)))
      have HN1 := Lib.hid (fun W (kW : Below wr.heap.size wr W) => same_self (B := z) (Nat.le_trans hzw kW.size) (hnx.below (kW.mono hzw)) (hny.below (kW.mono hzw)))
      have HS := Lib.hid hS
      have HD1 := Lib.hid (show Below wr.heap.size wr wr.drew from ⟨rfl, rfl, rfl, Nat.le_refl _, fun _ _ => rfl⟩)
      obtain ⟨e0, e1, e2, e3⟩ := hS _ HD1.out
      clear hS hox hoy hnx hny hcx hcy hc
      go_upto_region 11 with fail
      go_region_held3 (fun W => (LdF (.pointer (some ⟨gx, ox + k * 6, none⟩))).run Tryz.prog W = .ok (.agg (fileC c.old oA oc)) W ∧ (LdF (.pointer (some ⟨gy, oy + k * 6, none⟩))).run Tryz.prog W = .ok (.agg (fileC c.old pA pc)) W ∧ (LdF (.pointer (some ⟨gx, ox + k * 6 + 3, none⟩))).run Tryz.prog W = .ok (.agg (fileC c.new nA nc)) W ∧ (LdF (.pointer (some ⟨gy, oy + k * 6 + 3, none⟩))).run Tryz.prog W = .ok (.agg (fileC c.new mA mc)) W) (first | (exact ⟨e0, e1, e2, e3⟩) | (exact ⟨t0, t1, t2, t3⟩) | (exact ⟨u0, u1, u2, u3⟩) | go_keep) (first
        | (go_simp; go_at_call 13; (with_reducible refine (HN1.out w8 HB8.out).mono ?_); rintro _ w9 ⟨rfl, hb9⟩; have HB9 := Lib.hid (HB8.out.trans (hb9.mono HB8.out.size)); obtain ⟨u0, u1, u2, u3⟩ := HS.out _ HB9.out; clear hb9)
        | (go_simp; go_at_call 13; (with_reducible refine (HO1.out wr.drew HD1.out).mono ?_); rintro _ w8 ⟨rfl, hb8⟩; have HB8 := Lib.hid (HD1.out.trans (hb8.mono HD1.out.size)); obtain ⟨t0, t1, t2, t3⟩ := HS.out _ HB8.out; clear hb8))
      all_goals
        go_wp2_with fail
        go_roundw
        case rel => exact ⟨k + 1, by go_num, hlt, Lib.hid (HW.out.trans (HB9.out.mono hzw))⟩
        case measure => simp [intOf]; omega
    · obtain rfl : k = X.length := by omega
      have hzw : z ≤ wr.heap.size := HZ7.out ▸ HW.out.size
      clear hlt hk
      go_wp2_with fail
      go_loopw [8, 9, 10] (fun s8 s9 s10 wx => ∃ (i k m : Nat) (C : Option Addr) (cc : Nat) (pre : List FileD), s8 = .slice C m cc ∧ s9 = .int .i64 (k : Nat) ∧ s10 = .int .i64 (i : Nat) ∧ i ≤ a.length ∧ k ≤ X.length ∧ m ≤ i + k ∧ Hid (m = pre.length) ∧ Hid (DoAt a X b i k pre) ∧ Hid (FO wx z z C cc pre) ∧ Hid (Below z w7 wx)) (fun _ s9 s10 _ => (X.length - (intOf s9).toNat) + (a.length - (intOf s10).toNat))
      case atStart => exact ⟨0, 0, 0, none, 0, [], rfl, rfl, rfl, Nat.zero_le _, Nat.zero_le _, Nat.le_refl _, Lib.hid rfl, HDO, Lib.hid (FO.nil_ _ _ _), HW⟩
      case round =>
      clear HW hzw
      obtain ⟨i, k, m, C, cc, pre, rfl, rfl, rfl, hi, hk, hm, HM, HD, HC, HW⟩ := hrel
      have hz1 : z ≤ wr.heap.size := HZ7.out ▸ HW.out.size
      obtain ⟨tv, ht1, ho, ht3⟩ := HC.out
      rw [← HM.out] at ho
      have HT := Lib.hid (And.intro ht1 ht3)
      have HO := Lib.hid ho
      clear ht1 ht3 ho
      have i0 : (0 : Int) ≤ (i : Int) := by omega
      have k0 : (0 : Int) ≤ (k : Int) := by omega
      by_cases hia : i < a.length
      · obtain ⟨f, hf⟩ : ∃ f, a[i]? = some f := ⟨_, List.getElem?_eq_getElem hia⟩
        have i1 : (i : Int) < (a.length : Int) := by omega
        have id : decide ((a.length : Int) ≤ (i : Int)) = false := decide_eq_false (by omega)
        obtain ⟨ga, oa, DA, dc, rfl, hga, _, x0, x1, x2, d1, d2, d3⟩ := (HA.out wr HW.out).at_ hf
        have q8 : wr.cell? ⟨ga, oa + i * 3, none⟩ = some (.string ⟨f.p.toArray⟩) := x0
        have q9 : (LdF (.pointer (some ⟨ga, oa + i * 3, none⟩))).run Tryz.prog wr = .ok (.agg (fileC f DA dc)) wr := file_ld x0 x1 x2
        have HDF := Lib.hid (show DataR wr z f (.slice DA f.d.length dc) from ⟨DA, dc, rfl, d1, d2, d3⟩)
        clear x0 x1 x2 d1 d2 d3
        by_cases hkx : k < X.length
        ·
          obtain ⟨c, hc⟩ : ∃ c, X[k]? = some c := ⟨_, List.getElem?_eq_getElem hkx⟩
          have k1 : (k : Int) < (X.length : Int) := by omega
          obtain ⟨gx, ox, oA, oc, nA, nc, rfl, hgx, hcx, _, hdn⟩ := chg_at (HX.out wr HW.out) hc
          have q1 : wr.cell? ⟨gx, ox + k * 6, none⟩ = some (.string ⟨c.old.p.toArray⟩) := hcx 0 _ rfl
          have q2 : wr.cell? ⟨gx, ox + k * 6 + 1, none⟩ = some (.int .i64 c.old.k) := hcx 1 _ rfl
          have q3 : wr.cell? ⟨gx, ox + k * 6 + 3, none⟩ = some (.string ⟨c.new.p.toArray⟩) := hcx 3 _ rfl
          have q4 : wr.cell? ⟨gx, ox + k * 6 + 3 + 1, none⟩ = some (.int .i64 c.new.k) := hcx 4 _ rfl
          have q5 : (LdF (.pointer (some ⟨gx, ox + k * 6 + 3, none⟩))).run Tryz.prog wr = .ok (.agg (fileC c.new nA nc)) wr := file_ld (hcx 3 _ rfl) (hcx 4 _ rfl) (hcx 5 _ rfl)
          have HDN := Lib.hid hdn
          clear hcx hdn
          have HFC := Lib.hid (And.intro hf hc)
          by_cases h0 : c.old.k = 0
          · have z1 : (c.old.k == 0) = true := beq_iff_eq.2 h0
            by_cases hl : c.new.p < f.p
            · have hb1 : Op.bytesLess c.new.p f.p = true := by rw [bytesLess_eq]; exact decide_eq_true hl
              have HN := Lib.hid (do_new HFC.out.2 h0 (.inr ⟨f, HFC.out.1, hl⟩) HD.out)
              clear hf hc hl
              go_wp2_with (at_builtin; refine wpList_append_slf rfl elemFile rfl rfl (n := m) (xs := filesL pre tv) (HO.out.alloc _) (m := 1) (by omega) rfl (Reads.of_blk (n := 1) (size := 3) (xs := (fileC c.new nA nc).toList) (heap_alloc_new _ _) rfl rfl) (fileC_one _ _ _) (by unfold maxLen; omega) (by omega) (by simp; omega) ?_; intro A4 c4 w4 o4 k4 _; have HO4 := Lib.hid o4; have HK4 := Lib.hid k4; clear o4 k4)
              have hb4 : Below z wr w4 := ((Below.refl z wr).alloc hz1 _).trans (HK4.out.below (Nat.le_refl _) (by simp; omega) (by simp))
              go_roundw
              case rel => exact ⟨i, k + 1, m + 1, A4, c4, pre ++ [c.new], rfl, by first | rfl | go_num, by first | rfl | go_num, by omega, by omega, by omega, Lib.hid (by rw [HM.out]; simp), Lib.hid HN.out, Lib.hid (FO.snoc HT.out.1 HT.out.2 HDN.out (HM.out ▸ HO4.out) hb4), Lib.hid (HW.out.trans hb4)⟩
              case measure => simp [intOf]; omega
            · have hb1 : Op.bytesLess c.new.p f.p = false := by rw [bytesLess_eq]; exact decide_eq_false hl
              by_cases hp : c.old.p = f.p
              · have p1 : (c.old.p == f.p) = true := beq_iff_eq.2 hp
                by_cases h9 : c.new.k = 0
                · have z9 : (c.new.k != 0) = false := by rw [h9]; rfl
                  have HN := Lib.hid (do_gone HFC.out.1 HFC.out.2 (fun q => hl q.2) hp h9 HD.out)
                  clear hf hc
                  go_wp2_with fail
                  go_roundw
                  case rel => exact ⟨i + 1, k + 1, m, C, cc, pre, rfl, by first | rfl | go_num, by first | rfl | go_num, by omega, by omega, by omega, HM, Lib.hid HN.out, HC, HW⟩
                  case measure => simp [intOf]; omega
                · have z9 : (c.new.k != 0) = true := bne_iff_ne.2 h9
                  have HN := Lib.hid (do_turn HFC.out.1 HFC.out.2 (fun q => hl q.2) hp h9 HD.out)
                  clear hf hc
                  go_wp2_with (at_builtin; refine wpList_append_slf rfl elemFile rfl rfl (n := m) (xs := filesL pre tv) (HO.out.alloc _) (m := 1) (by omega) rfl (Reads.of_blk (n := 1) (size := 3) (xs := (fileC c.new nA nc).toList) (heap_alloc_new _ _) rfl rfl) (fileC_one _ _ _) (by unfold maxLen; omega) (by omega) (by simp; omega) ?_; intro A4 c4 w4 o4 k4 _; have HO4 := Lib.hid o4; have HK4 := Lib.hid k4; clear o4 k4)
                  have hb4 : Below z wr w4 := ((Below.refl z wr).alloc hz1 _).trans (HK4.out.below (Nat.le_refl _) (by simp; omega) (by simp))
                  go_roundw
                  case rel => exact ⟨i + 1, k + 1, m + 1, A4, c4, pre ++ [c.new], rfl, by first | rfl | go_num, by first | rfl | go_num, by omega, by omega, by omega, Lib.hid (by rw [HM.out]; simp), Lib.hid HN.out, Lib.hid (FO.snoc HT.out.1 HT.out.2 HDN.out (HM.out ▸ HO4.out) hb4), Lib.hid (HW.out.trans hb4)⟩
                  case measure => simp [intOf]; omega
              · have p1 : (c.old.p == f.p) = false := beq_eq_false_iff_ne.2 hp
                have HN := Lib.hid (do_stay HFC.out.1 (.inr ⟨c, HFC.out.2, (fun q => hl q.2), hp⟩) HD.out)
                clear hf hc
                go_wp2_with (at_builtin; refine wpList_append_slf rfl elemFile rfl rfl (n := m) (xs := filesL pre tv) (HO.out.alloc _) (m := 1) (by omega) rfl (Reads.of_blk (n := 1) (size := 3) (xs := (fileC f DA dc).toList) (heap_alloc_new _ _) rfl rfl) (fileC_one _ _ _) (by unfold maxLen; omega) (by omega) (by simp; omega) ?_; intro A4 c4 w4 o4 k4 _; have HO4 := Lib.hid o4; have HK4 := Lib.hid k4; clear o4 k4)
                have hb4 : Below z wr w4 := ((Below.refl z wr).alloc hz1 _).trans (HK4.out.below (Nat.le_refl _) (by simp; omega) (by simp))
                go_roundw
                case rel => exact ⟨i + 1, k, m + 1, A4, c4, pre ++ [f], rfl, by first | rfl | go_num, by first | rfl | go_num, by omega, by omega, by omega, Lib.hid (by rw [HM.out]; simp), Lib.hid HN.out, Lib.hid (FO.snoc HT.out.1 HT.out.2 HDF.out (HM.out ▸ HO4.out) hb4), Lib.hid (HW.out.trans hb4)⟩
                case measure => simp [intOf]; omega
          · have z1 : (c.old.k == 0) = false := beq_eq_false_iff_ne.2 h0
            by_cases hp : c.old.p = f.p
            · have p1 : (c.old.p == f.p) = true := beq_iff_eq.2 hp
              by_cases h9 : c.new.k = 0
              · have z9 : (c.new.k != 0) = false := by rw [h9]; rfl
                have HN := Lib.hid (do_gone HFC.out.1 HFC.out.2 (fun q => h0 q.1) hp h9 HD.out)
                clear hf hc
                go_wp2_with fail
                go_roundw
                case rel => exact ⟨i + 1, k + 1, m, C, cc, pre, rfl, by first | rfl | go_num, by first | rfl | go_num, by omega, by omega, by omega, HM, Lib.hid HN.out, HC, HW⟩
                case measure => simp [intOf]; omega
              · have z9 : (c.new.k != 0) = true := bne_iff_ne.2 h9
                have HN := Lib.hid (do_turn HFC.out.1 HFC.out.2 (fun q => h0 q.1) hp h9 HD.out)
                clear hf hc
                go_wp2_with (at_builtin; refine wpList_append_slf rfl elemFile rfl rfl (n := m) (xs := filesL pre tv) (HO.out.alloc _) (m := 1) (by omega) rfl (Reads.of_blk (n := 1) (size := 3) (xs := (fileC c.new nA nc).toList) (heap_alloc_new _ _) rfl rfl) (fileC_one _ _ _) (by unfold maxLen; omega) (by omega) (by simp; omega) ?_; intro A4 c4 w4 o4 k4 _; have HO4 := Lib.hid o4; have HK4 := Lib.hid k4; clear o4 k4)
                have hb4 : Below z wr w4 := ((Below.refl z wr).alloc hz1 _).trans (HK4.out.below (Nat.le_refl _) (by simp; omega) (by simp))
                go_roundw
                case rel => exact ⟨i + 1, k + 1, m + 1, A4, c4, pre ++ [c.new], rfl, by first | rfl | go_num, by first | rfl | go_num, by omega, by omega, by omega, Lib.hid (by rw [HM.out]; simp), Lib.hid HN.out, Lib.hid (FO.snoc HT.out.1 HT.out.2 HDN.out (HM.out ▸ HO4.out) hb4), Lib.hid (HW.out.trans hb4)⟩
                case measure => simp [intOf]; omega
            · have p1 : (c.old.p == f.p) = false := beq_eq_false_iff_ne.2 hp
              have HN := Lib.hid (do_stay HFC.out.1 (.inr ⟨c, HFC.out.2, (fun q => h0 q.1), hp⟩) HD.out)
              clear hf hc
              go_wp2_with (at_builtin; refine wpList_append_slf rfl elemFile rfl rfl (n := m) (xs := filesL pre tv) (HO.out.alloc _) (m := 1) (by omega) rfl (Reads.of_blk (n := 1) (size := 3) (xs := (fileC f DA dc).toList) (heap_alloc_new _ _) rfl rfl) (fileC_one _ _ _) (by unfold maxLen; omega) (by omega) (by simp; omega) ?_; intro A4 c4 w4 o4 k4 _; have HO4 := Lib.hid o4; have HK4 := Lib.hid k4; clear o4 k4)
              have hb4 : Below z wr w4 := ((Below.refl z wr).alloc hz1 _).trans (HK4.out.below (Nat.le_refl _) (by simp; omega) (by simp))
              go_roundw
              case rel => exact ⟨i + 1, k, m + 1, A4, c4, pre ++ [f], rfl, by first | rfl | go_num, by first | rfl | go_num, by omega, by omega, by omega, Lib.hid (by rw [HM.out]; simp), Lib.hid HN.out, Lib.hid (FO.snoc HT.out.1 HT.out.2 HDF.out (HM.out ▸ HO4.out) hb4), Lib.hid (HW.out.trans hb4)⟩
              case measure => simp [intOf]; omega
        ·
          have k9 : ¬ ((k : Int) < (X.length : Int)) := by omega
          have kd : decide ((k : Int) < (X.length : Int)) = false := decide_eq_false k9
          have HN := Lib.hid (do_stay hf (.inl (by omega)) HD.out)
          clear hf
          go_wp2_with (at_builtin; refine wpList_append_slf rfl elemFile rfl rfl (n := m) (xs := filesL pre tv) (HO.out.alloc _) (m := 1) (by omega) rfl (Reads.of_blk (n := 1) (size := 3) (xs := (fileC f DA dc).toList) (heap_alloc_new _ _) rfl rfl) (fileC_one _ _ _) (by unfold maxLen; omega) (by omega) (by simp; omega) ?_; intro A4 c4 w4 o4 k4 _; have HO4 := Lib.hid o4; have HK4 := Lib.hid k4; clear o4 k4)
          have hb4 : Below z wr w4 := ((Below.refl z wr).alloc hz1 _).trans (HK4.out.below (Nat.le_refl _) (by simp; omega) (by simp))
          go_roundw
          case rel => exact ⟨i + 1, k, m + 1, A4, c4, pre ++ [f], rfl, by first | rfl | go_num, by first | rfl | go_num, by omega, by omega, by omega, Lib.hid (by rw [HM.out]; simp), Lib.hid HN.out, Lib.hid (FO.snoc HT.out.1 HT.out.2 HDF.out (HM.out ▸ HO4.out) hb4), Lib.hid (HW.out.trans hb4)⟩
          case measure => simp [intOf]; omega
      · have i9 : ¬ ((i : Int) < (a.length : Int)) := by omega
        have ie : decide ((i : Int) < (a.length : Int)) = false := decide_eq_false i9
        have id : decide ((a.length : Int) ≤ (i : Int)) = true := decide_eq_true (by omega)
        have i8 : (a.length : Int) ≤ (i : Int) := by omega
        by_cases hkx : k < X.length
        ·
          obtain ⟨c, hc⟩ : ∃ c, X[k]? = some c := ⟨_, List.getElem?_eq_getElem hkx⟩
          have k1 : (k : Int) < (X.length : Int) := by omega
          obtain ⟨gx, ox, oA, oc, nA, nc, rfl, hgx, hcx, _, hdn⟩ := chg_at (HX.out wr HW.out) hc
          have q1 : wr.cell? ⟨gx, ox + k * 6, none⟩ = some (.string ⟨c.old.p.toArray⟩) := hcx 0 _ rfl
          have q2 : wr.cell? ⟨gx, ox + k * 6 + 1, none⟩ = some (.int .i64 c.old.k) := hcx 1 _ rfl
          have q3 : wr.cell? ⟨gx, ox + k * 6 + 3, none⟩ = some (.string ⟨c.new.p.toArray⟩) := hcx 3 _ rfl
          have q4 : wr.cell? ⟨gx, ox + k * 6 + 3 + 1, none⟩ = some (.int .i64 c.new.k) := hcx 4 _ rfl
          have q5 : (LdF (.pointer (some ⟨gx, ox + k * 6 + 3, none⟩))).run Tryz.prog wr = .ok (.agg (fileC c.new nA nc)) wr := file_ld (hcx 3 _ rfl) (hcx 4 _ rfl) (hcx 5 _ rfl)
          have HDN := Lib.hid hdn
          clear hcx hdn
          by_cases h0 : c.old.k = 0
          · have z1 : (c.old.k == 0) = true := beq_iff_eq.2 h0
            have HN := Lib.hid (do_new hc h0 (.inl (by omega)) HD.out)
            clear hc
            go_wp2_with (at_builtin; refine wpList_append_slf rfl elemFile rfl rfl (n := m) (xs := filesL pre tv) (HO.out.alloc _) (m := 1) (by omega) rfl (Reads.of_blk (n := 1) (size := 3) (xs := (fileC c.new nA nc).toList) (heap_alloc_new _ _) rfl rfl) (fileC_one _ _ _) (by unfold maxLen; omega) (by omega) (by simp; omega) ?_; intro A4 c4 w4 o4 k4 _; have HO4 := Lib.hid o4; have HK4 := Lib.hid k4; clear o4 k4)
            have hb4 : Below z wr w4 := ((Below.refl z wr).alloc hz1 _).trans (HK4.out.below (Nat.le_refl _) (by simp; omega) (by simp))
            go_roundw
            case rel => exact ⟨i, k + 1, m + 1, A4, c4, pre ++ [c.new], rfl, by first | rfl | go_num, by first | rfl | go_num, by omega, by omega, by omega, Lib.hid (by rw [HM.out]; simp), Lib.hid HN.out, Lib.hid (FO.snoc HT.out.1 HT.out.2 HDN.out (HM.out ▸ HO4.out) hb4), Lib.hid (HW.out.trans hb4)⟩
            case measure => simp [intOf]; omega
          · exact (do_bad (by omega) hc h0 HD.out).elim
        ·
          obtain rfl : i = a.length := by omega
          obtain rfl : k = X.length := by omega
          have k9 : ¬ ((X.length : Int) < (X.length : Int)) := by omega
          have hpb := do_end HD.out
          have HSF := Lib.hid (fun W (kW : Below wr.heap.size wr W) => sameFiles_any pre b C AO cc co wr.heap.size W kW.size (((HC.out.fi hz1)).below kW) (((HBB.out wr HW.out).more hz1).below kW) (by rw [← HM.out]; omega))
          rw [hpb] at HSF
          have hmb : m = b.length := by rw [HM.out, hpb]
          subst hmb
          rw [decide_eq_true rfl] at HSF
          clear hpb
          go_wp2_with (first
            | (go_at_call 14; (with_reducible refine (HSF.out wr (Below.refl _ _)).mono ?_); rintro _ w8 ⟨rfl, hb8⟩; have HB8 := Lib.hid (HW.out.trans (hb8.mono hz1)); clear hb8)
            | (go_at_call 10; (with_reducible refine (HDD.out w8 HB8.out).mono ?_); rintro _ w9 ⟨A9, c9, rfl, _, hb9⟩; have HB9 := Lib.hid (HB8.out.trans (hb9.mono (HZ7.out ▸ HB8.out.size))); clear hb9))
          go_ret
          exact ⟨rfl, HBE.out _ HB9.out⟩
end Go.Proofs.YtbaapjlmpmpocaaGreatDoor
