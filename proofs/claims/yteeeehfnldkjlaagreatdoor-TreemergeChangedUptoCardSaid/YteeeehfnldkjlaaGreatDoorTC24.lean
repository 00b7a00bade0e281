/- Contract of maps.Keys on the map of clashes. No statement of the seat is proved here. -/
import Derived.Test.YteeeehfnldkjlaaGreatDoorTC20
import Derived.Test.YteeeehfnldkjlaaGreatDoorTC19
import Derived.Test.YteeeehfnldkjlaaGreatDoorTCYk
import Derived.Test.YteeeehfnldkjlaaGreatDoorTC23
import Derived.Test.YteeeehfnldkjlaaGreatDoorTC14
import Derived.Deep.RegionHeld3
import Derived.Test.YteeeehfnldkjlaaGreatDoorTC05
namespace Go.Proofs.YteeeehfnldkjlaaGreatDoor
open Go.RowKit Go.Sort Go.Shelf
instance : Inhabited LikD := ⟨⟨[], [], 0, 0⟩⟩
instance : Inhabited PairD := ⟨⟨[], [], 0⟩⟩
instance : Inhabited FileD := ⟨⟨[], 0, []⟩⟩
theorem likL_one (x : LikD) : ∀ v ∈ likL x, v.oneCell' = true := by
 intro v hv
 simp only [likL, strC, List.mem_cons, List.not_mem_nil, or_false] at hv
 rcases hv with rfl | rfl | rfl | rfl <;> rfl
theorem sortLik_any {base : Nat} {A : Option Addr} {n c : Nat} (d : List LikD) (w : World) (hn : d.length = n) (hn2 : n ≤ 1000000000) (hown : Own w base 148 4 A n c (d.flatMap likL)) :
    Calls Tryz.prog 104 #[.slice A n c, .func (.func 105) #[] #[]] w fun e w' => e = .returned (.tuple #[]) ∧ Own w' base 148 4 A n c ((sortBy aheadP d).flatMap likL) ∧ Kept base [148] [] w w' := by
 have := sort_own Tryz.sortFLik (k := 4) (fun w => by kernel_rfl) (fun w => by kernel_rfl) likL (fun _ => rfl) likL_one cmpL (by rw [ltOf_lik]; exact ahead_ord.swo) 105 (fun args w => by kernel_rfl) (fun W x y => order_any W x y) d w hn (by omega) hown
 refine this.mono ?_
 rintro e w' ⟨h1, d', hp, hs, ho, hk⟩
 rw [lik_sorted hp hs] at ho
 exact ⟨h1, ho, hk⟩
theorem sortPair_any {base : Nat} {A : Option Addr} {n c : Nat} (d : List PairD) (w : World) (hn : d.length = n) (hn2 : n ≤ 1000000000) (hd : (d.map (·.old)).Nodup) (hown : Own w base 99 3 A n c (d.flatMap pairL)) :
    Calls Tryz.prog 106 #[.slice A n c, .func (.func 107) #[] #[]] w fun e w' => e = .returned (.tuple #[]) ∧ Own w' base 99 3 A n c ((sortBy (fun a b => decide (a.old < b.old)) d).flatMap pairL) ∧ Kept base [99] [] w w' := by
 have := sort_own Tryz.sortFPair (k := 3) (fun w => by kernel_rfl) (fun w => by kernel_rfl) pairL (fun _ => rfl) pairL_one (fun x y : PairD => cmpS x.old y.old) (by rw [ltOf_old]; exact (pth_ord _).swo) 107 (fun args w => by kernel_rfl) (fun W x y => det1_any W x y) d w hn (by omega) hown
 refine this.mono ?_
 rintro e w' ⟨h1, d', hp, hs, ho, hk⟩
 rw [pair_sorted hp hs hd] at ho
 exact ⟨h1, ho, hk⟩
end Go.Proofs.YteeeehfnldkjlaaGreatDoor
namespace Go.Proofs.YteeeehfnldkjlaaGreatDoor
open Go.RowKit
theorem chgL_get {w : World} {B : Nat} {A : Option Addr} {l : List ChangeD} (h : CI w B A l) {k : Nat} {x : ChangeD} (hk : l[k]? = some x) : ∃ g off oA oc nA nc, A = some ⟨g, off, none⟩ ∧ g < B ∧
    (Instr.loadAt 94 (.pointer (some ⟨g, off + k * 6, none⟩))).run Tryz.prog w = .ok (.agg (chgC x (.slice oA x.old.d.length oc) (.slice nA x.new.d.length nc))) w ∧
    DataR w B x.old (.slice oA x.old.d.length oc) ∧ DataR w B x.new (.slice nA x.new.d.length nc) := by
 obtain ⟨tv, h1, h2, h3⟩ := h
 have hlt : k < l.length := (List.getElem?_eq_some_iff.1 hk).1
 obtain ⟨y, hy⟩ : ∃ y, tv[k]? = some y := ⟨_, List.getElem?_eq_getElem (by omega)⟩
 obtain ⟨⟨oA, oc, e1, o1, o2, o3⟩, ⟨nA, nc, e2, n1, n2, n3⟩⟩ := h3 k x y hk hy
 obtain ⟨g, off, rfl, hg, hc⟩ := h2.at0 (by omega) (by omega)
 obtain ⟨y1, y2⟩ := y
 simp only at e1 e2
 subst e1 e2
 refine ⟨g, off, oA, oc, nA, nc, rfl, hg, run_loadAt_cells w _ (chgC x (.slice oA x.old.d.length oc) (.slice nA x.new.d.length nc)) Tryz.underlying94 rfl info_chg (fun j v hj => ?_), ⟨oA, oc, rfl, o1, o2, o3⟩, ⟨nA, nc, rfl, n1, n2, n3⟩⟩
 have := hc _ _ (chgL_at hk hy j v (by rw [← hj]; simp [chgV, chgC]))
 rw [add_at]
 rw [← Nat.add_assoc] at this
 exact this
theorem CI.below {w w' : World} {B : Nat} {A : Option Addr} {l : List ChangeD} (h : CI w B A l) (hb : Below B w w') : CI w' B A l := by
 obtain ⟨tv, h1, h2, h3⟩ := h
 exact ⟨tv, h1, h2.below hb, fun k x y e1 e2 => ⟨(h3 k x y e1 e2).1.below hb, (h3 k x y e1 e2).2.below hb⟩⟩
structure TwoF (wr : World) (z B : Nat) (gA : Option Addr) (gc : Nat) (cA : Option Addr) (cc : Nat) (gs cs : List FileD) : Prop where
 go : FO wr z B gA gc gs
 co : FO wr z B cA cc cs
 ap : Apart gA cA
 pa : Apart cA gA
 hz : B ≤ z
 hs : z ≤ wr.heap.size
section
variable {wr w9 : World} {z B : Nat} {gA : Option Addr} {gc : Nat} {cA : Option Addr} {cc : Nat} {gs cs : List FileD}
theorem TwoF.keepB (h : TwoF wr z B gA gc cA cc gs cs) (hb : Below wr.heap.size wr w9) : TwoF w9 z B gA gc cA cc gs cs :=
 ⟨h.go.keepB hb (Nat.le_trans h.hz h.hs), h.co.keepB hb (Nat.le_trans h.hz h.hs), h.ap, h.pa, h.hz, Nat.le_trans h.hs hb.size⟩
theorem Apart.symm {A C : Option Addr} (h : Apart A C) : Apart C A := fun a c ha hc e => h c a hc ha e.symm
theorem TwoF.left {tv : List Value} {f : FileD} {D : Option Addr} {d c9 : Nat} {A9 : Option Addr} (h : TwoF wr z B gA gc cA cc gs cs) (h1 : tv.length = gs.length) (h3 : ∀ (k : Nat) x y, gs[k]? = some x → tv[k]? = some y → DataR wr B x y) (hx : DataR wr B f (.slice D f.d.length d))
    (o9 : Own w9 z 41 3 A9 (gs.length + 1) c9 (filesL gs tv ++ (fileC f D d).toList)) (k9 : Kept z [41] [] (wr.alloc (.cells (fileC f D d) 41)) w9)
    (n9 : ∀ p, p < (wr.alloc (.cells (fileC f D d) 41)).heap.size → NotB gA gs.length gc p → w9.heap[p]? = (wr.alloc (.cells (fileC f D d) 41)).heap[p]? ∧ NotB A9 (gs.length + 1) c9 p) : TwoF w9 z B A9 c9 cA cc (gs ++ [f]) cs ∧ Below z wr w9 := by
 obtain ⟨q1, q2, q3, q4⟩ := FO.push2 h1 h3 hx h.co h.pa h.hz h.hs o9 k9 n9
 exact ⟨⟨q1, q2, q3.symm, q3, h.hz, Nat.le_trans h.hs (by have := k9.size; simp at this; omega)⟩, q4⟩
theorem TwoF.right {tv : List Value} {f : FileD} {D : Option Addr} {d c9 : Nat} {A9 : Option Addr} (h : TwoF wr z B gA gc cA cc gs cs) (h1 : tv.length = cs.length) (h3 : ∀ (k : Nat) x y, cs[k]? = some x → tv[k]? = some y → DataR wr B x y) (hx : DataR wr B f (.slice D f.d.length d))
    (o9 : Own w9 z 41 3 A9 (cs.length + 1) c9 (filesL cs tv ++ (fileC f D d).toList)) (k9 : Kept z [41] [] (wr.alloc (.cells (fileC f D d) 41)) w9)
    (n9 : ∀ p, p < (wr.alloc (.cells (fileC f D d) 41)).heap.size → NotB cA cs.length cc p → w9.heap[p]? = (wr.alloc (.cells (fileC f D d) 41)).heap[p]? ∧ NotB A9 (cs.length + 1) c9 p) : TwoF w9 z B gA gc A9 c9 gs (cs ++ [f]) ∧ Below z wr w9 := by
 obtain ⟨q1, q2, q3, q4⟩ := FO.push2 h1 h3 hx h.go h.ap h.hz h.hs o9 k9 n9
 exact ⟨⟨q2, q1, q3, q3.symm, h.hz, Nat.le_trans h.hs (by have := k9.size; simp at this; omega)⟩, q4⟩
end
theorem goneP_take {l : List ChangeD} {k : Nat} {x : ChangeD} (h : l[k]? = some x) : goneP (l.take (k + 1)) = goneP (l.take k) ++ (if (x.new.k == 0 && countsP x.old) = true then [x.old] else []) := by
 unfold goneP
 rw [List.take_add_one, h, List.filterMap_append]
 congr 1
 simp only [Option.toList_some, List.filterMap_cons, List.filterMap_nil, Bool.and_eq_true, beq_iff_eq]
 split <;> (rename_i q; split at q <;> simp_all)
theorem comeP_take {l : List ChangeD} {k : Nat} {x : ChangeD} (h : l[k]? = some x) : comeP (l.take (k + 1)) = comeP (l.take k) ++ (if (x.new.k == 0 && countsP x.old) = true then [] else if (x.old.k == 0 && countsP x.new) = true then [x.new] else []) := by
 unfold comeP
 rw [List.take_add_one, h, List.filterMap_append]
 congr 1
 simp only [Option.toList_some, List.filterMap_cons, List.filterMap_nil, Bool.and_eq_true, beq_iff_eq]
 by_cases h1 : x.new.k = 0 ∧ countsP x.old = true
 · rw [if_pos h1, if_pos h1]
 · rw [if_neg h1, if_neg h1]
   by_cases h2 : x.old.k = 0 ∧ countsP x.new = true
   · rw [if_pos h2, if_pos h2]
   · rw [if_neg h2, if_neg h2]
theorem goneP_len (l : List ChangeD) : (goneP l).length ≤ l.length := List.length_filterMap_le _ _
theorem comeP_len (l : List ChangeD) : (comeP l).length ≤ l.length := List.length_filterMap_le _ _
theorem goneP_of {l : List ChangeD} {f : FileD} (h : f ∈ goneP l) : ∃ x ∈ l, f = x.old := by
 unfold goneP at h
 obtain ⟨x, hx, e⟩ := List.mem_filterMap.1 h
 split at e
 · injection e with e; exact ⟨x, hx, e.symm⟩
 · cases e
theorem comeP_of {l : List ChangeD} {f : FileD} (h : f ∈ comeP l) : ∃ x ∈ l, f = x.new := by
 unfold comeP at h
 obtain ⟨x, hx, e⟩ := List.mem_filterMap.1 h
 split at e
 · cases e
 · split at e
   · injection e with e; exact ⟨x, hx, e.symm⟩
   · cases e
def LO (w : World) (z : Nat) (A : Option Addr) (c : Nat) (ls : List LikD) : Prop := Own w z 148 4 A ls.length c (ls.flatMap likL)
theorem LO.nil_ (w : World) (z : Nat) : LO w z none 0 [] := Own.nil _ _ _ _
theorem LO.keepB {w w' : World} {z : Nat} {A : Option Addr} {c : Nat} {ls : List LikD} (h : LO w z A c ls) (hb : Below w.heap.size w w') : LO w' z A c ls := Own.kept (b' := 0) (E := []) (G := []) h (Kept.ofBelow hb) (by simp) (by simp)
theorem LO.snoc {w : World} {z : Nat} {A : Option Addr} {c : Nat} {ls : List LikD} {x : LikD} (ho : Own w z 148 4 A (ls.length + 1) c (ls.flatMap likL ++ likL x)) : LO w z A c (ls ++ [x]) := by
 unfold LO
 rw [List.length_append, List.flatMap_append]
 simpa using ho
theorem elemLik : Elem Tryz.prog 146 148 4 48 := by
 refine ⟨Tryz.underlying146, ?_, by decide⟩
 obtain ⟨i, hi, h1, h2, h3⟩ := info_parts (show (Tryz.prog.info? 148).map (fun i => (i.zero, i.size, i.bytes)) = some (some (.agg #[.string ⟨#[]⟩, .string ⟨#[]⟩, .int .i64 0, .int .i64 0]), 4, 48) by kernel_rfl)
 exact ⟨i, _, hi, h1, h2, h3, rfl⟩
theorem zero_lik (w : World) : (zeroValue 148).run Tryz.prog w = .ok (.agg #[.string ⟨#[]⟩, .string ⟨#[]⟩, .int .i64 0, .int .i64 0]) w := by kernel_rfl
theorem build_lik (o n : Pth) (k m : Int) (w : World) : (Instr.build 148 #[(0, .agg #[strC o, strC n, .int .i64 k]), (1, .int .i64 m)]).run Tryz.prog w = .ok (.agg #[strC o, strC n, .int .i64 k, .int .i64 m]) w := by kernel_rfl
theorem likelyP_len (gone come : List FileD) (h1 : gone.length ≤ 100) (h2 : come.length ≤ 100) : (likelyP gone come).length ≤ 10000 := by
 rw [likelyP_eq, if_pos ⟨h1, h2⟩]
 have key : ∀ g : List FileD, (g.flatMap fun f => come.filterMap (likS f)).length ≤ g.length * 100 := by
  intro g
  induction g with
  | nil => simp
  | cons x g ih =>
   rw [List.flatMap_cons, List.length_append, List.length_cons]
   have := List.length_filterMap_le (likS x) come
   omega
 have := key gone
 omega
end Go.Proofs.YteeeehfnldkjlaaGreatDoor
namespace Go.Proofs.YteeeehfnldkjlaaGreatDoor
open Go.RowKit Go.Sort Go.Shelf
set_option maxHeartbeats 1000000 in
set_option maxRecDepth 100000 in
theorem places1_any (W : World) (x y : FT) : Calls Tryz.prog 78 #[.agg (ftL x).toArray, .agg (ftL y).toArray] W fun e w' => e = .returned (.int .i64 (cmpS x.1.p y.1.p)) ∧ ∃ q os', w' = grow (W.drewN q) os' := by
 have HG := Lib.hid (two_grow W (.cells (ftL x).toArray 41) (.cells (ftL y).toArray 41))
 have hx := (Blk.new W 41 (ftL x).toArray).alloc (.cells (ftL y).toArray 41)
 have hy := Blk.new (W.alloc (.cells (ftL x).toArray 41)) 41 (ftL y).toArray
 rw [show (W.alloc (.cells (ftL x).toArray 41)).heap.size = W.heap.size + 1 from by simp] at hy
 have c1 := (hx.cell 0).trans (show (ftL x).toArray[0]? = some (strC x.1.p) from rfl)
 have c2 := (hy.cell 0).trans (show (ftL y).toArray[0]? = some (strC y.1.p) from rfl)
 have HX := Lib.hid (And.intro c1 c2)
 clear hx hy c1 c2
 have HC := Lib.hid (fun w => cmpS_any x.1.p y.1.p w)
 go_enter Tryz.func78, Tryz.ntmps78
 go_wp2_with (first
  | (refine wpList_boxed rfl rfl (cs := (ftL x).toArray) rfl ?_)
  | (refine wpList_boxed rfl rfl (cs := (ftL y).toArray) rfl ?_; obtain ⟨c1, c2⟩ := HX.out; clear HX; generalize (W.alloc (.cells (ftL x).toArray 41)).alloc (.cells (ftL y).toArray 41) = w1 at *)
  | (go_at_call 42; refine (HC.out _).mono ?_; rintro _ _ ⟨rfl, rfl⟩))
 go_ret
 exact ⟨rfl, HG.out⟩
theorem compare_cmpS : ∀ a b : Pth, Lib.compareBytes a b = cmpS a b
 | [], [] => by simp [Lib.compareBytes, cmpS]
 | [], _ :: _ => by simp [Lib.compareBytes, cmpS]
 | _ :: _, [] => by simp [Lib.compareBytes, cmpS]
 | a :: la, b :: lb => by
  rw [Lib.compareBytes, compare_cmpS la lb]
  unfold cmpS
  simp only [List.cons_lt_cons_iff]
  by_cases h1 : a < b
  · simp [h1]
  · by_cases h2 : b < a
    · have h3 : ¬ a = b := fun e => by subst e; exact h1 h2
      simp [h1, h2, h3]
    · have h3 : a = b := by
       apply UInt8.toNat_inj.1
       have q1 : ¬ a.toNat < b.toNat := h1
       have q2 : ¬ b.toNat < a.toNat := h2
       omega
      subst h3
      simp [h1]
theorem strCmp_any (a b : Pth) (w : World) : Calls Tryz.prog 39 #[strC a, strC b] w fun e w' => e = .returned (.int .i64 (cmpS a b)) ∧ w = w' := by
 unfold strC
 refine (Tryz.strings_Compare ⟨a.toArray⟩ ⟨b.toArray⟩ w).mono ?_
 rintro e w' ⟨h1, h2⟩
 refine ⟨?_, h2.symm⟩
 rw [h1]
 show Ending.returned (.int .i64 (Lib.compareBytes a b)) = _
 rw [compare_cmpS]
set_option maxHeartbeats 1000000 in
set_option maxRecDepth 100000 in
theorem merge1_any (W : World) (x y : FT) : Calls Tryz.prog 38 #[.agg (ftL x).toArray, .agg (ftL y).toArray] W fun e w' => e = .returned (.int .i64 (cmpS x.1.p y.1.p)) ∧ ∃ q os', w' = grow (W.drewN q) os' := by
 have HG := Lib.hid (two_grow W (.cells (ftL x).toArray 41) (.cells (ftL y).toArray 41))
 have hx := (Blk.new W 41 (ftL x).toArray).alloc (.cells (ftL y).toArray 41)
 have hy := Blk.new (W.alloc (.cells (ftL x).toArray 41)) 41 (ftL y).toArray
 rw [show (W.alloc (.cells (ftL x).toArray 41)).heap.size = W.heap.size + 1 from by simp] at hy
 have c1 := (hx.cell 0).trans (show (ftL x).toArray[0]? = some (strC x.1.p) from rfl)
 have c2 := (hy.cell 0).trans (show (ftL y).toArray[0]? = some (strC y.1.p) from rfl)
 have HX := Lib.hid (And.intro c1 c2)
 clear hx hy c1 c2
 have HC := Lib.hid (fun w => strCmp_any x.1.p y.1.p w)
 go_enter Tryz.func38, Tryz.ntmps38
 go_wp2_with (first
  | (refine wpList_boxed rfl rfl (cs := (ftL x).toArray) rfl ?_)
  | (refine wpList_boxed rfl rfl (cs := (ftL y).toArray) rfl ?_; obtain ⟨c1, c2⟩ := HX.out; clear HX; generalize (W.alloc (.cells (ftL x).toArray 41)).alloc (.cells (ftL y).toArray 41) = w1 at *)
  | (go_at_call 39; refine (HC.out _).mono ?_; rintro _ _ ⟨rfl, rfl⟩))
 go_ret
 exact ⟨rfl, HG.out⟩
theorem ltOf_ft : ltOf (fun x y : FT => cmpS x.1.p y.1.p) = fun a b => decide (a.1.p < b.1.p) := by
 funext a b
 exact cmpS_lt _ _
theorem sortFT_any {base : Nat} {A : Option Addr} {n c g : Nat} (eg : ∀ args w, (callFunc g args).run Tryz.prog w = .ok (.enter g args) w) (hcmp : ∀ (W : World) (x y : FT), Calls Tryz.prog g #[.agg (ftL x).toArray, .agg (ftL y).toArray] W fun e w' => e = .returned (.int .i64 (cmpS x.1.p y.1.p)) ∧ ∃ q os', w' = grow (W.drewN q) os') (d : List FT) (w : World) (hn : d.length = n) (hn2 : n ≤ 1000000000) (hd : Apt (d.map (·.1))) (hown : Own w base 41 3 A n c (d.flatMap ftL)) :
    Calls Tryz.prog 37 #[.slice A n c, .func (.func g) #[] #[]] w fun e w' => e = .returned (.tuple #[]) ∧ ∃ d' : List FT, d'.Perm d ∧ d'.map (·.1) = sortF (d.map (·.1)) ∧ Own w' base 41 3 A n c (d'.flatMap ftL) ∧ Kept base [41] [] w w' := by
 haveI : Inhabited FT := ⟨(⟨[], 0, []⟩, (none, 0))⟩
 have := sort_own Tryz.sortFFile (k := 3) (fun w => by kernel_rfl) (fun w => by kernel_rfl) ftL (fun _ => rfl) ftL_one (fun x y : FT => cmpS x.1.p y.1.p) (by rw [ltOf_ft]; exact (pth_ord (fun x : FT => x.1.p)).swo) g eg hcmp d w hn (by omega) hown
 refine this.mono ?_
 rintro e w' ⟨h1, d', hp, hs, ho, hk⟩
 refine ⟨h1, d', hp, ?_, ho, hk⟩
 rw [ltOf_ft] at hs
 refine (sortF_unique (hp.map _).symm ?_ hd).symm
 unfold SortedP
 rw [List.pairwise_map]
 exact hs
end Go.Proofs.YteeeehfnldkjlaaGreatDoor
namespace Go.Proofs.YteeeehfnldkjlaaGreatDoor
open Go.RowKit Go.Sort Go.Shelf
def clashL (x : ClashD) : List Value := [strC x.p, .int .i64 (x.why : Nat)]
def cmpC (a b : ClashD) : Int := orP [cmpS a.p b.p, Lib.compareInt a.why b.why]
set_option maxHeartbeats 16000000 in
set_option maxRecDepth 100000 in
theorem merge2_any (W : World) (x y : ClashD) : Calls Tryz.prog 40 #[.agg (clashL x).toArray, .agg (clashL y).toArray] W fun e w' => e = .returned (.int .i64 (cmpC x y)) ∧ ∃ q os', w' = grow (W.drewN q) os' := by
 have hx := (Blk.new W 44 (clashL x).toArray).alloc (.cells (clashL y).toArray 44)
 have hy := Blk.new (W.alloc (.cells (clashL x).toArray 44)) 44 (clashL y).toArray
 rw [show (W.alloc (.cells (clashL x).toArray 44)).heap.size = W.heap.size + 1 from by simp] at hy
 have HX := Lib.hid (And.intro hx hy)
 have hg : (W.alloc (.cells (clashL x).toArray 44)).alloc (.cells (clashL y).toArray 44) = grow W #[.cells (clashL x).toArray 44, .cells (clashL y).toArray 44] := by rw [alloc_eq_grow, alloc_eq_grow, grow_grow]; rfl
 have HG := Lib.hid hg
 clear hx hy hg
 obtain ⟨p1, k1⟩ := x
 obtain ⟨p2, k2⟩ := y
 unfold clashL strC at HX HG ⊢
 simp only at HX HG ⊢
 go_enter Tryz.func40, Tryz.ntmps40
 go_upto_region 1 with (first
  | (refine wpList_boxed rfl rfl (cs := #[.string ⟨p1.toArray⟩, .int .i64 (k1 : Int)]) rfl ?_)
  | (refine wpList_boxed rfl rfl (cs := #[.string ⟨p2.toArray⟩, .int .i64 (k2 : Int)]) rfl ?_))
 generalize (W.alloc (.cells [Value.string ⟨p1.toArray⟩, .int .i64 (k1 : Int)].toArray 44)).alloc (.cells [Value.string ⟨p2.toArray⟩, .int .i64 (k2 : Int)].toArray 44) = w1 at *
 have HI := Lib.hid (fun (w : World) => show Calls Tryz.prog 43 #[.int .i64 (k1 : Int), .int .i64 (k2 : Int)] w (fun e w' => e = .returned (.int .i64 (Lib.compareInt (k1 : Int) (k2 : Int))) ∧ w = w') from (Tryz.cmp_Compare_int (k1 : Int) (k2 : Int) w).mono fun _ _ h => ⟨h.1, h.2.symm⟩)
 have HS := Lib.hid (fun (w : World) => show Calls Tryz.prog 42 #[.string ⟨p1.toArray⟩, .string ⟨p2.toArray⟩] w (fun e w' => e = .returned (.int .i64 (cmpS p1 p2)) ∧ w = w') from cmpS_any p1 p2 w)
 have x0 : w1.drew.cell? ⟨W.heap.size, 0, none⟩ = some (.string ⟨p1.toArray⟩) := HX.out.1.cell 0
 have x1 : w1.drew.cell? ⟨W.heap.size, 1, none⟩ = some (.int .i64 (k1 : Int)) := HX.out.1.cell 1
 have y0 : w1.drew.cell? ⟨W.heap.size + 1, 0, none⟩ = some (.string ⟨p2.toArray⟩) := HX.out.2.cell 0
 have y1 : w1.drew.cell? ⟨W.heap.size + 1, 1, none⟩ = some (.int .i64 (k2 : Int)) := HX.out.2.cell 1
 have hcl : cmpC ⟨p1, k1⟩ ⟨p2, k2⟩ = orP [cmpS p1 p2, Lib.compareInt k1 k2] := rfl
 have HLT := Lib.hid (show W.heap.size < w1.heap.size ∧ W.heap.size + 1 < w1.heap.size from ⟨HX.out.1.lt, HX.out.2.lt⟩)
 have HOR := Lib.hid (fun (a b : Int) (A : Option Addr) (k B : Nat) (w : World) (h : Reads w B 1 A 2 (intL [a, b])) => or_any [a, b] A k B w h (by simp))
 have tx0 : ∀ o, (w1.alloc o).drew.cell? ⟨W.heap.size, 0, none⟩ = some (.string ⟨p1.toArray⟩) := fun o => (World.cell?_alloc_lt w1 o ⟨W.heap.size, 0, none⟩ HLT.out.1).trans x0
 have tx1 : ∀ o, (w1.alloc o).drew.cell? ⟨W.heap.size, 1, none⟩ = some (.int .i64 (k1 : Int)) := fun o => (World.cell?_alloc_lt w1 o ⟨W.heap.size, 1, none⟩ HLT.out.1).trans x1
 have ty0 : ∀ o, (w1.alloc o).drew.cell? ⟨W.heap.size + 1, 0, none⟩ = some (.string ⟨p2.toArray⟩) := fun o => (World.cell?_alloc_lt w1 o ⟨W.heap.size + 1, 0, none⟩ HLT.out.2).trans y0
 have ty1 : ∀ o, (w1.alloc o).drew.cell? ⟨W.heap.size + 1, 1, none⟩ = some (.int .i64 (k2 : Int)) := fun o => (World.cell?_alloc_lt w1 o ⟨W.heap.size + 1, 1, none⟩ HLT.out.2).trans y1
 generalize cmpS p1 p2 = v1 at *
 generalize Lib.compareInt k1 k2 = v2 at *
 have HCL := Lib.hid hcl
 clear HX hcl
 go_region_held3 (fun w' => w'.cell? ⟨W.heap.size, 0, none⟩ = some (.string ⟨p1.toArray⟩) ∧ w'.cell? ⟨W.heap.size, 1, none⟩ = some (.int .i64 (k1 : Int)) ∧ w'.cell? ⟨W.heap.size + 1, 0, none⟩ = some (.string ⟨p2.toArray⟩) ∧ w'.cell? ⟨W.heap.size + 1, 1, none⟩ = some (.int .i64 (k2 : Int))) (first | go_keep) (first
  | (go_simp; go_at_call 43; with_reducible refine (HI.out _).mono ?_; rintro _ _ ⟨rfl, rfl⟩)
  | (go_simp; go_at_call 42; with_reducible refine (HS.out _).mono ?_; rintro _ _ ⟨rfl, rfl⟩)
  | (go_simp; go_at_call 41; refine (HOR.out v1 v2 _ 2 (w1.heap.size + 1) _ (Reads.of_blk (n := 2) (heap_alloc_new w1.drew _) rfl rfl)).mono ?_; rintro _ _ ⟨rfl, rfl⟩))
 all_goals
  go_wp2_with fail
  go_ret
  refine ⟨by rw [HCL.out]; rfl, 1, #[.cells #[.string ⟨p1.toArray⟩, .int .i64 (k1 : Int)] 44, .cells #[.string ⟨p2.toArray⟩, .int .i64 (k2 : Int)] 44, .cells #[.int .i64 v1, .int .i64 v2] 3], ?_⟩
  rw [HG.out]
  simp only [alloc_eq_grow, drew_grow, grow_grow]
  rfl
theorem ltOf_clash : ltOf cmpC = ltC := by
 funext a b
 show decide (cmpC a b < 0) = _
 unfold cmpC ltC
 rw [orP_lt, orP_lt, cmpS_lt, cmpS_zero, cmpI_lt]
 simp [orP]
theorem ltC_ord : Ord ltC := by
 have : ltC = fun a b : ClashD => decide (a.p < b.p) || (!decide (b.p < a.p) && decide (a.why < b.why)) := by
  funext a b
  unfold ltC
  rw [lexS]
 rw [this]
 exact (pth_ord (fun x : ClashD => x.p)).lex (num_ord (fun x : ClashD => x.why))
end Go.Proofs.YteeeehfnldkjlaaGreatDoor
namespace Go.Proofs.YteeeehfnldkjlaaGreatDoor
open Go.RowKit Go.Sort Go.Shelf
theorem clashL_one (x : ClashD) : ∀ v ∈ clashL x, v.oneCell' = true := by
 intro v hv
 simp only [clashL, strC, List.mem_cons, List.not_mem_nil, or_false] at hv
 rcases hv with rfl | rfl <;> rfl
theorem clash_sorted {l m : List ClashD} (hp : m.Perm l) (hs : m.Pairwise fun a b => ltOf cmpC b a = false) (hd : l.Nodup) : m = clashesP l := by
 rw [ltOf_clash] at hs
 have hn : m.Nodup := hp.nodup_iff.2 hd
 refine riseC_unique ?_ (clashesP_rise l) fun x => by rw [mem_clashesP]; exact hp.mem_iff
 unfold RiseC
 refine List.Pairwise.imp₂ (fun a b h1 h2 => ?_) hs hn
 rcases ltC_tri a b with q | q | q
 · exact q
 · exact absurd q h2
 · rw [h1] at q; cases q
theorem sortClash_any {base : Nat} {A : Option Addr} {n c : Nat} (d : List ClashD) (w : World) (hn : d.length = n) (hn2 : n ≤ 1000000000) (hd : d.Nodup) (hown : Own w base 44 2 A n c (d.flatMap clashL)) :
    Calls Tryz.prog 85 #[.slice A n c, .func (.func 40) #[] #[]] w fun e w' => e = .returned (.tuple #[]) ∧ Own w' base 44 2 A n c ((clashesP d).flatMap clashL) ∧ Kept base [44] [] w w' := by
 haveI : Inhabited ClashD := ⟨⟨[], 0⟩⟩
 have := sort_own Tryz.sortFClash (k := 2) (fun w => by kernel_rfl) (fun w => by kernel_rfl) clashL (fun _ => rfl) clashL_one cmpC (by rw [ltOf_clash]; exact ltC_ord.swo) 40 (fun args w => by kernel_rfl) (fun W x y => merge2_any W x y) d w hn (by omega) hown
 refine this.mono ?_
 rintro e w' ⟨h1, d', hp, hs, ho, hk⟩
 rw [clash_sorted hp hs hd] at ho
 exact ⟨h1, ho, hk⟩
end Go.Proofs.YteeeehfnldkjlaaGreatDoor
namespace Go.Proofs.YteeeehfnldkjlaaGreatDoor
open Go.RowKit Go.Maps
set_option maxHeartbeats 1000000 in
set_option maxRecDepth 100000 in
theorem keysK_any (mb : Option Nat) (W : World) : Calls Tryz.prog 45 #[.map mb] W fun e w' => e = .returned (.func (.func 86) #[] #[.pointer (some ⟨W.heap.size, 0, none⟩)]) ∧ w' = W.alloc (.cells #[.map mb] 64) := by
 go_enter Tryz.func45, Tryz.ntmps45
 go_wp2_with (refine wpList_boxed rfl rfl (cs := #[.map mb]) rfl ?_)
 go_ret
 exact ⟨rfl, rfl⟩
end Go.Proofs.YteeeehfnldkjlaaGreatDoor
