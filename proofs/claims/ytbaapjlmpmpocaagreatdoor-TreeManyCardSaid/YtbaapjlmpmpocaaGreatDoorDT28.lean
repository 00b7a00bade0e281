/- Rows of files and of pairs that a call owns. No statement of the seat is proved here. -/
import Derived.Test.YtbaapjlmpmpocaaGreatDoorDT27
import Derived.Deep.QuietTactic
import Derived.BigRegion
import Derived.BigQuiet
import Derived.Deep.RegionHeld3
import Derived.Test.YtbaapjlmpmpocaaGreatDoorDTYf
namespace Go.Proofs.YtbaapjlmpmpocaaGreatDoor
open Go.RowKit Go.Sort Go.Shelf
def pairL (x : PairD) : List Value := [strC x.old, strC x.new, .int .i64 (x.sc : Nat)]
theorem two_grow (W : World) (o1 o2 : Obj) : ∃ q os', (W.alloc o1).alloc o2 = grow (W.drewN q) os' := ⟨0, #[o1, o2], by rw [alloc_eq_grow, alloc_eq_grow, grow_grow]; rfl⟩
def cmpL (a b : LikD) : Int := orP [Lib.compareInt b.sc a.sc, Lib.compareInt a.near b.near, cmpS a.old b.old, cmpS a.new b.new]
theorem cmpL_self (a : LikD) : cmpL a a = 0 := by
 have h1 : ∀ x : Int, Lib.compareInt x x = 0 := fun x => by simp [Lib.compareInt]
 have h2 : ∀ x : Pth, cmpS x x = 0 := fun x => by unfold cmpS; rw [if_neg (List.lt_irrefl _), if_neg (List.lt_irrefl _)]
 unfold cmpL
 rw [h1, h1, h2, h2]
 rfl
end Go.Proofs.YtbaapjlmpmpocaaGreatDoor
namespace Go.Proofs.YtbaapjlmpmpocaaGreatDoor
open Go.RowKit
section
variable {P : Program}
def NotB (A : Option Addr) (n c p : Nat) : Prop := (Value.slice A n c).ownBlock ≠ some p
theorem run_append_slf {w : World} {t e ty : TypeId} {size bytes : Nat} (H : Elem P t e size bytes) {base : Nat} {A : Option Addr} {n c : Nat} {xs : List Value} (hown : Own w base e size A n c xs)
    {B : Nat} {ad : Addr} {m d : Nat} {news : List Value} (hm : 0 < m) (hr : Reads w B size (some ad) m news) (h1 : ∀ u ∈ news, u.oneCell' = true)
    (h63 : n + m ≤ maxLen) (hbytes : (n + m) * bytes ≤ 140737488355328) (hbase : base ≤ w.heap.size) :
    ∃ A' c' w', (Builtin.append_ #[t, t] ty #[.slice A n c, .slice (some ad) m d]).run P w = .ok (.slice A' (n + m) c') w' ∧ Own w' base e size A' (n + m) c' (xs ++ news) ∧ Kept base [e] [] w w' ∧ ∀ p, p < w.heap.size → NotB A n c p → w'.heap[p]? = w.heap[p]? ∧ NotB A' (n + m) c' p := by
 obtain ⟨ht, ⟨i, z, hi, hz, hsize, hby, hzs⟩, hpos⟩ := H
 have hcells : ∀ j u, news[j]? = some u → w.cell? (ad.add j) = some u := by
  obtain ⟨ad', h, _, hc⟩ := hr.2 hm
  injection h with h
  subst h
  exact hc
 obtain ⟨v', w', hrun, h2, h3, _, h5⟩ := run_append_own_at (P := P) w base t ty e i z size bytes ht hi hz hsize hby hzs hpos _ n xs hown ad m d news hr.1 hcells h1 h63 hbytes hbase
 obtain ⟨A', c', rfl⟩ := slice_of_own h2
 refine ⟨A', c', w', hrun, h2, Kept.of_grown hown h3 (by simp), fun p hp hn => ⟨h3.block p hp (fun e => hn e.symm), ?_⟩⟩
 unfold NotB at hn ⊢
 rcases h5 with q | q
 · rw [q]; exact hn
 · rw [q]
   intro e
   injection e with e
   omega
theorem wpList_append_slf {ops : Array Oper} {rest : List Oper} {o : Oper} {a : Act} {w : World} {Q : Exit → Act → World → Prop} (hgd : o.guard = none) {s x : Operand} {t e : TypeId} {size bytes : Nat} (H : Elem P t e size bytes)
    (ho : o.op = .call { callee := .builtin .append, args := #[s, x], argTypes := #[t, t] }) {base : Nat} {A : Option Addr} {n c : Nat} {xs : List Value} (hs : a.eval s = .slice A n c) (hown : Own w base e size A n c xs)
    {B : Nat} {S : Addr} {m d : Nat} {news : List Value} (hm : 0 < m) (hx : a.eval x = .slice (some S) m d) (hr : Reads w B size (some S) m news) (h1 : ∀ u ∈ news, u.oneCell' = true)
    (h63 : n + m ≤ maxLen) (hbytes : (n + m) * bytes ≤ 140737488355328) (hbase : base ≤ w.heap.size)
    (h : ∀ A' c' w', Own w' base e size A' (n + m) c' (xs ++ news) → Kept base [e] [] w w' → (∀ p, p < w.heap.size → NotB A n c p → w'.heap[p]? = w.heap[p]? ∧ NotB A' (n + m) c' p) → wpList P ops Q rest (a.put o.dst (.slice A' (n + m) c')) w') : wpList P ops Q (o :: rest) a w := by
 obtain ⟨A', c', w', hrun, h2, h3, h4⟩ := run_append_slf (ty := o.type) (d := d) H hown hm hr h1 h63 hbytes hbase
 exact wpList_plain hgd fun _ hK => wp_append_run ho hs hx hrun (hK _ _ (h A' c' w' h2 h3 h4))
theorem step_append_slf {ops : Array Oper} {o : Oper} {a : Act} {w : World} {K : Act → World → Prop} {Q : Exit → Act → World → Prop} {E : Prop} (hgd : o.guard = none) {s x : Operand} {t e : TypeId} {size bytes : Nat} (H : Elem P t e size bytes)
    (ho : o.op = .call { callee := .builtin .append, args := #[s, x], argTypes := #[t, t] }) {base : Nat} {A : Option Addr} {n c : Nat} {xs : List Value} (hs : a.eval s = .slice A n c) (hown : Own w base e size A n c xs)
    {B : Nat} {S : Addr} {m d : Nat} {news : List Value} (hm : 0 < m) (hx : a.eval x = .slice (some S) m d) (hr : Reads w B size (some S) m news) (h1 : ∀ u ∈ news, u.oneCell' = true)
    (h63 : n + m ≤ maxLen) (hbytes : (n + m) * bytes ≤ 140737488355328) (hbase : base ≤ w.heap.size)
    (h : ∀ A' c' w', Own w' base e size A' (n + m) c' (xs ++ news) → Kept base [e] [] w w' → (∀ p, p < w.heap.size → NotB A n c p → w'.heap[p]? = w.heap[p]? ∧ NotB A' (n + m) c' p) → K (a.put o.dst (.slice A' (n + m) c')) w') : if Region.wanted o (yielded ops a.tmps) = true then Oper.wp P o a w K Q else E := by
 have hw : Region.wanted o (yielded ops a.tmps) = true := by simp [Region.wanted, hgd]
 rw [if_pos hw]
 obtain ⟨A', c', w', hrun, h2, h3, h4⟩ := run_append_slf (ty := o.type) (d := d) H hown hm hr h1 h63 hbytes hbase
 exact wp_append_run ho hs hx hrun (h A' c' w' h2 h3 h4)
end
theorem below_drewN {B : Nat} {a w : World} (h : Below B a w) (n : Nat) : Below B a (w.drewN n) := ⟨h.os, h.tape, h.output, h.size, h.block⟩
def FO (w : World) (z B : Nat) (A : Option Addr) (c : Nat) (fs : List FileD) : Prop := ∃ tv : List Value, tv.length = fs.length ∧ Own w z 27 3 A fs.length c (filesL fs tv) ∧ ∀ (k : Nat) x y, fs[k]? = some x → tv[k]? = some y → DataR w B x y
def Apart (A C : Option Addr) : Prop := ∀ a c, A = some a → C = some c → a.block ≠ c.block
theorem Apart.none_ (C : Option Addr) : Apart C none := fun _ _ _ h => by cases h
section
variable {w w' : World} {z B : Nat} {A C : Option Addr} {c : Nat} {fs : List FileD} {tv : List Value} {ps : List PairD}
theorem Own.same1 {base : Nat} {e : TypeId} {size n : Nat} {xs : List Value} (h : Own w base e size A n c xs) (hk : ∀ a, A = some a → w'.heap[a.block]? = w.heap[a.block]?) : Own w' base e size A n c xs := by
 refine ⟨h.1, ?_⟩
 rcases h.2 with hv | ⟨g, cap, cur, hv, hbg, hg, hr⟩
 · exact .inl hv
 · refine .inr ⟨g, cap, cur, hv, hbg, ?_, hr⟩
   injection hv with h1
   exact (hk _ h1).trans hg
theorem Own.blkA {base : Nat} {e : TypeId} {size n : Nat} {xs : List Value} (h : Own w base e size A n c xs) : ∀ a, A = some a → base ≤ a.block ∧ a.block < w.heap.size ∧ ∃ cs, Blk w a.block e cs := by
 intro a ha
 subst ha
 exact h.blockAt a.block rfl
theorem filesL_one (h : ∀ (k : Nat) x y, fs[k]? = some x → tv[k]? = some y → DataR w B x y) : ∀ v ∈ filesL fs tv, v.oneCell' = true := by
 intro v hv
 unfold filesL at hv
 obtain ⟨x, hx, hv⟩ := List.mem_flatMap.1 hv
 obtain ⟨k, hk⟩ := List.mem_iff_getElem?.1 hx
 rw [List.getElem?_zip_eq_some] at hk
 obtain ⟨A, c, hy, _⟩ := h k _ _ hk.1 hk.2
 simp only [fileV, strC, List.mem_cons, List.not_mem_nil, or_false] at hv
 rcases hv with rfl | rfl | rfl
 · rfl
 · rfl
 · rw [hy]; rfl
theorem FO.fi (h : FO w z B A c fs) (hB : B ≤ w.heap.size) : FI w w.heap.size A fs := by
 obtain ⟨tv, h1, h2, h3⟩ := h
 exact ⟨tv, h1, h2.reads, fun k x y e1 e2 => (h3 k x y e1 e2).more hB⟩
theorem FO.nil_ (w : World) (z B : Nat) : FO w z B none 0 [] := ⟨[], rfl, Own.nil _ _ _ _, fun _ _ _ h => by cases h⟩
theorem FO.same1 (h : FO w z B A c fs) (hk : ∀ a, A = some a → w'.heap[a.block]? = w.heap[a.block]?) (hb : Below B w w') : FO w' z B A c fs := by
 obtain ⟨tv, h1, h2, h3⟩ := h
 exact ⟨tv, h1, h2.same1 hk, fun k x y e1 e2 => (h3 k x y e1 e2).below hb⟩
theorem FO.lt (h : FO w z B A c fs) : ∀ a, A = some a → z ≤ a.block ∧ a.block < w.heap.size ∧ ∃ cs, Blk w a.block 27 cs := by
 obtain ⟨tv, h1, h2, h3⟩ := h
 exact h2.blkA
theorem FO.keepB (h : FO w z B A c fs) (hb : Below w.heap.size w w') (hB : B ≤ w.heap.size) : FO w' z B A c fs := h.same1 (fun a ha => hb.block _ (h.lt a ha).2.1) (hb.mono hB)
theorem FO.keepOnly {g : Nat} (h : FO w z B A c fs) (hk : Keep (Only g) w w') (hg : ∀ a, A = some a → a.block ≠ g) (hB : B ≤ g) (hz : B ≤ w.heap.size) : FO w' z B A c fs :=
 h.same1 (fun a ha => hk.block _ (h.lt a ha).2.1 (hg a ha)) (hk.below hz (fun j hj q => by unfold Only at q; omega))
theorem FO.mono {z' : Nat} (h : FO w z B A c fs) (hz : z' ≤ z) : FO w z' B A c fs := by
 obtain ⟨tv, h1, h2, h3⟩ := h
 exact ⟨tv, h1, h2.mono hz, h3⟩
theorem filesL_app {fs gs : List FileD} {tv uv : List Value} (h : tv.length = fs.length) : filesL (fs ++ gs) (tv ++ uv) = filesL fs tv ++ filesL gs uv := by
 unfold filesL
 rw [List.zip_append h.symm, List.flatMap_append]
theorem filesL_snoc {tv : List Value} (h : tv.length = fs.length) (f : FileD) (D : Option Addr) (d : Nat) : filesL (fs ++ [f]) (tv ++ [.slice D f.d.length d]) = filesL fs tv ++ (fileC f D d).toList := by
 rw [filesL_app h]
 rfl
theorem FO.snoc {A' : Option Addr} {c' : Nat} {f : FileD} {D : Option Addr} {d : Nat} (h1 : tv.length = fs.length) (h3 : ∀ (k : Nat) x y, fs[k]? = some x → tv[k]? = some y → DataR w B x y) (hx : DataR w B f (.slice D f.d.length d))
    (ho : Own w' z 27 3 A' (fs.length + 1) c' (filesL fs tv ++ (fileC f D d).toList)) (hb : Below B w w') : FO w' z B A' c' (fs ++ [f]) := by
 refine ⟨tv ++ [.slice D f.d.length d], by simp [h1], by rw [filesL_snoc h1, List.length_append]; exact ho, fun k a b e1 e2 => ?_⟩
 refine DataR.below ?_ hb
 rcases Nat.lt_trichotomy k fs.length with q | q | q
 · rw [List.getElem?_append_left q] at e1
   rw [List.getElem?_append_left (by omega)] at e2
   exact h3 k a b e1 e2
 · subst q
   rw [List.getElem?_append_right (Nat.le_refl _), Nat.sub_self] at e1
   rw [List.getElem?_append_right (by omega), h1, Nat.sub_self] at e2
   injection e1 with e1
   injection e2 with e2
   subst e1 e2
   exact hx
 · rw [List.getElem?_eq_none (by rw [List.length_append, List.length_singleton]; omega)] at e1
   cases e1
theorem filesL_erase {fs : List FileD} {tv : List Value} (h : tv.length = fs.length) {i : Nat} (hi : i < fs.length) : filesL (fs.eraseIdx i) (tv.eraseIdx i) = (filesL fs tv).take (i * 3) ++ (filesL fs tv).drop ((i + 1) * 3) := by
 have e1 : fs = fs.take i ++ (fs[i] :: fs.drop (i + 1)) := by rw [List.getElem_cons_drop, List.take_append_drop]
 have hi' : i < tv.length := by omega
 have e2 : tv = tv.take i ++ (tv[i] :: tv.drop (i + 1)) := by rw [List.getElem_cons_drop, List.take_append_drop]
 have hl : (tv.take i).length = (fs.take i).length := by rw [List.length_take, List.length_take, h]
 have e3 : filesL fs tv = filesL (fs.take i) (tv.take i) ++ (filesL [fs[i]] [tv[i]] ++ filesL (fs.drop (i + 1)) (tv.drop (i + 1))) := by
  rw [← filesL_app (by rfl), ← filesL_app hl]
  show filesL fs tv = filesL (fs.take i ++ (fs[i] :: fs.drop (i + 1))) (tv.take i ++ (tv[i] :: tv.drop (i + 1)))
  rw [← e1, ← e2]
 have l1 : (filesL (fs.take i) (tv.take i)).length = i * 3 := by rw [filesL_len hl, List.length_take, Nat.min_eq_left (by omega)]
 have l2 : (filesL [fs[i]] [tv[i]]).length = 3 := rfl
 rw [List.eraseIdx_eq_take_drop_succ, List.eraseIdx_eq_take_drop_succ, filesL_app hl, e3]
 generalize filesL (fs.take i) (tv.take i) = X at *
 generalize filesL [fs[i]] [tv[i]] = Y at *
 generalize filesL (fs.drop (i + 1)) (tv.drop (i + 1)) = Z at *
 rw [List.take_left' l1, ← List.append_assoc, List.drop_left' (by rw [List.length_append, l1, l2]; omega)]
theorem FO.erase {i : Nat} (h1 : tv.length = fs.length) (h3 : ∀ (k : Nat) x y, fs[k]? = some x → tv[k]? = some y → DataR w B x y) (hi : i < fs.length)
    (ho : Own w' z 27 3 A (fs.length - 1) c ((filesL fs tv).take (i * 3) ++ (filesL fs tv).drop ((i + 1) * 3))) (hb : Below B w w') : FO w' z B A c (fs.eraseIdx i) := by
 refine ⟨tv.eraseIdx i, by rw [List.length_eraseIdx_of_lt hi, List.length_eraseIdx_of_lt (by omega), h1], by rw [filesL_erase h1 hi, List.length_eraseIdx_of_lt hi]; exact ho, fun k a b e1 e2 => ?_⟩
 rw [List.getElem?_eraseIdx] at e1 e2
 split at e1
 · rename_i q
   rw [if_pos q] at e2
   exact (h3 _ _ _ e1 e2).below hb
 · rename_i q
   rw [if_neg q] at e2
   exact (h3 _ _ _ e1 e2).below hb
theorem pairL_one (x : PairD) : ∀ v ∈ pairL x, v.oneCell' = true := by
 intro v hv
 simp only [pairL, strC, List.mem_cons, List.not_mem_nil, or_false] at hv
 rcases hv with rfl | rfl | rfl <;> rfl
theorem apart_push {n m c' : Nat} (hx : Apart C A) (hw : ∀ a, C = some a → a.block < w.heap.size) {A' : Option Addr} (hn : ∀ p, p < w.heap.size → NotB A n c p → w'.heap[p]? = w.heap[p]? ∧ NotB A' m c' p) : (∀ a, C = some a → w'.heap[a.block]? = w.heap[a.block]?) ∧ Apart C A' := by
 have key : ∀ a, C = some a → NotB A n c a.block := by
  intro a ha q
  rcases A with _ | b
  · cases q
  · injection q with q
    exact hx a b ha rfl q.symm
 refine ⟨fun a ha => (hn _ (hw a ha) (key a ha)).1, fun a b ha hb q => ?_⟩
 subst hb
 exact (hn _ (hw a ha) (key a ha)).2 (by rw [q]; rfl)
theorem FO.kept {b : Nat} {E : List TypeId} (h : FO w z B A c fs) (hk : Kept b E [] w w') (he : 27 ∉ E) (hb : B ≤ b) (hz : B ≤ w.heap.size) : FO w' z B A c fs := by
 obtain ⟨tv, h1, h2, h3⟩ := h
 exact ⟨tv, h1, Own.kept h2 hk he (by simp), fun k x y e1 e2 => (h3 k x y e1 e2).below (hk.below hb hz (by simp))⟩
theorem FO.push2 {w9 : World} {d c9 dd : Nat} {gs : List FileD} {f : FileD} {D A9 : Option Addr} (h1 : tv.length = fs.length) (h3 : ∀ (k : Nat) x y, fs[k]? = some x → tv[k]? = some y → DataR w B x y) (hx : DataR w B f (.slice D f.d.length dd)) (hg : FO w z B C d gs) (ap : Apart C A) (hBz : B ≤ z) (hz : z ≤ w.heap.size)
    (o9 : Own w9 z 27 3 A9 (fs.length + 1) c9 (filesL fs tv ++ (fileC f D dd).toList)) (k9 : Kept z [27] [] (w.alloc (.cells (fileC f D dd) 27)) w9)
    (n9 : ∀ p, p < (w.alloc (.cells (fileC f D dd) 27)).heap.size → NotB A fs.length c p → w9.heap[p]? = (w.alloc (.cells (fileC f D dd) 27)).heap[p]? ∧ NotB A9 (fs.length + 1) c9 p) :
    FO w9 z B A9 c9 (fs ++ [f]) ∧ FO w9 z B C d gs ∧ Apart C A9 ∧ Below z w w9 := by
 have hb : Below z w w9 := ((Below.refl z w).alloc hz _).trans (k9.below (Nat.le_refl _) (by simp; omega) (by simp))
 obtain ⟨q1, q2⟩ := apart_push ap (fun a ha => by have := (hg.lt a ha).2.1; simp; omega) n9
 refine ⟨FO.snoc h1 h3 hx o9 (hb.mono hBz), hg.same1 (fun a ha => ?_) (hb.mono hBz), q2, hb⟩
 rw [q1 a ha]
 exact Below.heap_alloc w _ _ (hg.lt a ha).2.1
end
theorem exactP_none {f : FileD} {gone rest : List FileD} (h : bestP f rest 0 none = none) : exactP (f :: gone) rest = ((exactP gone rest).1, f :: (exactP gone rest).2.1, (exactP gone rest).2.2) := by
 rw [exactP, h]
theorem exactP_some {f : FileD} {gone rest : List FileD} {x : Nat × FileD} (h : bestP f rest 0 none = some x) : exactP (f :: gone) rest = (⟨f.p, x.2.p, 100⟩ :: (exactP gone (rest.eraseIdx x.1)).1, (exactP gone (rest.eraseIdx x.1)).2.1, (exactP gone (rest.eraseIdx x.1)).2.2) := by
 rw [exactP, h]
end Go.Proofs.YtbaapjlmpmpocaaGreatDoor
