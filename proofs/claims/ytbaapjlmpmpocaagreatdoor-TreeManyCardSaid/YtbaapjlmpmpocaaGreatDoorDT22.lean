/- Changes in memory; what a map of changes holds. No statement of the seat is proved here. -/
import Derived.Test.YtbaapjlmpmpocaaGreatDoorDT20
import Derived.Test.YtbaapjlmpmpocaaGreatDoorDT21
import Derived.Test.YtbaapjlmpmpocaaGreatDoorDT16
import Derived.Test.YtbaapjlmpmpocaaGreatDoorDT17
namespace Go.Proofs.YtbaapjlmpmpocaaGreatDoor
open Go.RowKit Go.Maps
set_option maxHeartbeats 1000000 in
set_option maxRecDepth 100000 in
theorem cloneB_any (l : List UInt8) (A : Option Addr) (c B : Nat) (w : World) (hB : B ≤ w.heap.size) (hr : Reads w B 1 A l.length (l.map byteV)) (hl : l.length ≤ 100000000) :
    Calls Tryz.prog 33 #[.slice A l.length c] w fun r w' => ∃ A' c', r = .returned (.slice A' l.length c') ∧ OwnB w' w.heap.size A' c' l ∧ Below w.heap.size w w' := by
 have q22 : ∀ (w : World) (a : Option Addr) (n c n' c' : Nat), (binOp .eql 25 (.slice a n c) (.slice none n' c')).run Tryz.prog w = .ok (.bool a.isNone) w := fun w a n c n' c' => Lib.run_eql_slice_nil w _ _ a n c n' c' Tryz.underlying25
 rcases A with _ | a
 · have h0 : l.length = 0 := by
    rcases Nat.eq_zero_or_pos l.length with q | q
    · exact q
    · obtain ⟨ad, h, _⟩ := hr.2 q
      cases h
   have hl0 := List.eq_nil_of_length_eq_zero h0
   subst hl0
   go_enter Tryz.func33, Tryz.ntmps33
   go_wp2_with fail
   go_ret
   exact ⟨none, 0, rfl, Own.nil _ _ _ _, Below.refl _ _⟩
 · have HR := Lib.hid (fun W (k : Below w.heap.size w W) => hr.below (k.mono hB))
   have h0 : Own (w.alloc (.cells #[] 5)) w.heap.size 5 1 (some ⟨w.heap.size, 0, none⟩) 0 0 [] := World.ownsRow_made w #[] 0 (Nat.le_refl _) (Nat.zero_le _) (by simp)
   have H0 := Lib.hid h0
   clear hr h0
   go_enter Tryz.func33, Tryz.ntmps33
   go_wp2_with (at_builtin; refine wpList_append_sl rfl elemU8 rfl rfl (n := 0) (xs := []) H0.out rfl (HR.out _ ((Below.refl _ _).alloc (Nat.le_refl _) _)) (bvs_one l) (by unfold maxLen; omega) (by omega) (by simp) ?_; intro A5 c5 w5 o5 k5; have O5 := Lib.hid o5; have HK5 := Lib.hid (((Kept.refl w.heap.size [5] [] w).alloc _).trans k5); clear o5 k5)
   go_ret
   exact ⟨A5, c5, rfl, by have := O5.out; rw [Nat.zero_add, List.nil_append] at this; exact this, HK5.out.below (Nat.le_refl _) (Nat.le_refl _) (by simp)⟩
theorem zero_file (w : World) : (zeroValue 27).run Tryz.prog w = .ok (.agg #[.string ⟨#[]⟩, .int .i64 0, .slice none 0 0]) w := by kernel_rfl
set_option maxHeartbeats 1000000 in
set_option maxRecDepth 100000 in
theorem own_any (f : FileD) (A : Option Addr) (c B : Nat) (w : World) (hB : B ≤ w.heap.size) (hr : Reads w B 1 A f.d.length (f.d.map byteV)) (hl : f.d.length ≤ 100000000) :
    Calls Tryz.prog 30 #[.agg (fileC f A c)] w fun r w' => ∃ A' c', r = .returned (.agg (fileC f A' c')) ∧ OwnB w' w.heap.size A' c' f.d ∧ Below w.heap.size w w' := by
 obtain ⟨p, k, d⟩ := f
 simp only at hr hl
 unfold fileC strC
 simp only
 have HC := Lib.hid (fun W (kW : Below w.heap.size w W) => cloneB_any d A c B W (Nat.le_trans hB kW.size) (hr.below (kW.mono hB)) hl)
 clear hr
 go_enter Tryz.func30, Tryz.ntmps30
 go_wp2_with (go_at_call 33; refine (HC.out _ (((Below.refl _ _).alloc (Nat.le_refl _) _).alloc (by simp) _)).mono ?_)
 rintro _ w1 ⟨A1, c1, rfl, o1, b1⟩
 have hx1 : Blk w1 w.heap.size 27 #[.string ⟨p.toArray⟩, .int .i64 k, .slice A d.length c] := Blk.below ((Blk.new w 27 #[.string ⟨p.toArray⟩, .int .i64 k, .slice A d.length c]).alloc _) b1 (by simp; omega)
 have hy1 : Blk w1 (w.heap.size + 1) 27 #[.string ⟨#[]⟩, .int .i64 0, .slice none 0 0] := by
  have := Blk.new (w.alloc (.cells #[.string ⟨p.toArray⟩, .int .i64 k, .slice A d.length c] 27)) 27 #[.string ⟨#[]⟩, .int .i64 0, .slice none 0 0]
  exact Blk.below (by simpa using this) b1 (by simp)
 have c2 := hx1.cell 2
 have f2 := hx1.frozen 2
 simp at c2
 have hx2 := hx1.set_ 2 (.slice A1 d.length c1)
 simp at hx2
 have HQ2 := Lib.hid (file_load (f := ⟨p, k, d⟩) (A := A1) (c := c1) hx2)
 have HY2 := Lib.hid (show Blk (w1.setCell ⟨w.heap.size, 2, none⟩ (.slice A1 d.length c1)) (w.heap.size + 1) 27 #[.string ⟨#[]⟩, .int .i64 0, .slice none 0 0] from hy1.far (by simp) _)
 have O1 := Lib.hid (show OwnB w1 w.heap.size A1 c1 d from Own.mono o1 (by simp; omega))
 have hb1 : Below w.heap.size w w1 := (((Below.refl w.heap.size w).alloc (Nat.le_refl _) _).alloc (by simp) _).trans (b1.mono (by simp; omega))
 have HB2 := Lib.hid (show Below w.heap.size w (w1.setCell ⟨w.heap.size, 2, none⟩ (.slice A1 d.length c1)) from hb1.setCell (p := ⟨w.heap.size, 2, none⟩) (Nat.le_refl _) _)
 have O2 := Lib.hid (show OwnB (w1.setCell ⟨w.heap.size, 2, none⟩ (.slice A1 d.length c1)) w.heap.size A1 c1 d from Own.setCell (p := ⟨w.heap.size, 2, none⟩) O1.out hx1 (by decide) _)
 clear hx1 hy1 hx2 o1 b1 hb1 HC
 go_wp2_with (first | (with_reducible refine wpList_load rfl rfl rfl HQ2.out ?_) | (refine wpList_storeBlk rfl rfl (vs := fileC ⟨p, k, d⟩ A1 c1) rfl rfl HY2.out rfl info_file (fileC_one _ _ _) ?_; intro w5 hx5 hk5 hz5))
 refine bodyPost_ret (results_cell rfl _ _ rfl (run_loadVar_cells w5 _ (fileC ⟨p, k, d⟩ A1 c1) Tryz.underlying27 rfl info_file (fun j v hj => by rw [add_at, hx5.cell, ← hj]; simp))) rfl ?_
 refine ⟨A1, c1, rfl, ?_, HB2.out.trans (hk5.below HB2.out.size (by intro i hi; simp only [Only]; omega))⟩
 exact Own.keepOnly O2.out hk5 HY2.out (by decide)
end Go.Proofs.YtbaapjlmpmpocaaGreatDoor
namespace Go.Proofs.YtbaapjlmpmpocaaGreatDoor
open Go.RowKit Go.Maps
theorem getF_snoc {l : List FileD} {f : FileD} (h : hasF l f.p = false) (s : Pth) : getF (l ++ [f]) s = if s = f.p then f else getF l s := by
 unfold getF
 rw [List.find?_append]
 by_cases e : s = f.p
 · subst e
   rw [if_pos rfl]
   have : l.find? (fun g => g.p == f.p) = none := by
    rw [List.find?_eq_none]
    intro g hg q
    have : hasF l f.p = true := hasF_iff.2 ⟨g, hg, by simpa using q⟩
    rw [h] at this
    cases this
   rw [this]
   simp
 · rw [if_neg e]
   have : [f].find? (fun g => g.p == s) = none := by
    rw [List.find?_eq_none]
    intro g hg q
    rw [List.mem_singleton] at hg
    subst hg
    exact e (by simpa using Eq.symm (by simpa using q))
   rw [this]
   simp
theorem hasF_snoc (l : List FileD) (f : FileD) (s : Pth) : hasF (l ++ [f]) s = (hasF l s || decide (s = f.p)) := by
 rw [Bool.eq_iff_iff, Bool.or_eq_true, decide_eq_true_eq, hasF_iff, hasF_iff]
 constructor
 · rintro ⟨g, hg, rfl⟩
   rcases List.mem_append.1 hg with q | q
   · exact .inl ⟨g, q, rfl⟩
   · rw [List.mem_singleton] at q
     subst q
     exact .inr rfl
 · rintro (⟨g, hg, rfl⟩ | rfl)
   · exact ⟨g, List.mem_append.2 (.inl hg), rfl⟩
   · exact ⟨f, by simp, rfl⟩
theorem apt_take {l : List FileD} (h : Apt l) {k : Nat} {f : FileD} (hf : l[k]? = some f) : hasF (l.take k) f.p = false := by
 have hk : l.take (k + 1) = l.take k ++ [f] := by rw [List.take_add_one, hf]; rfl
 have h2 : ((l.take (k + 1)).map (·.p)).Nodup := List.Sublist.nodup ((List.take_sublist _ _).map _) h
 rw [hk, List.map_append, List.nodup_append] at h2
 rw [Bool.eq_false_iff]
 intro q
 obtain ⟨g, hg, e⟩ := hasF_iff.1 q
 exact h2.2.2 _ (List.mem_map.2 ⟨g, hg, rfl⟩) _ (by simp) e
def chgC (x : ChangeD) (v1 v2 : Value) : Array Value := #[strC x.old.p, .int .i64 x.old.k, v1, strC x.new.p, .int .i64 x.new.k, v2]
def chgV (x : ChangeD) (y : Value × Value) : List Value := [strC x.old.p, .int .i64 x.old.k, y.1, strC x.new.p, .int .i64 x.new.k, y.2]
def chgL (l : List ChangeD) (tv : List (Value × Value)) : List Value := (l.zip tv).flatMap fun x => chgV x.1 x.2
theorem chgL_snoc {l : List ChangeD} {tv : List (Value × Value)} (h : tv.length = l.length) (x : ChangeD) (y : Value × Value) : chgL (l ++ [x]) (tv ++ [y]) = chgL l tv ++ (chgC x y.1 y.2).toList := by
 unfold chgL
 rw [List.zip_append h.symm]
 simp [chgV, chgC]
theorem chgL_at {l : List ChangeD} {tv : List (Value × Value)} {k : Nat} {x : ChangeD} {y : Value × Value} (h1 : l[k]? = some x) (h2 : tv[k]? = some y) (j : Nat) (u : Value) (hj : (chgV x y)[j]? = some u) : (chgL l tv)[k * 6 + j]? = some u :=
 flatn_at (f := fun x : ChangeD × (Value × Value) => chgV x.1 x.2) (C := 6) (fun _ => rfl) (l.zip tv) k j (x, y) (by rw [List.getElem?_zip_eq_some]; exact ⟨h1, h2⟩) u hj
theorem chgL_len {l : List ChangeD} {tv : List (Value × Value)} (h : tv.length = l.length) : (chgL l tv).length = l.length * 6 := by
 unfold chgL
 rw [flatn_len (f := fun x : ChangeD × (Value × Value) => chgV x.1 x.2) (C := 6) (fun _ => rfl), List.length_zip, h, Nat.min_self]
def CI (w : World) (B : Nat) (A : Option Addr) (l : List ChangeD) : Prop := ∃ tv : List (Value × Value), tv.length = l.length ∧ Reads w B 6 A l.length (chgL l tv) ∧ ∀ (k : Nat) x y, l[k]? = some x → tv[k]? = some y → DataR w B x.old y.1 ∧ DataR w B x.new y.2
def DataO (w : World) (z : Nat) (f : FileD) (v : Value) : Prop := ∃ A c, v = .slice A f.d.length c ∧ OwnB w z A c f.d
def ChO (w : World) (z : Nat) (A : Option Addr) (c : Nat) (l : List ChangeD) : Prop := ∃ tv : List (Value × Value), tv.length = l.length ∧ Own w z 41 6 A l.length c (chgL l tv) ∧ ∀ (k : Nat) x y, l[k]? = some x → tv[k]? = some y → DataO w z x.old y.1 ∧ DataO w z x.new y.2
theorem DataO.reads {w : World} {z : Nat} {f : FileD} {v : Value} (h : DataO w z f v) : DataR w w.heap.size f v := by
 obtain ⟨A, c, rfl, h⟩ := h
 exact ⟨A, c, rfl, h.cap_le.1, h.cap_le.2, h.reads⟩
theorem DataO.kept {w w' : World} {z b : Nat} {E : List TypeId} {f : FileD} {v : Value} (h : DataO w z f v) (hk : Kept b E [] w w') (he : 5 ∉ E) : DataO w' z f v := by
 obtain ⟨A, c, rfl, h⟩ := h
 exact ⟨A, c, rfl, Own.kept h hk he (by simp)⟩
theorem ChO.reads {w : World} {z : Nat} {A : Option Addr} {c : Nat} {l : List ChangeD} (h : ChO w z A c l) : CI w w.heap.size A l := by
 obtain ⟨tv, h1, h2, h3⟩ := h
 exact ⟨tv, h1, h2.reads, fun k x y e1 e2 => ⟨(h3 k x y e1 e2).1.reads, (h3 k x y e1 e2).2.reads⟩⟩
theorem ChO.nil_ (w : World) (z : Nat) : ChO w z none 0 [] := ⟨[], rfl, Own.nil _ _ _ _, fun _ _ _ h => by cases h⟩
theorem ChO.keepB {w w' : World} {z : Nat} {A : Option Addr} {c : Nat} {l : List ChangeD} (h : ChO w z A c l) (hb : Below w.heap.size w w') : ChO w' z A c l := by
 obtain ⟨tv, h1, h2, h3⟩ := h
 have kk : Kept 0 [] [] w w' := Kept.ofBelow hb
 exact ⟨tv, h1, h2.kept kk (by simp) (by simp), fun k x y e1 e2 => ⟨(h3 k x y e1 e2).1.kept kk (by simp), (h3 k x y e1 e2).2.kept kk (by simp)⟩⟩
theorem ChO.mono {w : World} {z z' : Nat} {A : Option Addr} {c : Nat} {l : List ChangeD} (h : ChO w z A c l) (hz : z' ≤ z) : ChO w z' A c l := by
 obtain ⟨tv, h1, h2, h3⟩ := h
 have hd : ∀ f v, DataO w z f v → DataO w z' f v := fun f v h => by
  obtain ⟨A, c, rfl, h⟩ := h
  exact ⟨A, c, rfl, Own.mono h hz⟩
 exact ⟨tv, h1, h2.mono hz, fun k x y e1 e2 => ⟨hd _ _ (h3 k x y e1 e2).1, hd _ _ (h3 k x y e1 e2).2⟩⟩
theorem ChO.snoc {w w' : World} {z : Nat} {A' : Option Addr} {c' : Nat} {l : List ChangeD} {tv : List (Value × Value)} {x : ChangeD} {y : Value × Value} (h1 : tv.length = l.length) (h3 : ∀ (k : Nat) x y, l[k]? = some x → tv[k]? = some y → DataO w z x.old y.1 ∧ DataO w z x.new y.2)
    (hx : DataO w z x.old y.1 ∧ DataO w z x.new y.2) (ho : Own w' z 41 6 A' (l.length + 1) c' (chgL l tv ++ (chgC x y.1 y.2).toList)) (hk : Kept z [41] [] w w') : ChO w' z A' c' (l ++ [x]) := by
 refine ⟨tv ++ [y], by simp [h1], ?_, fun k a b e1 e2 => ?_⟩
 · rw [chgL_snoc h1, List.length_append]
   exact ho
 · have hd : DataO w z a.old b.1 ∧ DataO w z a.new b.2 := by
    rcases Nat.lt_trichotomy k l.length with q | q | q
    · rw [List.getElem?_append_left q] at e1
      rw [List.getElem?_append_left (by omega)] at e2
      exact h3 k a b e1 e2
    · subst q
      rw [List.getElem?_append_right (Nat.le_refl _), Nat.sub_self] at e1
      rw [List.getElem?_append_right (by omega), h1, Nat.sub_self] at e2
      injection e1 with e1
      injection e2 with e2
      subst e1 e2
      exact hx
    · rw [List.getElem?_eq_none (by rw [List.length_append, List.length_singleton]; omega)] at e1
      cases e1
   exact ⟨hd.1.kept hk (by decide), hd.2.kept hk (by decide)⟩
theorem elemChg : Elem Tryz.prog 37 41 6 96 := by
 refine ⟨Tryz.underlying37, ?_, by decide⟩
 obtain ⟨i, hi, h1, h2, h3⟩ := info_parts (show (Tryz.prog.info? 41).map (fun i => (i.zero, i.size, i.bytes)) = some (some (.agg #[.string ⟨#[]⟩, .int .i64 0, .slice none 0 0, .string ⟨#[]⟩, .int .i64 0, .slice none 0 0]), 6, 96) by kernel_rfl)
 exact ⟨i, _, hi, h1, h2, h3, rfl⟩
theorem info_chg : (Tryz.prog.info? 41).map (·.size) = some 6 := by kernel_rfl
theorem zero_chg (w : World) : (zeroValue 41).run Tryz.prog w = .ok (.agg #[.string ⟨#[]⟩, .int .i64 0, .slice none 0 0, .string ⟨#[]⟩, .int .i64 0, .slice none 0 0]) w := by kernel_rfl
theorem chgC_one (x : ChangeD) {v1 v2 : Value} (h1 : v1.oneCell' = true) (h2 : v2.oneCell' = true) : ∀ v ∈ (chgC x v1 v2).toList, v.oneCell' = true := by
 intro v hv
 simp only [chgC, strC, List.mem_cons, List.not_mem_nil, or_false] at hv
 rcases hv with rfl | rfl | rfl | rfl | rfl | rfl <;> first | rfl | assumption
theorem build_chg1 (f : FileD) (A : Option Addr) (c : Nat) (w : World) : (Instr.build 41 #[(0, .agg (fileC f A c))]).run Tryz.prog w = .ok (.agg (chgC ⟨f, zeroF⟩ (.slice A f.d.length c) (.slice none 0 0))) w := by kernel_rfl
theorem build_chg2 (f g : FileD) (A A' : Option Addr) (c c' : Nat) (w : World) : (Instr.build 41 #[(0, .agg (fileC f A c)), (1, .agg (fileC g A' c'))]).run Tryz.prog w = .ok (.agg (chgC ⟨f, g⟩ (.slice A f.d.length c) (.slice A' g.d.length c'))) w := by kernel_rfl
theorem chg_load {w : World} {q : Nat} {x : ChangeD} {v1 v2 : Value} (h : Blk w q 41 (chgC x v1 v2)) : (Instr.loadAt 41 (.pointer (some ⟨q, 0, none⟩))).run Tryz.prog w = .ok (.agg (chgC x v1 v2)) w :=
 run_loadAt_blk (P := Tryz.prog) h 0 (chgC x v1 v2) Tryz.underlying41 rfl info_chg (by simp [chgC])
theorem chg_load1 {w : World} {q : Nat} {x : ChangeD} {A A' : Option Addr} {c c' : Nat} (h : Blk w q 41 (chgC x (.slice A x.old.d.length c) (.slice A' x.new.d.length c'))) : (Instr.loadAt 27 (.pointer (some ⟨q, 0, none⟩))).run Tryz.prog w = .ok (.agg (fileC x.old A c)) w :=
 run_loadAt_blk (P := Tryz.prog) h 0 (fileC x.old A c) Tryz.underlying27 rfl info_file (by simp [chgC, fileC])
theorem chg_load2 {w : World} {q : Nat} {x : ChangeD} {A A' : Option Addr} {c c' : Nat} (h : Blk w q 41 (chgC x (.slice A x.old.d.length c) (.slice A' x.new.d.length c'))) : (Instr.loadAt 27 (.pointer (some ⟨q, 3, none⟩))).run Tryz.prog w = .ok (.agg (fileC x.new A' c')) w :=
 run_loadAt_blk (P := Tryz.prog) h 3 (fileC x.new A' c') Tryz.underlying27 rfl info_file (by simp [chgC, fileC])
def ChM (w : World) (B : Nat) (a b : List FileD) (f : Mp) : Prop := (∀ s, (f s).isSome = (hasF a s || hasF b s)) ∧ ∀ s v, f s = some v → ∃ oA oc nA nc, v = .agg (chgC ⟨getF a s, getF b s⟩ (.slice oA (getF a s).d.length oc) (.slice nA (getF b s).d.length nc)) ∧ Reads w B 1 oA (getF a s).d.length ((getF a s).d.map byteV) ∧ Reads w B 1 nA (getF b s).d.length ((getF b s).d.map byteV)
theorem ChM.nil_ (w : World) (B : Nat) : ChM w B [] [] mpNil := ⟨fun _ => rfl, fun _ _ h => by cases h⟩
theorem ChM.below {w w' : World} {B : Nat} {a b : List FileD} {f : Mp} (h : ChM w B a b f) (hb : Below B w w') : ChM w' B a b f :=
 ⟨h.1, fun s v e => by
  obtain ⟨oA, oc, nA, nc, h1, h2, h3⟩ := h.2 s v e
  exact ⟨oA, oc, nA, nc, h1, h2.below hb, h3.below hb⟩⟩
theorem ChM.get {w : World} {B : Nat} {a b : List FileD} {f : Mp} (h : ChM w B a b f) (s : Pth) : ∃ oA oc nA nc, (f s).getD (.agg #[.string ⟨#[]⟩, .int .i64 0, .slice none 0 0, .string ⟨#[]⟩, .int .i64 0, .slice none 0 0]) = .agg (chgC ⟨getF a s, getF b s⟩ (.slice oA (getF a s).d.length oc) (.slice nA (getF b s).d.length nc)) ∧ Reads w B 1 oA (getF a s).d.length ((getF a s).d.map byteV) ∧ Reads w B 1 nA (getF b s).d.length ((getF b s).d.map byteV) := by
 cases hf : f s with
 | some v =>
  obtain ⟨oA, oc, nA, nc, h1, h2, h3⟩ := h.2 s v hf
  exact ⟨oA, oc, nA, nc, h1, h2, h3⟩
 | none =>
  have := h.1 s
  rw [hf] at this
  have h1 : hasF a s = false ∧ hasF b s = false := by
   revert this
   cases hasF a s <;> cases hasF b s <;> simp
  rw [getF_none h1.1, getF_none h1.2]
  exact ⟨none, 0, none, 0, rfl, Reads.none_, Reads.none_⟩
theorem ChM.putA {w : World} {B : Nat} {a : List FileD} {f : Mp} {x : FileD} {A : Option Addr} {c : Nat} (h : ChM w B a [] f) (hx : hasF a x.p = false) (hr : Reads w B 1 A x.d.length (x.d.map byteV)) : ChM w B (a ++ [x]) [] (mput f x.p (.agg (chgC ⟨x, zeroF⟩ (.slice A x.d.length c) (.slice none 0 0)))) := by
 refine ⟨fun s => ?_, fun s v e => ?_⟩
 · rw [hasF_snoc]
   unfold mput
   by_cases q : s = x.p
   · rw [if_pos q, decide_eq_true q]; simp
   · rw [if_neg q, decide_eq_false q, Bool.or_false]; exact h.1 s
 · rw [getF_snoc hx]
   unfold mput at e
   by_cases q : s = x.p
   · rw [if_pos q] at e ⊢
     injection e with e
     exact ⟨A, c, none, 0, e.symm, hr, Reads.none_⟩
   · rw [if_neg q] at e ⊢
     exact h.2 s v e
theorem ChM.putB {w : World} {B : Nat} {a b : List FileD} {f : Mp} {x : FileD} {A oA : Option Addr} {c oc : Nat} (h : ChM w B a b f) (hx : hasF b x.p = false) (hr : Reads w B 1 A x.d.length (x.d.map byteV)) (hr0 : Reads w B 1 oA (getF a x.p).d.length ((getF a x.p).d.map byteV)) : ChM w B a (b ++ [x]) (mput f x.p (.agg (chgC ⟨getF a x.p, x⟩ (.slice oA (getF a x.p).d.length oc) (.slice A x.d.length c)))) := by
 refine ⟨fun s => ?_, fun s v e => ?_⟩
 · rw [hasF_snoc]
   unfold mput
   by_cases q : s = x.p
   · rw [if_pos q, decide_eq_true q]; simp
   · rw [if_neg q, decide_eq_false q, Bool.or_false]; exact h.1 s
 · rw [getF_snoc hx]
   unfold mput at e
   by_cases q : s = x.p
   · rw [if_pos q] at e ⊢
     injection e with e
     rw [q]
     exact ⟨oA, oc, A, c, e.symm, hr0, hr⟩
   · rw [if_neg q] at e ⊢
     exact h.2 s v e
theorem diffT_keys {a b : List FileD} {ks : List Pth} (h : RiseP ks) (hm : ∀ s, s ∈ ks ↔ (hasF a s || hasF b s) = true) : diffT a b = ks.filterMap fun p => changeP (getF a p) (getF b p) := by
 have : keysP (a.map (·.p) ++ b.map (·.p)) = ks := rise_unique (keysP_rise _) h fun x => by
  rw [mem_keysP, hm, Bool.or_eq_true, List.mem_append, hasF_iff, hasF_iff, List.mem_map, List.mem_map]
 unfold diffT
 rw [this]
end Go.Proofs.YtbaapjlmpmpocaaGreatDoor
