/- Plain: how long three small texts are when merged. No statement of the seat is proved here. -/
import Derived.Test.YteeeehfnldkjlaaGreatDoorTC12
import Derived.Test.YteeeehfnldkjlaaGreatDoorTC05
namespace Go.Proofs.YteeeehfnldkjlaaGreatDoor
open Go.RowKit
def StrR (w : World) (B : Nat) (v : Value) (l : List (List UInt8)) : Prop := ∃ A c, v = .slice A l.length c ∧ Reads w B 1 A l.length (strL l)
def CkR (w : World) (B : Nat) (A : Option Addr) (l : List ChunkD) : Prop := ∃ tv : List Val3, tv.length = l.length ∧ Reads w B 4 A l.length (ckLs l tv) ∧ ∀ (k : Nat) y u, l[k]? = some y → tv[k]? = some u → StrR w B u.1 y.b ∧ StrR w B u.2.1 y.o ∧ StrR w B u.2.2 y.t
theorem StrR.below {w w' : World} {B : Nat} {v : Value} {l : List (List UInt8)} (h : StrR w B v l) (hb : Below B w w') : StrR w' B v l := by
 obtain ⟨A, c, h1, h2⟩ := h
 exact ⟨A, c, h1, h2.below hb⟩
theorem CkR.below {w w' : World} {B : Nat} {A : Option Addr} {l : List ChunkD} (h : CkR w B A l) (hb : Below B w w') : CkR w' B A l := by
 obtain ⟨tv, h1, h2, h3⟩ := h
 exact ⟨tv, h1, h2.below hb, fun k y u e1 e2 => ⟨(h3 k y u e1 e2).1.below hb, (h3 k y u e1 e2).2.1.below hb, (h3 k y u e1 e2).2.2.below hb⟩⟩
theorem CkL.reads {w : World} {z : Nat} {A : Option Addr} {cp : Nat} {l : List ChunkD} (h : CkL w z A cp l) : CkR w w.heap.size A l := by
 obtain ⟨tv, h1, h2, h3⟩ := h.own
 have hS : ∀ {v : Value} {m : List (List UInt8)}, SRow w z w.heap.size v m → StrR w w.heap.size v m := fun q => by
  obtain ⟨A, c, e, h, _⟩ := q.reads
  exact ⟨A, c, e, h⟩
 exact ⟨tv, h1, h2.reads, fun k y u e1 e2 => ⟨hS (h3 k y u e1 e2).1, hS (h3 k y u e1 e2).2.1, hS (h3 k y u e1 e2).2.2⟩⟩
theorem ckLs_at {l : List ChunkD} {tv : List Val3} {k : Nat} {x : ChunkD} {v : Val3} (h1 : l[k]? = some x) (h2 : tv[k]? = some v) (j : Nat) (u : Value) (hj : (ckV x v)[j]? = some u) : (ckLs l tv)[k * 4 + j]? = some u :=
 flatn_at (f := fun y : ChunkD × Val3 => ckV y.1 y.2) (C := 4) (fun _ => rfl) (l.zip tv) k j (x, v) (by rw [List.getElem?_zip_eq_some]; exact ⟨h1, h2⟩) u hj
theorem CkR.at_ {w : World} {B : Nat} {A : Option Addr} {l : List ChunkD} (h : CkR w B A l) {k : Nat} {x : ChunkD} (hk : l[k]? = some x) : ∃ g off B1 B2 B3 d1 d2 d3, A = some ⟨g, off, none⟩ ∧ g < B ∧
    (Instr.loadAt 178 (.pointer (some ⟨g, off + k * 4, none⟩))).run Tryz.prog w = .ok (.agg (ckC x.kind B1 B2 B3 x.b.length x.o.length x.t.length d1 d2 d3)) w ∧
    Reads w B 1 B1 x.b.length (strL x.b) ∧ Reads w B 1 B2 x.o.length (strL x.o) ∧ Reads w B 1 B3 x.t.length (strL x.t) := by
 obtain ⟨tv, h1, h2, h3⟩ := h
 have hlt : k < l.length := (List.getElem?_eq_some_iff.1 hk).1
 obtain ⟨y, hy⟩ : ∃ y, tv[k]? = some y := ⟨_, List.getElem?_eq_getElem (by omega)⟩
 obtain ⟨⟨B1, d1, e1, r1⟩, ⟨B2, d2, e2, r2⟩, ⟨B3, d3, e3, r3⟩⟩ := h3 k x y hk hy
 obtain ⟨g, off, rfl, hg, hc⟩ := h2.at0 (by omega) (by omega)
 refine ⟨g, off, B1, B2, B3, d1, d2, d3, rfl, hg, run_loadAt_cells w _ (ckC x.kind B1 B2 B3 x.b.length x.o.length x.t.length d1 d2 d3) Tryz.underlying178 rfl info_ck (fun j v hj => ?_), r1, r2, r3⟩
 rw [add_at, Nat.add_assoc]
 refine hc _ _ (ckLs_at hk hy j v ?_)
 rw [← hj]
 simp [ckV, ckC, e1, e2, e3]
theorem kindC_le (b o t : List (List UInt8)) : kindC b o t ≤ 4 := by
 unfold kindC
 split
 · omega
 · split
   · omega
   · split
     · omega
     · split <;> omega
def KindOk (l : List ChunkD) : Prop := ∀ c ∈ l, c.kind ≤ 4
theorem addC_kind {l : List ChunkD} (h : KindOk l) (b o t : List (List UInt8)) : KindOk (addC l b o t) := by
 by_cases h0 : b.length + o.length + t.length = 0
 · have : addC l b o t = l := by unfold addC; rw [if_pos h0]
   rw [this]
   exact h
 · have hk := kindC_le b o t
   rcases List.eq_nil_or_concat l with rfl | ⟨ini, q, rfl⟩
   · rw [addC_nil h0]
     intro c hc
     simp at hc
     subst hc
     exact hk
   · rw [List.concat_eq_append] at *
     by_cases hq : kindC b o t = 0 ∧ q.kind = 0
     · rw [addC_grow h0 hq.1 hq.2]
       intro c hc
       rcases List.mem_append.1 hc with hc | hc
       · exact h c (List.mem_append_left _ hc)
       · rw [List.mem_singleton.1 hc]
         exact Nat.zero_le _
     · rw [addC_new h0 (by omega)]
       intro c hc
       rcases List.mem_append.1 hc with hc | hc
       · exact h c hc
       · rw [List.mem_singleton.1 hc]
         exact hk
theorem chunkL_kind (b o t : List (List UInt8)) : ∀ (l : List (Int × Int)) (k : Nat) (s : CurC), KindOk s.out → KindOk (chunkL b o t l k s).out
 | [], _, s, h => h
 | (x, y) :: l, k, s, h => by
  refine chunkL_kind b o t l (k + 1) _ ?_
  unfold chunkS
  split
  · exact h
  · exact addC_kind (addC_kind h _ _ _) _ _ _
theorem chunksP_kind (b o t : List (List UInt8)) : KindOk (chunksP b o t) := addC_kind (chunkL_kind b o t _ _ _ fun c hc => by cases hc) _ _ _
theorem renderP_take {l : List ChunkD} {k : Nat} {x : ChunkD} (h : l[k]? = some x) : renderP (l.take (k + 1)) = renderP (l.take k) ++ chunkT x := by
 unfold renderP
 rw [List.take_add_one, h]
 simp
theorem renderP_le (l : List ChunkD) (k : Nat) : (renderP (l.take k)).length ≤ (renderP l).length := by
 unfold renderP
 conv => rhs; rw [← List.take_append_drop k l]
 rw [List.flatMap_append, List.length_append]
 omega
def RenderPost (l : List ChunkD) (w : World) (e : Ending) (w' : World) : Prop := ∃ A' c', e = .returned (.slice A' (renderP l).length c') ∧ OwnB w' w.heap.size A' c' (renderP l) ∧ Below w.heap.size w w'
set_option maxHeartbeats 4000000 in
set_option maxRecDepth 100000 in
theorem render_any (l : List ChunkD) (A : Option Addr) (c B : Nat) (w : World) (hB : B ≤ w.heap.size) (hr : CkR w B A l) (hk : KindOk l) (hll : l.length ≤ 100000) (ht : (renderP l).length ≤ 90000000)
    (hj : ∀ c ∈ l, c.b.length ≤ 100000 ∧ c.o.length ≤ 100000 ∧ c.t.length ≤ 100000 ∧ (joinP c.b).length ≤ 10000000 ∧ (joinP c.o).length ≤ 10000000 ∧ (joinP c.t).length ≤ 10000000) :
    Calls Tryz.prog 142 #[.slice A l.length c] w (RenderPost l w) := by
 have HP := Lib.hid (show RenderPost l w = fun e w' => ∃ A' c', e = .returned (.slice A' (renderP l).length c') ∧ OwnB w' w.heap.size A' c' (renderP l) ∧ Below w.heap.size w w' from rfl)
 rw [HP.out]
 clear HP
 have HR := Lib.hid (show ∀ W, Below w.heap.size w W → CkR W B A l from fun W k => hr.below (k.mono hB))
 have HK := Lib.hid hk
 have HJ := Lib.hid hj
 clear hr hk hj
 go_enter Tryz.func142, Tryz.ntmps142
 go_wp2_with fail
 go_loopw [3, 8] (fun s3 s8 wr => ∃ (k : Nat) (A3 : Option Addr) (c3 : Nat), k ≤ l.length ∧ s3 = .slice A3 (renderP (l.take k)).length c3 ∧ s8 = .int .i64 (k : Nat) ∧ Hid (OwnB wr w.heap.size A3 c3 (renderP (l.take k))) ∧ Hid (Below w.heap.size w wr)) (fun _ s8 _ => l.length - (intOf s8).toNat)
 case atStart => exact ⟨0, none, 0, Nat.zero_le _, rfl, rfl, Lib.hid (Own.nil _ _ _ _), Lib.hid (Below.refl _ _)⟩
 case round =>
  obtain ⟨k, A3, c3, hk, rfl, rfl, HO, HB⟩ := hrel
  by_cases hlt : k < l.length
  · obtain ⟨x, hx⟩ : ∃ x, l[k]? = some x := ⟨_, List.getElem?_eq_getElem hlt⟩
    obtain ⟨g, off, B1, B2, B3, d1, d2, d3, rfl, hg, hload, r1, r2, r3⟩ := (HR.out _ HB.out).at_ hx
    have HLD := Lib.hid hload
    have hxm := List.mem_of_getElem? hx
    have hxk := HK.out x hxm
    obtain ⟨j1, j2, j3, j4, j5, j6⟩ := HJ.out x hxm
    have hz := HB.out.size
    have HT := Lib.hid (renderP_take hx)
    have hTl : (renderP (l.take k)).length + (chunkT x).length ≤ 90000000 := by
     rw [← List.length_append, ← HT.out]
     exact Nat.le_trans (renderP_le l (k + 1)) ht
    have HXT := Lib.hid (show chunkT x = match x.kind with
     | 0 => joinP x.b
     | 1 => joinP x.o
     | 3 => joinP x.o
     | 2 => joinP x.t
     | _ => markO ++ [10] ++ endedP x.o ++ (markB ++ [10] ++ endedP x.b) ++ (markT ++ [10] ++ endedP x.t) ++ (markE ++ [10]) from rfl)
    have i0 : (0 : Int) ≤ (k : Int) := by omega
    have i1 : (k : Int) < (l.length : Int) := by omega
    have H1 := Lib.hid r1
    have H2 := Lib.hid r2
    have H3 := Lib.hid r3
    clear hload r1 r2 r3 hx hxm
    generalize renderP (l.take k) = T at *
    obtain ⟨xk, xb, xo, xt⟩ := x
    simp only at hxk HXT HLD H1 H2 H3 j1 j2 j3 j4 j5 j6
    generalize chunkT ⟨xk, xb, xo, xt⟩ = CT at *
    rcases (by omega : xk = 0 ∨ xk = 1 ∨ xk = 3 ∨ xk = 2 ∨ xk = 4) with rfl | rfl | rfl | rfl | rfl
    · have HC := Lib.hid (show CT = joinP xb from HXT.out)
      clear HXT
      have HJN := Lib.hid (fun W (kW : Below wr.heap.size wr W) => join_any xb B1 d1 B W (by have := kW.size; omega) (H1.out.below (kW.mono (by omega))) (by omega) (show xb.flatten.length ≤ 100000000 by have : xb.flatten.length = (joinP xb).length := rfl; omega))
      rw [show xb.flatten = CT from HC.out.symm] at HJN
      go_wp2_with (first | (with_reducible refine wpList_load rfl rfl rfl HLD.out ?_) | (refine wpList_storeBlk rfl rfl (vs := ckC 0 B1 B2 B3 xb.length xo.length xt.length d1 d2 d3) rfl rfl (Blk.new _ _ _) rfl info_ck (ckC_one _ _ _ _ _ _ _ _ _ _) ?_; intro w4 hx4 hk4 hz4; have HK4 := Lib.hid (Keep.ofNew (S := Nothing) hk4).all; have f0 := hx4.cell 0; have f1 := hx4.cell 1; have f2 := hx4.cell 2; have f3 := hx4.cell 3; simp [ckC] at f0 f1 f2 f3; clear hx4 hk4 hz4) | (go_at_call 189; refine (HJN.out _ HK4.out).mono ?_; rintro _ w5 ⟨A5, c5, rfl, o5, b5⟩; have HJ5 := Lib.hid o5.reads; have HB5 := Lib.hid (HK4.out.trans (b5.mono HK4.out.size)); have HO5 := Lib.hid (show OwnB w5 w.heap.size A3 c3 T from Own.kept (b' := 0) (E := []) (G := []) HO.out (Kept.ofBelow HB5.out) (by simp) (by simp)); clear o5 b5) | (at_builtin; refine wpList_append_sl rfl elemU8 rfl rfl (n := T.length) (xs := T.map byteV) HO5.out rfl HJ5.out (bvs_one CT) (by unfold maxLen; omega) (by omega) (Nat.le_trans hz HB5.out.size) ?_; intro A6 c6 w6 o6 k6; have HO6 := Lib.hid (show OwnB w6 w.heap.size A6 c6 (T ++ CT) from by unfold OwnB; rw [List.length_append, List.map_append]; exact o6); have HB6 := Lib.hid ((HB.out.trans (HB5.out.mono hz)).trans (k6.below (Nat.le_refl _) (Nat.le_trans hz HB5.out.size) (by simp))); clear o6 k6))
      go_roundw
      case rel => exact ⟨k + 1, A6, c6, hlt, by rw [HT.out, List.length_append], by go_num, by rw [HT.out]; exact HO6, HB6⟩
      case measure => simp [intOf]; omega
    · have HC := Lib.hid (show CT = joinP xo from HXT.out)
      clear HXT
      have HJN := Lib.hid (fun W (kW : Below wr.heap.size wr W) => join_any xo B2 d2 B W (by have := kW.size; omega) (H2.out.below (kW.mono (by omega))) (by omega) (show xo.flatten.length ≤ 100000000 by have : xo.flatten.length = (joinP xo).length := rfl; omega))
      rw [show xo.flatten = CT from HC.out.symm] at HJN
      go_wp2_with (first | (with_reducible refine wpList_load rfl rfl rfl HLD.out ?_) | (refine wpList_storeBlk rfl rfl (vs := ckC 1 B1 B2 B3 xb.length xo.length xt.length d1 d2 d3) rfl rfl (Blk.new _ _ _) rfl info_ck (ckC_one _ _ _ _ _ _ _ _ _ _) ?_; intro w4 hx4 hk4 hz4; have HK4 := Lib.hid (Keep.ofNew (S := Nothing) hk4).all; have f0 := hx4.cell 0; have f1 := hx4.cell 1; have f2 := hx4.cell 2; have f3 := hx4.cell 3; simp [ckC] at f0 f1 f2 f3; clear hx4 hk4 hz4) | (go_at_call 189; refine (HJN.out _ HK4.out).mono ?_; rintro _ w5 ⟨A5, c5, rfl, o5, b5⟩; have HJ5 := Lib.hid o5.reads; have HB5 := Lib.hid (HK4.out.trans (b5.mono HK4.out.size)); have HO5 := Lib.hid (show OwnB w5 w.heap.size A3 c3 T from Own.kept (b' := 0) (E := []) (G := []) HO.out (Kept.ofBelow HB5.out) (by simp) (by simp)); clear o5 b5) | (at_builtin; refine wpList_append_sl rfl elemU8 rfl rfl (n := T.length) (xs := T.map byteV) HO5.out rfl HJ5.out (bvs_one CT) (by unfold maxLen; omega) (by omega) (Nat.le_trans hz HB5.out.size) ?_; intro A6 c6 w6 o6 k6; have HO6 := Lib.hid (show OwnB w6 w.heap.size A6 c6 (T ++ CT) from by unfold OwnB; rw [List.length_append, List.map_append]; exact o6); have HB6 := Lib.hid ((HB.out.trans (HB5.out.mono hz)).trans (k6.below (Nat.le_refl _) (Nat.le_trans hz HB5.out.size) (by simp))); clear o6 k6))
      go_roundw
      case rel => exact ⟨k + 1, A6, c6, hlt, by rw [HT.out, List.length_append], by go_num, by rw [HT.out]; exact HO6, HB6⟩
      case measure => simp [intOf]; omega
    · have HC := Lib.hid (show CT = joinP xo from HXT.out)
      clear HXT
      have HJN := Lib.hid (fun W (kW : Below wr.heap.size wr W) => join_any xo B2 d2 B W (by have := kW.size; omega) (H2.out.below (kW.mono (by omega))) (by omega) (show xo.flatten.length ≤ 100000000 by have : xo.flatten.length = (joinP xo).length := rfl; omega))
      rw [show xo.flatten = CT from HC.out.symm] at HJN
      go_wp2_with (first | (with_reducible refine wpList_load rfl rfl rfl HLD.out ?_) | (refine wpList_storeBlk rfl rfl (vs := ckC 3 B1 B2 B3 xb.length xo.length xt.length d1 d2 d3) rfl rfl (Blk.new _ _ _) rfl info_ck (ckC_one _ _ _ _ _ _ _ _ _ _) ?_; intro w4 hx4 hk4 hz4; have HK4 := Lib.hid (Keep.ofNew (S := Nothing) hk4).all; have f0 := hx4.cell 0; have f1 := hx4.cell 1; have f2 := hx4.cell 2; have f3 := hx4.cell 3; simp [ckC] at f0 f1 f2 f3; clear hx4 hk4 hz4) | (go_at_call 189; refine (HJN.out _ HK4.out).mono ?_; rintro _ w5 ⟨A5, c5, rfl, o5, b5⟩; have HJ5 := Lib.hid o5.reads; have HB5 := Lib.hid (HK4.out.trans (b5.mono HK4.out.size)); have HO5 := Lib.hid (show OwnB w5 w.heap.size A3 c3 T from Own.kept (b' := 0) (E := []) (G := []) HO.out (Kept.ofBelow HB5.out) (by simp) (by simp)); clear o5 b5) | (at_builtin; refine wpList_append_sl rfl elemU8 rfl rfl (n := T.length) (xs := T.map byteV) HO5.out rfl HJ5.out (bvs_one CT) (by unfold maxLen; omega) (by omega) (Nat.le_trans hz HB5.out.size) ?_; intro A6 c6 w6 o6 k6; have HO6 := Lib.hid (show OwnB w6 w.heap.size A6 c6 (T ++ CT) from by unfold OwnB; rw [List.length_append, List.map_append]; exact o6); have HB6 := Lib.hid ((HB.out.trans (HB5.out.mono hz)).trans (k6.below (Nat.le_refl _) (Nat.le_trans hz HB5.out.size) (by simp))); clear o6 k6))
      go_roundw
      case rel => exact ⟨k + 1, A6, c6, hlt, by rw [HT.out, List.length_append], by go_num, by rw [HT.out]; exact HO6, HB6⟩
      case measure => simp [intOf]; omega
    · have HC := Lib.hid (show CT = joinP xt from HXT.out)
      clear HXT
      have HJN := Lib.hid (fun W (kW : Below wr.heap.size wr W) => join_any xt B3 d3 B W (by have := kW.size; omega) (H3.out.below (kW.mono (by omega))) (by omega) (show xt.flatten.length ≤ 100000000 by have : xt.flatten.length = (joinP xt).length := rfl; omega))
      rw [show xt.flatten = CT from HC.out.symm] at HJN
      go_wp2_with (first | (with_reducible refine wpList_load rfl rfl rfl HLD.out ?_) | (refine wpList_storeBlk rfl rfl (vs := ckC 2 B1 B2 B3 xb.length xo.length xt.length d1 d2 d3) rfl rfl (Blk.new _ _ _) rfl info_ck (ckC_one _ _ _ _ _ _ _ _ _ _) ?_; intro w4 hx4 hk4 hz4; have HK4 := Lib.hid (Keep.ofNew (S := Nothing) hk4).all; have f0 := hx4.cell 0; have f1 := hx4.cell 1; have f2 := hx4.cell 2; have f3 := hx4.cell 3; simp [ckC] at f0 f1 f2 f3; clear hx4 hk4 hz4) | (go_at_call 189; refine (HJN.out _ HK4.out).mono ?_; rintro _ w5 ⟨A5, c5, rfl, o5, b5⟩; have HJ5 := Lib.hid o5.reads; have HB5 := Lib.hid (HK4.out.trans (b5.mono HK4.out.size)); have HO5 := Lib.hid (show OwnB w5 w.heap.size A3 c3 T from Own.kept (b' := 0) (E := []) (G := []) HO.out (Kept.ofBelow HB5.out) (by simp) (by simp)); clear o5 b5) | (at_builtin; refine wpList_append_sl rfl elemU8 rfl rfl (n := T.length) (xs := T.map byteV) HO5.out rfl HJ5.out (bvs_one CT) (by unfold maxLen; omega) (by omega) (Nat.le_trans hz HB5.out.size) ?_; intro A6 c6 w6 o6 k6; have HO6 := Lib.hid (show OwnB w6 w.heap.size A6 c6 (T ++ CT) from by unfold OwnB; rw [List.length_append, List.map_append]; exact o6); have HB6 := Lib.hid ((HB.out.trans (HB5.out.mono hz)).trans (k6.below (Nat.le_refl _) (Nat.le_trans hz HB5.out.size) (by simp))); clear o6 k6))
      go_roundw
      case rel => exact ⟨k + 1, A6, c6, hlt, by rw [HT.out, List.length_append], by go_num, by rw [HT.out]; exact HO6, HB6⟩
      case measure => simp [intOf]; omega
    · have HC := Lib.hid (show CT = markO ++ [10] ++ endedP xo ++ (markB ++ [10] ++ endedP xb) ++ (markT ++ [10] ++ endedP xt) ++ (markE ++ [10]) from HXT.out)
      clear HXT
      go_wp2_with (first | (with_reducible refine wpList_load rfl rfl rfl HLD.out ?_) | (refine wpList_storeBlk rfl rfl (vs := ckC 4 B1 B2 B3 xb.length xo.length xt.length d1 d2 d3) rfl rfl (Blk.new _ _ _) rfl info_ck (ckC_one _ _ _ _ _ _ _ _ _ _) ?_; intro w4 hx4 hk4 hz4; have HX4 := Lib.hid hx4; have HK4 := Lib.hid (Keep.ofNew (S := Nothing) hk4).all; have f0 := hx4.cell 0; have f1 := hx4.cell 1; have f2 := hx4.cell 2; have f3 := hx4.cell 3; simp [ckC] at f0 f1 f2 f3; clear hx4 hk4 hz4))
      have HSIDE := Lib.hid (fun (acc word : List UInt8) (l : List (List UInt8)) (A A2 : Option Addr) (c c2 : Nat) (W : World) (h1 : Below w.heap.size w W) (h2 : OwnB W w.heap.size A c acc) (h3 : Reads W B 1 A2 l.length (strL l)) (h4 : acc.length ≤ 100000000) (h5 : word.length ≤ 1000) (h6 : l.length ≤ 100000000) (h7 : (joinP l).length ≤ 100000000) => side_any acc word l A A2 c c2 B w.heap.size W h1.size hB h2 h3 h4 h5 h6 h7)
      unfold SidePost at HSIDE
      have HW4 := Lib.hid (show Below w.heap.size w w4 from HB.out.trans (HK4.out.mono hz))
      have HO4 := Lib.hid (show OwnB w4 w.heap.size A3 c3 T from Own.kept (b' := 0) (E := []) (G := []) HO.out (Kept.ofBelow HK4.out) (by simp) (by simp))
      have HRD := Lib.hid (show ∀ W, Below w.heap.size w4 W → Reads W B 1 B1 xb.length (strL xb) ∧ Reads W B 1 B2 xo.length (strL xo) ∧ Reads W B 1 B3 xt.length (strL xt) from fun W k => by
       have k2 := (HK4.out.mono hz).trans k
       exact ⟨H1.out.below (k2.mono hB), H2.out.below (k2.mono hB), H3.out.below (k2.mono hB)⟩)
      have hC1 : T.length + (7 + 1 + (endedP xo).length) + (7 + 1 + (endedP xb).length) + (7 + 1 + (endedP xt).length) + 8 ≤ 90000000 := by
       have := congrArg List.length HC.out
       simp only [List.length_append, markO, markB, markT, markE, List.length_cons, List.length_nil] at this
       omega
      have HE1 := Lib.hid (show (endedP xo).length ≤ 90000000 ∧ (endedP xb).length ≤ 90000000 ∧ (endedP xt).length ≤ 90000000 from ⟨by omega, by omega, by omega⟩)
      have l1 : (T ++ markO ++ [10] ++ endedP xo).length ≤ 100000000 := by simp only [List.length_append, markO, List.length_cons, List.length_nil]; omega
      have l2 : (T ++ markO ++ [10] ++ endedP xo ++ markB ++ [10] ++ endedP xb).length ≤ 100000000 := by simp only [List.length_append, markO, markB, List.length_cons, List.length_nil]; omega
      have l3 : (T ++ markO ++ [10] ++ endedP xo ++ markB ++ [10] ++ endedP xb ++ markT ++ [10] ++ endedP xt).length ≤ 100000000 := by simp only [List.length_append, markO, markB, markT, List.length_cons, List.length_nil]; omega
      have HFIN := Lib.hid (show T ++ markO ++ [10] ++ endedP xo ++ markB ++ [10] ++ endedP xb ++ markT ++ [10] ++ endedP xt ++ markE ++ [10] ++ endedP [] = T ++ CT from by rw [HC.out]; simp [endedP, joinP])
      have HS1 := Lib.hid (show ∀ W, Below w.heap.size w4 W → OwnB W w.heap.size A3 c3 T → Calls Tryz.prog 190 #[.slice A3 T.length c3, .string ⟨#[60, 60, 60, 60, 60, 60, 60]⟩, .slice B2 xo.length d2] W (fun e w' => ∃ A' c', e = .returned (.slice A' (List.length (α := UInt8) (T ++ markO ++ [10] ++ endedP xo)) c') ∧ OwnB w' w.heap.size A' c' (T ++ markO ++ [10] ++ endedP xo) ∧ Kept w.heap.size [5] [] W w') from fun W k o => HSIDE.out T markO xo A3 B2 c3 d2 W (HW4.out.trans k) o (HRD.out W k).2.1 (by omega) (by decide) (by omega) (by omega))
      generalize T ++ markO ++ [10] ++ endedP xo = T1 at *
      have HS2 := Lib.hid (show ∀ W A c, Below w.heap.size w4 W → OwnB W w.heap.size A c T1 → Calls Tryz.prog 190 #[.slice A T1.length c, .string ⟨#[124, 124, 124, 124, 124, 124, 124]⟩, .slice B1 xb.length d1] W (fun e w' => ∃ A' c', e = .returned (.slice A' (List.length (α := UInt8) (T1 ++ markB ++ [10] ++ endedP xb)) c') ∧ OwnB w' w.heap.size A' c' (T1 ++ markB ++ [10] ++ endedP xb) ∧ Kept w.heap.size [5] [] W w') from fun W A c k o => HSIDE.out T1 markB xb A B1 c d1 W (HW4.out.trans k) o (HRD.out W k).1 l1 (by decide) (by omega) (by omega))
      generalize T1 ++ markB ++ [10] ++ endedP xb = T2 at *
      have HS3 := Lib.hid (show ∀ W A c, Below w.heap.size w4 W → OwnB W w.heap.size A c T2 → Calls Tryz.prog 190 #[.slice A T2.length c, .string ⟨#[61, 61, 61, 61, 61, 61, 61]⟩, .slice B3 xt.length d3] W (fun e w' => ∃ A' c', e = .returned (.slice A' (List.length (α := UInt8) (T2 ++ markT ++ [10] ++ endedP xt)) c') ∧ OwnB w' w.heap.size A' c' (T2 ++ markT ++ [10] ++ endedP xt) ∧ Kept w.heap.size [5] [] W w') from fun W A c k o => HSIDE.out T2 markT xt A B3 c d3 W (HW4.out.trans k) o (HRD.out W k).2.2 l2 (by decide) (by omega) (by omega))
      generalize T2 ++ markT ++ [10] ++ endedP xt = T3 at *
      have HS4 := Lib.hid (show ∀ W A c, Below w.heap.size w4 W → OwnB W w.heap.size A c T3 → Calls Tryz.prog 190 #[.slice A T3.length c, .string ⟨#[62, 62, 62, 62, 62, 62, 62]⟩, .slice none 0 0] W (fun e w' => ∃ A' c', e = .returned (.slice A' (T ++ CT).length c') ∧ OwnB w' w.heap.size A' c' (T ++ CT) ∧ Kept w.heap.size [5] [] W w') from fun W A c k o => by
       have := HSIDE.out T3 markE [] A none c 0 W (HW4.out.trans k) o Reads.none_ l3 (by decide) (by decide) (by decide)
       rw [HFIN.out] at this
       exact this)
      clear HE1
      go_region_law (first
       | (go_simp; go_at_call 190; refine (HS3.out _ A6 c6 HB6.out HO6.out).mono ?_; rintro _ w7 ⟨A7, c7, rfl, o7, k7⟩; have HO7 := Lib.hid o7; have HB7 := Lib.hid (HB6.out.trans (k7.below (Nat.le_refl _) (Nat.le_trans HW4.out.size HB6.out.size) (by simp))); clear o7 k7)
       | (go_simp; go_at_call 190; refine (HS2.out _ A5 c5 HB5.out HO5.out).mono ?_; rintro _ w6 ⟨A6, c6, rfl, o6, k6⟩; have HO6 := Lib.hid o6; have HX6 := Lib.hid (Kept.blk k6 HX5.out (by simp) (by decide)); have HB6 := Lib.hid (HB5.out.trans (k6.below (Nat.le_refl _) (Nat.le_trans HW4.out.size HB5.out.size) (by simp))); have f36 := HX6.out.cell 3; simp [ckC] at f36; clear o6 k6)
       | (go_simp; go_at_call 190; refine (HS1.out _ ((Below.refl _ w4).drew) HO4.out.drew).mono ?_; rintro _ w5 ⟨A5, c5, rfl, o5, k5⟩; have HO5 := Lib.hid o5; have HX5 := Lib.hid (Kept.blk k5 HX4.out.drew (by simp) (by decide)); have HB5 := Lib.hid (((Below.refl w.heap.size w4).drew).trans (k5.below (Nat.le_refl _) HW4.out.size (by simp))); have f15 := HX5.out.cell 1; have f35 := HX5.out.cell 3; simp [ckC] at f15 f35; clear o5 k5))
      all_goals
       go_wp2_with (go_at_call 190; refine (HS4.out _ A7 c7 (by first | exact HB7.out | exact HB7.out.drew | exact HB7.out.drew.drew) (by first | exact HO7.out | exact HO7.out.drew | exact HO7.out.drew.drew)).mono ?_; rintro _ w8 ⟨A8, c8, rfl, o8, k8⟩; have HO8 := Lib.hid o8; have HB8 := Lib.hid ((HW4.out.trans (by first | exact HB7.out | exact HB7.out.drew | exact HB7.out.drew.drew)).trans (k8.below (Nat.le_refl _) (Nat.le_trans HW4.out.size HB7.out.size) (by simp))); clear o8 k8)
       go_roundw
       case rel => exact ⟨k + 1, A8, c8, hlt, by rw [HT.out, List.length_append], by go_num, by rw [HT.out]; exact HO8, HB8⟩
       case measure => simp [intOf]; omega
  · obtain rfl : k = l.length := by omega
    rw [List.take_length] at HO ⊢
    go_wp2_with fail
    go_ret
    exact ⟨_, _, rfl, HO.out, HB.out⟩
end Go.Proofs.YteeeehfnldkjlaaGreatDoor
namespace Go.Proofs.YteeeehfnldkjlaaGreatDoor
open Go.RowKit
set_option maxHeartbeats 1000000 in
set_option maxRecDepth 100000 in
theorem isClash_any (k n1 n2 n3 d1 d2 d3 : Nat) (B1 B2 B3 : Option Addr) (w : World) :
    Calls Tryz.prog 144 #[.agg (ckC k B1 B2 B3 n1 n2 n3 d1 d2 d3)] w fun e w' => e = .returned (.bool ((k : Int) == 4)) ∧ Below w.heap.size w w' := by
 unfold ckC
 go_enter Tryz.func144, Tryz.ntmps144
 go_wp2_with fail
 go_ret
 exact ⟨rfl, (Below.refl _ _).alloc (Nat.le_refl _) _⟩
def clashAt : List ChunkD → Option Nat
 | [] => none
 | c :: l => if c.kind = 4 then some 0 else (clashAt l).map (· + 1)
def clashI (l : List ChunkD) : Int := match clashAt l with
 | some k => k
 | none => -1
theorem clashAt_none {l : List ChunkD} (h : ∀ (k : Nat) (c : ChunkD), l[k]? = some c → c.kind ≠ 4) : clashAt l = none := by
 induction l with
 | nil => rfl
 | cons x l ih =>
  unfold clashAt
  rw [if_neg (h 0 x rfl), ih (fun k s hs => h (k + 1) s hs)]
  rfl
theorem clashAt_some {l : List ChunkD} : ∀ {k : Nat} {s : ChunkD}, (∀ (j : Nat) (t : ChunkD), j < k → l[j]? = some t → t.kind ≠ 4) → l[k]? = some s → s.kind = 4 → clashAt l = some k := by
 induction l with
 | nil => intro k s _ h; simp at h
 | cons x l ih =>
  intro k s h1 h2 h3
  unfold clashAt
  cases k with
  | zero =>
   simp at h2
   subst h2
   rw [if_pos h3]
  | succ k =>
   rw [if_neg (h1 0 x (by omega) rfl), ih (k := k) (s := s) (fun j t hj ht => h1 (j + 1) t (by omega) ht) (by simpa using h2) h3]
   rfl
theorem clashI_ge (l : List ChunkD) : decide (0 ≤ clashI l) = !l.all (fun c => c.kind != 4) := by
 have : (clashAt l).isSome = !l.all (fun c => c.kind != 4) := by
  induction l with
  | nil => rfl
  | cons x l ih =>
   unfold clashAt
   by_cases hx : x.kind = 4
   · rw [if_pos hx]
     simp [hx]
   · rw [if_neg hx]
     simp only [Option.isSome_map, ih, List.all_cons]
     have : (x.kind != 4) = true := bne_iff_ne.2 hx
     rw [this, Bool.true_and]
 rw [← this]
 unfold clashI
 cases clashAt l with
 | none => rfl
 | some k => simp
set_option maxHeartbeats 1000000 in
set_option maxRecDepth 100000 in
theorem idxClash_any (l : List ChunkD) (A : Option Addr) (c B : Nat) (w : World) (hB : B ≤ w.heap.size) (hr : CkR w B A l) (hl : l.length ≤ 100000) :
    Calls Tryz.prog 191 #[.slice A l.length c, .func (.func 144) #[] #[]] w fun r w' => r = .returned (.int .i64 (clashI l)) ∧ Below w.heap.size w w' := by
 have HR := Lib.hid (show ∀ W, Below w.heap.size w W → CkR W B A l from fun W k => hr.below (k.mono hB))
 clear hr
 go_enter Tryz.func191, Tryz.ntmps191
 go_wp2_with fail
 go_loopw [8] (fun i wr => ∃ k : Nat, k ≤ l.length ∧ i = .int .i64 k ∧ Hid (Below w.heap.size w wr) ∧ Hid (∀ (j : Nat) (t : ChunkD), j < k → l[j]? = some t → t.kind ≠ 4)) (fun i _ => l.length - (intOf i).toNat)
 case atStart => exact ⟨0, Nat.zero_le _, rfl, Lib.hid (Below.refl _ _), Lib.hid fun j t h => absurd h (by omega)⟩
 case round =>
  obtain ⟨k, hk, rfl, HB, HALL⟩ := hrel
  by_cases hlt : k < l.length
  · obtain ⟨x, hx⟩ : ∃ x, l[k]? = some x := ⟨_, List.getElem?_eq_getElem hlt⟩
    obtain ⟨g, off, B1, B2, B3, d1, d2, d3, rfl, _, hload, _, _, _⟩ := (HR.out _ HB.out).at_ hx
    have HLD := Lib.hid hload
    have HX := Lib.hid hx
    have HQ := Lib.hid (isClash_any x.kind x.b.length x.o.length x.t.length d1 d2 d3 B1 B2 B3 wr)
    have hi0 : (0 : Int) ≤ (k : Int) := Int.natCast_nonneg _
    have hi1 : (k : Int) < (l.length : Int) := by omega
    have hz := HB.out.size
    clear hload hx
    by_cases hp : x.kind = 4
    · have hp2 : ((x.kind : Int) == 4) = true := beq_iff_eq.2 (by omega)
      rw [hp2] at HQ
      have HP := Lib.hid hp
      clear hp hp2
      go_wp2_with (first | (with_reducible refine wpList_load rfl rfl rfl HLD.out ?_) | (go_at_call 144; refine HQ.out.mono ?_; rintro _ w1 ⟨rfl, b1⟩; have HB1 := Lib.hid (HB.out.trans (b1.mono hz)); clear b1))
      go_ret
      exact ⟨by unfold clashI; rw [clashAt_some HALL.out HX.out HP.out]; rfl, HB1.out⟩
    · have hp2 : ((x.kind : Int) == 4) = false := beq_eq_false_iff_ne.2 (by omega)
      rw [hp2] at HQ
      have HP := Lib.hid hp
      clear hp hp2
      go_wp2_with (first | (with_reducible refine wpList_load rfl rfl rfl HLD.out ?_) | (go_at_call 144; refine HQ.out.mono ?_; rintro _ w1 ⟨rfl, b1⟩; have HB1 := Lib.hid (HB.out.trans (b1.mono hz)); clear b1))
      go_roundw
      case rel =>
       refine ⟨k + 1, by omega, by go_num, HB1, Lib.hid fun j t hj ht => ?_⟩
       rcases Nat.lt_or_ge j k with q | q
       · exact HALL.out j t q ht
       · obtain rfl : j = k := by omega
         rw [HX.out] at ht
         injection ht with ht
         subst ht
         exact HP.out
      case measure => simp [intOf]; omega
  · obtain rfl : k = l.length := by omega
    go_wp2_with fail
    go_ret
    refine ⟨?_, HB.out⟩
    unfold clashI
    rw [clashAt_none (fun j t ht => HALL.out j t (List.getElem?_eq_some_iff.1 ht).1 ht)]
    rfl
set_option maxHeartbeats 1000000 in
set_option maxRecDepth 100000 in
theorem anyClash_any (l : List ChunkD) (A : Option Addr) (c B : Nat) (w : World) (hB : B ≤ w.heap.size) (hr : CkR w B A l) (hl : l.length ≤ 100000) :
    Calls Tryz.prog 143 #[.slice A l.length c, .func (.func 144) #[] #[]] w fun r w' => r = .returned (.bool (!l.all (fun c => c.kind != 4))) ∧ Below w.heap.size w w' := by
 have HQ := Lib.hid (idxClash_any l A c B w hB hr hl)
 rw [← clashI_ge]
 generalize clashI l = n at *
 clear hr
 go_enter Tryz.func143, Tryz.ntmps143
 go_wp2_with (go_at_call 191; refine HQ.out.mono ?_)
 rintro _ w1 ⟨rfl, b1⟩
 go_wp2_with fail
 go_ret
 exact ⟨rfl, b1⟩
end Go.Proofs.YteeeehfnldkjlaaGreatDoor
namespace Go.Proofs.YteeeehfnldkjlaaGreatDoor
def rowsB (l : List ChunkD) : List (List UInt8) := (l.map (·.b)).flatten
def rowsO (l : List ChunkD) : List (List UInt8) := (l.map (·.o)).flatten
def rowsT (l : List ChunkD) : List (List UInt8) := (l.map (·.t)).flatten
theorem addC_rows (l : List ChunkD) (b o t : List (List UInt8)) : rowsB (addC l b o t) = rowsB l ++ b ∧ rowsO (addC l b o t) = rowsO l ++ o ∧ rowsT (addC l b o t) = rowsT l ++ t := by
 by_cases h0 : b.length + o.length + t.length = 0
 · have : addC l b o t = l := by unfold addC; rw [if_pos h0]
   rw [this, List.eq_nil_of_length_eq_zero (by omega : b.length = 0), List.eq_nil_of_length_eq_zero (by omega : o.length = 0), List.eq_nil_of_length_eq_zero (by omega : t.length = 0)]
   simp
 · rcases List.eq_nil_or_concat l with rfl | ⟨ini, q, rfl⟩
   · rw [addC_nil h0]
     simp [rowsB, rowsO, rowsT]
   · rw [List.concat_eq_append] at *
     by_cases hk : kindC b o t = 0 ∧ q.kind = 0
     · rw [addC_grow h0 hk.1 hk.2]
       simp [rowsB, rowsO, rowsT]
     · rw [addC_new h0 (by omega)]
       simp [rowsB, rowsO, rowsT]
theorem take_seg (l : List (List UInt8)) {i j : Nat} (h : i ≤ j) : l.take i ++ seg l i j = l.take j := by
 unfold seg
 conv => rhs; rw [show j = i + (j - i) by omega]
 rw [List.take_add]
structure FlatInv (b o t : List (List UInt8)) (s : CurC) : Prop where
 b : rowsB s.out = b.take s.f
 o : rowsO s.out = o.take s.i
 t : rowsT s.out = t.take s.j
theorem FlatInv.step {b o t : List (List UInt8)} {s : CurC} (h : FlatInv b o t s) {k x y : Nat} (h1 : s.f ≤ k) (h2 : s.i ≤ x) (h3 : s.j ≤ y) : FlatInv b o t (chunkS b o t s k (x : Int) (y : Int)) := by
 have e : chunkS b o t s k (x : Int) (y : Int) = ⟨addC (addC s.out (seg b s.f k) (seg o s.i x) (seg t s.j y)) (seg b k (k + 1)) (seg o x (x + 1)) (seg t y (y + 1)), k + 1, x + 1, y + 1⟩ := by
  unfold chunkS
  rw [if_neg (by omega)]
  simp
 rw [e]
 obtain ⟨a1, a2, a3⟩ := addC_rows s.out (seg b s.f k) (seg o s.i x) (seg t s.j y)
 obtain ⟨b1, b2, b3⟩ := addC_rows (addC s.out (seg b s.f k) (seg o s.i x) (seg t s.j y)) (seg b k (k + 1)) (seg o x (x + 1)) (seg t y (y + 1))
 refine ⟨?_, ?_, ?_⟩
 · rw [b1, a1, h.b, take_seg b h1, take_seg b (Nat.le_succ k)]
 · rw [b2, a2, h.o, take_seg o h2, take_seg o (Nat.le_succ x)]
 · rw [b3, a3, h.t, take_seg t h3, take_seg t (Nat.le_succ y)]
theorem chunkL_inv {b o t : List (List UInt8)} {pa pb : List Int} (hb : b.length ≤ 4000) (ho : o.length ≤ 4000) (ht : t.length ≤ 4000) (hla : pa.length = b.length) (hlb : pb.length = b.length)
    (ha : ∀ (k : Nat) (x : Int), pa[k]? = some x → x = -1 ∨ (0 ≤ x ∧ x < o.length)) (hb' : ∀ (k : Nat) (x : Int), pb[k]? = some x → x = -1 ∨ (0 ≤ x ∧ x < t.length))
    (hra : ∀ (m n : Nat) (u v : Int), pa[m]? = some u → pa[n]? = some v → m < n → 0 ≤ u → 0 ≤ v → u < v) (hrb : ∀ (m n : Nat) (u v : Int), pb[m]? = some u → pb[n]? = some v → m < n → 0 ≤ u → 0 ≤ v → u < v) :
    ∀ (n k : Nat) (s : CurC), k + n = b.length → ChInv b o t pa pb k s → FlatInv b o t s → ChInv b o t pa pb b.length (chunkL b o t ((pa.zip pb).drop k) k s) ∧ FlatInv b o t (chunkL b o t ((pa.zip pb).drop k) k s)
 | 0, k, s, hn, h1, h2 => by
  obtain rfl : k = b.length := by omega
  rw [List.drop_eq_nil_of_le (by rw [List.length_zip]; omega), chunkL]
  exact ⟨h1, h2⟩
 | n + 1, k, s, hn, h1, h2 => by
  obtain ⟨x, hx⟩ : ∃ x, pa[k]? = some x := ⟨_, List.getElem?_eq_getElem (by omega)⟩
  obtain ⟨y, hy⟩ : ∃ y, pb[k]? = some y := ⟨_, List.getElem?_eq_getElem (by omega)⟩
  have hdr : (pa.zip pb).drop k = (x, y) :: (pa.zip pb).drop (k + 1) := List.drop_eq_getElem?_toList_append.trans (by rw [List.getElem?_zip_eq_some (z := (x, y)) |>.2 ⟨hx, hy⟩]; rfl)
  rw [hdr, chunkL]
  by_cases h0 : x < 0 ∨ y < 0
  · have e : chunkS b o t s k x y = s := by unfold chunkS; rw [if_pos h0]
    rw [e]
    exact chunkL_inv hb ho ht hla hlb ha hb' hra hrb n (k + 1) s (by omega) h1.skip h2
  · obtain ⟨xn, rfl⟩ : ∃ xn : Nat, x = (xn : Int) := ⟨x.toNat, by omega⟩
    obtain ⟨yn, rfl⟩ : ∃ yn : Nat, y = (yn : Int) := ⟨y.toNat, by omega⟩
    have hxo : xn < o.length := by have := ha k _ hx; omega
    have hyt : yn < t.length := by have := hb' k _ hy; omega
    obtain ⟨q1, q2, _, _, q5⟩ := h1.step hb ho ht (by omega) hxo hyt hx hy hra hrb
    exact chunkL_inv hb ho ht hla hlb ha hb' hra hrb n (k + 1) _ (by omega) q5 (h2.step h1.f q1 q2)
theorem chunksP_rows {b o t : List (List UInt8)} (hb : b.length ≤ 4000) (ho : o.length ≤ 4000) (ht : t.length ≤ 4000) : rowsB (chunksP b o t) = b ∧ rowsO (chunksP b o t) = o ∧ rowsT (chunksP b o t) = t ∧ (chunksP b o t).length ≤ 8001 := by
 have hla := partP_len (diffP b o) 0
 have hlb := partP_len (diffP b t) 0
 obtain ⟨_, hfa, hfo, _⟩ := diffP_of b o
 obtain ⟨_, hfb, hft, _⟩ := diffP_of b t
 rw [hfa] at hla
 rw [hfb] at hlb
 have h := chunkL_inv hb ho ht hla hlb (fun k x hx => by have := partP_at _ _ _ _ hx; rw [hfo] at this; omega) (fun k x hx => by have := partP_at _ _ _ _ hx; rw [hft] at this; omega) (fun m n u v => partP_rise (diffP b o) 0 m n u v) (fun m n u v => partP_rise (diffP b t) 0 m n u v) b.length 0 ⟨[], 0, 0, 0⟩ (by omega) (ChInv.start _ _ _ _ _) ⟨rfl, rfl, rfl⟩
 rw [List.drop_zero] at h
 unfold chunksP
 simp only
 generalize chunkL b o t ((partP (diffP b o) 0).zip (partP (diffP b t) 0)) 0 ⟨[], 0, 0, 0⟩ = s at *
 obtain ⟨a1, a2, a3⟩ := addC_rows s.out (b.drop s.f) (o.drop s.i) (t.drop s.j)
 refine ⟨by rw [a1, h.2.b, List.take_append_drop], by rw [a2, h.2.o, List.take_append_drop], by rw [a3, h.2.t, List.take_append_drop], ?_⟩
 have l1 := addC_len s.out (b.drop s.f) (o.drop s.i) (t.drop s.j)
 have := h.1.len
 omega
theorem joinP_cons (x : List (List UInt8)) (l : List (List (List UInt8))) : (joinP (x :: l).flatten).length = (joinP x).length + (joinP l.flatten).length := by
 simp [joinP]
theorem endedP_le (l : List (List UInt8)) : (endedP l).length ≤ (joinP l).length + 1 := by
 rcases endedP_cases l with ⟨_, h⟩ | ⟨p, x, _, h⟩
 · rw [h]; simp
 · rw [h]
   split
   · omega
   · rw [List.length_append]; simp
theorem chunkT_le (c : ChunkD) : (chunkT c).length ≤ (joinP c.b).length + (joinP c.o).length + (joinP c.t).length + 40 := by
 unfold chunkT
 have h1 := endedP_le c.b
 have h2 := endedP_le c.o
 have h3 := endedP_le c.t
 split
 · omega
 · omega
 · omega
 · omega
 · simp only [List.length_append, markO, markB, markT, markE, List.length_cons, List.length_nil]
   omega
theorem renderP_bound : ∀ l : List ChunkD, (renderP l).length ≤ (joinP (rowsB l)).length + (joinP (rowsO l)).length + (joinP (rowsT l)).length + 40 * l.length
 | [] => by simp [renderP]
 | c :: l => by
  have ih := renderP_bound l
  have hc := chunkT_le c
  have e1 : (joinP (rowsB (c :: l))).length = (joinP c.b).length + (joinP (rowsB l)).length := joinP_cons _ _
  have e2 : (joinP (rowsO (c :: l))).length = (joinP c.o).length + (joinP (rowsO l)).length := joinP_cons _ _
  have e3 : (joinP (rowsT (c :: l))).length = (joinP c.t).length + (joinP (rowsT l)).length := joinP_cons _ _
  have e4 : (renderP (c :: l)).length = (chunkT c).length + (renderP l).length := by
   unfold renderP
   rw [List.flatMap_cons, List.length_append]
  simp only [List.length_cons]
  omega
theorem rows_mem : ∀ {l : List ChunkD} {c : ChunkD}, c ∈ l → c.b.length ≤ (rowsB l).length ∧ c.o.length ≤ (rowsO l).length ∧ c.t.length ≤ (rowsT l).length ∧ (joinP c.b).length ≤ (joinP (rowsB l)).length ∧ (joinP c.o).length ≤ (joinP (rowsO l)).length ∧ (joinP c.t).length ≤ (joinP (rowsT l)).length
 | x :: l, c, h => by
  have e1 : (joinP (rowsB (x :: l))).length = (joinP x.b).length + (joinP (rowsB l)).length := joinP_cons _ _
  have e2 : (joinP (rowsO (x :: l))).length = (joinP x.o).length + (joinP (rowsO l)).length := joinP_cons _ _
  have e3 : (joinP (rowsT (x :: l))).length = (joinP x.t).length + (joinP (rowsT l)).length := joinP_cons _ _
  have l1 : (rowsB (x :: l)).length = x.b.length + (rowsB l).length := by simp [rowsB]
  have l2 : (rowsO (x :: l)).length = x.o.length + (rowsO l).length := by simp [rowsO]
  have l3 : (rowsT (x :: l)).length = x.t.length + (rowsT l).length := by simp [rowsT]
  rcases List.mem_cons.1 h with rfl | h
  · omega
  · have := rows_mem h
    omega
end Go.Proofs.YteeeehfnldkjlaaGreatDoor
namespace Go.Proofs.YteeeehfnldkjlaaGreatDoor
def n4 (l : List ChunkD) : Nat := l.countP fun c => c.kind == 4
end Go.Proofs.YteeeehfnldkjlaaGreatDoor
