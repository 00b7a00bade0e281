/- Plain: lines in common, counted as the reference does. No statement of the seat is proved here. -/
import Derived.Test.YteeeehfnldkjlaaGreatDoorTCGf
import Derived.BigRegion
import Derived.BigQuiet
import Derived.Deep.QuietTactic
namespace Go.Proofs.YteeeehfnldkjlaaGreatDoor
open Go.RowKit Go.Maps
def FileBack (f : FileD) (B : Nat) (w : World) (e : Ending) (w' : World) : Prop := ∃ D d, e = .returned (.agg (fileC f D d)) ∧ Reads w' B 1 D f.d.length (f.d.map byteV) ∧ f.d.length ≤ d ∧ d ≤ maxLen ∧ Below w.heap.size w w'
theorem getF_at {l : List FileD} {p : Pth} {k : Nat} {f : FileD} (h : ∀ g ∈ l.take k, g.p ≠ p) (hk : l[k]? = some f) (hf : f.p = p) : getF l p = f := by
 obtain ⟨hlt, e⟩ := List.getElem?_eq_some_iff.1 hk
 unfold getF
 have e2 : l = l.take k ++ f :: l.drop (k + 1) := by
  rw [← e]
  simp
 rw [e2, List.find?_append, List.find?_eq_none.2 (fun g hg => by rw [beq_iff_eq]; exact h g hg), Option.none_or, List.find?_cons_of_pos (by rw [beq_iff_eq]; exact hf)]
 rfl
theorem getF_no {l : List FileD} {p : Pth} (h : ∀ g ∈ l, g.p ≠ p) : getF l p = zeroF := by
 unfold getF
 rw [List.find?_eq_none.2 (fun g hg => by rw [beq_iff_eq]; exact h g hg)]
 rfl
theorem loadVar_file {w : World} {g : Nat} {f : FileD} {D : Option Addr} {d : Nat} (h : Blk w g 41 (fileC f D d)) : (loadVar 41 ⟨g, 0, none⟩).run Tryz.prog w = .ok (.agg (fileC f D d)) w :=
 run_loadVar_cells (P := Tryz.prog) w _ (fileC f D d) Tryz.underlying41 rfl info_file (fun j x hj => by rw [add_at, h.cell, ← hj]; simp)
attribute [local go_sem] run_eql_strC run_neq_strC eqGuard_strC neGuard_strC
attribute [local go_sem ↓] ld_f
set_option maxHeartbeats 4000000 in
set_option maxRecDepth 100000 in
theorem find_any (l : List FileD) (p : Pth) (A : Option Addr) (c B : Nat) (w : World) (hB : B ≤ w.heap.size) (h : FI w B A l) (hl : l.length ≤ 1000000000000) :
    Calls Tryz.prog 25 #[.slice A l.length c, strC p] w (FileBack (getF l p) B w) := by
 obtain ⟨z, hz⟩ : ∃ z, w.heap.size = z := ⟨_, rfl⟩
 unfold FileBack
 rw [hz]
 have HZ := Lib.hid hz
 have H1 := Lib.hid h
 clear h
 go_enter Tryz.func25, Tryz.ntmps25
 go_wp2_with fail
 go_loopw [5] (fun s3 wr => ∃ k : Nat, s3 = .int .i64 (k : Nat) ∧ k ≤ l.length ∧ Hid (∀ g ∈ l.take k, g.p ≠ p) ∧ Hid (Blk wr z 41 #[.string ⟨#[]⟩, .int .i64 0, .slice none 0 0]) ∧ Hid (Below z w wr)) (fun s3 _ => l.length - (intOf s3).toNat)
 case atStart => exact ⟨0, rfl, Nat.zero_le _, Lib.hid (by simp), Lib.hid (blk_new_at _ _ _ _ hz), Lib.hid (below_at _ hz)⟩
 case round =>
  obtain ⟨k, rfl, hk, HN, HX, HW⟩ := hrel
  have hB2 : B ≤ z := hz ▸ hB
  by_cases hlt : k < l.length
  · have i0 : (0 : Int) ≤ (k : Int) := by omega
    have i1 : (k : Int) < (l.length : Int) := by omega
    obtain ⟨f, hf⟩ : ∃ f, l[k]? = some f := ⟨_, List.getElem?_eq_getElem hlt⟩
    obtain ⟨g, o, DA, dc, rfl, hg, ld, c0, _, _, h1, h2, r1⟩ := (H1.out.below (HW.out.mono hB2)).at_ hf
    have ld' : (LdF (.pointer (some ⟨g, o + k * 3, none⟩))).run Tryz.prog wr = .ok (.agg (fileC f DA dc)) wr := ld
    by_cases hp : f.p = p
    · have HG := Lib.hid (getF_at HN.out hf hp)
      have q : (f.p == p) = true := beq_iff_eq.2 hp
      clear hp
      go_wp2_with (refine wpList_storeBlk rfl rfl (cs := #[.string ⟨#[]⟩, .int .i64 0, .slice none 0 0]) (vs := fileC f DA dc) rfl rfl HX.out rfl info_file (fileC_one f DA dc) ?_; intro w5 hx5 hk5 hs5)
      have hz5 : Below z w w5 := HW.out.trans (hk5.below (HZ.out ▸ HW.out.size) (by unfold Only; omega))
      refine bodyPost_ret (v := .agg (fileC f DA dc)) (results_cell rfl _ _ rfl (loadVar_file hx5)) rfl ⟨DA, dc, by rw [HG.out], ?_, ?_, h2, hz5⟩
      · rw [HG.out]; exact r1.kept hk5 (Nat.le_trans hB2 (HZ.out ▸ HW.out.size)) (by unfold Only; omega)
      · rw [HG.out]; exact h1
    · have q : (f.p == p) = false := beq_eq_false_iff_ne.2 hp
      have HT := Lib.hid (show ∀ g ∈ l.take (k + 1), g.p ≠ p from by
       rw [List.take_add_one, hf]
       intro x hx
       rcases List.mem_append.1 hx with hx | hx
       · exact HN.out x hx
       · rw [show x = f from by simpa using hx]; exact hp)
      clear hp
      go_wp2_with fail
      go_roundw
      case rel => exact ⟨k + 1, by go_num, hlt, HT, HX, HW⟩
      case measure => simp [intOf]; omega
  · obtain rfl : k = l.length := by omega
    have hlt' : ¬ (l.length : Int) < (l.length : Int) := by omega
    have HG := Lib.hid (show getF l p = zeroF from getF_no fun g hg => HN.out g (by rw [List.take_length]; exact hg))
    go_wp2_with (refine wpList_storeBlk rfl rfl (cs := #[.string ⟨#[]⟩, .int .i64 0, .slice none 0 0]) (vs := #[.string ⟨#[]⟩, .int .i64 0, .slice none 0 0]) rfl rfl HX.out rfl info_file zeroF_one ?_; intro w5 hx5 hk5 hs5)
    have hz5 : Below z w w5 := HW.out.trans (hk5.below (HZ.out ▸ HW.out.size) (by unfold Only; omega))
    refine bodyPost_ret (v := .agg (fileC zeroF none 0)) (results_cell rfl _ _ rfl (loadVar_file hx5)) rfl ⟨none, 0, by rw [HG.out], ?_, ?_, by decide, hz5⟩
    · rw [HG.out]; exact Reads.none_
    · rw [HG.out]; exact Nat.le_refl _
end Go.Proofs.YteeeehfnldkjlaaGreatDoor
namespace Go.Proofs.YteeeehfnldkjlaaGreatDoor
open Go.RowKit
theorem cur_next2 {b : List UInt8} {f i : Nat} {x : UInt8} (hf : f ≤ i) (hx : b[i]? = some x) : (b.drop f).take (i + 1 - f) = (b.drop f).take (i - f) ++ [x] := by
 rw [show i + 1 - f = i - f + 1 by omega, List.take_add_one, List.getElem?_drop, show f + (i - f) = i by omega, hx]
 rfl
set_option maxHeartbeats 2000000 in
set_option maxRecDepth 100000 in
theorem rsplit_any (b : List UInt8) (A : Option Addr) (c B : Nat) (w : World) (hB : B ≤ w.heap.size) (hr : Reads w B 1 A b.length (b.map byteV)) (hbl : b.length ≤ 1000000) (hbc : b.length ≤ c) :
    Calls Tryz.prog 92 #[.slice A b.length c] w fun r w' => ∃ A' c', r = .returned (.slice A' (splitL b).length c') ∧ Own w' w.heap.size 9 1 A' (splitL b).length c' (strL (splitL b)) ∧ Below w.heap.size w w' := by
 have HR := Lib.hid (show ∀ W, Below w.heap.size w W → Reads W B 1 A b.length (b.map byteV) from fun W k => hr.below (k.mono hB))
 clear hr
 obtain ⟨L, hL⟩ : ∃ L, splitL b = L := ⟨_, rfl⟩
 rw [hL]
 have HL := Lib.hid hL
 clear hL
 go_enter Tryz.func92, Tryz.ntmps92
 go_wp2_with fail
 go_loopw [3, 4, 5] (fun s3 s4 s5 wr => ∃ (i f : Nat) (out : List (List UInt8)) (A3 : Option Addr) (c3 : Nat), s3 = .slice A3 out.length c3 ∧ s4 = .int .i64 (f : Nat) ∧ s5 = .int .i64 (i : Nat) ∧ f ≤ i ∧ i ≤ b.length ∧ out.length ≤ i ∧ Hid (out ++ splitFrom ((b.drop f).take (i - f)) (b.drop i) = L) ∧ Own wr w.heap.size 9 1 A3 out.length c3 (strL out) ∧ Below w.heap.size w wr) (fun _ _ s5 _ => b.length - (intOf s5).toNat)
 case atStart => exact ⟨0, 0, [], none, 0, rfl, rfl, rfl, Nat.le_refl _, Nat.zero_le _, Nat.le_refl _, Lib.hid (by rw [← HL.out]; rfl), Own.nil _ _ _ _, Below.refl _ _⟩
 case round =>
  obtain ⟨i, f, out, A3, c3, rfl, rfl, rfl, hfi, hib, hoi, HO, ho, hb⟩ := hrel
  have hz := hb.size
  have hi0 : (0 : Int) ≤ (i : Int) := Int.natCast_nonneg _
  by_cases hlt : i < b.length
  · obtain ⟨x, hx⟩ : ∃ x, b[i]? = some x := ⟨_, List.getElem?_eq_getElem hlt⟩
    have hi1 : (i : Int) < (b.length : Int) := by omega
    obtain ⟨g, o, rfl, _, hcl⟩ := (HR.out _ hb).at0 (by omega) (by omega)
    have d1 : wr.cell? ⟨g, o + i, none⟩ = some (.int .u8 (x.toNat : Int)) := hcl i (byteV x) (by rw [List.getElem?_map, hx]; rfl)
    have hdr : b.drop i = x :: b.drop (i + 1) := List.drop_eq_getElem?_toList_append.trans (by rw [hx]; rfl)
    have hcn := cur_next2 hfi hx
    have HO1 := HO.out
    rw [hdr, splitFrom] at HO1
    have HO2 := Lib.hid HO1
    have hsrc := ((HR.out _ hb).cut (k := f) (cap := c) (by omega) hbc).front (k := i + 1 - f) (by omega)
    rw [Nat.mul_one, Nat.mul_one, if_neg (by omega), show ((b.map byteV).drop f).take (i + 1 - f) = ((b.drop f).take (i + 1 - f)).map byteV by rw [List.map_take, List.map_drop], hcn] at hsrc
    have HS := Lib.hid (show Reads wr B 1 (some ⟨g, o + f, none⟩) (i + 1 - f) (((b.drop f).take (i - f) ++ [x]).map byteV) from by have q := hsrc; rw [Option.map_some, add_at] at q; exact q)
    have HCN := Lib.hid hcn
    clear hcl hdr hcn HO1 hsrc HO hx
    by_cases hx10 : x = 10
    · subst hx10
      have e10 : (((10 : UInt8).toNat : Int) == 10) = true := rfl
      have s1 : (f : Int) ≤ (i : Int) + 1 := by omega
      have s2 : (i : Int) + 1 ≤ (c : Int) := by omega
      have s3 : f ≤ i + 1 := by omega
      have s4 : i + 1 ≤ c := by omega
      have s5 : ((i : Int) + 1 - (f : Int)).toNat = i + 1 - f := by omega
      have hcp : ¬ (c = f) := by omega
      have HN := Lib.hid (show (out ++ [(b.drop f).take (i - f) ++ [10]]) ++ splitFrom ((b.drop (i + 1)).take (i + 1 - (i + 1))) (b.drop (i + 1)) = L from by
       have := HO2.out
       rw [if_pos rfl] at this
       rw [← this]
       simp)
      generalize (b.drop f).take (i - f) ++ [10] = row at *
      clear HO2
      have O3 := Lib.hid ho
      have HB := Lib.hid hb
      clear ho hb
      go_wp2_with (first | (refine wpList_convStr rfl rfl Tryz.underlying39 Tryz.underlying5 Tryz.underlying9 (l := row) rfl HS.out ?_) | (at_builtin; refine wpList_append_sl rfl elemStr rfl rfl (n := out.length) (xs := strL out) (O3.out.alloc _) rfl (Reads.of_blk (n := 1) (size := 1) (xs := strL [row]) (heap_alloc_new _ _) rfl rfl) (strL_one [row]) (by unfold maxLen; omega) (by omega) (by simp; omega) ?_; intro A5 c5 w5 o5 k5; have O5 := Lib.hid o5; have HB5 := Lib.hid (HB.out.trans ((((Kept.refl _ _ _ _).alloc _).trans k5).below (Nat.le_refl _) hz (by simp))); clear o5 k5))
      go_roundw
      case rel => exact ⟨i + 1, i + 1, out ++ [row], A5, c5, by rw [List.length_append, List.length_singleton], by go_num, by go_num, Nat.le_refl _, hlt, by simp; omega, HN, by rw [List.length_append, List.length_singleton]; simpa [strL] using O5.out, HB5.out⟩
      case measure => simp [intOf]; omega
    · have e10 : ((x.toNat : Int) == 10) = false := by
       rw [beq_eq_false_iff_ne]
       intro q
       exact hx10 (UInt8.toNat_inj.1 (by have : (10 : UInt8).toNat = 10 := rfl; omega))
      have HN := Lib.hid (show out ++ splitFrom ((b.drop f).take (i + 1 - f)) (b.drop (i + 1)) = L from by
       have := HO2.out
       rw [if_neg hx10] at this
       rw [HCN.out]
       exact this)
      clear HO2 HCN HS hx10
      go_wp2_with fail
      go_roundw
      case rel => exact ⟨i + 1, f, out, A3, c3, rfl, rfl, by go_num, by omega, hlt, by omega, HN, ho, hb⟩
      case measure => simp [intOf]; omega
  · obtain rfl : i = b.length := by omega
    have hxx : ¬ (b.length < b.length) := Nat.lt_irrefl _
    have HO1 := HO.out
    rw [List.drop_length, splitFrom, List.take_of_length_le (by rw [List.length_drop]; exact Nat.le_refl _)] at HO1
    by_cases hfl : f < b.length
    · have hne : b.drop f ≠ [] := by
       intro q
       have := congrArg List.length q
       simp at this
       omega
      rw [if_neg hne] at HO1
      have hfI : (f : Int) < (b.length : Int) := by omega
      obtain ⟨g, o, rfl, _, _⟩ := (HR.out _ hb).at0 (by omega) (by omega)
      have hsrc := (HR.out _ hb).cut (k := f) (cap := c) (by omega) hbc
      rw [Nat.mul_one, if_neg (by omega), show (b.map byteV).drop f = (b.drop f).map byteV by rw [List.map_drop]] at hsrc
      have HS := Lib.hid (show Reads wr B 1 (some ⟨g, o + f, none⟩) (b.length - f) ((b.drop f).map byteV) from by have q := hsrc; rw [Option.map_some, add_at] at q; exact q)
      have s1 : (f : Int) ≤ (b.length : Int) := by omega
      have s2 : (f : Int) ≤ (c : Int) := by omega
      have hcp : ¬ (c = f) := by omega
      have s5 : ((b.length : Int) - (f : Int)).toNat = b.length - f := by omega
      generalize b.drop f = row at *
      have O3 := Lib.hid ho
      have HB := Lib.hid hb
      have HF := Lib.hid HO1
      clear ho hb HO1 hsrc hne HO
      go_wp2_with (first | (refine wpList_convStr rfl rfl Tryz.underlying39 Tryz.underlying5 Tryz.underlying9 (l := row) rfl HS.out ?_) | (at_builtin; refine wpList_append_sl rfl elemStr rfl rfl (n := out.length) (xs := strL out) (O3.out.alloc _) rfl (Reads.of_blk (n := 1) (size := 1) (xs := strL [row]) (heap_alloc_new _ _) rfl rfl) (strL_one [row]) (by unfold maxLen; omega) (by omega) (by simp; omega) ?_; intro A5 c5 w5 o5 k5; have O5 := Lib.hid o5; have HB5 := Lib.hid (HB.out.trans ((((Kept.refl _ _ _ _).alloc _).trans k5).below (Nat.le_refl _) hz (by simp))); clear o5 k5))
      go_ret
      exact ⟨A5, c5, by rw [← HF.out, List.length_append, List.length_singleton]; rfl, by rw [← HF.out, List.length_append, List.length_singleton]; simpa [strL] using O5.out, HB5.out⟩
    · have hne : b.drop f = [] := List.drop_of_length_le (by omega)
      rw [if_pos hne, List.append_nil] at HO1
      have hfI : ¬ ((f : Int) < (b.length : Int)) := by omega
      have HF := Lib.hid HO1
      clear HO1 hne HO
      go_wp2_with fail
      go_ret
      exact ⟨A3, c3, by rw [← HF.out]; rfl, by rw [← HF.out]; exact ho, hb⟩
theorem lastN_slash {p : Pth} {i : Nat} (h : p[i]? = some 47) (hn : ∀ j, i < j → p[j]? ≠ some 47) : lastN p = p.drop (i + 1) := by
 have hf : (47 : UInt8) ∉ p.drop (i + 1) := fun q => by
  obtain ⟨j, hj⟩ := List.mem_iff_getElem?.1 q
  rw [List.getElem?_drop] at hj
  exact hn (i + 1 + j) (by omega) hj
 have e : p = p.take i ++ 47 :: p.drop (i + 1) := by
  conv => lhs; rw [← List.take_append_drop i p, List.drop_eq_getElem?_toList_append, h]
  rfl
 have := (last_at (p := p.take i) hf).1
 rw [← e] at this
 exact this
theorem lastN_flat {p : Pth} (hn : ∀ j : Nat, p[j]? ≠ some 47) : lastN p = p := by
 refine (last_none (s := p) fun q => ?_).1
 obtain ⟨j, hj⟩ := List.mem_iff_getElem?.1 q
 exact hn j hj
set_option maxHeartbeats 1000000 in
set_option maxRecDepth 100000 in
theorem rlast_any (p : Pth) (w : World) (hl : p.length ≤ 1000000000) : Calls Tryz.prog 56 #[strC p] w fun e w' => e = .returned (strC (lastN p)) ∧ w = w' := by
 have hsz : (⟨p.toArray⟩ : ByteArray).size = p.length := by simp [ByteArray.size]
 have hx : ∀ i j, (⟨p.toArray⟩ : ByteArray).extract i j = ⟨((p.take j).drop i).toArray⟩ := fun i j => by
  apply ByteArray.ext
  apply Array.ext'
  simp [List.drop_take]
 unfold strC
 go_enter Tryz.func56, Tryz.ntmps56
 go_wp2_with fail
 go_loopw [3] (fun s3 wr => ∃ k : Nat, s3 = .int .i64 ((k : Int) - 1) ∧ k ≤ p.length ∧ Hid (∀ j, k ≤ j → p[j]? ≠ some 47) ∧ w = wr) (fun s3 _ => (intOf s3 + 1).toNat)
 case atStart => exact ⟨p.length, rfl, Nat.le_refl _, Lib.hid (fun j hj => by rw [List.getElem?_eq_none hj]; simp), rfl⟩
 case round =>
  obtain ⟨k, rfl, hk, HN, rfl⟩ := hrel
  rcases k with _ | k
  · have h0 : ((0 : Nat) : Int) - 1 = -1 := rfl
    rw [h0]
    have HL := Lib.hid (lastN_flat fun j => HN.out j (Nat.zero_le _))
    go_wp2_with fail
    go_ret
    exact ⟨by rw [HL.out]; rfl, rfl⟩
  · have h0 : ((k + 1 : Nat) : Int) - 1 = (k : Int) := by omega
    rw [h0]
    have hlt : k < p.length := by omega
    obtain ⟨x, hx1⟩ : ∃ x, p[k]? = some x := ⟨_, List.getElem?_eq_getElem hlt⟩
    have hx2 : p[k] = x := by
     have := List.getElem?_eq_getElem hlt
     rw [hx1] at this
     exact (Option.some.inj this).symm
    have hb : ((⟨p.toArray⟩ : ByteArray)[k]'(by rw [hsz]; exact hlt)) = x := hx2
    have i0 : (0 : Int) ≤ (k : Int) := by omega
    have i1 : (k : Int) < (p.length : Int) := by omega
    have i2 : (k : Int) + 1 ≤ (p.length : Int) := by omega
    have i3 : ((k : Int) + 1).toNat = k + 1 := by omega
    have HX := Lib.hid hx1
    clear hx1 hx2
    by_cases hs : x = 47
    · subst hs
      have HL := Lib.hid (lastN_slash HX.out fun j hj => HN.out j (by omega))
      go_wp2_with fail
      go_ret
      exact ⟨by rw [HL.out]; simp, rfl⟩
    · have hne : ((x.toNat : Int) == 47) = false := by
       rw [beq_eq_false_iff_ne]
       intro e
       exact hs (UInt8.toNat_inj.1 (by show x.toNat = 47; omega))
      have HN2 := Lib.hid (show ∀ j, k ≤ j → p[j]? ≠ some 47 from fun j hj => by
       rcases Nat.eq_or_lt_of_le hj with rfl | hj
       · rw [HX.out]; exact fun e => hs (Option.some.inj e)
       · exact HN.out j hj)
      clear hs
      go_wp2_with fail
      go_roundw
      case rel => exact ⟨k, rfl, by omega, HN2, by first | rfl | trivial⟩
      case measure => simp [intOf]
set_option maxHeartbeats 1000000 in
set_option maxRecDepth 100000 in
theorem rcounts_any (f : FileD) (A : Option Addr) (c : Nat) (w : World) : Calls Tryz.prog 55 #[.agg (fileC f A c)] w fun e w' => e = .returned (.bool (countsP f)) ∧ Below w.heap.size w w' := by
 have hb1 := Blk.new w 41 (fileC f A c)
 have HBL := Lib.hid (show Below w.heap.size w (w.alloc (.cells (fileC f A c) 41)) from (Below.refl _ w).alloc (Nat.le_refl _) _)
 have hn : countsP f = ((f.k == 1 || f.k == 2) && decide (0 < (f.d.length : Int))) := by
  unfold countsP
  congr 1
  exact decide_eq_decide.2 (by omega)
 rw [hn]
 go_enter Tryz.func55, Tryz.ntmps55
 go_upto_region 1 with (refine wpList_boxed rfl rfl (cs := fileC f A c) rfl ?_)
 generalize w.alloc (.cells (fileC f A c) 41) = w2 at *
 have c1 := (hb1.cell 1).trans (show (fileC f A c)[1]? = some (.int .i64 f.k) from rfl)
 have c2 := (hb1.cell 2).trans (show (fileC f A c)[2]? = some (.slice A f.d.length c) from rfl)
 clear hb1 hn
 cases h1 : (f.k == 1) with
 | true =>
  go_wp2_with fail
  go_ret
  exact ⟨by rw [h1]; simp, HBL.out⟩
 | false =>
  cases h2 : (f.k == 2) with
  | true =>
   go_wp2_with fail
   go_ret
   exact ⟨by rw [h1, h2]; simp, HBL.out⟩
  | false =>
   go_wp2_with fail
   go_ret
   exact ⟨by rw [h1, h2]; simp, HBL.out⟩
end Go.Proofs.YteeeehfnldkjlaaGreatDoor
namespace Go.Proofs.YteeeehfnldkjlaaGreatDoor
open Go.RowKit
def likOf (x : PairD) : LikD := ⟨x.old, x.new, x.sc, nearP x.old x.new⟩
theorem ahead_of (x y : PairD) : aheadP (likOf x) (likOf y) = (if x.sc = y.sc then (if (lastN x.old == lastN x.new) = (lastN y.old == lastN y.new) then (if x.old = y.old then decide (x.new < y.new) else decide (x.old < y.old)) else (lastN x.old == lastN x.new)) else decide (y.sc < x.sc)) := by
 have n1 : ∀ p q : Pth, nearP p q = if (lastN p == lastN q) = true then 0 else 1 := fun p q => by unfold nearP; simp
 unfold aheadP likOf
 simp only
 rw [n1, n1]
 generalize (lastN x.old == lastN x.new) = u
 generalize (lastN y.old == lastN y.new) = v
 by_cases h1 : x.sc = y.sc
 · rw [if_pos h1, h1]
   by_cases h2 : x.old = y.old
   · cases u <;> cases v <;> simp [h2, List.lt_irrefl]
   · have h3 : (x.old == y.old) = false := beq_eq_false_iff_ne.2 h2
     cases u <;> cases v <;> simp [h2, h3]
 · rw [if_neg h1]
   simp [h1]
attribute [local go_sem] run_eql_strC run_neq_strC eqGuard_strC neGuard_strC
set_option maxHeartbeats 4000000 in
set_option maxRecDepth 100000 in
theorem rahead_any (x y : PairD) (w : World) (h1 : x.old.length ≤ 1000000000) (h2 : x.new.length ≤ 1000000000) (h3 : y.old.length ≤ 1000000000) (h4 : y.new.length ≤ 1000000000) :
    Calls Tryz.prog 58 #[.agg (pairL x).toArray, .agg (pairL y).toArray] w fun e w' => e = .returned (.bool (aheadP (likOf x) (likOf y))) ∧ Below w.heap.size w w' := by
 have HBL := Lib.hid (show Below w.heap.size w ((w.alloc (.cells (pairL x).toArray 99)).alloc (.cells (pairL y).toArray 99)) from ((Below.refl _ w).alloc (Nat.le_refl _) _).alloc (by simp) _)
 have hb1 := (Blk.new w 99 (pairL x).toArray).alloc (.cells (pairL y).toArray 99)
 have hb2 := Blk.new (w.alloc (.cells (pairL x).toArray 99)) 99 (pairL y).toArray
 rw [show (w.alloc (.cells (pairL x).toArray 99)).heap.size = w.heap.size + 1 from by simp] at hb2
 have HA := Lib.hid (ahead_of x y)
 generalize aheadP (likOf x) (likOf y) = R at *
 go_enter Tryz.func58, Tryz.ntmps58
 go_upto_region 1 with (first | (refine wpList_boxed rfl rfl (cs := (pairL x).toArray) rfl ?_) | (refine wpList_boxed rfl rfl (cs := (pairL y).toArray) rfl ?_))
 generalize (w.alloc (.cells (pairL x).toArray 99)).alloc (.cells (pairL y).toArray 99) = w2 at *
 have c0 := (hb1.cell 0).trans (show (pairL x).toArray[0]? = some (.string ⟨x.old.toArray⟩) from rfl)
 have c1 := (hb1.cell 1).trans (show (pairL x).toArray[1]? = some (.string ⟨x.new.toArray⟩) from rfl)
 have c2 := (hb1.cell 2).trans (show (pairL x).toArray[2]? = some (.int .i64 (x.sc : Nat)) from rfl)
 have d0 := (hb2.cell 0).trans (show (pairL y).toArray[0]? = some (.string ⟨y.old.toArray⟩) from rfl)
 have d1 := (hb2.cell 1).trans (show (pairL y).toArray[1]? = some (.string ⟨y.new.toArray⟩) from rfl)
 have d2 := (hb2.cell 2).trans (show (pairL y).toArray[2]? = some (.int .i64 (y.sc : Nat)) from rfl)
 have Q1 := Lib.hid (fun (m : Nat) => Calls.quiet_of_same ((rlast_any x.old (w2.drewN m) h1).mono fun _ _ h => ⟨h.1, h.2.symm⟩))
 have Q2 := Lib.hid (fun (m : Nat) => Calls.quiet_of_same ((rlast_any x.new (w2.drewN m) h2).mono fun _ _ h => ⟨h.1, h.2.symm⟩))
 have Q3 := Lib.hid (fun (m : Nat) => Calls.quiet_of_same ((rlast_any y.old (w2.drewN m) h3).mono fun _ _ h => ⟨h.1, h.2.symm⟩))
 have Q4 := Lib.hid (fun (m : Nat) => Calls.quiet_of_same ((rlast_any y.new (w2.drewN m) h4).mono fun _ _ h => ⟨h.1, h.2.symm⟩))
 unfold strC at Q1 Q2 Q3 Q4
 obtain ⟨xo, xn, xs⟩ := x
 obtain ⟨yo, yn, ys⟩ := y
 simp only at *
 clear hb1 hb2
 by_cases e1 : xs = ys
 · have q1 : ((xs : Int) != (ys : Int)) = false := by rw [e1]; simp
   rw [if_pos e1] at HA
   clear e1
   obtain ⟨u, hu⟩ : ∃ u, (lastN xo == lastN xn) = u := ⟨_, rfl⟩
   obtain ⟨v, hv⟩ : ∃ v, (lastN yo == lastN yn) = v := ⟨_, rfl⟩
   rw [hu, hv] at HA
   go_upto_region 3 with fail
   go_quiet ((first | (go_at_call 56; with_reducible exact Q1.out _) | (go_at_call 56; with_reducible exact Q2.out _) | (go_at_call 56; with_reducible exact Q3.out _) | (go_at_call 56; with_reducible exact Q4.out _)))
   clear Q1 Q2 Q3 Q4
   have HB := Lib.hid (HBL.out.trans (show Below w.heap.size w2 (w2.drewN nq) from ⟨rfl, rfl, rfl, Nat.le_refl _, fun _ _ => rfl⟩))
   cases u with
   | true =>
    cases v with
    | false =>
     go_wp2_with fail
     go_ret
     exact ⟨by rw [HA.out]; simp, HB.out⟩
    | true =>
     rw [if_pos rfl] at HA
     by_cases e2 : xo = yo
     · have q5 : (xo == yo) = true := beq_iff_eq.2 e2
       rw [if_pos e2] at HA
       have Q6 := Lib.hid (bytesLess_eq xn yn)
       clear e2
       go_wp2_with fail
       go_ret
       exact ⟨by rw [HA.out, ← Q6.out]; rfl, HB.out⟩
     · have q5 : (xo == yo) = false := beq_eq_false_iff_ne.2 e2
       rw [if_neg e2] at HA
       have Q6 := Lib.hid (bytesLess_eq xo yo)
       clear e2
       go_wp2_with fail
       go_ret
       exact ⟨by rw [HA.out, ← Q6.out]; rfl, HB.out⟩
   | false =>
    cases v with
    | true =>
     go_wp2_with fail
     go_ret
     exact ⟨by rw [HA.out]; simp, HB.out⟩
    | false =>
     rw [if_pos rfl] at HA
     by_cases e2 : xo = yo
     · have q5 : (xo == yo) = true := beq_iff_eq.2 e2
       rw [if_pos e2] at HA
       have Q6 := Lib.hid (bytesLess_eq xn yn)
       clear e2
       go_wp2_with fail
       go_ret
       exact ⟨by rw [HA.out, ← Q6.out]; rfl, HB.out⟩
     · have q5 : (xo == yo) = false := beq_eq_false_iff_ne.2 e2
       rw [if_neg e2] at HA
       have Q6 := Lib.hid (bytesLess_eq xo yo)
       clear e2
       go_wp2_with fail
       go_ret
       exact ⟨by rw [HA.out, ← Q6.out]; rfl, HB.out⟩
 · have q1 : ((xs : Int) != (ys : Int)) = true := by rw [bne_iff_ne]; omega
   rw [if_neg e1] at HA
   clear e1
   go_wp2_with fail
   go_ret
   exact ⟨by rw [HA.out]; simp, HBL.out⟩
end Go.Proofs.YteeeehfnldkjlaaGreatDoor
namespace Go.Proofs.YteeeehfnldkjlaaGreatDoor
open Go.RowKit
def unL : List (List UInt8) → List Bool → List (List UInt8)
 | s :: y, u :: U => if u = true then unL y U else s :: unL y U
 | _, _ => []
theorem unL_start : ∀ y : List (List UInt8), unL y (List.replicate y.length false) = y
 | [] => rfl
 | s :: y => by
  rw [List.length_cons, List.replicate_succ, unL, if_neg (by simp), unL_start y]
theorem unL_none {s : List UInt8} : ∀ {y : List (List UInt8)} {U : List Bool}, U.length = y.length → (∀ j : Nat, y[j]? = some s → U[j]? = some true) → s ∉ unL y U
 | [], [], _, _ => by simp [unL]
 | [], _ :: _, h, _ => by simp at h
 | _ :: _, [], h, _ => by simp at h
 | t :: y, u :: U, hl, h => by
  have hl' : U.length = y.length := by simpa using hl
  have ih := unL_none (s := s) (y := y) (U := U) hl' fun j hj => by simpa using h (j + 1) (by simpa using hj)
  rw [unL]
  split
  · exact ih
  · rename_i hu
    rw [List.mem_cons, not_or]
    refine ⟨fun e => ?_, ih⟩
    have := h 0 (by rw [e]; rfl)
    simp at this
    exact hu this
theorem unL_found {s : List UInt8} : ∀ {y : List (List UInt8)} {U : List Bool} {k : Nat}, U.length = y.length → y[k]? = some s → U[k]? = some false → (∀ j, j < k → y[j]? = some s → U[j]? = some true) → s ∈ unL y U ∧ unL y (U.set k true) = (unL y U).erase s
 | [], _, _, _, h, _, _ => by simp at h
 | _ :: _, [], _, h, _, _, _ => by simp at h
 | t :: y, u :: U, 0, _, h1, h2, _ => by
  simp at h1 h2
  subst h1 h2
  rw [List.set_cons_zero, unL, unL, if_pos rfl, if_neg (by simp), List.erase_cons_head]
  exact ⟨List.mem_cons_self .., rfl⟩
 | t :: y, u :: U, k + 1, hl, h1, h2, h3 => by
  have hl' : U.length = y.length := by simpa using hl
  obtain ⟨r1, r2⟩ := unL_found (s := s) (y := y) (U := U) (k := k) hl' (by simpa using h1) (by simpa using h2) fun j hj hj2 => by simpa using h3 (j + 1) (by omega) (by simpa using hj2)
  rw [List.set_cons_succ, unL, unL]
  by_cases hu : u = true
  · rw [if_pos hu, if_pos hu]
    exact ⟨r1, r2⟩
  · rw [if_neg hu, if_neg hu]
    have hts : t ≠ s := fun e => by
     have := h3 0 (by omega) (by rw [e]; rfl)
     simp at this
     exact hu this
    refine ⟨List.mem_cons_of_mem _ r1, ?_⟩
    rw [r2, List.erase_cons_tail (by simpa using hts)]
theorem common_cons (s : List UInt8) : ∀ (y x : List (List UInt8)), commonP (s :: x) y = if s ∈ y then commonP x (y.erase s) + 1 else commonP x y
 | [], x => by simp [commonP]
 | t :: y, x => by
  rw [commonP]
  by_cases h : t = s
  · subst h
    rw [if_pos (List.mem_cons_self ..), if_pos (List.mem_cons_self ..), List.erase_cons_head, List.erase_cons_head]
  · have hm : s ∈ t :: y ↔ s ∈ y := by
     rw [List.mem_cons]
     exact ⟨fun q => q.elim (fun q => absurd q.symm h) id, .inr⟩
    have ht : t ∈ s :: x ↔ t ∈ x := by
     rw [List.mem_cons]
     exact ⟨fun q => q.elim (fun q => absurd q h) id, .inr⟩
    rw [List.erase_cons_tail (by simpa using fun e => h e.symm), List.erase_cons_tail (by simpa using h)]
    by_cases h1 : t ∈ x
    · rw [if_pos (ht.2 h1), common_cons s y (x.erase t)]
      by_cases h2 : s ∈ y
      · rw [if_pos h2, if_pos (hm.2 h2), commonP, if_pos h1]
      · rw [if_neg h2, if_neg (fun q => h2 (hm.1 q)), commonP, if_pos h1]
    · rw [if_neg (fun q => h1 (ht.1 q)), common_cons s y x]
      by_cases h2 : s ∈ y
      · rw [if_pos h2, if_pos (hm.2 h2), commonP, if_neg h1]
      · rw [if_neg h2, if_neg (fun q => h2 (hm.1 q)), commonP, if_neg h1]
theorem common_nil : ∀ y : List (List UInt8), commonP [] y = 0
 | [] => rfl
 | t :: y => by rw [commonP, if_neg (by simp), common_nil y]
theorem common_comm : ∀ (x y : List (List UInt8)), commonP x y = commonP y x
 | [], y => by rw [common_nil]; rfl
 | s :: x, y => by
  rw [common_cons, commonP]
  by_cases h : s ∈ y
  · rw [if_pos h, if_pos h, common_comm x]
  · rw [if_neg h, if_neg h, common_comm x]
end Go.Proofs.YteeeehfnldkjlaaGreatDoor
