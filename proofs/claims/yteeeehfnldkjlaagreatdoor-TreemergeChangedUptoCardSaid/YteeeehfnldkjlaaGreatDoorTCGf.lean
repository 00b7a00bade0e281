/- Contract of the law's known. No statement of the seat is proved here. -/
import Derived.Test.YteeeehfnldkjlaaGreatDoorTCGe
import Derived.Test.YteeeehfnldkjlaaGreatDoorTC16
import Derived.Test.YteeeehfnldkjlaaGreatDoorTCZw
import Derived.Lib.SlBytesConst
import Derived.BigRegion
namespace Go.Proofs.YteeeehfnldkjlaaGreatDoor
open Go.RowKit Go.Maps
def knA : FileD := ⟨[97], 1, [120, 10, 121, 10]⟩
def knB : FileD := ⟨[98], 1, [120, 10, 121, 10]⟩
def knC : FileD := ⟨[97], 1, [120, 10, 121, 10, 122, 10]⟩
set_option maxRecDepth 100000 in
theorem kn1 : treemergeP [knA] [knB] [knC] = .ok ([⟨[98], 1, [120, 10, 121, 10, 122, 10]⟩], []) :=
 (merge_moved (b := knA) (x := knB) (y := knC) (by decide +kernel) (by decide +kernel) (by decide +kernel) rfl rfl (by decide) rfl (by decide +kernel)).1
set_option maxRecDepth 100000 in
theorem kn2 : treemergeP [knA] [] [knC] = .ok ([knC], [⟨[97], 2⟩]) := by kernel_rfl
def u8s (l : List UInt8) : Array Value := (l.map byteV).toArray
theorem conv_const (W : World) (C : Array Value) (n c g : Nat) (hg : W.heap.size = g) : (convert 39 39 (.slice (some ⟨g, 0, none⟩) n c)).run Tryz.prog (W.alloc (.cells C 5)) = .ok (.slice (some ⟨g, 0, none⟩) n c) (W.alloc (.cells C 5 (C.size, C.size + 1))) :=
 by subst hg; exact Lib.run_convert_bytes_const W 39 5 C n c Tryz.underlying39 Tryz.underlying5
theorem reads_const (W : World) (l : List UInt8) (fz : Nat × Nat) (g : Nat) (hg : W.heap.size = g) : Reads (W.alloc (.cells (u8s l) 5 fz)) (g + 1) 1 (some ⟨g, 0, none⟩) l.length (l.map byteV) := by
 subst hg
 exact Reads.of_blk (size := 1) (n := l.length) (heap_alloc_new W _) (by simp [u8s]) (by simp)
theorem blk_new_at (W : World) (t : TypeId) (cs : Array Value) (g : Nat) (hg : W.heap.size = g) : Blk (W.alloc (.cells cs t)) g t cs := hg ▸ Blk.new W t cs
theorem size_at (W : World) (o : Obj) (g : Nat) (hg : W.heap.size = g) : (W.alloc o).heap.size = g + 1 := by simp [hg]
theorem below_at {W : World} {g : Nat} (o : Obj) (hg : W.heap.size = g) : Below g W (W.alloc o) := (Below.refl _ W).alloc (Nat.le_of_eq hg.symm) o
theorem fi_one {W : World} {g B : Nat} {f : FileD} {D : Option Addr} {d : Nat} (hb : Blk W g 41 (fileC f D d)) (hr : Reads W B 1 D f.d.length (f.d.map byteV)) (hB : B ≤ W.heap.size) (h1 : f.d.length ≤ d) (h2 : d ≤ maxLen) : FI W W.heap.size (some ⟨g, 0, none⟩) [f] := by
 refine ⟨[.slice D f.d.length d], rfl, ?_, fun k a b e1 e2 => ?_⟩
 · exact (Reads.of_blk (n := 1) (size := 3) (xs := fileV f (.slice D f.d.length d)) hb rfl rfl).more hb.lt
 · rcases k with _ | k
   · obtain rfl := Option.some.inj e1
     obtain rfl := Option.some.inj e2
     exact ⟨D, d, rfl, h1, h2, hr.more hB⟩
   · cases e1
set_option maxRecDepth 100000 in
theorem eqCl (W : World) : (binOp .eql 44 (.agg #[.string ⟨#[97]⟩, .int .i64 2]) (.agg #[.string ⟨#[97]⟩, .int .i64 2])).run Tryz.prog W = .ok (.bool true) W := by
 kernel_rfl
set_option maxRecDepth 100000 in
theorem eqClG (x y : Operand) (W : World) : (eqGuard .eql 44 x y (.agg #[.string ⟨#[97]⟩, .int .i64 2]) (.agg #[.string ⟨#[97]⟩, .int .i64 2])).run Tryz.prog W = .ok () W := by
 kernel_rfl
set_option maxRecDepth 100000 in
theorem bdCl (W : World) : (Instr.build 44 #[(0, .string ⟨#[97]⟩), (1, .int .i64 2)]).run Tryz.prog W = .ok (.agg #[.string ⟨#[97]⟩, .int .i64 2]) W := by
 kernel_rfl
attribute [local go_sem] run_eql_strC run_neq_strC eqGuard_strC neGuard_strC
attribute [local go_sem] eqCl eqClG
attribute [local go_sem ↓] ld_f ld_cl bdCl
set_option maxHeartbeats 4000000 in
set_option maxRecDepth 100000 in
theorem known17_any (w : World) (hv : VarM w) : Calls Tryz.prog 14 #[] w fun e w' => e = .returned (.bool true) ∧ Below w.heap.size w w' := by
 go_enter Tryz.func14, Tryz.ntmps14
 obtain ⟨z, hz⟩ : ∃ z, w.heap.size = z := ⟨_, rfl⟩
 have hcv := conv_const w #[.int .u8 120, .int .u8 10, .int .u8 121, .int .u8 10] 4 4 z hz
 rw [hz]
 go_upto_region 1 with fail
 go_cut [1] (fun s1 wx => s1 = .pointer (some ⟨z + 1, 0, none⟩) ∧ Hid (Blk wx (z + 1) 41 (fileC knA (some ⟨z, 0, none⟩) 4)) ∧ Hid (Reads wx (z + 1) 1 (some ⟨z, 0, none⟩) 4 (knA.d.map byteV)) ∧ Hid (wx.heap.size = z + 2) ∧ Hid (Below z w wx))
 case first =>
  go_wp2_with fail
  go_meet
  have hz1 := size_at w (.cells #[.int .u8 120, .int .u8 10, .int .u8 121, .int .u8 10] 5 (4, 5)) z hz
  have hb1 := below_at (.cells #[.int .u8 120, .int .u8 10, .int .u8 121, .int .u8 10] 5 (4, 5)) hz
  have hr1 := reads_const w [120, 10, 121, 10] (4, 5) z hz
  refine ⟨rfl, Lib.hid (blk_new_at _ _ _ _ hz1), Lib.hid (hr1.below (below_at _ hz1)), Lib.hid (size_at _ _ _ hz1), Lib.hid (hb1.trans ((below_at _ hz1).mono (Nat.le_succ _)))⟩
 case rest =>
  obtain ⟨rfl, HA, HR, HZ, HB⟩ := hcut
  clear hcv
  generalize wc = w1 at *
  have hz1 := HZ.out
  have c2 : w1.cell? ⟨z + 1, 2, none⟩ = some (.slice (some ⟨z, 0, none⟩) 4 4) := (HA.out.cell 2).trans rfl
  go_upto_region 2 with fail
  go_cut [2] (fun s2 wx => s2 = .pointer (some ⟨z + 2, 0, none⟩) ∧ Hid (Blk wx (z + 2) 41 (fileC knB (some ⟨z, 0, none⟩) 4)) ∧ Hid (wx.heap.size = z + 3) ∧ Hid (Below (z + 2) w1 wx))
  case first =>
   go_wp2_with fail
   go_meet
   exact ⟨rfl, Lib.hid (blk_new_at _ _ _ _ hz1), Lib.hid (size_at _ _ _ hz1), Lib.hid (below_at _ hz1)⟩
  case rest =>
   obtain ⟨rfl, HB2, HZ2, HK2⟩ := hcut
   clear c2 hz1
   generalize wc = w2 at *
   have hz2 := HZ2.out
   have hcv := conv_const w2 #[.int .u8 120, .int .u8 10, .int .u8 121, .int .u8 10, .int .u8 122, .int .u8 10] 6 6 (z + 3) hz2
   go_upto_region 3 with fail
   go_cut [3] (fun s3 wx => s3 = .pointer (some ⟨z + 4, 0, none⟩) ∧ Hid (Blk wx (z + 4) 41 (fileC knC (some ⟨z + 3, 0, none⟩) 6)) ∧ Hid (Reads wx (z + 4) 1 (some ⟨z + 3, 0, none⟩) 6 (knC.d.map byteV)) ∧ Hid (wx.heap.size = z + 5) ∧ Hid (Below (z + 3) w2 wx))
   case first =>
    go_wp2_with fail
    go_meet
    have hz1 := size_at w2 (.cells #[.int .u8 120, .int .u8 10, .int .u8 121, .int .u8 10, .int .u8 122, .int .u8 10] 5 (6, 7)) (z + 3) hz2
    have hb1 := below_at (.cells #[.int .u8 120, .int .u8 10, .int .u8 121, .int .u8 10, .int .u8 122, .int .u8 10] 5 (6, 7)) hz2
    have hr1 := reads_const w2 [120, 10, 121, 10, 122, 10] (6, 7) (z + 3) hz2
    exact ⟨rfl, Lib.hid (blk_new_at _ _ _ _ hz1), Lib.hid (hr1.below (below_at _ hz1)), Lib.hid (size_at _ _ _ hz1), Lib.hid (hb1.trans ((below_at _ hz1).mono (Nat.le_succ _)))⟩
   case rest =>
    obtain ⟨rfl, HC, HR3, HZ3, HK3⟩ := hcut
    clear hcv hz2
    generalize wc = w3 at *
    have hk2 : Below (z + 2) w1 w3 := HK2.out.trans (HK3.out.mono (by omega))
    have HA3 := Lib.hid (HA.out.below hk2 (by omega))
    have HB3 := Lib.hid (HB2.out.below HK3.out (by omega))
    have HRA := Lib.hid ((HR.out.below (hk2.mono (by omega))).more (show z + 1 ≤ z + 5 by omega))
    have HRC := Lib.hid (HR3.out.more (show z + 4 ≤ z + 5 by omega))
    have HW3 := Lib.hid (HB.out.trans (hk2.mono (by omega)))
    clear HA HB2 HR HR3 HB HK2 HK3 HZ HZ2 hk2
    have hz3 := HZ3.out
    obtain ⟨W4, hW4⟩ : ∃ W4, ((w3.alloc (.cells (fileC knA (some ⟨z, 0, none⟩) 4) 41)).alloc (.cells (fileC knB (some ⟨z, 0, none⟩) 4) 41)).alloc (.cells (fileC knC (some ⟨z + 3, 0, none⟩) 6) 41) = W4 := ⟨_, rfl⟩
    have hz4 : W4.heap.size = z + 8 := by rw [← hW4]; exact size_at _ _ _ (size_at _ _ _ (size_at _ _ _ hz3))
    have hb4 : Below (z + 5) w3 W4 := by rw [← hW4]; exact (below_at _ hz3).trans (((below_at _ (size_at _ _ _ hz3)).mono (by omega)).trans ((below_at _ (size_at _ _ _ (size_at _ _ _ hz3))).mono (by omega)))
    have f1 : FI W4 W4.heap.size (some ⟨z + 5, 0, none⟩) [knA] := fi_one (B := z + 5) (f := knA) (D := some ⟨z, 0, none⟩) (d := 4) (by rw [← hW4]; exact ((blk_new_at _ _ _ _ hz3).alloc _).alloc _) (HRA.out.below hb4) (by omega) (by decide) (by decide)
    have f2 : FI W4 W4.heap.size (some ⟨z + 6, 0, none⟩) [knB] := fi_one (B := z + 5) (f := knB) (D := some ⟨z, 0, none⟩) (d := 4) (by rw [← hW4]; exact (blk_new_at _ _ _ _ (size_at _ _ _ hz3)).alloc _) (HRA.out.below hb4) (by omega) (by decide) (by decide)
    have f3 : FI W4 W4.heap.size (some ⟨z + 7, 0, none⟩) [knC] := fi_one (B := z + 5) (f := knC) (D := some ⟨z + 3, 0, none⟩) (d := 6) (by rw [← hW4]; exact blk_new_at _ _ _ _ (size_at _ _ _ (size_at _ _ _ hz3))) (HRC.out.below hb4) (by omega) (by decide) (by decide)
    have hpos : 0 < z := hz ▸ hv.pos
    have hm := merge_any [knA] [knB] [knC] _ _ _ 1 1 1 W4.heap.size W4 (Nat.le_refl _) f1 f2 f3 (hv.below (HW3.out.trans (hb4.mono (by omega))) hpos) (by decide) (by decide) (by decide)
    have HM := Lib.hid (hm.mono (R' := fun e w' => ∃ A c A' c', e = .returned (.tuple #[.slice A 1 c, .slice A' 0 c', .int .i64 0]) ∧ FI w' w'.heap.size A [⟨[98], 1, knC.d⟩] ∧ Below (z + 8) W4 w') (by
     rintro e w' ⟨hb, h⟩
     rw [hz4] at hb
     rcases h with ⟨n, h, _⟩ | ⟨x, v, A, c, A', c', h, he, hf, _⟩
     · rw [kn1] at h; cases h
     · rw [kn1] at h
       injection h with h
       injection h with h1 h2
       subst h1 h2
       exact ⟨A, c, A', c', he, hf, hb⟩))
    have HB4 := Lib.hid hb4
    clear hm f1 f2 f3 hb4 hz4
    go_upto_region 4 with fail
    go_cut [4, 5, 6] (fun s4 s5 s6 wx => ∃ A c A' c', s4 = .slice A 1 c ∧ s5 = .slice A' 0 c' ∧ s6 = .int .i64 0 ∧ Hid (FI wx wx.heap.size A [⟨[98], 1, knC.d⟩]) ∧ Hid (Below (z + 5) w3 wx))
    case first =>
     go_wp2_with (first
      | (refine wpList_load rfl rfl rfl (file_load HA3.out) ?_)
      | (refine wpList_load rfl rfl rfl (file_load (HB3.out.alloc _)) ?_)
      | (refine wpList_load rfl rfl rfl (file_load ((HC.out.alloc _).alloc _)) ?_)
      | (refine wpList_buildSlice1 rfl elemFile rfl zero_file rfl rfl (by omega) rfl ?_)
      | (go_at_call 16; refine HM.out.mono ?_; rintro _ w5 ⟨A, c, A', c', rfl, hf5, hb5⟩; have HF5 := Lib.hid hf5; have HB5 := Lib.hid (HB4.out.trans (hb5.mono (by omega))); clear hf5 hb5))
     go_meet
     exact ⟨A, c, A', c', rfl, rfl, rfl, HF5, HB5⟩
    case rest =>
     obtain ⟨A, c, A', c', rfl, rfl, rfl, HF5, HB5⟩ := hcut
     clear HM hW4 HB4
     generalize wc = w5 at *
     obtain ⟨q, hq⟩ : ∃ q, w5.heap.size = q := ⟨_, rfl⟩
     have hq5 : z + 5 ≤ q := by rw [← hq, ← hz3]; exact HB5.out.size
     have hA5 := HA3.out.below HB5.out (by omega)
     have hC5 := HC.out.below HB5.out (by omega)
     obtain ⟨W6, hW6⟩ : ∃ W6, (w5.alloc (.cells (fileC knA (some ⟨z, 0, none⟩) 4) 41)).alloc (.cells (fileC knC (some ⟨z + 3, 0, none⟩) 6) 41) = W6 := ⟨_, rfl⟩
     have hz6 : W6.heap.size = q + 2 := by rw [← hW6]; exact size_at _ _ _ (size_at _ _ _ hq)
     have hb6 : Below q w5 W6 := by rw [← hW6]; exact (below_at _ hq).trans ((below_at _ (size_at _ _ _ hq)).mono (by omega))
     have hb36 : Below (z + 5) w3 W6 := HB5.out.trans (hb6.mono hq5)
     have f1 : FI W6 W6.heap.size (some ⟨q, 0, none⟩) [knA] := fi_one (B := z + 5) (f := knA) (D := some ⟨z, 0, none⟩) (d := 4) (by rw [← hW6]; exact (blk_new_at _ _ _ _ hq).alloc _) (HRA.out.below hb36) (by omega) (by decide) (by decide)
     have f3 : FI W6 W6.heap.size (some ⟨q + 1, 0, none⟩) [knC] := fi_one (B := z + 5) (f := knC) (D := some ⟨z + 3, 0, none⟩) (d := 6) (by rw [← hW6]; exact blk_new_at _ _ _ _ (size_at _ _ _ hq)) (HRC.out.below hb36) (by omega) (by decide) (by decide)
     have hm := merge_any [knA] [] [knC] _ none _ 1 0 1 W6.heap.size W6 (Nat.le_refl _) f1 (FI.nil_ _ _ _) f3 (hv.below (HW3.out.trans (hb36.mono (by omega))) hpos) (by decide) (by decide) (by decide)
     have HM := Lib.hid (hm.mono (R' := fun e w' => ∃ A c g c', e = .returned (.tuple #[.slice A 1 c, .slice (some ⟨g, 0, none⟩) 1 c', .int .i64 0]) ∧ (∀ W, Below w'.heap.size w' W → (LdCl (.pointer (some ⟨g, 0, none⟩))).run Tryz.prog W = .ok (.agg #[.string ⟨#[97]⟩, .int .i64 2]) W) ∧ Below (q + 2) W6 w') (by
      rintro e w' ⟨hb, h⟩
      rw [hz6] at hb
      rcases h with ⟨n, h, _⟩ | ⟨x, v, A, c, A', c', h, he, hf, ho⟩
      · rw [kn2] at h; cases h
      · rw [kn2] at h
        injection h with h
        injection h with h1 h2
        subst h1 h2
        obtain ⟨g, rfl, _⟩ := ho.adrn (by decide)
        refine ⟨A, c, g, c', he, fun W hW => ?_, hb⟩
        refine run_loadAt_cells W _ #[.string ⟨#[97]⟩, .int .i64 2] Tryz.underlying44 rfl info_clash2 (fun j v hj => ?_)
        rw [add_at, Nat.zero_add]
        have hj2 : j < 2 := (List.getElem?_eq_some_iff.1 hj).1
        refine (hW.cell (p := ⟨g, j, none⟩) (ho.blkA _ rfl).2.1).trans ?_
        refine (World.ownsRow.cellAt ho j (by simpa using hj2)).trans ?_
        rw [← hj]
        rcases j with _ | _ | j
        · rfl
        · rfl
        · omega))
     have HB6 := Lib.hid hb6
     have HA5 := Lib.hid hA5
     have HC5 := Lib.hid hC5
     clear hm f1 f3 hb6 hb36 hz6 hA5 hC5 HA3 HB3 HC HRA
     go_upto_region 5 with fail
     go_cut [7, 8, 9] (fun s7 s8 s9 wx => ∃ A c g c', s7 = .slice A 1 c ∧ s8 = .slice (some ⟨g, 0, none⟩) 1 c' ∧ s9 = .int .i64 0 ∧ Hid (∀ W, Below wx.heap.size wx W → (LdCl (.pointer (some ⟨g, 0, none⟩))).run Tryz.prog W = .ok (.agg #[.string ⟨#[97]⟩, .int .i64 2]) W) ∧ Hid (Below q w5 wx))
     case first =>
      go_wp2_with (first
       | (refine wpList_load rfl rfl rfl (file_load HA5.out) ?_)
       | (refine wpList_load rfl rfl rfl (file_load (HC5.out.alloc _)) ?_)
       | (refine wpList_buildSlice1 rfl elemFile rfl zero_file rfl rfl (by omega) rfl ?_)
       | (go_at_call 16; refine HM.out.mono ?_; rintro _ w7 ⟨A, c, g, c', rfl, hl7, hb7⟩; have HL7 := Lib.hid hl7; have HB7 := Lib.hid (HB6.out.trans (hb7.mono (by omega))); clear hl7 hb7))
      go_meet
      exact ⟨A, c, g, c', rfl, rfl, rfl, HL7, HB7⟩
     case rest =>
      obtain ⟨A2, c2, g2, d2, rfl, rfl, rfl, HL7, HB7⟩ := hcut
      clear HM hW6 HB6 HA5
      generalize wc = w7 at *
      have hb37 : Below (z + 5) w3 w7 := HB5.out.trans (HB7.out.mono hq5)
      have hC7 := HC5.out.below HB7.out (by omega)
      obtain ⟨g, off, DA, dc, rfl, _, _, e0, _, e2, _, _, r1⟩ := (HF5.out.below (HB7.out.mono (Nat.le_of_eq hq))).at_ (k := 0) rfl
      rw [Nat.zero_mul, Nat.add_zero] at e0 e2
      have c2' := (hC7.cell 2).trans (show (fileC knC (some ⟨z + 3, 0, none⟩) 6)[2]? = some (.slice (some ⟨z + 3, 0, none⟩) 6 6) from rfl)
      replace e0 : w7.cell? ⟨g, off, none⟩ = some (.string ⟨#[98]⟩) := e0
      replace e2 : w7.cell? ⟨g, off + 2, none⟩ = some (.slice DA 6 dc) := e2
      replace r1 : Reads w7 w5.heap.size 1 DA 6 (knC.d.map byteV) := r1
      have hdn : ∀ m, Below w7.heap.size w7 (w7.drewN m) := fun m => ((Kept.refl w7.heap.size [] [] w7).drewN m).all
      have hs7 := HB7.out.size
      have hs37 : z + 5 ≤ w7.heap.size := by rw [← hz3]; exact hb37.size
      have hd7 : Below w7.heap.size w7 w7.drew := (Below.refl _ w7).drew
      have k1 : (convert 39 9 (.slice DA 6 dc)).run Tryz.prog w7.drew = .ok (strC knC.d) w7.drew := by
       rw [run_convert_bytes_string _ 39 9 5 DA 6 dc Tryz.underlying39 Tryz.underlying5 Tryz.underlying9, run_str_of (r1.below (hd7.mono hs7))]
       rfl
      have k2 : (convert 39 9 (.slice (some ⟨z + 3, 0, none⟩) 6 6)).run Tryz.prog w7.drew = .ok (strC knC.d) w7.drew := by
       rw [run_convert_bytes_string _ 39 9 5 (some ⟨z + 3, 0, none⟩) 6 6 Tryz.underlying39 Tryz.underlying5 Tryz.underlying9, run_str_of (show Reads _ _ 1 _ 6 (knC.d.map byteV) from (HRC.out.below hb37).below (hd7.mono hs37))]
       rfl
      have hl7 := HL7.out _ hd7
      have HBL := Lib.hid (show Below z w w7.drew from HW3.out.trans ((hb37.trans (hd7.mono hs37)).mono (by omega)))
      clear hC7 hb37 r1 hdn hd7 hs7 hs37 HB7 HF5 HL7 HC5 HRC HB5 HW3 HZ3 hz3 hq hq5
      go_upto_region 6 with fail
      go_region
      go_wp2_with fail
      go_ret
      exact ⟨by simp, HBL.out⟩
end Go.Proofs.YteeeehfnldkjlaaGreatDoor
