/-
  Contract of the reference's Detect. No statement of the seat is proved here.
-/
import Derived.Test.YteeeehfnldkjlaaGreatDoorTC45
import Derived.BigQuiet
import Derived.Deep.QuietTactic
namespace Go.Proofs.YteeeehfnldkjlaaGreatDoor
open Go.RowKit Go.Maps

theorem CR.ci {w : World} {z B : Nat} {A : Option Addr} {c : Nat} {l : List ChangeD} (h : CR w z B A c l) (hB : B ≤ w.heap.size) : CI w w.heap.size A l := by
  obtain ⟨tv, h1, h2, h3⟩ := h
  exact ⟨tv, h1, h2.reads, fun k x y e1 e2 => ⟨(h3 k x y e1 e2).1.more hB, (h3 k x y e1 e2).2.more hB⟩⟩
theorem chg_at {w : World} {B : Nat} {A : Option Addr} {l : List ChangeD} (h : CI w B A l) {k : Nat} {x : ChangeD} (hk : l[k]? = some x) : ∃ g off oA oc nA nc, A = some ⟨g, off, none⟩ ∧ g < B ∧
    (∀ j u, (chgV x (.slice oA x.old.d.length oc, .slice nA x.new.d.length nc))[j]? = some u → w.cell? ⟨g, off + k * 6 + j, none⟩ = some u) ∧
    DataR w B x.old (.slice oA x.old.d.length oc) ∧ DataR w B x.new (.slice nA x.new.d.length nc) := by
  obtain ⟨tv, h1, h2, h3⟩ := h
  have hlt : k < l.length := (List.getElem?_eq_some_iff.1 hk).1
  obtain ⟨y, hy⟩ : ∃ y, tv[k]? = some y := ⟨_, List.getElem?_eq_getElem (by omega)⟩
  obtain ⟨⟨oA, oc, e1, o1, o2, o3⟩, ⟨nA, nc, e2, n1, n2, n3⟩⟩ := h3 k x y hk hy
  obtain ⟨g, off, rfl, hg, hc⟩ := h2.at0 (by omega) (by omega)
  obtain ⟨y1, y2⟩ := y
  simp only at e1 e2
  subst e1 e2
  refine ⟨g, off, oA, oc, nA, nc, rfl, hg, fun j u hj => ?_, ⟨oA, oc, rfl, o1, o2, o3⟩, ⟨nA, nc, rfl, n1, n2, n3⟩⟩
  rw [Nat.add_assoc]
  exact hc _ _ (chgL_at hk hy j u hj)
theorem allP_new {l : List ChangeD} {x : PairD} (h : x ∈ allP (goneP l) (comeP l)) : ∃ g ∈ comeP l, g.p = x.new := by
  unfold allP at h
  exact (detectP_from (mem_detectP.2 (List.mem_append.1 h))).2
theorem slp1 (a b c : Value) (W : World) : (SlP 1 #[(0, .agg #[a, b, c])]).run Tryz.prog W = .ok (.slice (some ⟨W.heap.size, 0, none⟩) 1 1) (W.alloc (.cells #[a, b, c] 99)) := run_buildSlice1 elemPair zero_pair rfl rfl (by omega) W
attribute [local go_sem] slp1 run_eql_strC run_neq_strC eqGuard_strC neGuard_strC
attribute [local go_sem ↓] ld_f ld_pr st_pr sl_p
set_option maxHeartbeats 32000000 in
set_option maxRecDepth 100000 in
theorem rdetect_any (l : List ChangeD) (A1 : Option Addr) (c1 B : Nat) (w : World) (hB : B ≤ w.heap.size) (h1 : CI w B A1 l) (hi : DetIn l) :
    Calls Tryz.prog 22 #[.slice A1 l.length c1] w fun e w' => ∃ A c, e = .returned (.slice A (outP (goneP l) (allP (goneP l) (comeP l))).length c) ∧ PO w' w.heap.size A c (outP (goneP l) (allP (goneP l) (comeP l))) ∧ Below w.heap.size w w' := by
  obtain ⟨z, hz⟩ : ∃ z, w.heap.size = z := ⟨_, rfl⟩
  rw [hz]
  obtain ⟨R, hR⟩ : ∃ R, outP (goneP l) (allP (goneP l) (comeP l)) = R := ⟨_, rfl⟩
  rw [hR]
  have HR := Lib.hid hR
  have H1 := Lib.hid h1
  have HI := Lib.hid hi
  have hl := hi.len
  rw [hz] at hB
  have HZ := Lib.hid hB
  have HZS := Lib.hid hz
  clear hR h1 hi hB hz
  go_enter Tryz.func22, Tryz.ntmps22
  go_wp2_with fail
  go_loopw [3, 4, 5] (fun s3 s4 s5 wr => ∃ (k : Nat) (gA : Option Addr) (gc : Nat) (cA : Option Addr) (cc : Nat) (gs cs : List FileD), s3 = .slice gA gs.length gc ∧ s4 = .slice cA cs.length cc ∧ s5 = .int .i64 (k : Nat) ∧ k ≤ l.length ∧ gs.length ≤ k ∧ cs.length ≤ k ∧ Hid (gs = goneP (l.take k)) ∧ Hid (cs = comeP (l.take k)) ∧ Hid (TwoF wr z B gA gc cA cc gs cs) ∧ Hid (Below z w wr)) (fun _ _ s5 _ => l.length - (intOf s5).toNat)
  case atStart => exact ⟨0, none, 0, none, 0, [], [], rfl, rfl, rfl, Nat.zero_le _, Nat.le_refl _, Nat.le_refl _, Lib.hid rfl, Lib.hid rfl, Lib.hid ⟨FO.nil_ _ _ _, FO.nil_ _ _ _, Apart.none_ _, Apart.none_ _, HZ.out, by rw [HZS.out]; exact Nat.le_refl _⟩, Lib.hid (Below.refl _ _)⟩
  case round =>
    obtain ⟨k, gA, gc, cA, cc, gs, cs, rfl, rfl, rfl, hk, hgl, hcl, HG, HC, HT, HW⟩ := hrel
    by_cases hlt : k < l.length
    ·
      obtain ⟨x, hx⟩ : ∃ x, l[k]? = some x := ⟨_, List.getElem?_eq_getElem hlt⟩
      obtain ⟨gg, off, oA, oc, nA, nc, rfl, hgB, hcell, ho, hn⟩ := chg_at (CI.below H1.out (HW.out.mono HZ.out)) hx
      have i0 : (0 : Int) ≤ (k : Int) := by omega
      have i1 : (k : Int) < (l.length : Int) := by omega
      have HCL := Lib.hid hcell
      have x4 : wr.cell? ⟨gg, off + k * 6 + 3 + 1, none⟩ = some (.int .i64 x.new.k) := hcell 4 _ rfl
      have hl1 : (LdF (.pointer (some ⟨gg, off + k * 6, none⟩))).run Tryz.prog wr = .ok (.agg (fileC x.old oA oc)) wr := file_ld (hcell 0 _ rfl) (hcell 1 _ rfl) (hcell 2 _ rfl)
      have HO := Lib.hid ho
      have HN := Lib.hid hn
      have HGT := Lib.hid (goneP_take hx)
      have HCT := Lib.hid (comeP_take hx)
      have HC1 := Lib.hid (rcounts_any x.old oA oc wr)
      have HC2 := Lib.hid (fun W => rcounts_any x.new nA nc W)
      have hzr := HT.out.hs
      clear ho hn hx hcell
      go_upto_region 5 with fail
      go_cut [44] (fun s44 wx => s44 = .bool (x.new.k == 0 && countsP x.old) ∧ Hid (Below wr.heap.size wr wx))
      case first =>
        cases hk1 : (x.new.k == 0) with
        | false =>
          go_wp2_with fail
          go_meet
          exact ⟨by rw [hk1]; rfl, Lib.hid (Below.refl _ _)⟩
        | true =>
          go_wp2_with (go_at_call 55; (with_reducible refine HC1.out.mono ?_); rintro _ w7 ⟨rfl, b7⟩; have HB7 := Lib.hid b7; clear b7)
          go_meet
          exact ⟨by rw [hk1]; rfl, HB7⟩
      case rest =>
        obtain ⟨rfl, HB7⟩ := hcut
        have HT7 := Lib.hid (HT.out.keepB HB7.out)
        have HZ7 := Lib.hid (show Below z wr wc from HB7.out.mono hzr)
        have HM := Lib.hid (show (gs.length + 1 ≤ maxLen ∧ (gs.length + 1) * 48 ≤ 140737488355328) ∧ (cs.length + 1 ≤ maxLen ∧ (cs.length + 1) * 48 ≤ 140737488355328) from by unfold maxLen; omega)
        clear x4 hl1 HC1 HT HB7
        generalize wc = w7 at *
        go_upto_if 44 with fail
        go_cut [3] (fun s3 wx => ∃ (gA' : Option Addr) (gc' : Nat) (gs' : List FileD), s3 = .slice gA' gs'.length gc' ∧ gs'.length ≤ k + 1 ∧ Hid (gs' = goneP (l.take (k + 1))) ∧ Hid (TwoF wx z B gA' gc' cA cc gs' cs) ∧ Hid (Below z wr wx))
        case first =>
          cases hb1 : (x.new.k == 0 && countsP x.old) with
          | true =>
            have HGN := Lib.hid (show gs ++ [x.old] = goneP (l.take (k + 1)) from by rw [HGT.out, hb1, ← HG.out]; rfl)
            obtain ⟨tv, t1, t2, t3⟩ := HT7.out.go
            have HT1 := Lib.hid t1
            have HT2 := Lib.hid t2
            have HT3 := Lib.hid t3
            have hc7 := fun j u q => ((HZ7.out.mono HZ.out).cell (p := ⟨gg, off + k * 6 + j, none⟩) hgB).trans (HCL.out j u q)
            have hl1 : (LdF (.pointer (some ⟨gg, off + k * 6, none⟩))).run Tryz.prog w7 = .ok (.agg (fileC x.old oA oc)) w7 := file_ld (hc7 0 _ rfl) (hc7 1 _ rfl) (hc7 2 _ rfl)
            have HO7 := Lib.hid (HO.out.below (HZ7.out.mono HZ.out))
            clear t1 t2 t3 hb1 hc7
            go_wp2_with (first
              | (refine wpList_buildSlice1 rfl elemFile rfl zero_file rfl rfl (by omega) rfl ?_)
              | (at_builtin; refine wpList_append_slf rfl elemFile rfl rfl (n := gs.length) (xs := filesL gs tv) (Own.alloc HT2.out _) (m := 1) (by omega) rfl (Reads.of_blk (n := 1) (xs := (fileC x.old oA oc).toList) (heap_alloc_new _ _) rfl rfl) (fileC_one _ _ _) HM.out.1.1 HM.out.1.2 (by have := HT7.out.hs; simp; omega) ?_; intro A9 c9 w9 o9 k9 n9; obtain ⟨s9, b9⟩ := HT7.out.left HT1.out HT3.out HO7.out o9 k9 n9; have HS9 := Lib.hid s9; have HB9 := Lib.hid b9; clear s9 b9 o9 k9 n9))
            go_meet
            exact ⟨A9, c9, gs ++ [x.old], by rw [List.length_append]; rfl, by rw [List.length_append, List.length_singleton]; omega, HGN, HS9, Lib.hid (HZ7.out.trans HB9.out)⟩
          | false =>
            have HGN := Lib.hid (show gs = goneP (l.take (k + 1)) from by rw [HGT.out, hb1, ← HG.out]; simp)
            clear hb1
            go_wp2_with fail
            go_meet
            exact ⟨gA, gc, gs, rfl, by omega, HGN, HT7, HZ7⟩
        case rest =>
          obtain ⟨gA', gc', gs', rfl, hgl', HG', HT8, HZ8⟩ := hcut
          clear HG HGT HT7 HZ7
          generalize wc = w8 at *
          have hz8 := HT8.out.hs
          have HC3 := Lib.hid (HC2.out w8)
          have hc8 := fun j u q => ((HZ8.out.mono HZ.out).cell (p := ⟨gg, off + k * 6 + j, none⟩) hgB).trans (HCL.out j u q)
          have x1 : w8.cell? ⟨gg, off + k * 6 + 1, none⟩ = some (.int .i64 x.old.k) := hc8 1 _ rfl
          have hl2 : (LdF (.pointer (some ⟨gg, off + k * 6 + 3, none⟩))).run Tryz.prog w8 = .ok (.agg (fileC x.new nA nc)) w8 := file_ld (hc8 3 _ rfl) (hc8 4 _ rfl) (hc8 5 _ rfl)
          clear hc8
          go_upto_region 7 with fail
          go_cut [67] (fun s67 wx => s67 = .bool (x.old.k == 0 && countsP x.new) ∧ Hid (Below w8.heap.size w8 wx))
          case first =>
            cases hk1 : (x.old.k == 0) with
            | false =>
              go_wp2_with fail
              go_meet
              exact ⟨by rw [hk1]; rfl, Lib.hid (Below.refl _ _)⟩
            | true =>
              go_wp2_with (go_at_call 55; (with_reducible refine HC3.out.mono ?_); rintro _ w7 ⟨rfl, b7⟩; have HB7 := Lib.hid b7; clear b7)
              go_meet
              exact ⟨by rw [hk1]; rfl, HB7⟩
          case rest =>
            obtain ⟨rfl, HB9⟩ := hcut
            generalize wc = w9 at *
            have HT9 := Lib.hid (HT8.out.keepB HB9.out)
            have HZ9 := Lib.hid (show Below z wr w9 from HZ8.out.trans (HB9.out.mono hz8))
            have hc9 := fun j u q => ((HZ9.out.mono HZ.out).cell (p := ⟨gg, off + k * 6 + j, none⟩) hgB).trans (HCL.out j u q)
            have hl3 : (LdF (.pointer (some ⟨gg, off + k * 6 + 3, none⟩))).run Tryz.prog w9 = .ok (.agg (fileC x.new nA nc)) w9 := file_ld (hc9 3 _ rfl) (hc9 4 _ rfl) (hc9 5 _ rfl)
            have HN9 := Lib.hid (HN.out.below (HZ9.out.mono HZ.out))
            clear x1 hl2 HC3 HC2 HB9 HT8 HZ8 hc9
            have hcc : (if (x.new.k == 0 && countsP x.old) = true then [] else if (x.old.k == 0 && countsP x.new) = true then [x.new] else []) = if (x.old.k == 0 && countsP x.new) = true then [x.new] else [] := by
              split
              · rename_i q
                have := countsP_kind (f := x.old) (by revert q; cases x.new.k == 0 <;> simp)
                rw [beq_eq_false_iff_ne.2 this]
                rfl
              · rfl
            rw [hcc] at HCT
            clear hcc
            cases hb2 : (x.old.k == 0 && countsP x.new) with
            | false =>
              have HCN := Lib.hid (show cs = comeP (l.take (k + 1)) from by rw [HCT.out, hb2, ← HC.out]; simp)
              go_wp2_with fail
              go_roundw
              case rel => exact ⟨k + 1, gA', gc', cA, cc, gs', cs, rfl, rfl, by go_num, hlt, hgl', by omega, HG', HCN, HT9, Lib.hid (HW.out.trans HZ9.out)⟩
              case measure => simp [intOf]; omega
            | true =>
              have HCN := Lib.hid (show cs ++ [x.new] = comeP (l.take (k + 1)) from by rw [HCT.out, hb2, ← HC.out]; rfl)
              obtain ⟨tv, t1, t2, t3⟩ := HT9.out.co
              have HT1 := Lib.hid t1
              have HT2 := Lib.hid t2
              have HT3 := Lib.hid t3
              clear t1 t2 t3 hb2
              go_wp2_with (first
                | (refine wpList_buildSlice1 rfl elemFile rfl zero_file rfl rfl (by omega) rfl ?_)
                | (at_builtin; refine wpList_append_slf rfl elemFile rfl rfl (n := cs.length) (xs := filesL cs tv) (Own.alloc HT2.out _) (m := 1) (by omega) rfl (Reads.of_blk (n := 1) (xs := (fileC x.new nA nc).toList) (heap_alloc_new _ _) rfl rfl) (fileC_one _ _ _) HM.out.2.1 HM.out.2.2 (by have := HT9.out.hs; simp; omega) ?_; intro A9 c9 w10 o9 k9 n9; obtain ⟨s9, b9⟩ := HT9.out.right HT1.out HT3.out HN9.out o9 k9 n9; have HS9 := Lib.hid s9; have HB9 := Lib.hid b9; clear s9 b9 o9 k9 n9))
              go_roundw
              case rel => exact ⟨k + 1, gA', gc', A9, c9, gs', cs ++ [x.new], rfl, by rw [List.length_append]; rfl, by go_num, hlt, hgl', by rw [List.length_append, List.length_singleton]; omega, HG', HCN, HS9, Lib.hid (HW.out.trans (HZ9.out.trans HB9.out))⟩
              case measure => simp [intOf]; omega
    · obtain rfl : k = l.length := by omega
      have k1 : ¬ (l.length : Int) < (l.length : Int) := by omega
      rw [List.take_length] at HG HC
      have hgF := HI.out.g
      have hcF := HI.out.c
      have hgA : Apt gs := by rw [HG.out]; exact HI.out.n1
      have hcA : Apt cs := by rw [HC.out]; exact HI.out.n2
      have HRR := Lib.hid (show outP gs (allP gs cs) = R from by rw [← HR.out, HG.out, HC.out])
      rw [← HG.out] at hgF
      rw [← HC.out] at hcF
      have HAN := Lib.hid (show ∀ x ∈ allP gs cs, ∃ g ∈ cs, g.p = x.new from by rw [HG.out, HC.out]; exact fun x hx => allP_new hx)
      have HWZ := HW
      have HAP := Lib.hid (And.intro hgA hcA)
      have HFT := Lib.hid (And.intro hgF hcF)
      have hgl := hgF.1
      have hcl := hcF.1
      generalize wr = w0 at *
      obtain ⟨q, hq⟩ : ∃ q, w0.heap.size = q := ⟨_, rfl⟩
      have HQ := Lib.hid hq
      have HGF := Lib.hid (fun W (k : Below q w0 W) => (HT.out.go.fi (Nat.le_trans HZ.out HT.out.hs)).below (hq ▸ k))
      have HCF := Lib.hid (fun W (k : Below q w0 W) => (HT.out.co.fi (Nat.le_trans HZ.out HT.out.hs)).below (hq ▸ k))
      rw [hq] at HGF HCF
      have hzq : z ≤ q := hq ▸ HT.out.hs
      have HD0 := Lib.hid (DSt.start (gs := gs) (cs := cs) hq)
      have HW0 := Lib.hid (show Below q w0 (((w0.alloc (.cells (Array.replicate gs.length (.int .i64 0)) 3)).alloc (.cells (Array.replicate cs.length (.bool false)) 4)).alloc (.cells (Array.replicate gs.length (.int .i64 0)) 3)) from ((below_at _ hq).trans ((below_at _ (size_at w0 _ q hq)).mono (Nat.le_succ q))).trans ((below_at _ (size_at _ _ (q + 1) (size_at w0 _ q hq))).mono (by omega)))
      clear HG HC HR HI hgF hcF hgA hcA HT H1 hlt hk
      go_upto_region 12 with (first
        | (refine wpList_make_one rfl rfl Tryz.underlying54 info_int rfl (by omega) gs.length (by omega) rfl rfl rfl rfl ?_)
        | (refine wpList_make_one rfl rfl Tryz.underlying96 info_bool1 rfl (by omega) cs.length (by omega) rfl rfl rfl rfl ?_))
      go_wp2_with fail
      go_loopw [9] (fun s9 wx => ∃ i : Nat, s9 = .int .i64 (i : Nat) ∧ i ≤ gs.length ∧ Hid (DSt wx q gs cs (exT gs cs i)) ∧ Hid (Below q w0 wx)) (fun s9 _ => gs.length - (intOf s9).toNat)
      case atStart => exact ⟨0, rfl, Nat.zero_le _, HD0, HW0⟩
      case round =>
        clear HD0 HW0
        obtain ⟨i, rfl, hi, HD, HB⟩ := hrel
        have hq3 : q + 3 ≤ wr.heap.size := HD.out.sz
        by_cases hlt : i < gs.length
        ·
          obtain ⟨f, hf⟩ : ∃ f, gs[i]? = some f := ⟨_, List.getElem?_eq_getElem hlt⟩
          have HFI := Lib.hid hf
          have HPN := Lib.hid (exT_none (cs := cs) HAP.out.1 hf)
          have HXN := Lib.hid (exT_next' (cs := cs) hf)
          obtain ⟨P, hP⟩ : ∃ P, exT gs cs i = P := ⟨_, rfl⟩
          rw [hP] at HD HPN HXN
          have i0 : (0 : Int) ≤ (i : Int) := by omega
          have i1 : (i : Int) < (gs.length : Int) := by omega
          have hfl := (HFT.out.1.2 f (List.mem_of_getElem? hf)).1
          clear hf hP
          go_upto_region 16 with fail
          go_wp2_with fail
          go_loopw [10, 11] (fun s10 s11 wx => ∃ k : Nat, s10 = .int .i64 (bestI (rbS f cs P k)) ∧ s11 = .int .i64 (k : Nat) ∧ k ≤ cs.length ∧ Hid (DSt wx q gs cs P) ∧ Hid (Below q w0 wx)) (fun _ s11 _ => cs.length - (intOf s11).toNat)
          case atStart => exact ⟨0, rfl, rfl, Nat.zero_le _, HD, HB⟩
          case round =>
            clear HD HB
            obtain ⟨k, rfl, rfl, hk, HD, HB⟩ := hrel
            by_cases hkc : k < cs.length
            ·
              obtain ⟨g, hg⟩ : ∃ g, cs[k]? = some g := ⟨_, List.getElem?_eq_getElem hkc⟩
              have hgl2 := (HFT.out.2.2 g (List.mem_of_getElem? hg)).1
              obtain ⟨gg, og, DG, dg, rfl, _, _, x0, _, x2, _, _, xd⟩ := (HGF.out wr HB.out).at_ HFI.out
              obtain ⟨gk, ok, DC, dc, rfl, _, _, y0, _, y2, _, _, yd⟩ := (HCF.out wr HB.out).at_ hg
              have d6 := HD.out.usAt hg
              have e0 : wr.cell? ⟨gg, og + i * 3, none⟩ = some (.string ⟨f.p.toArray⟩) := x0
              have e1 : wr.cell? ⟨gk, ok + k * 3, none⟩ = some (.string ⟨g.p.toArray⟩) := y0
              have k1 : (convert 39 9 (.slice DG f.d.length dg)).run Tryz.prog wr.drew = .ok (.string ⟨f.d.toArray⟩) wr.drew := by
                rw [run_convert_bytes_string wr.drew 39 9 5 DG f.d.length dg Tryz.underlying39 Tryz.underlying5 Tryz.underlying9, run_str_of (xd.keep (w' := wr.drew) fun _ _ => rfl)]
              have k2 : (convert 39 9 (.slice DC g.d.length dc)).run Tryz.prog wr.drew = .ok (.string ⟨g.d.toArray⟩) wr.drew := by
                rw [run_convert_bytes_string wr.drew 39 9 5 DC g.d.length dc Tryz.underlying39 Tryz.underlying5 Tryz.underlying9, run_str_of (yd.keep (w' := wr.drew) fun _ _ => rfl)]
              have k0 : (0 : Int) ≤ (k : Int) := by omega
              have kc : (k : Int) < (cs.length : Int) := by omega
              have HGK := Lib.hid hg
              have hw3 : ∀ B n, Below B wr (wr.drewN n) := fun B n => ⟨rfl, rfl, rfl, Nat.le_refl _, fun _ _ => rfl⟩
              have HD3 := Lib.hid (show DSt wr.drew q gs cs P from HD.out.below (hw3 _ 1))
              have HB3 := Lib.hid (show Below q w0 wr.drew from HB.out.trans (hw3 _ 1))
              have he0 : wr.drew.cell? ⟨gg, og + i * 3, none⟩ = some (.string ⟨f.p.toArray⟩) := e0
              have he1 : wr.drew.cell? ⟨gk, ok + k * 3, none⟩ = some (.string ⟨g.p.toArray⟩) := e1
              clear hg xd yd x0 y0 hw3 e0 e1
              cases hu : newIn P g with
              | true =>
                rw [hu] at d6
                have hs := rbS_same (f := f) (P := P) HGK.out (.inl hu)
                go_upto_region 19 with fail
                refine wp_region_still_tail 18 (by kernel_rfl) (by kernel_rfl) ?_; simp only [List.take_succ_cons, List.take_zero, List.drop_succ_cons, List.drop_zero]; repeat (first | ((with_reducible refine wpStill_step (fun K hK => ?_)); go_simp; with_reducible refine hK _ ?_; clear hK K) | ((with_reducible refine wpStill_skip ?_ ?_); (focus rfl)))
                (with_reducible refine wpStill_nil ?_); change wpList _ _ _ _ _ wr.drew
                clear x2 y2 d6 k1 k2
                generalize wr.drew = w3 at *
                go_wp2_with fail
                go_roundw
                case rel => exact ⟨k + 1, by rw [hs], by go_num, hkc, HD3, HB3⟩
                case measure => simp [intOf]; omega
              | false =>
                rw [hu] at d6
                cases hd : (g.d == f.d) with
                | false =>
                  have hs := rbS_same (f := f) (P := P) HGK.out (.inr fun e => by rw [e] at hd; simp at hd)
                  go_upto_region 19 with fail
                  refine wp_region_still_tail 18 (by kernel_rfl) (by kernel_rfl) ?_; simp only [List.take_succ_cons, List.take_zero, List.drop_succ_cons, List.drop_zero]; repeat (first | ((with_reducible refine wpStill_step (fun K hK => ?_)); go_simp; with_reducible refine hK _ ?_; clear hK K) | ((with_reducible refine wpStill_skip ?_ ?_); (focus rfl)))
                  (with_reducible refine wpStill_nil ?_); change wpList _ _ _ _ _ wr.drew
                  clear x2 y2 d6 k1 k2
                  generalize wr.drew = w3 at *
                  go_wp2_with fail
                  go_roundw
                  case rel => exact ⟨k + 1, by rw [hs], by go_num, hkc, HD3, HB3⟩
                  case measure => simp [intOf]; omega
                | true =>
                  have HDD := Lib.hid (beq_iff_eq.1 hd).symm
                  go_upto_region 19 with fail
                  refine wp_region_still_tail 18 (by kernel_rfl) (by kernel_rfl) ?_; simp only [List.take_succ_cons, List.take_zero, List.drop_succ_cons, List.drop_zero]; repeat (first | ((with_reducible refine wpStill_step (fun K hK => ?_)); go_simp; with_reducible refine hK _ ?_; clear hK K) | ((with_reducible refine wpStill_skip ?_ ?_); (focus rfl)))
                  (with_reducible refine wpStill_nil ?_); change wpList _ _ _ _ _ wr.drew
                  clear x2 y2 d6 k1 k2
                  generalize wr.drew = w3 at *
                  cases hr : rbS f cs P k with
                  | none =>
                    have hs := rbS_first HGK.out hu HDD.out hr
                    have hb : bestI none = -1 := rfl
                    rw [hb]
                    go_upto_region 20 with fail
                    go_region
                    have HD4 := Lib.hid (show DSt w3.drew q gs cs P from HD3.out.below ⟨rfl, rfl, rfl, Nat.le_refl _, fun _ _ => rfl⟩)
                    have HB4 := Lib.hid (show Below q w0 w3.drew from HB3.out.trans ⟨rfl, rfl, rfl, Nat.le_refl _, fun _ _ => rfl⟩)
                    generalize w3.drew = w4 at *
                    go_wp2_with fail
                    go_roundw
                    case rel => exact ⟨k + 1, by rw [hs]; rfl, by go_num, hkc, HD4, HB4⟩
                    case measure => simp [intOf]; omega
                  | some b =>
                    obtain ⟨hbk, hbc⟩ := rbS_lt hr
                    obtain ⟨h, hh⟩ : ∃ h, cs[b]? = some h := ⟨_, List.getElem?_eq_getElem hbc⟩
                    have hs := rbS_next HGK.out hu HDD.out hr hh
                    have hhl := (HFT.out.2.2 h (List.mem_of_getElem? hh)).1
                    obtain ⟨gb, ob, _, _, eb, _, _, z0, _⟩ := (HCF.out w3 HB3.out).at_ hh
                    cases eb
                    have z0' : w3.cell? ⟨gk, ok + b * 3, none⟩ = some (.string ⟨h.p.toArray⟩) := z0
                    have hb : bestI (some b) = (b : Int) := rfl
                    rw [hb]
                    have bd : decide ((b : Int) < 0) = false := decide_eq_false (by omega)
                    have b0 : (0 : Int) ≤ (b : Int) := by omega
                    have b1 : (b : Int) < (cs.length : Int) := by omega
                    have Q1 := Lib.hid (fun (m : Nat) => Calls.quiet_of_same ((rlast_any h.p (w3.drewN m) (by omega)).mono fun _ _ h => ⟨h.1, h.2.symm⟩))
                    have Q2 := Lib.hid (fun (m : Nat) => Calls.quiet_of_same ((rlast_any f.p (w3.drewN m) (by omega)).mono fun _ _ h => ⟨h.1, h.2.symm⟩))
                    have Q3 := Lib.hid (fun (m : Nat) => Calls.quiet_of_same ((rlast_any g.p (w3.drewN m) (by omega)).mono fun _ _ h => ⟨h.1, h.2.symm⟩))
                    unfold strC at Q1 Q2 Q3
                    clear z0 hh
                    obtain ⟨u, hu1⟩ : ∃ u, (lastN h.p == lastN f.p) = u := ⟨_, rfl⟩
                    obtain ⟨v, hv1⟩ : ∃ v, (lastN g.p == lastN f.p) = v := ⟨_, rfl⟩
                    have hs2 : rbS f cs P (k + 1) = if (!u && v) = true then some k else some b := by rw [hs, ← hu1, ← hv1]; rfl
                    clear hs
                    go_upto_region 20 with fail
                    cases u with
                    | true =>
                      have hs3 : rbS f cs P (k + 1) = some b := by rw [hs2]; rfl
                      go_quiet ((first | (go_at_call 56; with_reducible exact Q1.out _) | (go_at_call 56; with_reducible exact Q2.out _) | (go_at_call 56; with_reducible exact Q3.out _)))
                      have HD4 := Lib.hid (show DSt (w3.drewN nq) q gs cs P from HD3.out.below ⟨rfl, rfl, rfl, Nat.le_refl _, fun _ _ => rfl⟩)
                      have HB4 := Lib.hid (show Below q w0 (w3.drewN nq) from HB3.out.trans ⟨rfl, rfl, rfl, Nat.le_refl _, fun _ _ => rfl⟩)
                      generalize w3.drewN nq = w4 at *
                      go_wp2_with fail
                      go_roundw
                      case rel => exact ⟨k + 1, by rw [hs3]; rfl, by go_num, hkc, HD4, HB4⟩
                      case measure => simp [intOf]; omega
                    | false =>
                      cases v with
                      | true =>
                        have hs3 : rbS f cs P (k + 1) = some k := by rw [hs2]; rfl
                        go_quiet ((first | (go_at_call 56; with_reducible exact Q1.out _) | (go_at_call 56; with_reducible exact Q2.out _) | (go_at_call 56; with_reducible exact Q3.out _)))
                        have HD4 := Lib.hid (show DSt (w3.drewN nq) q gs cs P from HD3.out.below ⟨rfl, rfl, rfl, Nat.le_refl _, fun _ _ => rfl⟩)
                        have HB4 := Lib.hid (show Below q w0 (w3.drewN nq) from HB3.out.trans ⟨rfl, rfl, rfl, Nat.le_refl _, fun _ _ => rfl⟩)
                        generalize w3.drewN nq = w4 at *
                        go_wp2_with fail
                        go_roundw
                        case rel => exact ⟨k + 1, by rw [hs3]; rfl, by go_num, hkc, HD4, HB4⟩
                        case measure => simp [intOf]; omega
                      | false =>
                        have hs3 : rbS f cs P (k + 1) = some b := by rw [hs2]; rfl
                        go_quiet ((first | (go_at_call 56; with_reducible exact Q1.out _) | (go_at_call 56; with_reducible exact Q2.out _) | (go_at_call 56; with_reducible exact Q3.out _)))
                        have HD4 := Lib.hid (show DSt (w3.drewN nq) q gs cs P from HD3.out.below ⟨rfl, rfl, rfl, Nat.le_refl _, fun _ _ => rfl⟩)
                        have HB4 := Lib.hid (show Below q w0 (w3.drewN nq) from HB3.out.trans ⟨rfl, rfl, rfl, Nat.le_refl _, fun _ _ => rfl⟩)
                        generalize w3.drewN nq = w4 at *
                        go_wp2_with fail
                        go_roundw
                        case rel => exact ⟨k + 1, by rw [hs3]; rfl, by go_num, hkc, HD4, HB4⟩
                        case measure => simp [intOf]; omega
            · obtain rfl : k = cs.length := by omega
              have kc : ¬ (cs.length : Int) < (cs.length : Int) := by omega
              cases hr : rbS f cs P cs.length with
              | none =>
                have hb : bestI none = -1 := rfl
                rw [hb]
                have hx := HXN.out
                rw [hr] at hx
                have HD4 := Lib.hid (show DSt wr q gs cs (exT gs cs (i + 1)) from by rw [hx]; exact HD.out)
                clear hx
                go_wp2_with fail
                go_roundw
                case rel => exact ⟨i + 1, by go_num, hlt, HD4, HB⟩
                case measure => simp [intOf]; omega
              | some b =>
                obtain ⟨_, hbc⟩ := rbS_lt hr
                obtain ⟨h, hh⟩ : ∃ h, cs[b]? = some h := ⟨_, List.getElem?_eq_getElem hbc⟩
                have hb : bestI (some b) = (b : Int) := rfl
                rw [hb]
                have hx := HXN.out
                rw [hr] at hx
                have hx2 : exT gs cs (i + 1) = P ++ [⟨f.p, h.p, 100⟩] := by
                  rw [hx]
                  show P ++ [⟨f.p, (cs.getD b zeroF).p, 100⟩] = _
                  rw [show cs.getD b zeroF = h from by rw [List.getD_eq_getElem?_getD, hh]; rfl]
                have bd : (0 : Int) ≤ (b : Int) := by omega
                have b1 : (b : Int) < (cs.length : Int) := by omega
                have HD4 := Lib.hid (show DSt (((wr.setCell ⟨q, i, none⟩ (.int .i64 ((b : Int) + 1))).setCell ⟨q + 1, b, none⟩ (.bool true)).setCell ⟨q + 2, i, none⟩ (.int .i64 100)) q gs cs (exT gs cs (i + 1)) from by rw [hx2]; exact HD.out.pair HAP.out.1 HAP.out.2 HFI.out hh HPN.out rfl rfl)
                have HB4 := Lib.hid (show Below q w0 (((wr.setCell ⟨q, i, none⟩ (.int .i64 ((b : Int) + 1))).setCell ⟨q + 1, b, none⟩ (.bool true)).setCell ⟨q + 2, i, none⟩ (.int .i64 100)) from ((HB.out.setCell (p := ⟨q, i, none⟩) (Nat.le_refl _) _).setCell (p := ⟨q + 1, b, none⟩) (Nat.le_succ _) _).setCell (p := ⟨q + 2, i, none⟩) (show q ≤ q + 2 by omega) _)
                have t1 := HD.out.toAt HFI.out
                have t2 := HD.out.tt.frozen i
                have us1 := HD.out.us.far (p := ⟨q, i, none⟩) (show q + 1 ≠ q by omega) (.int .i64 ((b : Int) + 1))
                have t3 := boolsC_at us1 (show (usL cs P)[b]? = some (newIn P h) from by unfold usL; rw [List.getElem?_map, hh]; rfl)
                have t4 := us1.frozen b
                have sc2 := (HD.out.sc.far (p := ⟨q, i, none⟩) (show q + 2 ≠ q by omega) (.int .i64 ((b : Int) + 1))).far (p := ⟨q + 1, b, none⟩) (show q + 2 ≠ q + 1 by omega) (.bool true)
                have t5 := natsC_at sc2 (show (scL gs P)[i]? = some (scN P f) from by unfold scL; rw [List.getElem?_map, HFI.out]; rfl)
                have t6 := sc2.frozen i
                clear hx hx2 us1 sc2 hh
                go_wp2_with fail
                go_roundw
                case rel => exact ⟨i + 1, by go_num, hlt, HD4, HB4⟩
                case measure => simp [intOf]; omega
        · obtain rfl : i = gs.length := by omega
          have kc : ¬ (gs.length : Int) < (gs.length : Int) := by omega
          rw [exT_all] at HD
          clear hi hlt
          go_wp2_with fail
          go_loopw [12, 14] (fun s12 s14 wx => ∃ i n : Nat, s12 = .int .i64 (n : Nat) ∧ s14 = .int .i64 (i : Nat) ∧ i ≤ gs.length ∧ n ≤ i ∧ Hid (n = (leftG (gs.take i) (exP gs cs)).length) ∧ wr = wx) (fun _ s14 _ => gs.length - (intOf s14).toNat)
          case atStart => exact ⟨0, 0, rfl, rfl, Nat.zero_le _, Nat.le_refl _, Lib.hid rfl, rfl⟩
          case round =>
            obtain ⟨i, n, rfl, rfl, hi, hni, HNL, rfl⟩ := hrel
            by_cases hlt : i < gs.length
            ·
              obtain ⟨f, hf⟩ : ∃ f, gs[i]? = some f := ⟨_, List.getElem?_eq_getElem hlt⟩
              have hlc := left_count gs cs (exP gs cs) i
              rw [hf, Option.map_some, ← HNL.out] at hlc
              have d1 := HD.out.toAt hf
              have i0 : (0 : Int) ≤ (i : Int) := by omega
              have i1 : (i : Int) < (gs.length : Int) := by omega
              generalize toN cs (exP gs cs) f = t at *
              clear hf
              rcases Nat.eq_zero_or_pos t with rfl | ht
              · rw [if_pos rfl] at hlc
                have HLC := Lib.hid hlc
                clear hlc
                go_wp2_with fail
                go_roundw
                case rel => exact ⟨i + 1, n + 1, by go_num, by go_num, hlt, by omega, Lib.hid HLC.out.symm, by first | rfl | trivial⟩
                case measure => simp [intOf]; omega
              · rw [if_neg (by simp; omega)] at hlc
                have HLC := Lib.hid hlc
                have ht1 : ((t : Int) == 0) = false := beq_eq_false_iff_ne.2 (by omega)
                have ht2 : ¬ (t : Int) = 0 := by omega
                have ht3 : ¬ t = 0 := by omega
                clear hlc
                go_wp2_with fail
                go_roundw
                case rel => exact ⟨i + 1, n, rfl, by go_num, hlt, by omega, Lib.hid HLC.out.symm, by first | rfl | trivial⟩
                case measure => simp [intOf]; omega
            · obtain rfl : i = gs.length := by omega
              have hnl := HNL.out
              rw [List.take_length] at hnl
              have HNN := Lib.hid hnl
              clear hnl HNL hi hlt
              go_wp2_with fail
              go_loopw [13, 15] (fun s13 s15 wx => ∃ i m : Nat, s13 = .int .i64 (m : Nat) ∧ s15 = .int .i64 (i : Nat) ∧ i ≤ cs.length ∧ m ≤ i ∧ Hid (m = (leftC (cs.take i) (exP gs cs)).length) ∧ wr = wx) (fun _ s15 _ => cs.length - (intOf s15).toNat)
              case atStart => exact ⟨0, 0, rfl, rfl, Nat.zero_le _, Nat.le_refl _, Lib.hid rfl, rfl⟩
              case round =>
                obtain ⟨i, m, rfl, rfl, hi, hmi, HML, rfl⟩ := hrel
                by_cases hlt : i < cs.length
                ·
                  obtain ⟨g, hg⟩ : ∃ g, cs[i]? = some g := ⟨_, List.getElem?_eq_getElem hlt⟩
                  have hlc := leftC_count cs (exP gs cs) i
                  rw [hg, Option.map_some, ← HML.out] at hlc
                  have d1 := HD.out.usAt hg
                  have i0 : (0 : Int) ≤ (i : Int) := by omega
                  have i1 : (i : Int) < (cs.length : Int) := by omega
                  generalize newIn (exP gs cs) g = t at *
                  clear hg
                  cases t with
                  | false =>
                    rw [if_pos rfl] at hlc
                    have HLC := Lib.hid hlc
                    clear hlc
                    go_wp2_with fail
                    go_roundw
                    case rel => exact ⟨i + 1, m + 1, by go_num, by go_num, hlt, by omega, Lib.hid HLC.out.symm, by first | rfl | trivial⟩
                    case measure => simp [intOf]; omega
                  | true =>
                    rw [if_neg (by simp)] at hlc
                    have HLC := Lib.hid hlc
                    clear hlc
                    go_wp2_with fail
                    go_roundw
                    case rel => exact ⟨i + 1, m, rfl, by go_num, hlt, by omega, Lib.hid HLC.out.symm, by first | rfl | trivial⟩
                    case measure => simp [intOf]; omega
                · obtain rfl : i = cs.length := by omega
                  have hml := HML.out
                  rw [List.take_length] at hml
                  have HMM := Lib.hid hml
                  clear hml HML hi hlt
                  obtain ⟨F, hF⟩ : ∃ F, allP gs cs = F := ⟨_, rfl⟩
                  have HFF := Lib.hid hF
                  have HRF := Lib.hid (show outP gs F = R from by rw [← hF]; exact HRR.out)
                  clear hF HRR
                  go_upto_block 10 with fail
                  go_cut [16] (fun _ wx => Hid (DSt wx q gs cs F) ∧ Hid (Below q w0 wx))
                  case first =>
                    go_wp2_with fail
                    go_loopw [16] (fun s16 wx => ∃ (v : Value) (P : List PairD), s16 = v ∧ Hid (DSt wx q gs cs P) ∧ Hid (Below q w0 wx) ∧ Hid ((n ≤ 100 ∧ m ≤ 100) → GInv gs cs P F) ∧ Hid (¬ (n ≤ 100 ∧ m ≤ 100) → P = F)) (fun _ wx => zerosW wx q)
                    case atStart =>
                      exact ⟨_, exP gs cs, rfl, HD, HB, Lib.hid fun h => HFF.out ▸ GInv.start HAP.out.1 HAP.out.2 (by rw [← HNN.out, ← HMM.out]; exact h), Lib.hid fun h => by rw [← HFF.out]; exact (all_few HAP.out.1 HAP.out.2 (by rw [← HNN.out, ← HMM.out]; exact h)).symm⟩
                    case round =>
                      clear HD HB
                      obtain ⟨_, P, rfl, HD, HB, HGI, HNF⟩ := hrel
                      by_cases hnm : n ≤ 100 ∧ m ≤ 100
                      · have hn1 : (n : Int) ≤ 100 := by omega
                        have hm1 : (m : Int) ≤ 100 := by omega
                        have HGV := Lib.hid (HGI.out hnm)
                        clear HGI HNF hnm
                        obtain ⟨bb, hbb⟩ : ∃ bb, wr.heap.size = bb := ⟨_, rfl⟩
                        have hqb : q + 3 ≤ bb := hbb ▸ HD.out.sz
                        have HX0 := Lib.hid (blk_new_at wr 99 #[.string ⟨#[]⟩, .string ⟨#[]⟩, .int .i64 0] bb hbb)
                        have HD0 := Lib.hid (HD.out.below ((below_at (.cells #[.string ⟨#[]⟩, .string ⟨#[]⟩, .int .i64 0] 99) hbb).mono hqb))
                        have HB0 := Lib.hid (HB.out.trans ((below_at (.cells #[.string ⟨#[]⟩, .string ⟨#[]⟩, .int .i64 0] 99) hbb).mono (show q ≤ bb by omega)))
                        have hs0 := size_at wr (.cells #[.string ⟨#[]⟩, .string ⟨#[]⟩, .int .i64 0] 99) bb hbb
                        have HS0 := Lib.hid (Nat.le_of_eq hs0.symm)
                        have HDP := Lib.hid (show ∀ w', DSt w' q gs cs P → zerosW w' q = zerosW wr q from fun w' h => by rw [zerosW_eq h.tt, zerosW_eq HD.out.tt])
                        go_upto_region 38 with fail
                        generalize wr.alloc (.cells #[.string ⟨#[]⟩, .string ⟨#[]⟩, .int .i64 0] 99) = w6 at *
                        clear hs0
                        go_upto_block 12 with fail
                        go_cut [16, 17] (fun s16 s17 wx => ∃ (x y : Int) (pp : PairD), s16 = .int .i64 x ∧ s17 = .int .i64 y ∧ Hid (CandAt gs cs P (firstL (likL2 (leftG gs P) (leftC cs P)) none) x y pp) ∧ Hid (Blk wx bb 99 (pairL pp).toArray) ∧ Hid (DSt wx q gs cs P) ∧ Hid (Below q w0 wx))
                        case first =>
                          as_aux_lemma =>
                           go_wp2_with fail
                           go_loopw [16, 17, 19] (fun s16 s17 s19 wx => ∃ (i : Nat) (x y : Int) (pp : PairD), s16 = .int .i64 x ∧ s17 = .int .i64 y ∧ s19 = .int .i64 (i : Nat) ∧ i ≤ gs.length ∧ Hid (CandAt gs cs P (firstL (scanS gs cs P i) none) x y pp) ∧ Hid (Blk wx bb 99 (pairL pp).toArray) ∧ Hid (DSt wx q gs cs P) ∧ Hid (Below q w0 wx) ∧ Hid (bb + 1 ≤ wx.heap.size)) (fun _ _ s19 _ => gs.length - (intOf s19).toNat)
                           case atStart => exact ⟨0, -1, -1, ⟨[], [], 0⟩, rfl, rfl, rfl, Nat.zero_le _, Lib.hid ⟨rfl, rfl⟩, HX0, HD0, HB0, HS0⟩
                           case round =>
                             clear HX0 HD0 HB0 HS0
                             obtain ⟨i, x, y, pp, rfl, rfl, rfl, hi, HCA, HX, HD1, HB1, HS1⟩ := hrel
                             by_cases hlt : i < gs.length
                             · obtain ⟨f, hf⟩ : ∃ f, gs[i]? = some f := ⟨_, List.getElem?_eq_getElem hlt⟩
                               have HFI := Lib.hid hf
                               have i0 : (0 : Int) ≤ (i : Int) := by omega
                               have i1 : (i : Int) < (gs.length : Int) := by omega
                               have HCE := Lib.hid (candS_end (cs := cs) (P := P) hf)
                               have HCS := Lib.hid (show CandAt gs cs P (candS gs cs P i f 0) x y pp from by rw [candS_start]; exact HCA.out)
                               have hfl := HFT.out.1.2 f (List.mem_of_getElem? hf)
                               clear hf HCA
                               go_wp2_with fail
                               go_loopw [16, 17, 20] (fun s16 s17 s20 wx => ∃ (k : Nat) (x y : Int) (pp : PairD), s16 = .int .i64 x ∧ s17 = .int .i64 y ∧ s20 = .int .i64 (k : Nat) ∧ k ≤ cs.length ∧ Hid (CandAt gs cs P (candS gs cs P i f k) x y pp) ∧ Hid (Blk wx bb 99 (pairL pp).toArray) ∧ Hid (DSt wx q gs cs P) ∧ Hid (Below q w0 wx) ∧ Hid (bb + 1 ≤ wx.heap.size)) (fun _ _ s20 _ => cs.length - (intOf s20).toNat)
                               case atStart => exact ⟨0, x, y, pp, rfl, rfl, rfl, Nat.zero_le _, HCS, HX, HD1, HB1, HS1⟩
                               case round =>
                                 clear HCS HX HD1 HB1 HS1
                                 obtain ⟨k, x, y, pp, rfl, rfl, rfl, hk, HCA, HX, HD1, HB1, HS1⟩ := hrel
                                 by_cases hkc : k < cs.length
                                 · obtain ⟨g, hg⟩ : ∃ g, cs[k]? = some g := ⟨_, List.getElem?_eq_getElem hkc⟩
                                   have HGK := Lib.hid hg
                                   have k0 : (0 : Int) ≤ (k : Int) := by omega
                                   have k1 : (k : Int) < (cs.length : Int) := by omega
                                   have hgl3 := HFT.out.2.2 g (List.mem_of_getElem? hg)
                                   have d1 := HD1.out.toAt HFI.out
                                   have d2 := HD1.out.usAt hg
                                   clear hg
                                   cases hpo : pairOf P f with
                                   | some z9 =>
                                     have HSK := Lib.hid (candS_skip (gs := gs) (i := i) HGK.out (.inl (by rw [hpo]; simp)))
                                     have ht0 : toN cs P f = idxF cs z9.new + 1 := by unfold toN; rw [hpo]
                                     rw [ht0] at d1
                                     generalize idxF cs z9.new = tt at *
                                     have e1 : ((((tt + 1 : Nat) : Int)) != 0) = true := by rw [bne_iff_ne]; omega
                                     have e2 : ¬ ((tt + 1 : Nat) : Int) = 0 := by omega
                                     have e3 : ((tt : Int) + 1 != 0) = true := by rw [bne_iff_ne]; omega
                                     clear hpo ht0
                                     go_wp2_with fail
                                     go_roundw
                                     case rel => exact ⟨k + 1, x, y, pp, rfl, rfl, by go_num, hkc, by rw [HSK.out]; exact HCA, HX, HD1, HB1, HS1⟩
                                     case measure => simp [intOf]; omega
                                   | none =>
                                     have ht0 : toN cs P f = 0 := by unfold toN; rw [hpo]
                                     rw [ht0] at d1
                                     cases hne : newIn P g with
                                     | true =>
                                       have HSK := Lib.hid (candS_skip (gs := gs) (i := i) (f := f) HGK.out (.inr hne))
                                       rw [hne] at d2
                                       go_wp2_with fail
                                       go_roundw
                                       case rel => exact ⟨k + 1, x, y, pp, rfl, rfl, by go_num, hkc, by rw [HSK.out]; exact HCA, HX, HD1, HB1, HS1⟩
                                       case measure => simp [intOf]; omega
                                     | false =>
                                       rw [hne] at d2
                                       go_upto_region 45 with fail
                                       obtain ⟨gg, og, DG, dg, rfl, hgB, _, x0, _, x2, x3, _, xd⟩ := (HGF.out wr HB1.out).at_ HFI.out
                                       obtain ⟨gk, ok, DC, dc, rfl, hkB, _, y0, _, y2, y3, _, yd⟩ := (HCF.out wr HB1.out).at_ HGK.out
                                       obtain ⟨bp, hbp⟩ : ∃ bp, wr.heap.size = bp := ⟨_, rfl⟩
                                       have hqp : q + 4 ≤ bp := by have := HS1.out; omega
                                       have hbb1 : bb + 1 ≤ bp := hbp ▸ HS1.out
                                       have HSC := Lib.hid (fun W (kW : Below bp wr W) => rscore_any f.d g.d DG DC dg dc q W (by have := kW.size; omega) (xd.below (kW.mono (by omega))) (yd.below (kW.mono (by omega))) hfl.2 hgl3.2 x3 y3)
                                       obtain ⟨sc, hsc⟩ : ∃ sc, scoreP f.d g.d = sc := ⟨_, rfl⟩
                                       rw [hsc] at HSC
                                       have HSE := Lib.hid hsc
                                       have HX0 := Lib.hid (show wr.cell? ⟨gg, og + i * 3, none⟩ = some (.string ⟨f.p.toArray⟩) from x0)
                                       have HX2 := Lib.hid x2
                                       have HY0 := Lib.hid (show wr.cell? ⟨gk, ok + k * 3, none⟩ = some (.string ⟨g.p.toArray⟩) from y0)
                                       have HY2 := Lib.hid y2
                                       have HGB := Lib.hid (show gg < bp ∧ gk < bp from ⟨by omega, by omega⟩)
                                       clear x0 x2 x3 xd y0 y2 y3 yd hsc
                                       go_cut [21] (fun s21 wx => ∃ b5, s21 = .pointer (some ⟨b5, 0, none⟩) ∧ bp ≤ b5 ∧ Hid (Blk wx b5 99 (pairL ⟨f.p, g.p, sc⟩).toArray) ∧ Hid (Below bp wr wx))
                                       case first =>
                                         have HA := Lib.hid (show Below bp wr wr.drew from ⟨rfl, rfl, rfl, Nat.le_refl _, fun _ _ => rfl⟩)
                                         have HBa := Lib.hid (show Below bp wr (wr.alloc (.cells #[.string ⟨#[]⟩, .string ⟨#[]⟩, .int .i64 0] 99)).drew from (below_at _ hbp).trans ⟨rfl, rfl, rfl, Nat.le_refl _, fun _ _ => rfl⟩)
                                         have HBz := Lib.hid (show Blk (wr.alloc (.cells #[.string ⟨#[]⟩, .string ⟨#[]⟩, .int .i64 0] 99)).drew bp 99 #[.string ⟨#[]⟩, .string ⟨#[]⟩, .int .i64 0] from (blk_new_at wr _ _ bp hbp).drew)
                                         have HCS2 := Lib.hid (fun W (kW : Below bp wr W) => show W.cell? ⟨gg, og + i * 3, none⟩ = some (.string ⟨f.p.toArray⟩) ∧ W.cell? ⟨gk, ok + k * 3, none⟩ = some (.string ⟨g.p.toArray⟩) ∧ W.cell? ⟨gg, og + i * 3 + 2, none⟩ = some (.slice DG f.d.length dg) ∧ W.cell? ⟨gk, ok + k * 3 + 2, none⟩ = some (.slice DC g.d.length dc) from ⟨(kW.cell HGB.out.1).trans HX0.out, (kW.cell HGB.out.2).trans HY0.out, (kW.cell HGB.out.1).trans HX2.out, (kW.cell HGB.out.2).trans HY2.out⟩)
                                         obtain ⟨a0, a1, a2, a3⟩ := HCS2.out wr.drew HA.out
                                         obtain ⟨b0, b1, b2, b3⟩ := HCS2.out _ HBa.out
                                         go_region_held3 (fun w' => w'.cell? ⟨gg, og + i * 3, none⟩ = some (.string ⟨f.p.toArray⟩) ∧ w'.cell? ⟨gk, ok + k * 3, none⟩ = some (.string ⟨g.p.toArray⟩) ∧ w'.cell? ⟨gg, og + i * 3 + 2, none⟩ = some (.slice DG f.d.length dg) ∧ w'.cell? ⟨gk, ok + k * 3 + 2, none⟩ = some (.slice DC g.d.length dc)) (first | go_keep) (first
                                           | (go_simp; go_at_call 57; (with_reducible refine (HSC.out wr.drew HA.out).mono ?_); rintro _ w5 ⟨rfl, hb5⟩; have hw5 : Below bp wr w5 := HA.out.trans (hb5.mono (Nat.le_of_eq hbp.symm)); obtain ⟨m0, m1, m2, m3⟩ := HCS2.out w5 hw5; have hz5 : bp ≤ w5.heap.size := hbp ▸ hw5.size; have hwa : Below bp wr (w5.alloc (.cells #[.string ⟨#[]⟩, .string ⟨#[]⟩, .int .i64 0] 99)) := hw5.alloc hz5 _; obtain ⟨p0, p1, p2, p3⟩ := HCS2.out _ hwa; obtain ⟨w6, S6, X6, K6, Z6⟩ := StPr.go (blk_new_at w5 99 #[.string ⟨#[]⟩, .string ⟨#[]⟩, .int .i64 0] _ rfl) rfl ⟨f.p, g.p, sc⟩; have S7 : (StPr (.pointer (some ⟨w5.heap.size, 0, none⟩)) (.agg #[.string ⟨f.p.toArray⟩, .string ⟨g.p.toArray⟩, .int .i64 (sc : Nat)])).run Tryz.prog (w5.alloc (.cells #[.string ⟨#[]⟩, .string ⟨#[]⟩, .int .i64 0] 99)) = .ok () w6 := S6; have hw6 : Below bp wr w6 := hwa.trans (K6.below (by simp; omega) (by unfold Only; omega)); obtain ⟨n0, n1, n2, n3⟩ := HCS2.out w6 hw6; have HBP : bp ≤ w5.heap.size := hz5; clear S6 hb5)
                                           | (go_simp; go_at_call 57; (with_reducible refine (HSC.out _ HBa.out).mono ?_); rintro _ w5 ⟨rfl, hb5⟩; have hw5 : Below bp wr w5 := HBa.out.trans (hb5.mono (hbp ▸ HBa.out.size)); obtain ⟨m0, m1, m2, m3⟩ := HCS2.out w5 hw5; have hx5 := HBz.out.below hb5 HBz.out.lt; obtain ⟨w6, S6, X6, K6, Z6⟩ := StPr.go hx5 rfl ⟨f.p, g.p, sc⟩; have S7 : (StPr (.pointer (some ⟨bp, 0, none⟩)) (.agg #[.string ⟨f.p.toArray⟩, .string ⟨g.p.toArray⟩, .int .i64 (sc : Nat)])).run Tryz.prog w5 = .ok () w6 := S6; have hw6 : Below bp wr w6 := hw5.trans (K6.below (hbp ▸ hw5.size) (by unfold Only; omega)); obtain ⟨n0, n1, n2, n3⟩ := HCS2.out w6 hw6; have HBP : bp ≤ bp := Nat.le_refl _; clear S6 hb5 hx5))
                                         all_goals
                                           go_wp2_with fail
                                           go_meet
                                           exact ⟨_, rfl, HBP, Lib.hid X6, Lib.hid hw6⟩
                                       case rest =>
                                         obtain ⟨b5, rfl, hb5, HP5, HB5⟩ := hcut
                                         generalize wc = w7 at *
                                         have HX7 := Lib.hid (HX.out.below HB5.out (by omega))
                                         have HD7 := Lib.hid (HD1.out.below (HB5.out.mono (by omega)))
                                         have HB7 := Lib.hid (show Below q w0 w7 from HB1.out.trans (HB5.out.mono (by omega)))
                                         have HS7 := Lib.hid (show bb + 1 ≤ w7.heap.size from by have := HB5.out.size; omega)
                                         clear HX HD1 HB1 HS1 HX0 HX2 HY0 HY2 HSC HGB
                                         have lp : (LdPr (.pointer (some ⟨b5, 0, none⟩))).run Tryz.prog w7 = .ok (.agg (pairL ⟨f.p, g.p, sc⟩).toArray) w7 := pair_load HP5.out
                                         have lb : (LdPr (.pointer (some ⟨bb, 0, none⟩))).run Tryz.prog w7 = .ok (.agg (pairL pp).toArray) w7 := pair_load HX7.out
                                         have c2 : w7.cell? ⟨b5, 2, none⟩ = some (.int .i64 (sc : Nat)) := (HP5.out.cell 2).trans rfl
                                         clear d1 d2
                                         by_cases h50 : 50 ≤ sc
                                         · have hs50 : (50 : Int) ≤ (sc : Int) := by omega
                                           have hsd : decide ((50 : Int) ≤ (sc : Int)) = true := decide_eq_true hs50
                                           have hst := candS_step (gs := gs) (i := i) HGK.out hpo hne (by rw [HSE.out]; exact h50)
                                           have hput : CandAt gs cs P (some (likOf ⟨f.p, g.p, scoreP f.d g.d⟩)) (i : Nat) (k : Nat) ⟨f.p, g.p, scoreP f.d g.d⟩ := CandAt.put HFI.out HGK.out hpo hne
                                           rw [HSE.out] at hst hput
                                           have HPT := Lib.hid hput
                                           have HST := Lib.hid hst
                                           have hca := HCA.out
                                           clear hst hput h50
                                           cases hcd : candS gs cs P i f k with
                                           | none =>
                                             rw [hcd] at hca HST
                                             obtain ⟨rfl, rfl⟩ := hca
                                             have HN1 := Lib.hid (show CandAt gs cs P (candS gs cs P i f (k + 1)) (i : Nat) (k : Nat) ⟨f.p, g.p, sc⟩ from by rw [HST.out]; exact HPT.out)
                                             clear hcd HCA HPT HST
                                             go_upto_region 47 with fail
                                             have lq : (LdPr (.pointer (some ⟨b5, 0, none⟩))).run Tryz.prog w7.drew = .ok (.agg (pairL ⟨f.p, g.p, sc⟩).toArray) w7.drew := pair_load HP5.out.drew
                                             refine wp_region_still_tail 5 (by kernel_rfl) (by kernel_rfl) ?_; simp only [List.take_succ_cons, List.take_zero, List.drop_succ_cons, List.drop_zero]; repeat (first | ((with_reducible refine wpStill_step (fun K hK => ?_)); go_simp; with_reducible refine hK _ ?_; clear hK K) | ((with_reducible refine wpStill_skip ?_ ?_); (focus rfl)))
                                             (with_reducible refine wpStill_nil ?_); change wpList _ _ _ _ _ w7.drew
                                             obtain ⟨w9, S9, X9, K9, Z9⟩ := StPr.go HX7.out.drew rfl ⟨f.p, g.p, sc⟩
                                             have k9 : Below bb w7 w9 := (show Below bb w7 w7.drew from ⟨rfl, rfl, rfl, Nat.le_refl _, fun _ _ => rfl⟩).trans (K9.below (by have := HS7.out; show bb ≤ w7.heap.size; omega) (by unfold Only; omega))
                                             have HD9 := Lib.hid (HD7.out.below (k9.mono hqb))
                                             have HB9 := Lib.hid (HB7.out.trans (k9.mono (by omega)))
                                             have HX9 := Lib.hid X9
                                             have HS9 := Lib.hid (show bb + 1 ≤ w9.heap.size from by rw [Z9]; exact HS7.out)
                                             clear X9 K9 Z9 k9
                                             go_wp2_with fail
                                             go_roundw
                                             case rel => exact ⟨k + 1, (i : Nat), (k : Nat), ⟨f.p, g.p, sc⟩, rfl, rfl, by go_num, hkc, HN1, HX9, HD9, HB9, HS9⟩
                                             case measure => simp [intOf]; omega
                                           | some zz =>
                                             rw [hcd] at hca HST
                                             obtain ⟨hz1, i9, k9, f9, g9, rfl, rfl, hf9, hg9, hpn9, hnn9, hpp⟩ := hca
                                             have hfl9 := (HFT.out.1.2 f9 (List.mem_of_getElem? hf9)).1
                                             have hgl9 := (HFT.out.2.2 g9 (List.mem_of_getElem? hg9)).1
                                             have bd : decide ((i9 : Int) < 0) = false := decide_eq_false (by omega)
                                             have HAH := Lib.hid (rahead_any ⟨f.p, g.p, sc⟩ pp w7 (by simp only; omega) (by simp only; omega) (by rw [hpp]; simp only; omega) (by rw [hpp]; simp only; omega))
                                             rw [hz1] at HST
                                             cases hah : aheadP (likOf ⟨f.p, g.p, sc⟩) (likOf pp) with
                                             | true =>
                                               have HN1 := Lib.hid (show CandAt gs cs P (candS gs cs P i f (k + 1)) (i : Nat) (k : Nat) ⟨f.p, g.p, sc⟩ from by rw [HST.out]; unfold firstS; simp only; rw [if_pos hah]; exact HPT.out)
                                               rw [hah] at HAH
                                               clear hcd HCA HPT HST hf9 hg9 hpn9 hnn9 hpp hz1 hah
                                               go_upto_region 47 with (go_at_call 58; (with_reducible refine HAH.out.mono ?_); rintro _ w8 ⟨rfl, hb8⟩; have HB8 := Lib.hid hb8; clear hb8)
                                               have hz78 : bb + 1 ≤ w7.heap.size := HS7.out
                                               have hbb7 : b5 < w7.heap.size := HP5.out.lt
                                               have HP8 := Lib.hid (HP5.out.below HB8.out hbb7)
                                               have HX8 := Lib.hid (HX7.out.below HB8.out (by omega))
                                               have HD8 := Lib.hid (HD7.out.below (HB8.out.mono (by omega)))
                                               have HW8 := Lib.hid (HB7.out.trans (HB8.out.mono (by omega)))
                                               have HS8 := Lib.hid (show bb + 1 ≤ w8.heap.size from Nat.le_trans HS7.out HB8.out.size)
                                               have lq : (LdPr (.pointer (some ⟨b5, 0, none⟩))).run Tryz.prog w8.drew = .ok (.agg (pairL ⟨f.p, g.p, sc⟩).toArray) w8.drew := pair_load HP8.out.drew
                                               clear lp lb c2
                                               refine wp_region_still_tail 5 (by kernel_rfl) (by kernel_rfl) ?_; simp only [List.take_succ_cons, List.take_zero, List.drop_succ_cons, List.drop_zero]; repeat (first | ((with_reducible refine wpStill_step (fun K hK => ?_)); go_simp; with_reducible refine hK _ ?_; clear hK K) | ((with_reducible refine wpStill_skip ?_ ?_); (focus rfl)))
                                               (with_reducible refine wpStill_nil ?_); change wpList _ _ _ _ _ w8.drew
                                               obtain ⟨w9, S9, X9, K9, Z9⟩ := StPr.go HX8.out.drew rfl ⟨f.p, g.p, sc⟩
                                               have k9' : Below bb w8 w9 := (show Below bb w8 w8.drew from ⟨rfl, rfl, rfl, Nat.le_refl _, fun _ _ => rfl⟩).trans (K9.below (by have := HS8.out; show bb ≤ w8.heap.size; omega) (by unfold Only; omega))
                                               have HD9 := Lib.hid (HD8.out.below (k9'.mono hqb))
                                               have HB9 := Lib.hid (HW8.out.trans (k9'.mono (by omega)))
                                               have HX9 := Lib.hid X9
                                               have HS9 := Lib.hid (show bb + 1 ≤ w9.heap.size from by rw [Z9]; exact HS8.out)
                                               clear X9 K9 Z9 k9'
                                               go_wp2_with fail
                                               go_roundw
                                               case rel => exact ⟨k + 1, (i : Nat), (k : Nat), ⟨f.p, g.p, sc⟩, rfl, rfl, by go_num, hkc, HN1, HX9, HD9, HB9, HS9⟩
                                               case measure => simp [intOf]; omega
                                             | false =>
                                               have HN1 := Lib.hid (show CandAt gs cs P (candS gs cs P i f (k + 1)) (i9 : Nat) (k9 : Nat) pp from by rw [HST.out]; unfold firstS; simp only; rw [if_neg (by rw [hah]; simp), ← hz1, ← hcd]; exact HCA.out)
                                               rw [hah] at HAH
                                               clear hcd HCA HPT HST hf9 hg9 hpn9 hnn9 hpp hz1 hah
                                               go_wp2_with (go_at_call 58; (with_reducible refine HAH.out.mono ?_); rintro _ w8 ⟨rfl, hb8⟩; have HB8 := Lib.hid hb8; clear hb8)
                                               have hz78 : bb + 1 ≤ w7.heap.size := HS7.out
                                               go_roundw
                                               case rel => exact ⟨k + 1, (i9 : Nat), (k9 : Nat), pp, rfl, rfl, by go_num, hkc, HN1, Lib.hid (HX7.out.below HB8.out (by omega)), Lib.hid (HD7.out.below (HB8.out.mono (by omega))), Lib.hid (HB7.out.trans (HB8.out.mono (by omega))), Lib.hid (Nat.le_trans HS7.out HB8.out.size)⟩
                                               case measure => simp [intOf]; omega
                                         · have hsd : decide ((50 : Int) ≤ (sc : Int)) = false := decide_eq_false (by omega)
                                           have hlw := candS_low (gs := gs) (cs := cs) (P := P) (i := i) (f := f) HGK.out (by rw [HSE.out]; exact h50)
                                           have HN1 := Lib.hid (show CandAt gs cs P (candS gs cs P i f (k + 1)) x y pp from by rw [hlw]; exact HCA.out)
                                           clear hlw HCA h50
                                           go_wp2_with fail
                                           go_roundw
                                           case rel => exact ⟨k + 1, x, y, pp, rfl, rfl, by go_num, hkc, HN1, HX7, HD7, HB7, HS7⟩
                                           case measure => simp [intOf]; omega
                                 · obtain rfl : k = cs.length := by omega
                                   have HCN := Lib.hid (show CandAt gs cs P (firstL (scanS gs cs P (i + 1)) none) x y pp from by rw [HCE.out]; exact HCA.out)
                                   clear HCA HCE
                                   go_wp2_with fail
                                   go_roundw
                                   case rel => exact ⟨i + 1, x, y, pp, rfl, rfl, by go_num, hlt, HCN, HX, HD1, HB1, HS1⟩
                                   case measure => simp [intOf]; omega
                             · obtain rfl : i = gs.length := by omega
                               have HCF2 := Lib.hid (show CandAt gs cs P (firstL (likL2 (leftG gs P) (leftC cs P)) none) x y pp from by rw [← scanS_all]; exact HCA.out)
                               clear HCA hi hlt
                               go_wp2_with fail
                               go_meet
                               exact ⟨x, y, pp, rfl, rfl, HCF2, HX, HD1, HB1⟩
                        case rest =>
                          obtain ⟨x, y, pp, rfl, rfl, HCA, HX, HD1, HB1⟩ := hcut
                          clear HX0 HD0 HB0 HS0
                          generalize wc = w8 at *
                          have hca := HCA.out
                          cases hcd : firstL (likL2 (leftG gs P) (leftC cs P)) none with
                          | none =>
                            rw [hcd] at hca
                            obtain ⟨rfl, rfl⟩ := hca
                            have HPF := Lib.hid (HGV.out.over hcd)
                            clear hcd
                            go_wp2_with fail
                            go_meet
                            exact ⟨by rw [HPF.out]; exact HD1, HB1⟩
                          | some zz =>
                            rw [hcd] at hca
                            obtain ⟨hz1, i, k, f, g, rfl, rfl, hf, hg, hpn, hnn, hpp⟩ := hca
                            have hgv2 := HGV.out.more hcd
                            have e1 : (⟨zz.old, zz.new, zz.sc⟩ : PairD) = ⟨f.p, g.p, scoreP f.d g.d⟩ := by rw [hz1, hpp]; rfl
                            rw [e1] at hgv2
                            have HG2 := Lib.hid hgv2
                            obtain ⟨sc, hsc⟩ : ∃ sc, scoreP f.d g.d = sc := ⟨_, rfl⟩
                            rw [hsc] at hpp HG2
                            subst hpp
                            have hil := (List.getElem?_eq_some_iff.1 hf).1
                            have hkl := (List.getElem?_eq_some_iff.1 hg).1
                            have i0 : (0 : Int) ≤ (i : Int) := by omega
                            have i1 : (i : Int) < (gs.length : Int) := by omega
                            have k0 : (0 : Int) ≤ (k : Int) := by omega
                            have k1 : (k : Int) < (cs.length : Int) := by omega
                            have hp2 : (pairL ⟨f.p, g.p, sc⟩).toArray[2]? = some (.int .i64 (sc : Nat)) := rfl
                            have d2 := (HX.out.cell 2).trans hp2
                            have hx1 := HX.out.far (p := ⟨q, i, none⟩) (show bb ≠ q by omega) (.int .i64 ((k : Int) + 1))
                            have d2a := (hx1.drew.cell 2).trans hp2
                            have d2b := ((hx1.far (p := ⟨q + 1, k, none⟩) (show bb ≠ q + 1 by omega) (.bool true)).drew.cell 2).trans hp2
                            have hd8 := HD1.out
                            have hdr : ∀ B (W : World), Below B W W.drew := fun B W => ⟨rfl, rfl, rfl, Nat.le_refl _, fun _ _ => rfl⟩
                            have HD4 := Lib.hid (show DSt (((w8.setCell ⟨q, i, none⟩ (.int .i64 ((k : Int) + 1))).setCell ⟨q + 1, k, none⟩ (.bool true)).setCell ⟨q + 2, i, none⟩ (.int .i64 (sc : Nat))).drew q gs cs (P ++ [⟨f.p, g.p, sc⟩]) from (hd8.pair HAP.out.1 HAP.out.2 hf hg hpn rfl rfl).below (hdr _ _))
                            have HB4 := Lib.hid (show Below q w0 (((w8.setCell ⟨q, i, none⟩ (.int .i64 ((k : Int) + 1))).setCell ⟨q + 1, k, none⟩ (.bool true)).setCell ⟨q + 2, i, none⟩ (.int .i64 (sc : Nat))).drew from (((HB1.out.setCell (p := ⟨q, i, none⟩) (Nat.le_refl _) _).setCell (p := ⟨q + 1, k, none⟩) (Nat.le_succ _) _).setCell (p := ⟨q + 2, i, none⟩) (show q ≤ q + 2 by omega) _).trans (hdr _ _))
                            have HLS := Lib.hid (hd8.less HAP.out.1 HAP.out.2 hf hg hpn HD4.out)
                            have HZZ := Lib.hid (HDP.out _ hd8)
                            have t1 := hd8.toAt hf
                            have t2 := hd8.tt.frozen i
                            have t3 := hd8.usAt hg
                            have t4 := hd8.us.frozen k
                            have t5 := hd8.scAt hf
                            have t6 := hd8.sc.frozen i
                            have us1 := (hd8.us.far (p := ⟨q, i, none⟩) (show q + 1 ≠ q by omega) (.int .i64 ((k : Int) + 1))).drew
                            have t7 := boolsC_at us1 (show (usL cs P)[k]? = some (newIn P g) from by unfold usL; rw [List.getElem?_map, hg]; rfl)
                            have t8 := us1.frozen k
                            have sc2 := ((hd8.sc.far (p := ⟨q, i, none⟩) (show q + 2 ≠ q by omega) (.int .i64 ((k : Int) + 1))).far (p := ⟨q + 1, k, none⟩) (show q + 2 ≠ q + 1 by omega) (.bool true)).drew
                            have t9 := natsC_at sc2 (show (scL gs P)[i]? = some (scN P f) from by unfold scL; rw [List.getElem?_map, hf]; rfl)
                            have t10 := sc2.frozen i
                            clear hp2 hx1 hcd hgv2 e1 hz1 us1 sc2 hf hg hpn hnn hdr hd8 hsc hil hkl
                            go_upto_region 49 with fail
                            go_region
                            go_wp2_with fail
                            go_roundw
                            case rel => exact ⟨_, _, rfl, HD4, HB4, Lib.hid fun _ => HG2.out, Lib.hid fun h => absurd ⟨by omega, by omega⟩ h⟩
                            case measure => rw [← HZZ.out]; exact HLS.out
                      · have hPF := HNF.out hnm
                        have HPF := Lib.hid hPF
                        clear hPF
                        by_cases hn1 : n ≤ 100
                        · have hn2 : (n : Int) ≤ 100 := by omega
                          have hm2 : decide ((m : Int) ≤ 100) = false := decide_eq_false (by omega)
                          clear hnm
                          go_wp2_with fail
                          go_meet
                          exact ⟨HPF.out ▸ HD, HB⟩
                        · have hn2 : decide ((n : Int) ≤ 100) = false := decide_eq_false (by omega)
                          clear hnm
                          go_wp2_with fail
                          go_meet
                          exact ⟨HPF.out ▸ HD, HB⟩
                  case rest =>
                    obtain ⟨HD6, HB6⟩ := hcut
                    clear HD HB
                    generalize wc = w6 at *
                    have hq6 : q + 3 ≤ w6.heap.size := HD6.out.sz
                    as_aux_lemma =>
                     go_wp2_with fail
                     go_loopw [22, 23] (fun s22 s23 wx => ∃ (i m : Nat) (A : Option Addr) (c : Nat), s22 = .slice A m c ∧ s23 = .int .i64 (i : Nat) ∧ i ≤ gs.length ∧ m ≤ i ∧ Hid (m = (outP (gs.take i) F).length) ∧ Hid (Own wx (q + 3) 99 3 A m c ((outP (gs.take i) F).flatMap pairL)) ∧ Hid (Below (q + 3) w6 wx)) (fun _ s23 _ => gs.length - (intOf s23).toNat)
                     case atStart => exact ⟨0, 0, none, 0, rfl, rfl, Nat.zero_le _, Nat.le_refl _, Lib.hid rfl, Lib.hid (Own.nil _ _ _ _), Lib.hid (Below.refl _ _)⟩
                     case round =>
                       obtain ⟨i, m9, A, c, rfl, rfl, hi, hmi, HM, HO, HW⟩ := hrel
                       have hq7 : q + 3 ≤ wr.heap.size := Nat.le_trans hq6 HW.out.size
                       have HD := Lib.hid (HD6.out.below HW.out)
                       by_cases hlt : i < gs.length
                       · obtain ⟨f, hf⟩ : ∃ f, gs[i]? = some f := ⟨_, List.getElem?_eq_getElem hlt⟩
                         have i0 : (0 : Int) ≤ (i : Int) := by omega
                         have i1 : (i : Int) < (gs.length : Int) := by omega
                         have HFI := Lib.hid hf
                         have HOT := Lib.hid (outP_take gs F i hf)
                         have d1 := HD.out.toAt hf
                         have d3 := HD.out.scAt hf
                         cases hpo : pairOf F f with
                         | none =>
                           have ht0 : toN cs F f = 0 := by unfold toN; rw [hpo]
                           rw [ht0] at d1
                           have hot := HOT.out
                           rw [hpo, Option.toList_none, List.append_nil] at hot
                           have HO2 := Lib.hid hot
                           clear hot hf d3 hpo ht0
                           go_wp2_with fail
                           go_roundw
                           case rel => exact ⟨i + 1, m9, A, c, rfl, by go_num, hlt, by omega, by rw [HO2.out]; exact HM, by rw [HO2.out]; exact HO, HW⟩
                           case measure => simp [intOf]; omega
                         | some x =>
                           obtain ⟨hxF, hxo⟩ := pairOf_some hpo
                           obtain ⟨g, hgm, hgp⟩ := HAN.out x (by rw [HFF.out]; exact hxF)
                           obtain ⟨k, hk⟩ := List.mem_iff_getElem?.1 hgm
                           have hkl := (List.getElem?_eq_some_iff.1 hk).1
                           have ht0 : toN cs F f = k + 1 := by
                             unfold toN
                             rw [hpo]
                             show idxF cs x.new + 1 = k + 1
                             rw [← hgp, idx_at HAP.out.2 hk]
                           have hs0 : scN F f = x.sc := by unfold scN; rw [hpo]
                           obtain ⟨sc, hsc⟩ : ∃ sc, x.sc = sc := ⟨_, rfl⟩
                           have hx : x = ⟨f.p, g.p, sc⟩ := by obtain ⟨a, b, c⟩ := x; simp only at hxo hgp hsc; rw [hxo, hgp, hsc]
                           rw [ht0] at d1
                           rw [hs0, hsc] at d3
                           have hot := HOT.out
                           rw [hpo, Option.toList_some, hx] at hot
                           have HO2 := Lib.hid hot
                           obtain ⟨gg, og, _, _, eg, hgB, _, x0, _⟩ := (HGF.out wr (HB6.out.trans (HW.out.mono (by omega)))).at_ hf
                           subst eg
                           obtain ⟨gk, ok, _, _, ek, hkB, _, y0, _⟩ := (HCF.out wr (HB6.out.trans (HW.out.mono (by omega)))).at_ hk
                           subst ek
                           have e0 : wr.drew.cell? ⟨gg, og + i * 3, none⟩ = some (.string ⟨f.p.toArray⟩) := x0
                           have e1 : wr.drew.cell? ⟨gk, ok + k * 3, none⟩ = some (.string ⟨g.p.toArray⟩) := y0
                           have e2 : wr.drew.cell? ⟨q, i, none⟩ = some (.int .i64 ((k + 1 : Nat) : Int)) := d1
                           have e3 : wr.drew.cell? ⟨q + 2, i, none⟩ = some (.int .i64 (sc : Nat)) := d3
                           have k0 : (0 : Int) ≤ (k : Int) := by omega
                           have k1 : (k : Int) < (cs.length : Int) := by omega
                           have k2 : (0 : Int) < (k : Int) + 1 := by omega
                           have kw : IntKind.i64.wrap (k : Int) = (k : Int) := IntWalk.i64_in _ (by omega)
                           have hna : ∀ o, Below (q + 3) wr (wr.alloc o).drew := fun o => ((Below.refl (q + 3) wr).alloc hq7 o).drew
                           have n0 := fun o => ((hna o).cell (p := ⟨gg, og + i * 3, none⟩) (by show gg < q + 3; omega)).trans e0
                           have n1 := fun o => ((hna o).cell (p := ⟨gk, ok + k * 3, none⟩) (by show gk < q + 3; omega)).trans e1
                           have n2 := fun o => ((hna o).cell (p := ⟨q, i, none⟩) (by show q < q + 3; omega)).trans e2
                           have n3 := fun o => ((hna o).cell (p := ⟨q + 2, i, none⟩) (by show q + 2 < q + 3; omega)).trans e3
                           have HOD := Lib.hid (show Own wr.drew (q + 3) 99 3 A m9 c ((outP (gs.take i) F).flatMap pairL) from HO.out.drew)
                           clear hf hk hgm hgp hkl hpo hxF hxo ht0 hs0 hsc hx hot x0 y0 d3
                           go_upto_region 55 with fail
                           go_region_held3 (fun w' => w'.cell? ⟨gg, og + i * 3, none⟩ = some (.string ⟨f.p.toArray⟩) ∧ w'.cell? ⟨gk, ok + k * 3, none⟩ = some (.string ⟨g.p.toArray⟩) ∧ w'.cell? ⟨q, i, none⟩ = some (.int .i64 ((k + 1 : Nat) : Int)) ∧ w'.cell? ⟨q + 2, i, none⟩ = some (.int .i64 (sc : Nat))) (first | (exact ⟨e0, e1, e2, e3⟩) | (exact ⟨n0 _, n1 _, n2 _, n3 _⟩) | (exact ⟨t0, t1, t2, t3⟩) | go_keep) (first
                             | ((refine step_append_sl (by rfl) elemPair (by rfl) (by rfl) (n := m9) (xs := (outP (gs.take i) F).flatMap pairL) (HOD.out.alloc _) (by rfl) (Reads.of_blk (n := 1) (size := 3) (xs := pairL ⟨f.p, g.p, sc⟩) (heap_alloc_new _ _) rfl rfl) (pairL_one _) (by unfold maxLen; omega) (by omega) (by simp; omega) ?_); intro A4 c4 w4 o4 k4; have hb4 : Below (q + 3) wr w4 := ((show Below (q + 3) wr wr.drew from ⟨rfl, rfl, rfl, Nat.le_refl _, fun _ _ => rfl⟩).alloc hq7 _).trans (k4.below (Nat.le_refl _) (by simp; omega) (by simp)); have t0 := (hb4.cell (p := ⟨gg, og + i * 3, none⟩) (by show gg < q + 3; omega)).trans e0; have t1 := (hb4.cell (p := ⟨gk, ok + k * 3, none⟩) (by show gk < q + 3; omega)).trans e1; have t2 := (hb4.cell (p := ⟨q, i, none⟩) (by show q < q + 3; omega)).trans e2; have t3 := (hb4.cell (p := ⟨q + 2, i, none⟩) (by show q + 2 < q + 3; omega)).trans e3; have HO4 := Lib.hid o4; have HB4 := Lib.hid hb4; clear o4 k4 hb4))
                           all_goals
                             go_wp2_with fail
                             go_roundw
                             case rel => exact ⟨i + 1, m9 + 1, A4, c4, rfl, by go_num, hlt, by omega, Lib.hid (by rw [HO2.out, List.length_append, ← HM.out]; rfl), Lib.hid (by rw [HO2.out, List.flatMap_append]; simpa using HO4.out), Lib.hid (HW.out.trans HB4.out)⟩
                             case measure => simp [intOf]; omega
                       · obtain rfl : i = gs.length := by omega
                         have hm := HM.out
                         have ho := HO.out
                         rw [List.take_length, HRF.out] at hm ho
                         have HMM2 := Lib.hid hm
                         have HOO := Lib.hid ho
                         clear hm ho
                         go_wp2_with fail
                         go_ret
                         refine ⟨A, c, by rw [HMM2.out]; rfl, ?_, ?_⟩
                         · have := Own.mono HOO.out (show z ≤ q + 3 by omega)
                           rw [HMM2.out] at this
                           exact this
                         · exact HWZ.out.trans ((HB6.out.mono hzq).trans (HW.out.mono (by omega)))
end Go.Proofs.YteeeehfnldkjlaaGreatDoor
