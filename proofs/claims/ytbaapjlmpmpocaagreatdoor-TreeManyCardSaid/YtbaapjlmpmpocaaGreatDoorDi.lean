/-
  Contract of (objects).lay. No statement of the seat is proved here.
-/
import Derived.Test.YtbaapjlmpmpocaaGreatDoorDh
import Derived.Test.YtbaapjlmpmpocaaGreatDoorDT18
import Derived.Test.YtbaapjlmpmpocaaGreatDoorDTVl
namespace Go.Proofs.YtbaapjlmpmpocaaGreatDoor
open Go.RowKit Go.Maps

theorem take_snoc {α : Type} {l : List α} {k : Nat} {x : α} (h : l[k]? = some x) : l.take (k + 1) = l.take k ++ [x] := by rw [List.take_add_one, h]; rfl
theorem zero_files (w : World) : (zeroValue 24).run Tryz.prog w = .ok (.slice none 0 0) w := by kernel_rfl
theorem not_inDir {x : FileD} (h : (cutP x.p).2.2 = false) : ∀ d, inDir d x = none := fun _ => if_neg fun q => by rw [h] at q; cases q.1
theorem VarM.keepOnly {w w' : World} {m n : Nat} {g : Gm} (hv : VarM w) (ho : OMap w m n g) (hk : Keep (Only m) w w') : VarM w' := by
  obtain ⟨c, hc⟩ := hv
  refine ⟨c, ?_⟩
  have h0 : (0 : Nat) ≠ m := by
    rintro rfl
    obtain ⟨f, ⟨D, ⟨es, clock, q, _⟩, _⟩, _⟩ := ho
    unfold World.cell? at hc
    simp only at hc
    rw [q] at hc
    cases hc
  have hl : (0 : Nat) < w.heap.size := Nat.lt_of_le_of_lt (Nat.zero_le _) ho.lt
  rw [← hc]
  exact World.cell?_of_block (hk.block 0 hl h0)
theorem build_file9 (p : Pth) (k : Int) (A : Option Addr) (n c : Nat) (w : World) : (Instr.build 27 #[(0, strC p), (1, .int .i64 k), (2, .slice A n c)]).run Tryz.prog w = .ok (.agg #[strC p, .int .i64 k, .slice A n c]) w := by kernel_rfl
theorem build_obj9 (k : Int) (A : Option Addr) (n c : Nat) (w : World) : (Instr.build 44 #[(0, .int .i64 k), (1, .slice A n c)]).run Tryz.prog w = .ok (.agg #[.int .i64 k, .slice A n c]) w := by kernel_rfl
set_option maxRecDepth 100000 in
theorem build_ent9 (s : ByteArray) (k : Int) (i : Id) (w : World) : (Instr.build 79 #[(0, .string s), (1, .int .i64 k), (2, idV i)]).run Tryz.prog w = .ok (.agg (entC ⟨s, k, i⟩)) w := by
  obtain ⟨l, hl⟩ := i
  obtain ⟨b0, b1, b2, b3, b4, b5, b6, b7, b8, b9, b10, b11, b12, b13, b14, b15, b16, b17, b18, b19, b20, b21, b22, b23, b24, b25, b26, b27, b28, b29, b30, b31, rfl⟩ : ∃ b0 b1 b2 b3 b4 b5 b6 b7 b8 b9 b10 b11 b12 b13 b14 b15 b16 b17 b18 b19 b20 b21 b22 b23 b24 b25 b26 b27 b28 b29 b30 b31, l = [b0, b1, b2, b3, b4, b5, b6, b7, b8, b9, b10, b11, b12, b13, b14, b15, b16, b17, b18, b19, b20, b21, b22, b23, b24, b25, b26, b27, b28, b29, b30, b31] := by
    exact match l, hl with | [b0, b1, b2, b3, b4, b5, b6, b7, b8, b9, b10, b11, b12, b13, b14, b15, b16, b17, b18, b19, b20, b21, b22, b23, b24, b25, b26, b27, b28, b29, b30, b31], _ => ⟨b0, b1, b2, b3, b4, b5, b6, b7, b8, b9, b10, b11, b12, b13, b14, b15, b16, b17, b18, b19, b20, b21, b22, b23, b24, b25, b26, b27, b28, b29, b30, b31, rfl⟩
  have : (Instr.build 79 #[(0, .string s), (1, .int .i64 k), (2, idV ⟨[b0, b1, b2, b3, b4, b5, b6, b7, b8, b9, b10, b11, b12, b13, b14, b15, b16, b17, b18, b19, b20, b21, b22, b23, b24, b25, b26, b27, b28, b29, b30, b31], hl⟩)]).run Tryz.prog w = .ok (.agg (entC ⟨s, k, ⟨[b0, b1, b2, b3, b4, b5, b6, b7, b8, b9, b10, b11, b12, b13, b14, b15, b16, b17, b18, b19, b20, b21, b22, b23, b24, b25, b26, b27, b28, b29, b30, b31], hl⟩⟩)) w := by kernel_rfl
  exact this
def LayPost (m n : Nat) (g : Gm) (l : List FileD) (w : World) (e : Ending) (w' : World) : Prop := ∃ i, e = .returned (idV i) ∧ (∃ n' g', n' ≤ n + szP l + 1 ∧ OMap w' m n' g' ∧ (l = [] → g' = gput g (treeI []) 2 ∧ i = treeI []) ∧ ∀ f, l = [f] → LayR g f g' i) ∧ Keep (Only m) w w'
set_option maxHeartbeats 4000000 in
set_option maxRecDepth 100000 in
theorem lay_any : ∀ (N : Nat) (l : List FileD), szP l ≤ N → ∀ (A : Option Addr) (c z B m n : Nat) (g : Gm) (w : World), LI w z B m A l → z ≤ w.heap.size → B ≤ m → m < z → B ≤ z → OMap w m n g → VarM w → l.length ≤ 1000 → (∀ f ∈ l, f.p.length ≤ 400 ∧ f.d.length ≤ 65536) → n + szP l + 1 ≤ 10000000 →
    Calls Tryz.prog 15 #[.map (some m), .slice A l.length c] w (LayPost m n g l w) := by
  intro N
  induction N using Nat.strongRecOn with
  | ind N ih =>
  intro l hN A c z B m n g w hl hz hBm hmz hBz ho hv hlen hp hn
  have HIH := Lib.hid (fun (l' : List FileD) (h : szP l' < szP l) => ih (szP l') (by omega) l' (Nat.le_refl _))
  have HP := Lib.hid (show LayPost m n g l w = fun e w' => ∃ i, e = .returned (idV i) ∧ (∃ n' g', n' ≤ n + szP l + 1 ∧ OMap w' m n' g' ∧ (l = [] → g' = gput g (treeI []) 2 ∧ i = treeI []) ∧ ∀ f, l = [f] → LayR g f g' i) ∧ Keep (Only m) w w' from rfl)
  rw [HP.out]
  clear HP ih hN
  have hmw : m < w.heap.size := by omega
  have HLI := Lib.hid (fun W (k : Keep (Only m) w W) => hl.keep (w' := W) (fun b hb hm => k.block b (by omega) hm) hBm hBz)
  have HVM := Lib.hid (fun W (k : Keep (Only m) w W) => hv.keepOnly ho k)
  have HPL := Lib.hid hp
  have HO := Lib.hid ho
  have HN := Lib.hid hn
  clear hl hv hp ho hn
  have hBq : B ≤ w.heap.size := by omega
  have hst : LaySt w w.heap.size B m n g mpNil 0 [] [] none 0 ((w.alloc (.cells (idC noId) 30)).alloc (.map #[] 0)) :=
    { om := (HO.out.alloc _).alloc _
      vm := (show (w.alloc (.cells (idC noId) 30)).heap.size = w.heap.size + 1 from by simp) ▸ VM.made (w.alloc (.cells (idC noId) 30))
      dir := DirRows.nil_ _ _ _
      own := Own.nil _ _ _ _
      keep := ((Keep.refl _ w).alloc _).alloc _
      res := (Blk.new w 30 (idC noId)).alloc _
      qs := by simp; omega }
  have HST := Lib.hid hst
  clear hst
  obtain ⟨q, hq⟩ : ∃ q, w.heap.size = q := ⟨_, rfl⟩
  have HQ := Lib.hid hq
  have hmm := @run_makeMap Tryz.prog
  go_enter Tryz.func15, Tryz.ntmps15
  go_wp2_with (first | (refine wpList_allocAgg rfl rfl (zero_noId _) ?_))
  rw [hq] at HST hmw hBq
  clear hmm hq
  generalize (w.alloc (.cells (idC noId) 30)).alloc (.map #[] 0) = w2 at *
  go_loopw [6, 20] (fun s6 s20 wr => ∃ (k nb n1 : Nat) (fb : Mp) (Ae : Option Addr) (ce : Nat), s6 = .slice Ae (flatE (l.take k)).length ce ∧ s20 = .int .i64 (k : Nat) ∧ k ≤ l.length ∧ nb ≤ k ∧ n1 ≤ n + (flatP (l.take k)).length ∧ Hid (LaySt w q B m n1 (blobG g (l.take k)) fb nb (l.take k) (flatE (l.take k)) Ae ce wr)) (fun _ s20 _ => l.length - (intOf s20).toNat)
  case atStart => exact ⟨0, 0, n, mpNil, none, 0, by rw [List.take_zero]; rfl, rfl, Nat.zero_le _, Nat.le_refl _, by omega, by rw [List.take_zero]; exact HST⟩
  case round =>
    clear HST w2
    obtain ⟨k, nb, n1, fb, Ae, ce, rfl, rfl, hk, hnb, hn1, HS⟩ := hrel
    by_cases hlt : k < l.length
    · obtain ⟨x, hx⟩ : ∃ x, l[k]? = some x := ⟨_, List.getElem?_eq_getElem hlt⟩
      obtain ⟨gg, off, DA, dc, rfl, hg, hload, hdr⟩ := (HLI.out wr HS.out.keep).at_ hBz hx
      have HLD := Lib.hid hload
      have HDR := Lib.hid hdr
      have HXL := Lib.hid (HPL.out x (List.mem_of_getElem? hx))
      have HTK := Lib.hid (take_snoc hx)
      have i0 : (0 : Int) ≤ (k : Int) := by omega
      have i1 : (k : Int) < (l.length : Int) := by omega
      clear hload hdr hx hg
      go_upto_region 6 with (first
        | (with_reducible refine wpList_load rfl rfl rfl HLD.out ?_)
        | (refine wpList_storeBlk rfl rfl (vs := fileC x DA dc) rfl rfl (Blk.new _ _ _) rfl info_file (fileC_one x DA dc) ?_; intro w5 hx5 hk5 hz5; have HX5 := Lib.hid hx5; have HK5 := Lib.hid (show Keep Nothing wr w5 from Keep.ofNew hk5); clear hx5 hk5 hz5))
      simp only [Act.put]
      have HS5 := Lib.hid (HS.out.still HK5.out hBq)
      obtain ⟨d, hd⟩ : ∃ d, (cutP x.p).1 = d := ⟨_, rfl⟩
      obtain ⟨rs, hrs⟩ : ∃ rs, (cutP x.p).2.1 = rs := ⟨_, rfl⟩
      obtain ⟨is, his⟩ : ∃ is, (cutP x.p).2.2 = is := ⟨_, rfl⟩
      have HCT := Lib.hid (show Calls Tryz.prog 31 #[strC x.p, .string ⟨#[47]⟩] w5 (fun e w' => e = .returned (.tuple #[strC d, strC rs, .bool is]) ∧ ∃ nn, w' = w5.drewN nn) from by
        obtain ⟨mm, hm⟩ := HVM.out w5 HS5.out.keep
        have := Tryz.strings_Cut ⟨x.p.toArray⟩ ⟨#[47]⟩ mm w5 (by have := HXL.out.1; simp [ByteArray.size]; omega) hm
        rw [← hd, ← hrs, ← his]
        exact this)
      have HD5 := Lib.hid (show DataR w5 B x (.slice DA x.d.length dc) from HDR.out.below (HK5.out.below (by have := HS.out.qs; omega) (fun _ _ q => q.elim)))
      have HCI := Lib.hid (And.intro hd (And.intro hrs his))
      clear hd hrs his
      have f0 := HX5.out.cell 0
      simp only [fileC, List.getElem?_toArray, List.getElem?_cons_zero] at f0
      have HZR := Lib.hid HS.out.qs
      generalize wr.heap.size = r at *
      go_upto_region 7 with (go_at_call 31; (with_reducible refine HCT.out.mono ?_); rintro _ w6 ⟨rfl, nn, hw6⟩; have HS6 := Lib.hid (show LaySt w q B m n1 (blobG g (l.take k)) fb nb (l.take k) (flatE (l.take k)) Ae ce w6 from by rw [hw6]; exact HS5.out.still ((Keep.refl _ _).drewN nn) hBq); have HX6 := Lib.hid (show Blk w6 r 27 (fileC x DA dc) from by rw [hw6]; exact HX5.out); have HD6 := Lib.hid (show DataR w6 B x (.slice DA x.d.length dc) from by rw [hw6]; exact HD5.out); clear hw6)
      clear f0 HCT HS5 HX5 HK5 HDR HLD HS
      have f1 := HX6.out.cell 1
      have f2 := HX6.out.cell 2
      simp only [fileC, List.getElem?_toArray, List.getElem?_cons_succ, List.getElem?_cons_zero] at f1 f2
      cases is with
      | true =>
        -- <<DEEP
        obtain ⟨e1, e2, e3⟩ := HCI.out
        obtain ⟨A1, c1, tv, hget, t1, t2, t3, hpush⟩ := HS6.out.dir.push d hBq HS6.out.qs
        have hlk := HS6.out.vm.look (s := d) Tryz.underlying72 (zero_files _) (by have := HXL.out.1; have := cut_len e3; rw [e1] at this; unfold maxLen; omega)
        rw [hget] at hlk
        have HIN := Lib.hid (show inDir d x = some ⟨rs, x.k, x.d⟩ from by unfold inDir; rw [if_pos ⟨e3, e1⟩, e2])
        have HOT := Lib.hid (show ∀ e, e ≠ d → inDir e x = none from fun e q => if_neg fun r => q (r.2.symm.trans e1))
        have HPU := Lib.hid hpush
        have HT2 := Lib.hid t2
        have HUL := Lib.hid (show (underP (l.take k) d).length ≤ 1000 from Nat.le_trans (under_len _ _) (by rw [List.length_take]; omega))
        have HDL := Lib.hid (show d.length ≤ 1000 from by have := HXL.out.1; have := cut_len e3; rw [e1] at this; omega)
        clear hget hpush t1 t2 t3 e1 e2
        go_upto_region 11 with (first
          | (refine wpList_built rfl rfl (vs := #[(0, strC rs), (1, .int .i64 x.k), (2, .slice DA x.d.length dc)]) rfl (build_file9 _ _ _ _ _ _) ?_)
          | (refine wpList_buildSlice1 rfl elemFile rfl zero_file rfl rfl (by omega) rfl ?_)
          | (at_builtin; refine wpList_append_slf rfl elemFile rfl rfl (n := (underP (l.take k) d).length) (xs := filesL (underP (l.take k) d) tv) (Own.alloc HT2.out _) (m := 1) (by omega) rfl (Reads.of_blk (n := 1) (xs := (fileC ⟨rs, x.k, x.d⟩ DA dc).toList) (heap_alloc_new _ _) rfl rfl) (fileC_one _ _ _) (by have := HUL.out; unfold maxLen; omega) (by have := HUL.out; omega) (by have := HS6.out.qs; simp; omega) ?_; intro A9 c9 w7 o9 k9 n9; have HO9 := Lib.hid o9; have HK9 := Lib.hid k9; have HN9 := Lib.hid n9; obtain ⟨w8, hst, hv8, hk8, _⟩ := ((HS6.out.vm.alloc (.cells (fileC ⟨rs, x.k, x.d⟩ DA dc) 27)).kept k9).store (s := d) Tryz.underlying72 (by unfold maxLen; omega) (by have := HDL.out; unfold maxLen; omega) (.slice A9 ((underP (l.take k) d).length + 1) c9); have HV8 := Lib.hid hv8; have HK8 := Lib.hid hk8; clear hv8 hk8 o9 k9 n9))
        go_wp2_with fail
        go_roundw
        case rel =>
          have e3 := HCI.out.2.2
          have h7 := (HS6.out.vm.alloc (.cells (fileC ⟨rs, x.k, x.d⟩ DA dc) 27)).kept HK9.out
          have hdr := (HPU.out x ⟨rs, x.k, x.d⟩ DA dc HIN.out HOT.out HD6.out w7 A9 c9 HO9.out HK9.out HN9.out).1
          have hF := HS6.out.file (x := x) (y := ⟨rs, x.k, x.d⟩) (D := DA) (dd := dc) (Nat.le_of_eq HQ.out) hBq hmw HK9.out hdr HV8.out h7 HK8.out
          refine ⟨k + 1, if (fb d).isSome then nb else nb + 1, n1, mput fb d (.slice A9 ((underP (l.take k) d).length + 1) c9), Ae, ce, by rw [HTK.out, flatE_deep e3], by go_num, hlt, by split <;> omega, by rw [HTK.out, flatP_snoc, if_pos e3, List.append_nil]; exact hn1, Lib.hid ?_⟩
          rw [HTK.out, flatE_deep e3, blobG_deep e3]
          exact hF
        case measure => simp [intOf]; omega
        -- >>DEEP
      | false =>
        -- <<FLAT
        have HC := Lib.hid (cloneB_any x.d DA dc B w6 (by have := HS6.out.qs; omega) (by obtain ⟨A', c', e, _, _, h⟩ := HD6.out; injection e with e1 _ e2; subst e1 e2; exact h) (by have := HXL.out.2; omega))
        clear f1 f2
        have f2 := HX6.out.cell 2
        simp only [fileC, List.getElem?_toArray, List.getElem?_cons_succ, List.getElem?_cons_zero] at f2
        have HRW := Lib.hid (show r < w6.heap.size from HX6.out.lt)
        have HNB := Lib.hid (show n1 ≤ 100000000 from by
          have q1 := HN.out
          have q2 := flatP_len (l.take k)
          have q3 : (l.take k).length ≤ 1000 := by rw [List.length_take]; omega
          omega)
        go_upto_region 10 with (first
          | (go_at_call 33; (with_reducible refine HC.out.mono ?_); rintro _ w7 ⟨A7, c7, rfl, o7, b7⟩; have HO7 := Lib.hid o7; have HB7 := Lib.hid b7; have HS7 := Lib.hid (HS6.out.still (belowK b7) hBq); have HX7 := Lib.hid (HX6.out.below b7 HRW.out); clear o7 b7)
          | (refine wpList_built rfl rfl (vs := #[(0, .int .i64 1), (1, .slice A7 x.d.length c7)]) rfl (build_obj9 _ _ _ _ _) ?_)
          | (go_at_call 32; (refine (oput_any 1 x.d A7 c7 m n1 (blobG g (l.take k)) w7 HS7.out.om HO7.out.reads (by have := HXL.out.2; omega) (Own.cap_le HO7.out).1 (Own.cap_le HO7.out).2 HNB.out).mono ?_); rintro _ w8 ⟨rfl, ⟨n8, hn8, om8⟩, k8⟩; have HS8 := Lib.hid (HS7.out.put k8 om8 hBm hmw); have HX8 := Lib.hid (HX7.out.keep k8 (by have := HZR.out; unfold Only; omega)); have HN8 := Lib.hid hn8; clear om8 k8 hn8)
          | (refine wpList_allocAgg rfl rfl (zero_noId _) ?_)
          | (refine wpList_storeBlk rfl rfl (vs := idC (idObj 1 x.d).1) rfl rfl (Blk.new _ _ _) (by rw [idC_size, idC_size]) (by rw [idC_size]; exact info42) (idL_one _) ?_; intro w9 hx9 hk9 hz9; have HS9 := Lib.hid (HS8.out.still (Keep.ofNew hk9) hBq); have HX9 := Lib.hid (HX8.out.keep (show Keep Nothing w8 w9 from Keep.ofNew hk9) (fun q => q)); have HI9 := Lib.hid hx9; clear hx9 hk9 hz9))
        have f0 := HX9.out.cell 0
        have f1 := HX9.out.cell 1
        simp only [fileC, List.getElem?_toArray, List.getElem?_cons_succ, List.getElem?_cons_zero] at f0 f1
        clear f2 HC HX6 HX7 HX8 HS6 HS7 HS8 HO7 HB7 HD6
        have HFL := Lib.hid (show (flatE (l.take k)).length ≤ 1000 from by rw [flatE_len]; exact Nat.le_trans (flatP_len _) (by rw [List.length_take]; omega))
        generalize hbi : (idObj 1 x.d).1 = bi at *
        have HBI := Lib.hid (show blobI x.d = bi from hbi)
        clear hbi
        go_upto_region 11 with (first
          | (refine wpList_load rfl rfl rfl (load_id HI9.out) ?_)
          | (refine wpList_built rfl rfl (vs := #[(0, .string ⟨x.p.toArray⟩), (1, .int .i64 x.k), (2, idV bi)]) rfl (build_ent9 _ _ _ _) ?_)
          | (refine wpList_buildSlice1 rfl elemEnt rfl zero_ent (entC_size _) (entC_size _) (by omega) rfl ?_)
          | (at_builtin; refine wpList_append_sl rfl elemEnt rfl rfl (n := (flatE (l.take k)).length) (xs := (flatE (l.take k)).flatMap entL) (Own.alloc HS9.out.own _) (m := 1) rfl (Reads.of_blk (n := 1) (xs := entL ⟨⟨x.p.toArray⟩, x.k, bi⟩) (heap_alloc_new _ _) rfl (entL_len9 _)) (entL_one9 _) (by have := HFL.out; unfold maxLen; omega) (by have := HFL.out; omega) (by have := HS9.out.qs; simp; omega) ?_; intro A9 c9 w11 o9 k9; have HO9 := Lib.hid o9; have HK9 := Lib.hid k9; clear o9 k9))
        go_wp2_with fail
        go_roundw
        case rel =>
          have e3 := HCI.out.2.2
          have h10 := (HS9.out.still ((Keep.refl Nothing w9).alloc (.cells (entC ⟨⟨x.p.toArray⟩, x.k, bi⟩) 79)) hBq).ent (x := ⟨⟨x.p.toArray⟩, x.k, bi⟩) (Nat.le_of_eq HQ.out) HK9.out HO9.out hBq hmw
          have hef : entF x = ⟨⟨x.p.toArray⟩, x.k, bi⟩ := by unfold entF; rw [HBI.out]
          have hn8 := HN8.out
          refine ⟨k + 1, nb, n8, fb, A9, c9, by rw [HTK.out, flatE_flat e3, List.length_append]; rfl, by go_num, hlt, by omega, ?_, Lib.hid ?_⟩
          · rw [HTK.out, flatP_snoc, if_neg (by rw [e3]; decide), List.length_append]
            show _ ≤ n + ((flatP (l.take k)).length + 1)
            omega
          · rw [HTK.out, flatE_flat e3, blobG_flat e3, hef, HBI.out]
            exact { h10 with dir := h10.dir.flat (not_inDir e3) }
        case measure => simp [intOf]; omega
        -- >>FLAT
    · obtain rfl : k = l.length := by omega
      rw [List.take_length] at HS hn1 ⊢
      obtain ⟨w1, hrg, hvr, hk1, hz1⟩ := HS.out.vm.range Tryz.underlying72
      have HS1 := Lib.hid (HS.out.still hk1 hBq)
      have HZR := Lib.hid HS.out.qs
      have HVR := Lib.hid hvr
      have HF := Lib.hid HS.out.dir
      clear HS hvr hk1 hlt hk
      go_wp2_with fail
      clear hz1 hrg
      generalize wr.heap.size = r at *
      have HFS := Lib.hid (show (∀ d v, fb d = some v → underP l d ≠ []) ∧ ∀ d, underP l d ≠ [] → (fb d).isSome = true from by
        obtain ⟨row, r1, _⟩ := HF.out
        refine ⟨fun d v h e => ?_, fun d h => ?_⟩
        · rw [r1 d, if_pos e] at h; cases h
        · rw [r1 d, if_neg h]; rfl)
      clear HF
      have HL0 := Lib.hid (show Lay2 l g n1 (fun s => (fb s).isSome) [] (flatE l) n1 (blobG g l) from
        { nd := List.nodup_nil
          dom := fun d => ⟨fun h => (by cases h), fun h => (by have := (HFS.out.2 d h.1).symm.trans h.2; cases this)⟩
          num := Nat.le_refl _
          cnt := Nat.le_refl _
          len := rfl
          start := fun _ => ⟨rfl, rfl⟩
          one := fun f d _ h => by cases h })
      go_loopw [6] (fun s6 wq => ∃ (left : Pth → Bool) (cnt n2 : Nat) (g2 : Gm) (ds : List Pth) (es : List EntC9) (A2 : Option Addr) (c2 : Nat), s6 = .slice A2 es.length c2 ∧ Hid (VR wq (q + 1) r nb fb left cnt) ∧ Hid (LaySt w q B m n2 g2 fb nb l es A2 c2 wq) ∧ Hid (Lay2 l g n1 left ds es n2 g2)) (fun _ wq => wq.rangeLeft (q + 1) r)
      case atStart => exact ⟨_, nb, n1, _, [], flatE l, Ae, ce, rfl, HVR, HS1, HL0⟩
      case round =>
        clear HVR HS1 HL0
        obtain ⟨left, cnt, n2, g2, ds, es, A2, c2, rfl, HV, HS, HL⟩ := hrel
        have hml := HV.out.left_eq
        rcases HV.out.next 0 with ⟨_, q2, hnx⟩ | ⟨s, v, w2, cnt', q1, q2, hnx, q4, q5, q6, q7, hent⟩
        · have HE := Lib.hid q2
          clear q2 hml
          go_wp2_with fail
          have HES := Lib.hid (HL.out.size hlen fun f hf => (HPL.out f hf).1)
          have HSE := Lib.hid (sortEnt_any es wr rfl (by have := HES.out.1; omega) HS.out.own)
          go_upto_region 17 with (go_at_call 34; (with_reducible refine HSE.out.mono ?_); rintro _ w4 ⟨rfl, es4, hp4, ho4, hk4⟩; have HP4 := Lib.hid hp4; have HO4 := Lib.hid ho4; have HK4 := Lib.hid hk4; clear hp4 ho4 hk4)
          have HLN := Lib.hid HP4.out.length_eq
          have HM4 := Lib.hid (show OMap w4 m n2 g2 from HS.out.om.below (HK4.out.below (Nat.le_refl q) HS.out.qs (by simp)) hmw)
          have HEN := Lib.hid (encodeTree_any es4 A2 c2 w4 (by rw [HLN.out]; exact HO4.out.reads) (by have := HES.out.1; rw [HLN.out]; omega))
          rw [HLN.out] at HEN
          go_upto_region 18 with (go_at_call 37; (with_reducible refine HEN.out.mono ?_); rintro _ w5 ⟨A5, c5, rfl, ho5, hb5⟩; have HO5 := Lib.hid ho5; have HB5 := Lib.hid hb5; clear ho5 hb5)
          have om5 := HM4.out.below HB5.out HM4.out.lt
          have p5 : Blk w5 q 30 (idC noId) := Blk.below (HK4.out.blk HS.out.res (by simp) (by simp)) HB5.out (HK4.out.blk HS.out.res (by simp) (by simp)).lt
          have kk5 : Keep (Only m) w w5 := (HS.out.keep.then_ HK4.out (fun i hi q => by
            have := HQ.out
            rcases q with q | ⟨h1, _⟩
            · cases q
            · omega)).then_ (belowK (S := Nothing) HB5.out) (fun _ _ q => q.elim)
          have HN2 := Lib.hid (show n2 ≤ n + szP l from by have := HES.out.2; have := HL.out.num; omega)
          have HPT := Lib.hid (oput_any 2 (encTree es4).1 A5 c5 m n2 g2 w5 om5 HO5.out.reads (Nat.le_trans (encTree_le' _) (by decide)) (Own.cap_le HO5.out).1 (Own.cap_le HO5.out).2 (by have := HN.out; have := HN2.out; omega))
          have HP5 := Lib.hid p5
          have HK5 := Lib.hid kk5
          clear om5 p5 kk5
          have hti : (idObj 2 (encTree es4).1).1 = treeI es4 := rfl
          rw [hti] at HPT
          clear hti
          go_wp2_with (first
            | (refine wpList_built rfl rfl (vs := #[(0, .int .i64 2), (1, .slice A5 (encTree es4).1.length c5)]) rfl (build_obj9 _ _ _ _ _) ?_)
            | (go_at_call 32; (with_reducible refine HPT.out.mono ?_); rintro _ w6 ⟨rfl, ⟨n6, hn6, om6⟩, k6⟩; have HN6 := Lib.hid hn6; have HM6 := Lib.hid om6; have HK6 := Lib.hid k6; have p6 := HP5.out.keep k6 (by unfold Only; omega); clear hn6 om6 k6)
            | (refine wpList_storeBlk rfl rfl (vs := idC (treeI es4)) rfl rfl p6 (by rw [idC_size, idC_size]) (by rw [idC_size]; exact info42) (idL_one _) ?_; intro w7 hq7 hk7 hz7))
          refine bodyPost_ret (results_cell rfl _ _ rfl (run_loadVar_cells w7 _ (idC (treeI es4)) Tryz.underlying30 rfl (by rw [idC_size]; exact info42) (fun j v hj => by rw [add_at, hq7.cell, ← hj]; simp))) rfl ?_
          have hdone := HL.out.done HE.out
          refine ⟨treeI es4, rfl, ⟨n6, _, by have := HN6.out; have := HN2.out; omega, HM6.out.keep hk7 (by unfold Only; omega), fun hl0 => ?_, fun f hf => ?_⟩, (HK5.out.trans HK6.out).then_ hk7 (by have := HQ.out; unfold Only; omega)⟩
          · obtain ⟨e1, e2⟩ := hdone.1 hl0
            have e4 : es4 = [] := by have := HP4.out; rw [e1] at this; exact List.Perm.eq_nil this
            rw [e4, e2]
            exact ⟨rfl, rfl⟩
          · obtain ⟨⟨e, e1⟩, e2⟩ := hdone.2 f hf
            have e4 : es4 = es := by have := HP4.out; rw [e1] at this; rw [e1]; exact List.perm_singleton.1 this
            rw [e4]
            exact e2
        · -- <<STEP
          have hu := HFS.out.1 s v q2
          have HS2 := Lib.hid (HS.out.iter HV.out q6 (Nat.le_of_eq HQ.out) hBq hmw HZR.out)
          obtain ⟨row, r1, _, r3, _⟩ := HS2.out.dir
          have hv := r1 s
          rw [q2, if_neg hu] at hv
          injection hv with hv
          subst hv
          have hq7 : w2.heap.size = wr.heap.size := q7
          have hqs := HS2.out.qs
          have hroom := HL.out.room q1 hu
          have HREC := Lib.hid (HIH.out (underP l s) (under_sz hu) (row s).1 (row s).2 w2.heap.size B m n2 g2 w2 (LI.ofFO (r3 s) fun a ha => by have := ((r3 s).lt a ha).1; omega) (Nat.le_refl _) hBm (by omega) (by omega) HS2.out.om (HVM.out w2 HS2.out.keep) (Nat.le_trans (under_len _ _) hlen) (fun f hf => by obtain ⟨f', hf', e1, _, e2, _⟩ := under_mem hf; have := HPL.out f' hf'; rw [e2]; exact ⟨by omega, this.2⟩) (by have := HN.out; omega))
          have HU := Lib.hid hu
          have HQ1 := Lib.hid q1
          have HV2 := Lib.hid q4
          have HES := Lib.hid (HL.out.size hlen fun f hf => (HPL.out f hf).1).1
          have HQ5 := Lib.hid (show cnt' < wr.rangeLeft (q + 1) r from by rw [hml]; exact q5)
          generalize (row s).1 = A1 at *
          generalize (row s).2 = c1 at *
          unfold strC at hnx hent
          clear r1 r3 q1 q2 q4 q5 q6 q7 hq7 hu hml hroom HS HV
          go_wp2_with (first
            | (go_at_call 15; (with_reducible refine HREC.out.mono ?_); rintro _ w3 ⟨i, rfl, ⟨n3, g3, hn3, om3, _, hr3⟩, k3⟩; have HS3 := Lib.hid (HS2.out.put k3 om3 hBm hmw); have HV3 := Lib.hid (HV2.out.keep k3 (by unfold Only; omega) (by unfold Only; have := HZR.out; omega)); have HR3 := Lib.hid (And.intro hn3 hr3); clear om3 k3 hn3 hr3)
            | (refine wpList_built rfl rfl (vs := #[(0, .string ⟨s.toArray⟩), (1, .int .i64 4), (2, idV i)]) rfl (build_ent9 _ _ _ _) ?_)
            | (refine wpList_buildSlice1 rfl elemEnt rfl zero_ent (entC_size _) (entC_size _) (by omega) rfl ?_)
            | (at_builtin; refine wpList_append_sl rfl elemEnt rfl rfl (n := es.length) (xs := es.flatMap entL) (Own.alloc HS3.out.own _) (m := 1) rfl (Reads.of_blk (n := 1) (xs := entL ⟨⟨s.toArray⟩, 4, i⟩) (heap_alloc_new _ _) rfl (entL_len9 _)) (entL_one9 _) (by have := HES.out; unfold maxLen; omega) (by have := HES.out; omega) (by have := HS3.out.qs; simp; omega) ?_; intro A9 c9 w11 o9 k9; have HO9 := Lib.hid o9; have HK9 := Lib.hid k9; clear o9 k9))
          have HV11 := Lib.hid ((HV3.out.keep ((Keep.refl Nothing w3).alloc (.cells (entC ⟨⟨s.toArray⟩, 4, i⟩) 79)) (fun q => q) (fun q => q)).kept HK9.out)
          go_roundw
          case rel =>
            have h11 := (HS3.out.still ((Keep.refl Nothing w3).alloc (.cells (entC ⟨⟨s.toArray⟩, 4, i⟩) 79)) hBq).ent (x := ⟨⟨s.toArray⟩, 4, i⟩) (Nat.le_of_eq HQ.out) HK9.out HO9.out hBq hmw
            exact ⟨_, cnt', n3, g3, ds ++ [s], es ++ [⟨⟨s.toArray⟩, 4, i⟩], A9, c9, by rw [List.length_append]; rfl, HV11, Lib.hid h11, Lib.hid (HL.out.step HQ1.out HU.out HR3.out.1 HR3.out.2)⟩
          case measure =>
            rw [HV11.out.left_eq]
            exact HQ5.out
          -- >>STEP
end Go.Proofs.YtbaapjlmpmpocaaGreatDoor
