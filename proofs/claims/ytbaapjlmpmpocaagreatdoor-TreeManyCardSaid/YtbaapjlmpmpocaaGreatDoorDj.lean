/-
  Contract of tree.Objects. No statement of the seat is proved here.
-/
import Derived.Test.YtbaapjlmpmpocaaGreatDoorDi
import Derived.Test.YtbaapjlmpmpocaaGreatDoorDg
import Derived.Test.YtbaapjlmpmpocaaGreatDoorDT20
import Derived.Test.YtbaapjlmpmpocaaGreatDoorDT35
namespace Go.Proofs.YtbaapjlmpmpocaaGreatDoor
open Go.RowKit Go.Maps

theorem keysI_any (mb : Option Nat) (W : World) : Calls Tryz.prog 17 #[.map mb] W fun e w' => e = .returned (.func (.func 40) #[] #[.pointer (some ⟨W.heap.size, 0, none⟩)]) ∧ w' = W.alloc (.cells #[.map mb] 46) := by
  go_enter Tryz.func17, Tryz.ntmps17
  go_wp2_with (refine wpList_boxed rfl rfl (cs := #[.map mb]) rfl ?_)
  go_ret
  exact ⟨rfl, rfl⟩
theorem results_tct {P : Program} {fn : Func} {s t u : Tmp} {ty : TypeId} (h : fn.results = #[.tmp s, .cell t ty, .tmp u]) (tmps : Array Value) (w : World) {ad : Addr} (ht : tmps.getD t undef = .pointer (some ad)) {v : Value} (hl : (loadVar ty ad).run P w = .ok v w) :
    (results fn tmps).run P w = .ok (.tuple #[tmps.getD s undef, v, tmps.getD u undef]) w := by
  simp only [Array.getD_eq_getD_getElem?] at ht
  simp [results, h, ht, asAddr, hl]
def obC (x : Int × Option Addr × Nat × Nat) : List Value := [.int .i64 x.1, .slice x.2.1 x.2.2.1 x.2.2.2]
theorem obC_one (x : Int × Option Addr × Nat × Nat) : ∀ v ∈ obC x, v.oneCell' = true := by
  intro v hv
  simp only [obC, List.mem_cons, List.not_mem_nil, or_false] at hv
  rcases hv with rfl | rfl <;> rfl
theorem infoObj9 : (Tryz.prog.info? 44).map (fun i => (i.zero, i.size, i.bytes)) = some (some (.agg #[.int .i64 0, .slice none 0 0]), 2, 32) := by kernel_rfl
theorem elemObj9 : Elem Tryz.prog 28 44 2 32 := by
  refine ⟨Tryz.underlying28, ?_, by decide⟩
  obtain ⟨i, hi, h1, h2, h3⟩ := info_parts infoObj9
  exact ⟨i, _, hi, h1, h2, h3, rfl⟩
theorem zero_obj9 (w : World) : (zeroValue 44).run Tryz.prog w = .ok (.agg #[.int .i64 0, .slice none 0 0]) w := by kernel_rfl
theorem flat32 : ∀ (ks : List Id) (k : Nat) (s : Id), ks[k]? = some s → ∀ j, j < 32 → (ks.flatMap idL)[k * 32 + j]? = (idL s)[j]?
  | [], _, _, h, _, _ => by cases h
  | x :: ks, 0, s, h, j, hj => by
    injection h with h
    subst h
    rw [List.flatMap_cons, List.getElem?_append_left (by rw [idL_len]; omega)]
    congr 1
    omega
  | x :: ks, k + 1, s, h, j, hj => by
    have ih := flat32 ks k s h j hj
    rw [List.flatMap_cons, List.getElem?_append_right (by rw [idL_len]; omega), idL_len, ← ih]
    congr 1
    omega
def LdI (p : Value) : Sem Value := Instr.loadAt 30 p
theorem ld_i (p : Value) : Instr.loadAt 30 p = LdI p := rfl
theorem obC_at : ∀ (vs : List (Int × Option Addr × Nat × Nat)) (k : Nat) x, vs[k]? = some x → (vs.flatMap obC)[k * 2]? = some (.int .i64 x.1)
  | [], _, _, h => by cases h
  | y :: vs, 0, x, h => by
    injection h with h
    subst h
    rfl
  | y :: vs, k + 1, x, h => by
    have ih := obC_at vs k x h
    rw [List.flatMap_cons, List.getElem?_append_right (by simp [obC]; omega), ← ih]
    congr 1
    simp only [obC, List.length_cons, List.length_nil]
    omega
/-- What tree.Objects hands back. -/
def ObjPost (l : List FileD) (w : World) (e : Ending) (w' : World) : Prop := ∃ (O : Option Addr) (n oc : Nat) (i : Id), e = .returned (.tuple #[.slice O n oc, idV i, .int .i64 (checkT l : Nat)]) ∧ Below w.heap.size w w' ∧
  (checkT l = 0 → ∃ (g' : Gm) (ks : List Id), n = ks.length ∧ ks.Nodup ∧ (∀ s, s ∈ ks ↔ (g' s).isSome = true) ∧ (l = [] → g' = gput (fun _ => none) (treeI []) 2) ∧ (∀ f, l = [f] → LayR (fun _ => none) f g' i) ∧
    ∀ (k : Nat) s kd, ks[k]? = some s → g' s = some kd → ∃ gb off, O = some ⟨gb, off, none⟩ ∧ w'.cell? ⟨gb, off + k * 2, none⟩ = some (.int .i64 kd))
attribute [local go_sem ↓] ld_i
set_option maxHeartbeats 4000000 in
set_option maxRecDepth 100000 in
theorem objects_any (l : List FileD) (A : Option Addr) (c B : Nat) (w : World) (hB : B ≤ w.heap.size) (hr : FI w B A l) (hv : VarM w) (hpl : ∀ f ∈ l, f.p.length ≤ 1000000) :
    Calls Tryz.prog 7 #[.slice A l.length c] w (ObjPost l w) := by
  have HP := Lib.hid (show ObjPost l w = fun e w' => ∃ (O : Option Addr) (n oc : Nat) (i : Id), e = .returned (.tuple #[.slice O n oc, idV i, .int .i64 (checkT l : Nat)]) ∧ Below w.heap.size w w' ∧
  (checkT l = 0 → ∃ (g' : Gm) (ks : List Id), n = ks.length ∧ ks.Nodup ∧ (∀ s, s ∈ ks ↔ (g' s).isSome = true) ∧ (l = [] → g' = gput (fun _ => none) (treeI []) 2) ∧ (∀ f, l = [f] → LayR (fun _ => none) f g' i) ∧
    ∀ (k : Nat) s kd, ks[k]? = some s → g' s = some kd → ∃ gb off, O = some ⟨gb, off, none⟩ ∧ w'.cell? ⟨gb, off + k * 2, none⟩ = some (.int .i64 kd)) from rfl)
  rw [HP.out]
  clear HP
  have hk0 : Below w.heap.size w (w.alloc (.cells (idC noId) 30)) := (Below.refl _ _).alloc (Nat.le_refl _) _
  have hz0 := hk0.size
  have HCK := Lib.hid (check_any l A c B (w.alloc (.cells (idC noId) 30)) (Nat.le_trans hB hz0) (hr.below (hk0.mono hB)) (hv.below hk0 hv.pos) hpl)
  have HR0 := Lib.hid hr
  have HV0 := Lib.hid hv
  have HB0 := Lib.hid hk0
  have HX0 := Lib.hid (Blk.new w 30 (idC noId))
  have HC0 := Lib.hid (fun (h : checkT l = 0) => checkT_tree h)
  clear hr hv hpl hk0 hz0
  obtain ⟨E, hE⟩ : ∃ E, checkT l = E := ⟨_, rfl⟩
  unfold CheckPost at HCK
  rw [hE] at HCK HC0 ⊢
  clear hE
  obtain ⟨q, hq⟩ : ∃ q, w.heap.size = q := ⟨_, rfl⟩
  rw [hq] at HB0 HX0
  have HQ := Lib.hid hq
  by_cases he : E = 0
  · subst he
    have d0 : (((0 : Nat) : Int) != 0) = false := rfl
    have hmm := @run_makeMap Tryz.prog
    go_enter Tryz.func7, Tryz.ntmps7
    go_upto_region 5 with (first
      | (refine wpList_allocAgg rfl rfl (zero_noId _) ?_; generalize w.alloc (.cells (idC noId) 30) = w1 at *)
      | (go_at_call 8; (with_reducible refine HCK.out.mono ?_); rintro _ w2 ⟨rfl, hb2⟩; have HB2 := Lib.hid hb2; clear hb2))
    obtain ⟨r, hrr⟩ : ∃ r, w2.heap.size = r := ⟨_, rfl⟩
    have hqr : q + 1 ≤ r := by
      have h1 := HB2.out.size
      have h2 := HX0.out.lt
      omega
    have hb3 : Below q w (w2.alloc (.map #[] 0)) := (HB0.out.trans (HB2.out.mono (by have := HB0.out.size; omega))).alloc (by omega) _
    have hom : OMap (w2.alloc (.map #[] 0)) r 0 (fun _ => none) := hrr ▸ OMap.made w2
    have hz3 : (w2.alloc (.map #[] 0)).heap.size = r + 1 := by simp [hrr]
    have hp3 : Blk (w2.alloc (.map #[] 0)) q 30 (idC noId) := (HX0.out.below HB2.out HX0.out.lt).alloc _
    rw [hrr]
    clear hrr hmm
    generalize w2.alloc (.map #[] 0) = w3 at *
    have hBr : B ≤ r := by omega
    have hli : LI w3 (r + 1) B r A l := by
      obtain ⟨tv, t1, t2, t3⟩ := HR0.out.below (hb3.mono (by omega))
      refine ⟨tv, t1, t2.more (by omega), fun a ha h0 => ?_, t3⟩
      obtain ⟨ad, e, hlt, _⟩ := t2.2 h0
      rw [ha] at e
      injection e with e
      subst e
      omega
    have hvm := HV0.out.below (B := q) hb3 (by have := HV0.out.pos; omega)
    obtain ⟨htree, hlen, _⟩ := HC0.out (by first | rfl | trivial)
    have hpd : ∀ f ∈ l, f.p.length ≤ 400 ∧ f.d.length ≤ 65536 := fun f hf => by
      have h1 := htree.file f hf
      refine ⟨Nat.le_trans (path_small h1) (by decide), ?_⟩
      unfold fileE at h1
      split at h1
      · cases h1
      · split at h1
        · cases h1
        · split at h1
          · cases h1
          · omega
    have hsz : szP l ≤ 402000 := Nat.le_trans (sz_le fun f hf => (hpd f hf).1) (by omega)
    have HLY := Lib.hid (lay_any (szP l) l (Nat.le_refl _) A c (r + 1) B r 0 (fun _ => none) w3 hli (by omega) hBr (by omega) (by omega) hom hvm hlen hpd (by omega))
    have HB3 := Lib.hid hb3
    have HP3 := Lib.hid hp3
    have HZ3 := Lib.hid hz3
    have HSZ := Lib.hid hsz
    clear hb3 hp3 hz3 hli hvm htree hlen hpd hsz hom HCK HB2 HX0 HB0 HV0 HR0 HC0 hBr
    go_upto_region 7 with (first
      | (go_at_call 15; (with_reducible refine HLY.out.mono ?_); rintro _ w4 ⟨i, rfl, ⟨n4, g4, hn4, om4, hl1, hl2⟩, k4⟩; have HN4 := Lib.hid hn4; have HM4 := Lib.hid om4; have HL4 := Lib.hid (And.intro hl1 hl2); have HK4 := Lib.hid k4; clear hn4 om4 hl1 hl2 k4)
      | (refine wpList_allocAgg rfl rfl (zero_noId _) ?_)
      | (refine wpList_storeBlk rfl rfl (vs := idC i) rfl rfl (Blk.new _ _ _) (by rw [idC_size, idC_size]) (by rw [idC_size]; exact info42) (idL_one _) ?_; intro w5 hx5 hk5 hz5; have HX5 := Lib.hid hx5; have HK5 := Lib.hid (show Keep Nothing w4 w5 from Keep.ofNew hk5); clear hx5 hk5 hz5))
    obtain ⟨f4, hv4, hf4⟩ := HM4.out.keep HK5.out (fun q => q)
    have HF4 := Lib.hid hf4
    have hk35 : Keep (Only r) w3 w5 := HK4.out.then_ HK5.out (fun _ _ q => q.elim)
    have HSO := Lib.hid (sortedI_any hv4 (by have := HN4.out; have := HSZ.out; omega))
    have HKY := Lib.hid (keysI_any (some r) w5)
    have HV5 := Lib.hid hv4
    have HB5 := Lib.hid (show Below q w w5 from HB3.out.trans (hk35.below (by have := HZ3.out; omega) (by unfold Only; omega)))
    have HP5 := Lib.hid (show Blk w5 q 30 (idC noId) from HP3.out.keep hk35 (by unfold Only; omega))
    have HA5 := Lib.hid (show q < w4.heap.size ∧ r < w4.heap.size from by have := HK4.out.size; have := HZ3.out; omega)
    generalize w4.heap.size = bx at *
    clear hk35 hv4 hf4 HM4 HK5 HK4 HB3 HP3 HZ3 HLY
    go_upto_region 8 with (first
      | (go_at_call 17; refine HKY.out.mono ?_; rintro _ w6 ⟨rfl, rfl⟩)
      | (go_at_call 16; (with_reducible refine HSO.out.mono ?_); rintro _ w6 ⟨A6, c6, ks, rfl, ⟨hnd, hmem, hkn⟩, ho6, hb6⟩; have HKS := Lib.hid (And.intro hnd hmem); have HKN := Lib.hid hkn; have HO6 := Lib.hid ho6; have HB6 := Lib.hid hb6; clear hnd hmem hkn ho6 hb6))
    have hz56 := HB6.out.size
    have HV6 := Lib.hid (HV5.out.block (HB6.out.block r HV5.out.lt))
    have HP6 := Lib.hid (HP5.out.below HB6.out HP5.out.lt)
    have HX6 := Lib.hid (HX5.out.below HB6.out HX5.out.lt)
    have HBW := Lib.hid (show Below q w w6 from HB5.out.trans (HB6.out.mono (by have := HB5.out.size; omega)))
    have HLT := Lib.hid (And.intro HV6.out.lt (And.intro HP6.out.lt HX6.out.lt))
    obtain ⟨z6, hz6⟩ : ∃ z6, w6.heap.size = z6 := ⟨_, rfl⟩
    have HZ6 := Lib.hid hz6
    clear HV5 HP5 HX5 HB5 HB6 hz56 HSO HKY
    go_loopw [8, 25] (fun s8 s25 wr => ∃ (k : Nat) (Ao : Option Addr) (co : Nat) (vs : List (Int × Option Addr × Nat × Nat)), s8 = .slice Ao vs.length co ∧ s25 = .int .i64 (k : Nat) ∧ k ≤ ks.length ∧ vs.length = k ∧ Hid (Own wr z6 44 2 Ao vs.length co (vs.flatMap obC)) ∧ Hid (Below z6 w6 wr) ∧ Hid (∀ (j : Nat) s kd, j < k → ks[j]? = some s → g4 s = some kd → ∃ x, vs[j]? = some (kd, x))) (fun _ s25 _ => ks.length - (intOf s25).toNat)
    case atStart => exact ⟨0, none, 0, [], rfl, rfl, Nat.zero_le _, rfl, Lib.hid (Own.nil _ _ _ _), Lib.hid (Below.refl _ _), Lib.hid fun j s kd h => absurd h (Nat.not_lt_zero _)⟩
    case round =>
      obtain ⟨k, Ao, co, vs, rfl, rfl, hk, hvl, HOW, HBK, HVS⟩ := hrel
      subst hvl
      have hzr : z6 ≤ wr.heap.size := HZ6.out ▸ HBK.out.size
      by_cases hlt : vs.length < ks.length
      · obtain ⟨s, hs⟩ : ∃ s, ks[vs.length]? = some s := ⟨_, List.getElem?_eq_getElem hlt⟩
        have HSG := Lib.hid (show ∃ kd Ax lx cx, g4 s = some kd ∧ f4 s = some (objV kd Ax lx cx) from by
          have h1 := (HKS.out.2 s).1 (List.mem_of_getElem? hs)
          cases hg : g4 s with
          | none => rw [(HF4.out s).1 hg] at h1; cases h1
          | some kd =>
            obtain ⟨Ax, lx, cx, e⟩ := (HF4.out s).2 kd hg
            exact ⟨kd, Ax, lx, cx, rfl, e⟩)
        obtain ⟨kd, Ax, lx, cx, hgs, hfs⟩ := HSG.out
        have hbk6 : Below w6.heap.size w6 wr := HZ6.out ▸ HBK.out
        obtain ⟨g1, off1, rfl, hg1, hc1⟩ := HO6.out.reads.at0 (by omega) (by omega)
        have hld : (Instr.loadAt 30 (.pointer (some ⟨g1, off1 + vs.length * 32, none⟩))).run Tryz.prog wr = .ok (idV s) wr := run_loadAt_cells wr _ (idC s) Tryz.underlying30 rfl (by rw [idC_size]; exact info42) (fun j v hj => by
          have hj2 : (idL s)[j]? = some v := by rw [← hj]; simp [idC]
          have hj3 : j < 32 := by
            have := (List.getElem?_eq_some_iff.1 hj2).1
            rwa [idL_len] at this
          rw [add_at, show off1 + vs.length * 32 + j = off1 + (vs.length * 32 + j) from by omega, hbk6.cell (p := ⟨g1, off1 + (vs.length * 32 + j), none⟩) hg1]
          exact hc1 _ _ ((flat32 ks vs.length s hs j hj3).trans hj2))
        have HLD := Lib.hid hld
        have hvr := HV6.out.block (hbk6.block r HLT.out.1)
        have HVR := Lib.hid hvr
        have HGF := Lib.hid (And.intro hgs hfs)
        have HKL := Lib.hid (show vs.length ≤ 1000000 from by have := HKN.out; have := HN4.out; have := HSZ.out; omega)
        have HSX := Lib.hid hs
        have hbd : vs.length ≤ 1000000 := HKL.out
        have i0 : (0 : Int) ≤ (vs.length : Int) := by omega
        have i1 : (vs.length : Int) < (ks.length : Int) := by omega
        clear hld hvr hgs hfs hs hg1 hc1 hbk6 HSG HO6
        go_wp2_with (first
          | (with_reducible refine wpList_load rfl rfl rfl HLD.out ?_)
          | (refine wpList_allocAgg rfl rfl (zero_noId _) ?_)
          | (refine wpList_storeBlk rfl rfl (vs := idC s) rfl rfl (Blk.new _ _ _) (by rw [idC_size, idC_size]) (by rw [idC_size]; exact info42) (idL_one _) ?_; intro w7 hx7 hk7 hz7; have HX7 := Lib.hid hx7; have HK7 := Lib.hid (show Keep Nothing wr w7 from Keep.ofNew hk7); have hlk := (HVR.out.keep HK7.out (fun q => q)).look (s := s) Tryz.underlying46 (zero_obj9 _); rw [HGF.out.2] at hlk; unfold objV at hlk; simp only [Option.getD_some] at hlk; clear hx7 hk7 hz7)
          | (refine wpList_load rfl rfl rfl (load_id HX7.out) ?_)
          | (refine wpList_buildSlice1 rfl elemObj9 rfl zero_obj9 rfl rfl (by omega) rfl ?_)
          | (at_builtin; refine wpList_append_sl rfl elemObj9 rfl rfl (n := vs.length) (xs := vs.flatMap obC) (Own.alloc (Own.same HOW.out fun b _ hb _ => HK7.out.block b hb (fun q => q)) _) (m := 1) rfl (Reads.of_blk (n := 1) (xs := obC (kd, Ax, lx, cx)) (heap_alloc_new _ _) rfl rfl) (obC_one _) (by have := HKL.out; unfold maxLen; omega) (by have := HKL.out; omega) (by have := HK7.out.size; simp; omega) ?_; intro A9 c9 w9 o9 k9; have HO9 := Lib.hid o9; have HK9 := Lib.hid k9; clear o9 k9))
        go_roundw
        case rel =>
          have hk9 : Below z6 wr w9 := (((HK7.out.below (B := z6) hzr (fun _ _ q => q.elim)).trans ((Below.refl _ w7).alloc (by have := HK7.out.size; omega) _)).trans (HK9.out.below (Nat.le_refl _) (by have := HK7.out.size; simp; omega) (by simp)))
          refine ⟨vs.length + 1, A9, c9, vs ++ [(kd, Ax, lx, cx)], by rw [List.length_append]; rfl, by have := HKL.out; go_num, hlt, by simp, Lib.hid ?_, Lib.hid (HBK.out.trans hk9), Lib.hid fun j t kt hj ht hg => ?_⟩
          · rw [List.length_append, List.flatMap_append]
            have := HO9.out
            simpa using this
          · rcases Nat.lt_or_ge j vs.length with q1 | q1
            · obtain ⟨x, hx⟩ := HVS.out j t kt q1 ht hg
              exact ⟨x, by rw [List.getElem?_append_left q1]; exact hx⟩
            · obtain rfl : j = vs.length := by omega
              obtain rfl : t = s := Option.some.inj (ht.symm.trans HSX.out)
              obtain rfl : kt = kd := Option.some.inj (hg.symm.trans HGF.out.1)
              exact ⟨(Ax, lx, cx), by rw [List.getElem?_append_right (Nat.le_refl _), Nat.sub_self]; rfl⟩
        case measure =>
          have := HKL.out
          simp [intOf]; omega
      · have hve : vs.length = ks.length := by omega
        have HVE := Lib.hid hve
        clear hve
        have p3 := HP6.out.below (HZ6.out ▸ HBK.out : Below w6.heap.size w6 wr) HLT.out.2.1
        have p7 := HX6.out.below (HZ6.out ▸ HBK.out : Below w6.heap.size w6 wr) HLT.out.2.2
        have hl7 : (LdI (.pointer (some ⟨bx, 0, none⟩))).run Tryz.prog wr.drew = .ok (idV i) wr.drew := load_id (w := wr.drew) p7
        have p4 : Blk wr.drew q 30 (idC noId) := p3
        go_upto_region 12 with fail
        refine wp_region_still_tail 3 (by kernel_rfl) (by kernel_rfl) ?_; simp only [List.take_succ_cons, List.take_zero, List.drop_succ_cons, List.drop_zero]; repeat (first | ((with_reducible refine wpStill_step (fun K hK => ?_)); go_simp; with_reducible refine hK _ ?_; clear hK K) | ((with_reducible refine wpStill_skip ?_ ?_); (focus rfl)))
        (with_reducible refine wpStill_nil ?_); change wpList _ _ _ _ _ wr.drew
        go_wp2_with (refine wpList_storeBlk rfl rfl (vs := idC i) rfl rfl p4 (by rw [idC_size, idC_size]) (by rw [idC_size]; exact info42) (idL_one _) ?_; intro w9 hq9 hk9 hz9)
        refine bodyPost_ret (results_tct rfl _ _ rfl (run_loadVar_cells w9 _ (idC i) Tryz.underlying30 rfl (by rw [idC_size]; exact info42) (fun j v hj => by rw [add_at, hq9.cell, ← hj]; simp))) rfl ?_
        have hqz : q < z6 := HZ6.out ▸ HLT.out.2.1
        have hbq : Below q w w9 := (HBW.out.trans (HBK.out.mono (by omega))).trans ((Below.refl q wr).drew.trans (hk9.below (by show q ≤ wr.heap.size; omega) (by unfold Only; omega)))
        have hg : ∀ s, (g4 s).isSome = (f4 s).isSome := fun s => by
          cases hgs : g4 s with
          | none => rw [(HF4.out s).1 hgs]; rfl
          | some kd => obtain ⟨_, _, _, e⟩ := (HF4.out s).2 kd hgs; rw [e]; rfl
        refine ⟨Ao, vs.length, co, i, rfl, by rw [hq]; exact hbq, fun _ => ⟨g4, ks, HVE.out, HKS.out.1, fun s => by rw [hg]; exact HKS.out.2 s, fun h => (HL4.out.1 h).1, HL4.out.2, fun k s kd h1 h2 => ?_⟩⟩
        have hkl : k < vs.length := by rw [HVE.out]; exact (List.getElem?_eq_some_iff.1 h1).1
        obtain ⟨x, hx⟩ := HVS.out k s kd hkl h1 h2
        obtain ⟨gb, off, hA, hgb, hcell⟩ := HOW.out.reads.at0 (by omega) (by omega)
        refine ⟨gb, off, hA, ?_⟩
        have hc := hcell _ _ (obC_at vs k _ hx)
        have hgz : z6 ≤ gb := by
          obtain ⟨h3, h4⟩ := HOW.out.blkA _ hA
          exact h3
        rw [← hc]
        exact World.cell?_of_block (hk9.block gb hgb (by unfold Only; omega))
  · have d0 : ((E : Int) != 0) = true := by rw [bne_iff_ne]; omega
    go_enter Tryz.func7, Tryz.ntmps7
    go_wp2_with (first
      | (refine wpList_allocAgg rfl rfl (zero_noId _) ?_; generalize w.alloc (.cells (idC noId) 30) = w1 at *)
      | (go_at_call 8; (with_reducible refine HCK.out.mono ?_); rintro _ w2 ⟨rfl, hb2⟩; have HB2 := Lib.hid hb2; have p2 := HX0.out.below hb2 HX0.out.lt; clear hb2)
      | (refine wpList_built rfl rfl (vs := #[]) rfl (build_noId _) ?_)
      | (refine wpList_storeBlk rfl rfl (vs := idC noId) rfl rfl p2 (by rw [idC_size]) (by rw [idC_size]; exact info42) (idL_one _) ?_; intro w9 hq9 hk9 hz9))
    refine bodyPost_ret (results_tct rfl _ _ rfl (run_loadVar_cells w9 _ (idC noId) Tryz.underlying30 rfl (by rw [idC_size]; exact info42) (fun j v hj => by rw [add_at, hq9.cell, ← hj]; simp))) rfl ?_
    have h1 := HB0.out.size
    have h2 := HB2.out.size
    exact ⟨none, 0, 0, noId, rfl, by rw [hq]; exact (HB0.out.trans (HB2.out.mono (by omega))).trans (hk9.below (by omega) (by unfold Only; omega)), fun h => absurd h he⟩
end Go.Proofs.YtbaapjlmpmpocaaGreatDoor
