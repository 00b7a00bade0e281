/- Contract of the reference's Names. No statement of the seat is proved here. -/
import Derived.Test.YtbaapjlmpmpocaaGreatDoorDT19
import Derived.Deep.QuietTactic
import Derived.BigRegion
import Derived.BigQuiet
import Derived.Deep.DeepCutAuto
import Derived.Deep.CutBlock
import Derived.Laws.EntriesVeiled
import Derived.Test.YtbaapjlmpmpocaaGreatDoorDT07
namespace Go.Proofs.YtbaapjlmpmpocaaGreatDoor
open Go.RowKit Go.Maps
theorem dirs_names : ∀ (b c1 c2 : Pth), (dirsFrom c1 b).length + 1 = (nmFrom c2 b).length
 | [], _, _ => rfl
 | x :: b, c1, c2 => by
  unfold dirsFrom nmFrom
  split
  · rw [List.length_cons, List.length_cons, dirs_names b (c1 ++ [x]) []]
  · exact dirs_names b _ _
theorem fileE_dirs {f : FileD} (h : fileE f = 0) : (dirsP f.p).length ≤ 7 := by
 have h1 := (fileE_kind h).2.2.1
 have h2 := dirs_names f.p [] []
 unfold dirsP
 unfold nmP at h1
 omega
theorem entsP_take {l : List FileD} {k : Nat} {f : FileD} (h : l[k]? = some f) : entsP (l.take (k + 1)) = entsP (l.take k) ++ entD (dirsP f.p) ++ [(parN f.p, lastN f.p)] := by
 unfold entsP entD
 rw [List.take_add_one, h]
 simp
structure CkT (w : World) (z qs qe bs be : Nat) (l : List FileD) : Prop where
 s : Blk w qs 55 #[.map (some bs)]
 e : Blk w qe 56 #[.map (some be)]
 m : ∃ n fs, VM w bs n fs ∧ n ≤ l.length ∧ ∀ t, (fs t).isSome = true ↔ t ∈ l.map (·.p)
 ent : ∃ D, Ent w z be D (entsP l) ∧ bs ∉ D
 bz : z ≤ bs
 ne : bs ≠ be
 zq : z ≤ qs ∧ z ≤ qe
theorem file_load {w : World} {q : Nat} {f : FileD} {A : Option Addr} {c : Nat} (h : Blk w q 27 (fileC f A c)) : (Instr.loadAt 27 (.pointer (some ⟨q, 0, none⟩))).run Tryz.prog w = .ok (.agg (fileC f A c)) w :=
 run_loadAt_blk (P := Tryz.prog) h 0 (fileC f A c) Tryz.underlying27 rfl info_file (by simp [fileC])
theorem fileC_one (f : FileD) (A : Option Addr) (c : Nat) : ∀ v ∈ (fileC f A c).toList, v.oneCell' = true := by
 intro v hv
 simp only [fileC, strC, List.mem_cons, List.not_mem_nil, or_false] at hv
 rcases hv with rfl | rfl | rfl <;> rfl
theorem CkT.keepB {w w' : World} {z qs qe bs be : Nat} {l : List FileD} (h : CkT w z qs qe bs be l) (hb : Below w.heap.size w w') : CkT w' z qs qe bs be l := by
 have kk : Keep Nothing w w' := Below.keep_ hb _
 obtain ⟨n, fs, h1, h2, h3⟩ := h.m
 obtain ⟨D, h4, h5⟩ := h.ent
 exact ⟨h.s.below hb h.s.lt, h.e.below hb h.e.lt, ⟨n, fs, h1.keep kk (fun q => q), h2, h3⟩, ⟨D, h4.keep kk (fun q => q) (fun _ _ q => q), h5⟩, h.bz, h.ne, h.zq⟩
theorem le_bytes (a b : List UInt8) : (Op.bytesLess a b || a == b) = decide (a ≤ b) := by
 rw [bytesLess_eq, Bool.eq_iff_iff, Bool.or_eq_true, decide_eq_true_eq, decide_eq_true_eq, beq_iff_eq]
 constructor
 · rintro (h | h)
   · exact List.le_of_lt h
   · subst h; exact List.le_refl _
 · intro h
   rcases pth_tri a b with q | q | q
   · exact .inl q
   · exact .inr q
   · exact absurd q (List.not_lt.2 h)
theorem lastLe_take {l : List FileD} {m : Nat} {g : FileD} (h : l[m]? = some g) (p : Pth) : lastLe (l.take (m + 1)) p = decide (p ≤ g.p) := by
 unfold lastLe
 rw [List.take_add_one, h]
 simp
theorem entsP_len : ∀ {l : List FileD}, (∀ f ∈ l, fileE f = 0) → (entsP l).length ≤ 8 * l.length
 | [], _ => Nat.le_refl _
 | f :: l, h => by
  have h1 := fileE_dirs (h f (List.mem_cons_self ..))
  have ih := entsP_len (l := l) fun g hg => h g (List.mem_cons_of_mem _ hg)
  have e : (entsP (f :: l)).length = (dirsP f.p).length + 1 + (entsP l).length := by
   unfold entsP
   rw [List.flatMap_cons, List.length_append, List.length_map, List.length_append]
   rfl
  rw [e, List.length_cons]
  omega
theorem Ent.noS {w : World} {z be : Nat} {D : List Nat} {l : List (Pth × Pth)} (h : Ent w z be D l) {t : TypeId} {cs : Array Value} {q : Nat} (hq : Blk w q t cs) : ¬ EntS be D q := fun e => by
 rcases e with e | e
 · exact h.noBlk hq e
 · obtain ⟨n', f, r⟩ := h.dm _ e
   exact r.noBlk hq rfl
theorem Ent.noK {w : World} {z be qb : Nat} {D : List Nat} {l : List (Pth × Pth)} (h : Ent w z be D l) {t : TypeId} {cs : Array Value} {q : Nat} (hq : Blk w q t cs) (hb : q ≠ qb) : ¬ CkK qb be D q := fun e => by
 rcases e with e | e | e
 · exact hb e
 · exact h.noBlk hq e
 · obtain ⟨n', f, r⟩ := h.dm _ e
   exact r.noBlk hq rfl
theorem CkK.below {w w' : World} {z qb be : Nat} {D : List Nat} (h : Keep (CkK qb be D) w w') (hz : z ≤ w.heap.size) (h1 : z ≤ qb) (h2 : z ≤ be) (h3 : ∀ d ∈ D, z ≤ d) : Below z w w' :=
 h.below hz fun i hi q => by
  rcases q with q | q | q
  · omega
  · omega
  · have := h3 i q; omega
theorem EntS.below {w w' : World} {z be : Nat} {D : List Nat} (h : Keep (EntS be D) w w') (hz : z ≤ w.heap.size) (h2 : z ≤ be) (h3 : ∀ d ∈ D, z ≤ d) : Below z w w' :=
 h.below hz fun i hi q => by
  rcases q with q | q
  · omega
  · have := h3 i q; omega
theorem CkT.step {w9 w10 w11 : World} {z qs qe qi qb qp bs be n : Nat} {i : Int} {l : List FileD} {f : FileD} {D1 D2 : List Nat} {b : Bool} {fs : Mp} {v : Value} (h : CkS w9 z qs qe qi qb qp bs be i (l.map (·.p)) D1 (entsP l ++ entD (dirsP f.p)) b)
    (h2 : Ent w10 z be D2 (entsP l ++ entD (dirsP f.p) ++ [(parN f.p, lastN f.p)])) (k2 : Keep (EntS be D1) w9 w10) (hd : ∀ d ∈ D2, d ∈ D1 ∨ w9.heap.size ≤ d) (hn : n ≤ l.length) (hs : ∀ t, (fs t).isSome = true ↔ t ∈ l.map (·.p))
    (hv : VM w11 bs (if (fs f.p).isSome then n else n + 1) (mput fs f.p v)) (k3 : Keep (Only bs) w10 w11) (hen : entsP (l ++ [f]) = entsP l ++ entD (dirsP f.p) ++ [(parN f.p, lastN f.p)]) : CkT w11 z qs qe bs be (l ++ [f]) := by
 obtain ⟨n0, fs0, v0, _, _⟩ := h.m
 have hlt := v0.lt
 have hb2 : bs ∉ D2 := fun q => by
  rcases hd bs q with r | r
  · exact h.nd r
  · omega
 have s10 := h.s.keep k2 (h.ent.noS h.s)
 have e10 := h.e.keep k2 (h.ent.noS h.e)
 have v10 : VM w10 bs n0 fs0 := v0.keep k2 fun q => by
  rcases q with q | q
  · exact h.ne q
  · exact h.nd q
 refine ⟨s10.keep k3 (v10.noBlk s10), e10.keep k3 (v10.noBlk e10), ⟨_, _, hv, ?_, fun t => ?_⟩, ⟨D2, ?_, hb2⟩, h.bz, h.ne, ⟨h.zq.1, h.zq.2.1⟩⟩
 · rw [List.length_append, List.length_singleton]
   split <;> omega
 · unfold mput
   by_cases e : t = f.p
   · subst e
     simp
   · rw [if_neg e, hs]
     simp [e]
 · rw [hen]
   exact h2.keep k3 (fun q => h.ne q.symm) (fun d hd' q => hb2 (q ▸ hd'))
def CheckPost (l : List FileD) (w : World) (r : Ending) (w' : World) : Prop := r = .returned (.int .i64 (checkT l : Nat)) ∧ Below w.heap.size w w'
set_option maxHeartbeats 4000000 in
set_option maxRecDepth 100000 in
theorem check_any (l : List FileD) (A : Option Addr) (c B : Nat) (w : World) (hB : B ≤ w.heap.size) (hr : FI w B A l) (hv : VarM w) (hpl : ∀ f ∈ l, f.p.length ≤ 1000000) :
    Calls Tryz.prog 8 #[.slice A l.length c] w (CheckPost l w) := by
 have HP := Lib.hid (show CheckPost l w = fun r w' => r = .returned (.int .i64 (checkT l : Nat)) ∧ Below w.heap.size w w' from rfl)
 rw [HP.out]
 clear HP
 obtain ⟨E, hE⟩ : ∃ E, checkT l = E := ⟨_, rfl⟩
 have HE := Lib.hid (show E = if 1000 < l.length then 4 else if checkL [] l ≠ 0 then checkL [] l else if crowdP l = true then 4 else 0 from by rw [← hE]; rfl)
 rw [hE]
 clear hE
 have HR := Lib.hid (show ∀ W, Below w.heap.size w W → FI W B A l from fun W k => hr.below (k.mono hB))
 have HV := Lib.hid (show ∀ W, Below w.heap.size w W → VarM W from fun W k => hv.below k hv.pos)
 have HPL := Lib.hid hpl
 have HW0 := Lib.hid hv.pos
 clear hr hv hpl
 by_cases hl : 1000 < l.length
 · have HE1 := Lib.hid (show E = 4 from by rw [HE.out, if_pos hl])
   have g0 : decide ((1000 : Int) < (l.length : Int)) = true := decide_eq_true (by omega)
   clear HE
   go_enter Tryz.func8, Tryz.ntmps8
   go_wp2_with fail
   go_ret
   exact ⟨by rw [HE1.out]; rfl, Below.refl _ _⟩
 · have HE1 := Lib.hid (show E = if checkL [] l ≠ 0 then checkL [] l else if crowdP l = true then 4 else 0 from by rw [HE.out, if_neg hl])
   have g0 : decide ((1000 : Int) < (l.length : Int)) = false := decide_eq_false (by omega)
   have hmm := @run_makeMap Tryz.prog
   clear HE
   go_enter Tryz.func8, Tryz.ntmps8
   go_wp2_with fail
   obtain ⟨X0, hX0⟩ : ∃ X0, checkL [] l = X0 := ⟨_, rfl⟩
   rw [hX0] at HE1
   have HX0 := Lib.hid hX0
   clear hX0
   have HT0 := Lib.hid (show CkT ((((w.alloc (.map #[] 0)).alloc (.cells #[.map (some w.heap.size)] 55)).alloc (.map #[] 0)).alloc (.cells #[.map (some (w.heap.size + 1 + 1))] 56)) w.heap.size (w.heap.size + 1) (w.heap.size + 1 + 1 + 1) w.heap.size (w.heap.size + 1 + 1) [] from by
    have v1 : VM (w.alloc (.map #[] 0)) w.heap.size 0 mpNil := VM.made w
    have b1 : Blk ((w.alloc (.map #[] 0)).alloc (.cells #[.map (some w.heap.size)] 55)) (w.heap.size + 1) 55 #[.map (some w.heap.size)] := by
     have := Blk.new (w.alloc (.map #[] 0)) 55 #[.map (some w.heap.size)]
     simpa using this
    have v2 : VM (((w.alloc (.map #[] 0)).alloc (.cells #[.map (some w.heap.size)] 55)).alloc (.map #[] 0)) (w.heap.size + 1 + 1) 0 mpNil := by
     have := VM.made ((w.alloc (.map #[] 0)).alloc (.cells #[.map (some w.heap.size)] 55))
     simpa using this
    have b2 : Blk ((((w.alloc (.map #[] 0)).alloc (.cells #[.map (some w.heap.size)] 55)).alloc (.map #[] 0)).alloc (.cells #[.map (some (w.heap.size + 1 + 1))] 56)) (w.heap.size + 1 + 1 + 1) 56 #[.map (some (w.heap.size + 1 + 1))] := by
     have := Blk.new (((w.alloc (.map #[] 0)).alloc (.cells #[.map (some w.heap.size)] 55)).alloc (.map #[] 0)) 56 #[.map (some (w.heap.size + 1 + 1))]
     simpa using this
    refine ⟨(b1.alloc _).alloc _, b2, ⟨0, mpNil, ((v1.alloc _).alloc _).alloc _, Nat.le_refl _, fun t => by simp [mpNil]⟩, ⟨[], ⟨by omega, by simp, by simp, by simp, 0, mpNil, v2.alloc _, Nat.zero_le _, (fun _ _ _ h => by simp [entsP] at h), (fun _ _ h => by cases h), (fun _ _ _ h => by cases h)⟩, by simp⟩, Nat.le_refl _, by omega, by omega, by omega⟩)
   have HB0 := Lib.hid (show Below w.heap.size w ((((w.alloc (.map #[] 0)).alloc (.cells #[.map (some w.heap.size)] 55)).alloc (.map #[] 0)).alloc (.cells #[.map (some (w.heap.size + 1 + 1))] 56)) from ((((Below.refl w.heap.size w).alloc (by simp) _).alloc (by simp) _).alloc (by simp; omega) _).alloc (by simp; omega) _)
   go_loopw [19] (fun s19 wr => ∃ k : Nat, s19 = .int .i64 (k : Nat) ∧ k ≤ l.length ∧ Hid (CkT wr w.heap.size (w.heap.size + 1) (w.heap.size + 1 + 1 + 1) w.heap.size (w.heap.size + 1 + 1) (l.take k)) ∧ Hid (Below w.heap.size w wr) ∧ Hid (checkL (l.take k) (l.drop k) = X0) ∧ Hid (∀ g ∈ l.take k, fileE g = 0)) (fun s19 _ => l.length - (intOf s19).toNat)
   case atStart => exact ⟨0, rfl, Nat.zero_le _, HT0, HB0, Lib.hid (by rw [List.take_zero, List.drop_zero]; exact HX0.out), Lib.hid (by simp)⟩
   case round =>
    obtain ⟨k, rfl, hk, HT, HB, HX, HFE⟩ := hrel
    by_cases hlt : k < l.length
    · obtain ⟨f, hf⟩ : ∃ f, l[k]? = some f := ⟨_, List.getElem?_eq_getElem hlt⟩
      obtain ⟨g, off, DA, dc, rfl, hg, hload, _, _, _, _⟩ := (HR.out _ HB.out).at_ hf
      have HLD := Lib.hid hload
      have HF := Lib.hid hf
      have i0 : (0 : Int) ≤ (k : Int) := by omega
      have i1 : (k : Int) < (l.length : Int) := by omega
      have HFP := Lib.hid (HPL.out f (List.mem_of_getElem? hf))
      have HCK := Lib.hid (show X0 = if fileE f ≠ 0 then fileE f else if lastLe (l.take k) f.p = true then 18 else if seenP ((l.take k).map (·.p)) (dirsP f.p) = true then 13 else checkL (l.take (k + 1)) (l.drop (k + 1)) from by
       have hdr : l.drop k = f :: l.drop (k + 1) := List.drop_eq_getElem?_toList_append.trans (by rw [hf]; rfl)
       have htk : l.take (k + 1) = l.take k ++ [f] := by rw [List.take_add_one, hf]; rfl
       have hse : seenP ((l.take k).map (·.p)) (dirsP f.p) = (dirsP f.p).any (fun d => (l.take k).any (fun g => g.p == d)) := by
        unfold seenP
        congr 1
        funext d
        rw [Bool.eq_iff_iff, decide_eq_true_eq, List.any_eq_true]
        simp only [List.mem_map, beq_iff_eq]
       rw [← HX.out, hdr, checkL, htk, hse])
      have HEN := Lib.hid (entsP_take hf)
      clear hload hf HX
      have hzr := HB.out.size
      have HBK := Lib.hid (show Blk ((wr.alloc (.cells #[.int .i64 (k : Int)] 3)).alloc (.cells #[.string ⟨#[]⟩, .int .i64 0, .slice none 0 0] 27)) (wr.heap.size + 1) 27 #[.string ⟨#[]⟩, .int .i64 0, .slice none 0 0] from by
       have := Blk.new (wr.alloc (.cells #[.int .i64 (k : Int)] 3)) 27 #[.string ⟨#[]⟩, .int .i64 0, .slice none 0 0]
       simpa using this)
      go_wp2_with (first | (with_reducible refine wpList_load rfl rfl rfl HLD.out ?_) | (refine wpList_storeBlk rfl rfl (vs := fileC f DA dc) rfl rfl HBK.out rfl info_file (fileC_one f DA dc) ?_; intro w5 hx5 hk5 hz5; have HX5 := Lib.hid hx5; have HQ5 := Lib.hid (file_load hx5); have HK5 := Lib.hid (show Keep Nothing (wr.alloc (.cells #[.int .i64 (k : Int)] 3)) w5 from Keep.ofNew (by simpa using hk5)); have HI5 := Lib.hid (show Blk w5 wr.heap.size 3 #[.int .i64 (k : Int)] from (Blk.new wr 3 #[.int .i64 (k : Int)]).keep HK5.out (fun h => h)); have HB5 := Lib.hid (show Below wr.heap.size wr w5 from ((Below.refl _ _).alloc (Nat.le_refl _) _).trans (HK5.out.all.mono (by simp))); have HF5 := Lib.hid (file_any f DA dc w5 HFP.out (HV.out _ (HB.out.trans (HB5.out.mono hzr)))); clear hx5 hk5 hz5) | (with_reducible refine wpList_load rfl rfl rfl HQ5.out ?_) | (go_at_call 20; refine HF5.out.mono ?_))
      rintro _ w6 ⟨rfl, b6⟩
      have HX6 := Lib.hid (HX5.out.below b6 HX5.out.lt)
      have HI6 := Lib.hid (HI5.out.below b6 HI5.out.lt)
      have HB6 := Lib.hid (show Below wr.heap.size wr w6 from HB5.out.trans (b6.mono HB5.out.size))
      clear b6 HX5 HQ5 HK5 HI5 HB5 HF5 HLD
      by_cases hfe : fileE f = 0
      · have HC1 := Lib.hid (show X0 = if lastLe (l.take k) f.p = true then 18 else if seenP ((l.take k).map (·.p)) (dirsP f.p) = true then 13 else checkL (l.take (k + 1)) (l.drop (k + 1)) from by rw [HCK.out, if_neg (fun q => q hfe)])
        have HD7 := Lib.hid (fileE_dirs hfe)
        clear HCK
        rw [hfe]
        have c1 := HI6.out.cell 0
        have c2 := HX6.out.cell 0
        simp [fileC, strC] at c1 c2
        go_upto_if 41 with fail
        go_cut [41] (fun s41 wx => s41 = .bool (lastLe (l.take k) f.p) ∧ ∃ n, wx = w6.drewN n)
        case first =>
         by_cases hk0 : k = 0
         · subst hk0
           go_wp2_with fail
           refine wp_region_still_lit (by kernel_rfl) (by kernel_rfl) ?_
           repeat (first | ((with_reducible refine wpStill_step (fun K hK => ?_)); go_simp; with_reducible refine hK _ ?_; clear hK K) | ((with_reducible refine wpStill_skip ?_ ?_); (focus rfl)))
           (with_reducible refine wpStill_nil ?_)
           change Exit.then _ _ _ _ w6.drew
           go_wp2_with fail
           go_meet
           exact ⟨rfl, 1, rfl⟩
         · obtain ⟨m, rfl⟩ : ∃ m, k = m + 1 := ⟨k - 1, by omega⟩
           obtain ⟨f2, hf2⟩ : ∃ f2, l[m]? = some f2 := ⟨_, List.getElem?_eq_getElem (by omega)⟩
           obtain ⟨g', off', _, _, e, _, _, d0, _⟩ := (HR.out _ (HB.out.trans (HB6.out.mono hzr))).at_ hf2
           injection e with e
           injection e with e1 e2
           subst e1 e2
           unfold strC at d0
           have j0 : (0 : Int) ≤ ((m + 1 : Nat) : Int) - 1 := by omega
           have j1 : ((m + 1 : Nat) : Int) - 1 = (m : Int) := by omega
           have j2 : IntKind.i64.wrap (m : Int) = (m : Int) := IntWalk.i64_in _ (by omega)
           have j3 : (0 : Int) ≤ (m : Int) := by omega
           have j4 : (m : Int) < (l.length : Int) := by omega
           go_wp2_with fail
           refine wp_region_still_lit (by kernel_rfl) (by kernel_rfl) ?_
           repeat (first | ((with_reducible refine wpStill_step (fun K hK => ?_)); go_simp; with_reducible refine hK _ ?_; clear hK K) | ((with_reducible refine wpStill_skip ?_ ?_); (focus rfl)))
           (with_reducible refine wpStill_nil ?_)
           change Exit.then _ _ _ _ w6.drew
           go_wp2_with fail
           go_meet
           exact ⟨by rw [lastLe_take hf2, le_bytes], 1, rfl⟩
        case rest =>
         obtain ⟨rfl, n, hw7⟩ := hcut
         have HT7 := Lib.hid (show CkT wc w.heap.size (w.heap.size + 1) (w.heap.size + 1 + 1 + 1) w.heap.size (w.heap.size + 1 + 1) (l.take k) from by rw [hw7]; exact (HT.out.keepB HB6.out).keepB ((Keep.refl Nothing w6).drewN n).all)
         have HB7 := Lib.hid (show Below wr.heap.size wr wc from by rw [hw7]; exact HB6.out.trans (((Keep.refl Nothing w6).drewN n).all.mono HB6.out.size))
         have HX7 := Lib.hid (show Blk wc (wr.heap.size + 1) 27 (fileC f DA dc) from by rw [hw7]; exact HX6.out.drewN n)
         have HI7 := Lib.hid (show Blk wc wr.heap.size 3 #[.int .i64 (k : Int)] from by rw [hw7]; exact HI6.out.drewN n)
         clear hw7 HX6 HI6 HB6 HT c1 c2
         generalize wc = w7 at *
         cases hle : lastLe (l.take k) f.p with
         | true =>
          have HC2 := Lib.hid (show E = 18 from by rw [HE1.out, HC1.out, if_pos hle, if_pos (by decide)])
          clear hle
          go_wp2_with fail
          go_ret
          exact ⟨by rw [HC2.out]; rfl, HB.out.trans (HB7.out.mono hzr)⟩
         | false =>
          have HC2 := Lib.hid (show X0 = if seenP ((l.take k).map (·.p)) (dirsP f.p) = true then 13 else checkL (l.take (k + 1)) (l.drop (k + 1)) from by rw [HC1.out, hle, if_neg (by decide)])
          clear hle HC1
          have hl1 := HT7.out.s.lt
          have hl2 := HT7.out.e.lt
          have hl3 := HI7.out.lt
          have hl4 := HX7.out.lt
          have HFE2 := Lib.hid (show ∀ g ∈ l.take (k + 1), fileE g = 0 from fun g hg => by
           rw [List.take_add_one, HF.out] at hg
           rcases List.mem_append.1 hg with q | q
           · exact HFE.out g q
           · rw [show g = f by simpa using q]; exact hfe)
          have HEL := Lib.hid (show (entsP (l.take k)).length ≤ 8000 from by
           have := entsP_len HFE.out
           rw [List.length_take] at this
           omega)
          obtain ⟨D, hD, hDb⟩ := HT7.out.ent
          have hzw : w.heap.size ≤ w7.heap.size := Nat.le_trans hzr HB7.out.size
          have HCS := Lib.hid (show CkS ((w7.alloc (.cells #[.bool false] 4)).alloc (.cells #[.func (.func 21) #[] #[.pointer (some ⟨w.heap.size + 1 + 1 + 1, 0, none⟩), .pointer (some ⟨wr.heap.size, 0, none⟩)]] 59)) w.heap.size (w.heap.size + 1) (w.heap.size + 1 + 1 + 1) wr.heap.size w7.heap.size (w7.heap.size + 1) w.heap.size (w.heap.size + 1 + 1) (k : Int) ((l.take k).map (·.p)) D (entsP (l.take k)) false from by
           have kk : Keep Nothing w7 ((w7.alloc (.cells #[.bool false] 4)).alloc (.cells #[.func (.func 21) #[] #[.pointer (some ⟨w.heap.size + 1 + 1 + 1, 0, none⟩), .pointer (some ⟨wr.heap.size, 0, none⟩)]] 59)) := ((Keep.refl Nothing w7).alloc _).alloc _
           obtain ⟨n', fs, m1, m2, m3⟩ := HT7.out.m
           refine ⟨(HT7.out.s.alloc _).alloc _, (HT7.out.e.alloc _).alloc _, (HI7.out.alloc _).alloc _, (Blk.new w7 4 #[.bool false]).alloc _, ?_, ⟨n', fs, m1.keep kk (fun q => q), by rw [List.length_map]; exact m2, m3⟩, hD.keep kk (fun q => q) (fun _ _ q => q), HT7.out.bz, HT7.out.ne, hDb, by omega, by omega⟩
           have := Blk.new (w7.alloc (.cells #[.bool false] 4)) 59 #[.func (.func 21) #[] #[.pointer (some ⟨w.heap.size + 1 + 1 + 1, 0, none⟩), .pointer (some ⟨wr.heap.size, 0, none⟩)]]
           simpa using this)
          have HX8 := Lib.hid (show Blk ((w7.alloc (.cells #[.bool false] 4)).alloc (.cells #[.func (.func 21) #[] #[.pointer (some ⟨w.heap.size + 1 + 1 + 1, 0, none⟩), .pointer (some ⟨wr.heap.size, 0, none⟩)]] 59)) (wr.heap.size + 1) 27 (fileC f DA dc) from (HX7.out.alloc _).alloc _)
          have HB8 := Lib.hid (show Below w.heap.size w ((w7.alloc (.cells #[.bool false] 4)).alloc (.cells #[.func (.func 21) #[] #[.pointer (some ⟨w.heap.size + 1 + 1 + 1, 0, none⟩), .pointer (some ⟨wr.heap.size, 0, none⟩)]] 59)) from ((HB.out.trans (HB7.out.mono hzr)).alloc hzw _).alloc (by simp; omega) _)
          have c2 := HX8.out.cell 0
          simp only [fileC, strC, List.getElem?_toArray, List.getElem?_cons_zero] at c2
          have HAB := Lib.hid (above_any f.p _ _ _ _ _ _ _ _ _ _ _ _ _ _ HFP.out HB8.out.size HCS.out (by have := HEL.out; omega))
          unfold CkPost strC at HAB
          clear HX7 HI7 HB7 HT7 hD
          go_wp2_with (go_at_call 23; refine HAB.out.mono ?_)
          rintro _ w9 ⟨D1, rfl, q1, q2, q3⟩
          simp only [Bool.false_or] at q1
          have HZ8 := Lib.hid HB8.out.size
          have HDZ := Lib.hid HCS.out.ent.dz
          have HS9 := Lib.hid q1
          have HX9 := Lib.hid (HX8.out.keep q2 (HCS.out.ent.noK HX8.out (by omega)))
          have HB9 := Lib.hid (show Below w.heap.size w w9 from HB8.out.trans (CkK.below q2 HZ8.out (by omega) (by omega) HDZ.out))
          clear q1 q2 q3 HCS HX8 HB8 HAB c2 HDZ
          have d1 := HS9.out.b.cell 0
          simp only [List.getElem?_toArray, List.getElem?_cons_zero] at d1
          cases hse : seenP ((l.take k).map (·.p)) (dirsP f.p) with
          | true =>
           have HC3 := Lib.hid (show E = 13 from by rw [HE1.out, HC2.out, if_pos hse, if_pos (by decide)])
           rw [hse] at d1
           clear hse
           go_wp2_with fail
           go_ret
           exact ⟨by rw [HC3.out]; rfl, HB9.out⟩
          | false =>
           have HC3 := Lib.hid (show X0 = checkL (l.take (k + 1)) (l.drop (k + 1)) from by rw [HC2.out, hse, if_neg (by decide)])
           rw [hse] at d1
           clear hse HC2
           have d2 := HS9.out.p.cell 0
           have d3 := HX9.out.cell 0
           simp only [fileC, strC, List.getElem?_toArray, List.getElem?_cons_zero] at d2 d3
           have HPU := Lib.hid (put_any f.p _ _ _ _ _ _ _ _ HFP.out HB9.out.size HS9.out.ent HS9.out.e HS9.out.i (by
            have := HEL.out
            have h7 := HD7.out
            rw [List.length_append, entD, List.length_map]
            omega))
           unfold PutPost strC at HPU
           go_wp2_with (go_at_call 21; refine HPU.out.mono ?_)
           rintro _ w10 ⟨D2, rfl, q1, q2, q3⟩
           obtain ⟨n1, fs, v9, hn9, hs9⟩ := HS9.out.m
           have v10 : VM w10 w.heap.size n1 fs := v9.keep q2 fun q => by
            rcases q with q | q
            · exact HS9.out.ne q
            · exact HS9.out.nd q
           rw [List.length_map, List.length_take] at hn9
           obtain ⟨w11, hst, v11, k11, _⟩ := v10.store (s := f.p) Tryz.underlying55 (by unfold maxLen; omega) (by have := HFP.out; unfold maxLen; omega) (.int .i64 (k : Int))
           have e1 := (HS9.out.s.keep q2 (HS9.out.ent.noS HS9.out.s)).cell 0
           have e2 := (HX9.out.keep q2 (HS9.out.ent.noS HX9.out)).cell 0
           have e3 := (HS9.out.i.keep q2 (HS9.out.ent.noS HS9.out.i)).cell 0
           simp only [fileC, strC, List.getElem?_toArray, List.getElem?_cons_zero] at e1 e2 e3
           have HT11 := Lib.hid (show CkT w11 w.heap.size (w.heap.size + 1) (w.heap.size + 1 + 1 + 1) w.heap.size (w.heap.size + 1 + 1) (l.take (k + 1)) from by
            have htk : l.take (k + 1) = l.take k ++ [f] := by rw [List.take_add_one, HF.out]; rfl
            rw [htk]
            exact CkT.step HS9.out q1 q2 q3 (by rw [List.length_take]; exact hn9) hs9 v11 k11 (by rw [← htk]; exact HEN.out))
           have HB11 := Lib.hid (show Below w.heap.size w w11 from (HB9.out.trans (EntS.below q2 HB9.out.size (by omega) HS9.out.ent.dz)).trans (k11.below (Nat.le_trans HB9.out.size q2.size) (fun j hj q => by unfold Only at q; omega)))
           unfold strC at hst
           clear v9 v10 v11 k11 q1 q2 q3 hs9 HPU d1 d2 d3
           go_wp2_with fail
           go_roundw
           case rel => exact ⟨k + 1, by go_num, hlt, HT11, HB11, Lib.hid HC3.out.symm, HFE2⟩
           case measure => simp [intOf]; omega
      · have HC1 := Lib.hid (show E = fileE f from by
         rw [HE1.out]
         have : X0 = fileE f := by rw [HCK.out, if_pos hfe]
         rw [this, if_pos hfe])
        have g1 : (((fileE f : Nat) : Int) != 0) = true := bne_iff_ne.2 (by omega)
        have HN := Lib.hid hfe
        clear HCK hfe
        go_wp2_with fail
        go_ret
        exact ⟨by rw [HC1.out]; rfl, HB.out.trans (HB6.out.mono hzr)⟩
    · obtain rfl : k = l.length := by omega
      have HC1 := Lib.hid (show E = if crowdP l = true then 4 else 0 from by
       have := HX.out
       rw [List.drop_length, checkL] at this
       rw [HE1.out, ← this, if_neg (fun q => q rfl)])
      rw [List.take_length] at HT HFE
      clear HX
      obtain ⟨D, hD, _⟩ := HT.out.ent
      obtain ⟨n, fE, hv, hn, hno, hyes, hinj⟩ := hD.map
      obtain ⟨w1, hrg, hvr, hk1, hz1⟩ := hv.range Tryz.underlying56
      have c1 := HT.out.e.cell 0
      simp only [List.getElem?_toArray, List.getElem?_cons_zero] at c1
      have HN := Lib.hid hno
      have HVR := Lib.hid hvr
      have HY1 := Lib.hid (show ∀ dir v, fE dir = some v → ∃ bd fd, v = .map (some bd) ∧ bd ≠ wr.heap.size ∧ VM w1 bd (namesOf (entsP l) dir).length fd ∧ ∃ s, (dir, s) ∈ entsP l from fun dir v h => by
       obtain ⟨bd, fd, q1, _, q3, q4, _⟩ := hyes dir v h
       have := q3.lt
       exact ⟨bd, fd, q1, by omega, q3.keep hk1 (fun q => q), q4⟩)
      have HB1 := Lib.hid (show Below w.heap.size w w1 from HB.out.trans (hk1.all.mono HB.out.size))
      have hzr := HB.out.size
      clear hv hno hyes hinj hD hvr hk1 HT
      go_wp2_with fail
      clear hz1 hrg c1
      generalize wr.heap.size = r at *
      go_loopw [] (fun wq => ∃ (left : List UInt8 → Bool) (cnt : Nat), Hid (VR wq (w.heap.size + 1 + 1) r n fE left cnt) ∧ Hid (∀ s, left s = false → (fE s).isSome = true → (namesOf (entsP l) s).length ≤ 512) ∧ Hid (∀ dir v, fE dir = some v → ∃ bd fd, v = .map (some bd) ∧ bd ≠ r ∧ VM wq bd (namesOf (entsP l) dir).length fd ∧ ∃ s, (dir, s) ∈ entsP l) ∧ Hid (Below w.heap.size w wq)) (fun wq => wq.rangeLeft (w.heap.size + 1 + 1) r)
      case atStart => exact ⟨_, n, HVR, Lib.hid (fun s h1 h2 => by rw [h1] at h2; cases h2), HY1, HB1⟩
      case round =>
       obtain ⟨left, cnt, HVQ, HLE, HYQ, HBQ⟩ := hrel
       have hml := HVQ.out.left_eq
       rcases HVQ.out.next 0 with ⟨_, q2, hnx⟩ | ⟨s, v, w2, cnt', q1, q2, hnx, q4, q5, q6, q7, hent⟩
       · have HC2 := Lib.hid (show E = 0 from by
          have : crowdP l = false := by
           rw [Bool.eq_false_iff]
           intro hq
           unfold crowdP at hq
           rw [List.any_eq_true] at hq
           obtain ⟨⟨d, x⟩, hm, hq⟩ := hq
           rw [decide_eq_true_eq] at hq
           cases hf : fE d with
           | none => exact HN.out d hf x hm
           | some v =>
            have := HLE.out d (q2 d) (by rw [hf]; rfl)
            simp only at hq
            omega
          rw [HC1.out, this, if_neg (by decide)])
         clear q2 hml
         go_wp2_with fail
         go_ret
         exact ⟨by rw [HC2.out]; rfl, HBQ.out⟩
       · obtain ⟨bd, fd, rfl, hbr, hvb, x, hx⟩ := HYQ.out s v q2
         have hvb2 : VM w2 bd (namesOf (entsP l) s).length fd := hvb.keep q6 hbr
         have hlen := hvb2.len Tryz.underlying55 3
         have HX := Lib.hid hx
         have HQ4 := Lib.hid q4
         have HQ2 := Lib.hid q2
         have HBQ2 := Lib.hid (show Below w.heap.size w w2 from HBQ.out.trans (q6.below HBQ.out.size (fun j hj q => by unfold Only at q; omega)))
         have HYQ2 := Lib.hid (show ∀ dir v, fE dir = some v → ∃ bd fd, v = .map (some bd) ∧ bd ≠ r ∧ VM w2 bd (namesOf (entsP l) dir).length fd ∧ ∃ s, (dir, s) ∈ entsP l from fun dir v h => by
          obtain ⟨bd, fd, r1, r2, r3, r4⟩ := HYQ.out dir v h
          exact ⟨bd, fd, r1, r2, r3.keep q6 r2, r4⟩)
         have hml2 := q4.left_eq
         have HM := Lib.hid (show w2.rangeLeft (w.heap.size + 1 + 1) r < wr.rangeLeft (w.heap.size + 1 + 1) r from by rw [hml, hml2]; exact q5)
         unfold strC at hnx hent
         clear hml hml2 q2 q4 q5 q6 q7 hvb hvb2 hx
         by_cases hg : 512 < (namesOf (entsP l) s).length
         · have HC2 := Lib.hid (show E = 4 from by
            have : crowdP l = true := by
             unfold crowdP
             rw [List.any_eq_true]
             exact ⟨(s, x), HX.out, by rw [decide_eq_true_eq]; exact hg⟩
            rw [HC1.out, this, if_pos rfl])
           have g1 : decide ((512 : Int) < ((namesOf (entsP l) s).length : Int)) = true := decide_eq_true (by omega)
           go_wp2_with fail
           go_ret
           exact ⟨by rw [HC2.out]; rfl, HBQ2.out⟩
         · have g1 : decide ((512 : Int) < ((namesOf (entsP l) s).length : Int)) = false := decide_eq_false (by omega)
           go_wp2_with fail
           go_roundw
           case rel =>
            refine ⟨_, cnt', HQ4, Lib.hid (fun t h1 h2 => ?_), HYQ2, HBQ2⟩
            by_cases e : t = s
            · rw [e]; omega
            · exact HLE.out t (by simpa [e] using h1) h2
           case measure => exact HM.out
end Go.Proofs.YtbaapjlmpmpocaaGreatDoor
namespace Go.Proofs.YtbaapjlmpmpocaaGreatDoor
open Go.RowKit
theorem ext_seg (p : Pth) (a b : Nat) : (⟨p.toArray⟩ : ByteArray).extract a b = ⟨((p.drop a).take (b - a)).toArray⟩ := by
 apply ByteArray.ext
 rw [ByteArray.data_extract]
 apply Array.ext'
 rw [Array.toList_extract, List.extract_eq_take_drop]
def rnP (p : Pth) : List Pth := if (nmP p).all nameOk = true ∧ (nmP p).length ≤ 8 then nmP p else []
theorem nmP_ne (p : Pth) : 0 < (nmP p).length := by
 unfold nmP
 have : ∀ (b cur : Pth), 0 < (nmFrom cur b).length := fun b => by
  induction b with
  | nil => intro cur; simp [nmFrom]
  | cons x b ih =>
   intro cur
   unfold nmFrom
   split
   · simp
   · exact ih _
 exact this p []
theorem rnP_zero (p : Pth) : (rnP p).length = 0 ↔ (8 < (nmP p).length ∨ (nmP p).any (fun s => !nameOk s) = true) := by
 have h0 := nmP_ne p
 have e : (nmP p).any (fun s => !nameOk s) = !(nmP p).all nameOk := by
  rw [List.all_eq_not_any_not, Bool.not_not]
 rw [e]
 unfold rnP
 by_cases h : (nmP p).all nameOk = true ∧ (nmP p).length ≤ 8
 · rw [if_pos h, h.1]
   simp only [Bool.not_true, Bool.false_eq_true, or_false]
   omega
 · rw [if_neg h]
   simp only [List.length_nil, true_iff]
   by_cases q : (nmP p).all nameOk = true
   · exact .inl (Nat.lt_of_not_le fun r => h ⟨q, r⟩)
   · exact .inr (by simpa using q)
structure NmAt (p : Pth) (i from_ : Nat) (done : List Pth) : Prop where
 le : from_ ≤ i
 hi : i ≤ p.length
 ok : done.all nameOk = true
 len : done.length ≤ from_
 eq : nmP p = done ++ nmFrom ((p.drop from_).take (i - from_)) (p.drop i)
theorem NmAt.start (p : Pth) : NmAt p 0 0 [] := ⟨Nat.le_refl _, Nat.zero_le _, rfl, Nat.le_refl _, by simp [nmP]⟩
theorem NmAt.next {p : Pth} {i f : Nat} {done : List Pth} (h : NmAt p i f done) {x : UInt8} (hx : p[i]? = some x) (hn : x ≠ 47) : NmAt p (i + 1) f done := by
 have hi : i < p.length := (List.getElem?_eq_some_iff.1 hx).1
 refine ⟨by have := h.le; omega, hi, h.ok, h.len, ?_⟩
 rw [h.eq]
 have hd : p.drop i = x :: p.drop (i + 1) := by rw [List.drop_eq_getElem?_toList_append, hx]; rfl
 rw [hd, nmFrom, if_neg hn]
 have := h.le
 rw [show i + 1 - f = (i - f) + 1 from by omega, List.take_add_one, List.getElem?_drop, show f + (i - f) = i from by omega, hx]
 rfl
theorem NmAt.name {p : Pth} {i f : Nat} {done : List Pth} (h : NmAt p i f done) (hs : i = p.length ∨ p[i]? = some 47) (hq : nameOk ((p.drop f).take (i - f)) = false) : rnP p = [] := by
 have hm : (p.drop f).take (i - f) ∈ nmP p := by
  rw [h.eq]
  refine List.mem_append.2 (.inr ?_)
  rcases hs with hs | hs
  · rw [hs, List.drop_length, nmFrom]
    simp
  · have hd : p.drop i = 47 :: p.drop (i + 1) := by rw [List.drop_eq_getElem?_toList_append, hs]; rfl
    rw [hd, nmFrom, if_pos rfl]
    simp
 unfold rnP
 rw [if_neg]
 intro q
 have := List.all_eq_true.1 q.1 _ hm
 rw [hq] at this
 cases this
theorem NmAt.slash {p : Pth} {i f : Nat} {done : List Pth} (h : NmAt p i f done) (hs : p[i]? = some 47) (hq : nameOk ((p.drop f).take (i - f)) = true) : NmAt p (i + 1) (i + 1) (done ++ [(p.drop f).take (i - f)]) := by
 have hi : i < p.length := (List.getElem?_eq_some_iff.1 hs).1
 have hd : p.drop i = 47 :: p.drop (i + 1) := by rw [List.drop_eq_getElem?_toList_append, hs]; rfl
 refine ⟨Nat.le_refl _, hi, by rw [List.all_append, h.ok]; simp [hq], ?_, ?_⟩
 · have := h.len
   have := h.le
   rw [List.length_append, List.length_singleton]
   omega
 · rw [h.eq, hd, nmFrom, if_pos rfl]
   simp
theorem NmAt.end_ {p : Pth} {f : Nat} {done : List Pth} (h : NmAt p p.length f done) (hq : nameOk ((p.drop f).take (p.length - f)) = true) : nmP p = done ++ [(p.drop f).take (p.length - f)] ∧ (done ++ [(p.drop f).take (p.length - f)]).all nameOk = true := by
 refine ⟨?_, by rw [List.all_append, h.ok]; simp [hq]⟩
 have := h.eq
 rw [List.drop_length, nmFrom] at this
 exact this
set_option maxHeartbeats 4000000 in
set_option maxRecDepth 100000 in
theorem rnames_any (p : Pth) (w : World) (hp : p.length ≤ 100000000) :
    Calls Tryz.prog 47 #[strC p] w fun e w' => ∃ A c, e = .returned (.slice A (rnP p).length c) ∧ Own w' w.heap.size 9 1 A (rnP p).length c (strL (rnP p)) ∧ Below w.heap.size w w' := by
 have hsz : (⟨p.toArray⟩ : ByteArray).size = p.length := by simp [ByteArray.size]
 have HN := Lib.hid (fun (s : Pth) W => show Calls Tryz.prog 68 #[.string ⟨s.toArray⟩] W (fun e w' => e = .returned (.bool (nameOk s)) ∧ Below W.heap.size W w') from rname_any ⟨s.toArray⟩ W)
 unfold strC
 obtain ⟨R, hR⟩ : ∃ R, rnP p = R := ⟨_, rfl⟩
 rw [hR]
 have HR := Lib.hid hR
 clear hR
 obtain ⟨z, hz⟩ : ∃ z, w.heap.size = z := ⟨_, rfl⟩
 rw [hz]
 have HZ := Lib.hid hz
 go_enter Tryz.func47, Tryz.ntmps47
 go_wp2_with fail
 go_loopw [3, 4, 5] (fun s3 s4 s5 wr => ∃ (A : Option Addr) (c f i : Nat) (done : List Pth), s3 = .slice A done.length c ∧ s4 = .int .i64 (f : Nat) ∧ s5 = .int .i64 (i : Nat) ∧ i ≤ p.length + 1 ∧ f ≤ i ∧ done.length ≤ f ∧ Hid (i ≤ p.length → NmAt p i f done) ∧ Hid (i = p.length + 1 → nmP p = done ∧ done.all nameOk = true) ∧ Hid (Own wr z 9 1 A done.length c (strL done)) ∧ Hid (Below z w wr)) (fun _ _ s5 _ => p.length + 1 - (intOf s5).toNat)
 case atStart => exact ⟨none, 0, 0, 0, [], rfl, rfl, rfl, Nat.zero_le _, Nat.le_refl _, Nat.le_refl _, Lib.hid fun _ => NmAt.start p, Lib.hid fun q => by omega, Lib.hid (Own.nil _ _ _ _), Lib.hid (Below.refl _ _)⟩
 case round =>
  obtain ⟨A, c, f, i, done, rfl, rfl, rfl, hi, hfi, hdf, HA, HE, HO, HB⟩ := hrel
  by_cases hlt : i ≤ p.length
  · have HQ := Lib.hid (HA.out hlt)
    have hE := ext_seg p f i
    have i0 : (0 : Int) ≤ (i : Int) := by omega
    have f0 : (0 : Int) ≤ (f : Int) := by omega
    have fi : (f : Int) ≤ (i : Int) := by omega
    have ip : (i : Int) ≤ (p.length : Int) := by omega
    have HNM := Lib.hid (HN.out ((p.drop f).take (i - f)) wr)
    have HST := Lib.hid (show ∀ (b : Bool), nameOk ((p.drop f).take (i - f)) = b → nameOk ((p.drop f).take (i - f)) = b from fun _ h => h)
    have hsl : ((p.drop f).take (i - f)).length ≤ p.length := by rw [List.length_take, List.length_drop]; omega
    obtain ⟨bn, hbn⟩ : ∃ bn, nameOk ((p.drop f).take (i - f)) = bn := ⟨_, rfl⟩
    rw [hbn] at HNM
    have HBN := Lib.hid hbn
    clear hbn HST
    have key : ∀ (hs : i = p.length ∨ p[i]? = some 47), bn = false → R = [] := fun hs e => by
     rw [← HR.out]
     exact HQ.out.name hs (by rw [HBN.out, e])
    have HK := Lib.hid key
    clear key
    by_cases hil : i = p.length
    · subst hil
      cases bn with
      | false =>
       have hR := HK.out (.inl rfl) rfl
       subst hR
       go_wp2_with (go_at_call 68; refine HNM.out.mono ?_; rintro _ w2 ⟨rfl, hb2⟩; have HO2 := Lib.hid (HO.out.kept (Kept.ofBelow (base := 0) (E := []) (G := []) hb2) (by simp) (by simp)); have HB2 := Lib.hid (show Below z w w2 from HB.out.trans (hb2.mono (by rw [← HZ.out]; exact HZ.out ▸ HB.out.size))); have hz2 : z ≤ w2.heap.size := (by have := HB2.out.size; rw [HZ.out] at this; exact this); clear hb2)
       go_ret
       exact ⟨none, 0, rfl, Own.nil _ _ _ _, HB2.out⟩
      | true =>
       go_wp2_with (first | (go_at_call 68; refine HNM.out.mono ?_; rintro _ w2 ⟨rfl, hb2⟩; have HO2 := Lib.hid (HO.out.kept (Kept.ofBelow (base := 0) (E := []) (G := []) hb2) (by simp) (by simp)); have HB2 := Lib.hid (show Below z w w2 from HB.out.trans (hb2.mono (by rw [← HZ.out]; exact HZ.out ▸ HB.out.size))); have hz2 : z ≤ w2.heap.size := (by have := HB2.out.size; rw [HZ.out] at this; exact this); clear hb2) | (at_builtin; refine wpList_append_sl rfl elemStr rfl rfl (n := done.length) (xs := strL done) (HO2.out.alloc _) rfl (Reads.of_blk (n := 1) (size := 1) (xs := strL [(p.drop f).take (p.length - f)]) (heap_alloc_new _ _) rfl rfl) (strL_one [(p.drop f).take (p.length - f)]) (by unfold maxLen; omega) (by omega) (by simp; omega) ?_; intro A5 c5 w5 o5 k5; have O5 := Lib.hid o5; have HB5 := Lib.hid (HB2.out.trans ((((Kept.refl _ _ _ _).alloc _).trans k5).below (Nat.le_refl _) hz2 (by simp))); clear o5 k5))
       have HO5 := Lib.hid (show Own w5 z 9 1 A5 (done ++ [(p.drop f).take (p.length - f)]).length c5 (strL (done ++ [(p.drop f).take (p.length - f)])) from by
        rw [List.length_append, strL, List.map_append]
        exact O5.out)
       go_roundw
       case rel => exact ⟨A5, c5, p.length + 1, p.length + 1, done ++ [(p.drop f).take (p.length - f)], by simp, by go_num, by go_num, Nat.le_refl _, Nat.le_refl _, by rw [List.length_append, List.length_singleton]; omega, Lib.hid fun q => by omega, Lib.hid fun _ => HQ.out.end_ HBN.out, HO5, HB5⟩
       case measure => simp [intOf]
    · have hil2 : i < p.length := by omega
      obtain ⟨x, hx⟩ : ∃ x, p[i]? = some x := ⟨_, List.getElem?_eq_getElem hil2⟩
      have i1 : (i : Int) < (p.length : Int) := by omega
      have hne : ((i : Int) == (p.length : Int)) = false := beq_eq_false_iff_ne.2 fun e => hil (by omega)
      have hx1 : p[i] = x := by
       have := List.getElem?_eq_getElem hil2
       rw [hx] at this
       exact (Option.some.inj this).symm
      have hb : ((⟨p.toArray⟩ : ByteArray)[i]'(by rw [hsz]; exact hil2)) = x := hx1
      have HX := Lib.hid hx
      clear hx hx1
      by_cases hx : x = 47
      · subst hx
        cases bn with
        | false =>
         have hR := HK.out (.inr HX.out) rfl
         subst hR
         go_wp2_with (go_at_call 68; refine HNM.out.mono ?_; rintro _ w2 ⟨rfl, hb2⟩; have HO2 := Lib.hid (HO.out.kept (Kept.ofBelow (base := 0) (E := []) (G := []) hb2) (by simp) (by simp)); have HB2 := Lib.hid (show Below z w w2 from HB.out.trans (hb2.mono (by rw [← HZ.out]; exact HZ.out ▸ HB.out.size))); have hz2 : z ≤ w2.heap.size := (by have := HB2.out.size; rw [HZ.out] at this; exact this); clear hb2)
         go_ret
         exact ⟨none, 0, rfl, Own.nil _ _ _ _, HB2.out⟩
        | true =>
         go_wp2_with (first | (go_at_call 68; refine HNM.out.mono ?_; rintro _ w2 ⟨rfl, hb2⟩; have HO2 := Lib.hid (HO.out.kept (Kept.ofBelow (base := 0) (E := []) (G := []) hb2) (by simp) (by simp)); have HB2 := Lib.hid (show Below z w w2 from HB.out.trans (hb2.mono (by rw [← HZ.out]; exact HZ.out ▸ HB.out.size))); have hz2 : z ≤ w2.heap.size := (by have := HB2.out.size; rw [HZ.out] at this; exact this); clear hb2) | (at_builtin; refine wpList_append_sl rfl elemStr rfl rfl (n := done.length) (xs := strL done) (HO2.out.alloc _) rfl (Reads.of_blk (n := 1) (size := 1) (xs := strL [(p.drop f).take (i - f)]) (heap_alloc_new _ _) rfl rfl) (strL_one [(p.drop f).take (i - f)]) (by unfold maxLen; omega) (by omega) (by simp; omega) ?_; intro A5 c5 w5 o5 k5; have O5 := Lib.hid o5; have HB5 := Lib.hid (HB2.out.trans ((((Kept.refl _ _ _ _).alloc _).trans k5).below (Nat.le_refl _) hz2 (by simp))); clear o5 k5))
         have HO5 := Lib.hid (show Own w5 z 9 1 A5 (done ++ [(p.drop f).take (i - f)]).length c5 (strL (done ++ [(p.drop f).take (i - f)])) from by
          rw [List.length_append, strL, List.map_append]
          exact O5.out)
         go_roundw
         case rel => exact ⟨A5, c5, i + 1, i + 1, done ++ [(p.drop f).take (i - f)], by simp, by go_num, by go_num, by omega, Nat.le_refl _, by rw [List.length_append, List.length_singleton]; omega, Lib.hid fun _ => HQ.out.slash HX.out HBN.out, Lib.hid fun q => by omega, HO5, HB5⟩
         case measure => simp [intOf]; omega
      · have hne2 : ((x.toNat : Int) == 47) = false := beq_eq_false_iff_ne.2 fun e => hx (by apply UInt8.toNat_inj.1; show x.toNat = 47; omega)
        go_wp2_with fail
        go_roundw
        case rel => exact ⟨A, c, f, i + 1, done, rfl, rfl, by go_num, by omega, by omega, hdf, Lib.hid fun _ => HQ.out.next HX.out hx, Lib.hid fun q => by omega, HO, HB⟩
        case measure => simp [intOf]; omega
  · obtain rfl : i = p.length + 1 := by omega
    obtain ⟨e1, e2⟩ := HE.out rfl
    have hgt : ¬ ((p.length : Int) + 1 ≤ (p.length : Int)) := by omega
    by_cases h8 : 8 < done.length
    · have hR : R = [] := by rw [← HR.out]; unfold rnP; rw [if_neg]; intro q; rw [e1] at q; omega
      subst hR
      have h8' : (8 : Int) < (done.length : Int) := by omega
      go_wp2_with fail
      go_ret
      exact ⟨none, 0, rfl, Own.nil _ _ _ _, HB.out⟩
    · have hR : done = R := by rw [← HR.out]; unfold rnP; rw [if_pos ⟨by rw [e1]; exact e2, by rw [e1]; omega⟩, e1]
      subst hR
      have h8' : ¬ ((8 : Int) < (done.length : Int)) := by omega
      go_wp2_with fail
      go_ret
      exact ⟨A, c, rfl, HO.out, HB.out⟩
end Go.Proofs.YtbaapjlmpmpocaaGreatDoor
