/- Contract of the merger's both. No statement of the seat is proved here. -/
import Derived.Test.YteeeehfnldkjlaaGreatDoorTC20
import Derived.BigRegion
import Derived.BigQuiet
import Derived.Deep.DeepCutAuto
import Derived.Test.YteeeehfnldkjlaaGreatDoorTCMi
import Derived.Deep.CutBlock
namespace Go.Proofs.YteeeehfnldkjlaaGreatDoor
open Go.RowKit Go.Maps
def StayK (w w' : World) (mb : Nat) (A A' : Option Addr) : Prop := ∀ p, p < w.heap.size → p ≠ mb → (∀ a, A = some a → a.block ≠ p) → w'.heap[p]? = w.heap[p]? ∧ ∀ a, A' = some a → a.block ≠ p
theorem notB_of {A : Option Addr} {n c p : Nat} (h : ∀ a, A = some a → a.block ≠ p) : NotB A n c p := by
 intro q
 rcases A with _ | b
 · cases q
 · injection q with q
   exact h b rfl q
theorem of_notB {A : Option Addr} {n c p : Nat} (h : NotB A n c p) : ∀ a, A = some a → a.block ≠ p := by
 rintro a rfl q
 exact h (by rw [← q]; rfl)
theorem MG.stayed {w w4 : World} {z mb so st cb : Nat} {A A4 : Option Addr} {c n c4 : Nat} {f : Mc} {s : MSt} {ds : List FT} {y : FT} (hm : MG w z mb so st cb A c n f s) (h1 : ds.map (·.1) = s.t) (h3 : ∀ x ∈ ds, DataK w z x) (hy : DataK w z y)
    (o4 : Own w4 z 41 3 A4 (s.t.length + 1) c4 (ds.flatMap ftL ++ ftL y)) (k4 : Kept z [41] [] w w4) :
    w4.cell? ⟨mb, 2, none⟩ = some (.slice A s.t.length c) ∧ w4.frozen? ⟨mb, 2, none⟩ = false ∧ MG (w4.setCell ⟨mb, 2, none⟩ (.slice A4 (s.t.length + 1) c4)) z mb so st cb A4 c4 n f { s with t := s.t ++ [y.1] } ∧ Frm z mb cb w (w4.setCell ⟨mb, 2, none⟩ (.slice A4 (s.t.length + 1) c4)) := by
 have hb4 := k4.blk hm.blk (by simp) (by decide)
 have hk : Kept z [41] [mb, cb] w (w4.setCell ⟨mb, 2, none⟩ (.slice A4 (s.t.length + 1) c4)) := (Kept.mono k4 (Nat.le_refl _) (by simp) (by simp)).setCell (p := ⟨mb, 2, none⟩) (.inl (by simp)) _
 have hd : ∀ x, DataK w z x → DataK (w4.setCell ⟨mb, 2, none⟩ (.slice A4 (s.t.length + 1) c4)) z x := fun x hx => hx.mg hm hk
 have hset := hb4.set_ 2 (.slice A4 (s.t.length + 1) c4)
 refine ⟨(hb4.cell 2).trans rfl, hb4.frozen 2, ⟨?_, by have := k4.size; have := hm.zs; simp [World.setCell]; omega, hm.zm, hm.zc, ?_, ?_, hm.cl⟩, hk⟩
 · rw [List.length_append, List.length_singleton]
   simpa [mgC] using hset
 · refine FM.snoc h1 (fun x hx => hd x (h3 x hx)) (hd y hy) ?_
   exact Own.setCell (p := ⟨mb, 2, none⟩) o4 hb4 (by decide) _
 · refine (VC.keep (S := Tch z [41] [] w) hm.map k4 (fun t => ?_)).setCell (p := ⟨mb, 2, none⟩) (fun e => ?_) _
   · rcases t with t | ⟨_, e, _, cs, fz, hc⟩
     · cases t
     · obtain ⟨D, ⟨es, clock, q1, _⟩, _⟩ := hm.map
       rw [q1] at hc
       cases hc
   · obtain ⟨D, ⟨es, clock, q1, _⟩, _⟩ := hm.map
     have e : cb = mb := e
     have hb := hm.blk
     unfold Blk at hb
     rw [← e, q1] at hb
     cases hb
theorem run_store_strC {P : Program} (w : World) (a : Addr) (m : Mode) (p : Pth) : (store a (strC p) m).run P w = stored P w a (strC p) m := run_store P w a _ m rfl
def SlB (n : Nat) (ps : Array (Nat × Value)) : Sem Value := Instr.buildSlice 22 n ps
theorem sl_b (n : Nat) (ps : Array (Nat × Value)) : Instr.buildSlice 22 n ps = SlB n ps := rfl
attribute [local go_sem] run_store_strC
attribute [local go_sem ↓] ld_f sl_b
set_option maxHeartbeats 4000000 in
set_option maxRecDepth 100000 in
theorem stay_any (z mb so st cb : Nat) (A : Option Addr) (c n : Nat) (f : Mc) (s : MSt) (p : Pth) (x : FT) (w : World) (hm : MG w z mb so st cb A c n f s) (hx : DataK w z x) (hl : s.t.length ≤ 1000000) :
    Calls Tryz.prog 70 #[.pointer (some ⟨mb, 0, none⟩), strC p, .agg (fileC x.1 x.2.1 x.2.2)] w fun e w' => e = .returned (.tuple #[]) ∧ (∃ A' c', MG w' z mb so st cb A' c' n f (s.stay p x.1) ∧ StayK w w' mb A A') ∧ Frm z mb cb w w' := by
 have HX := Lib.hid (And.intro (Blk.new w 41 (fileC x.1 x.2.1 x.2.2)) ((Below.refl w.heap.size w).alloc (Nat.le_refl _) (.cells (fileC x.1 x.2.1 x.2.2) 41)))
 have HM := Lib.hid hm
 have HD := Lib.hid hx
 have HS := Lib.hid (show s.stay p x.1 = { s with t := s.t ++ [{ x.1 with p := p }] } from rfl)
 clear hm hx
 obtain ⟨q, hq⟩ : ∃ q, w.heap.size = q := ⟨_, rfl⟩
 have HQ := Lib.hid hq
 go_enter Tryz.func70, Tryz.ntmps70
 go_upto_region 1 with (refine wpList_boxed rfl rfl (cs := fileC x.1 x.2.1 x.2.2) rfl ?_)
 generalize w.alloc (.cells (fileC x.1 x.2.1 x.2.2) 41) = w1 at *
 have c0 := (HX.out.1.cell 0).trans (show (fileC x.1 x.2.1 x.2.2)[0]? = some (strC x.1.p) from rfl)
 have f0 := HX.out.1.frozen 0
 rw [hq] at c0 f0
 simp only [hq]
 have HX2 := Lib.hid (show Blk (w1.setCell ⟨q, 0, none⟩ (strC p)) q 41 (fileC { x.1 with p := p } x.2.1 x.2.2) from hq ▸ HX.out.1.set_ 0 (strC p))
 have HB2 := Lib.hid (show Below w.heap.size w (w1.setCell ⟨q, 0, none⟩ (strC p)) from HX.out.2.setCell (p := ⟨q, 0, none⟩) (by rw [hq]; exact Nat.le_refl _) _)
 clear HX
 go_upto_region 2 with fail
 generalize w1.setCell ⟨q, 0, none⟩ (strC p) = w2 at *
 have HB3 := Lib.hid (show Below w.heap.size w w2.drew from HB2.out.trans ((Below.refl _ w2).drew.mono HB2.out.size))
 have HM2 := Lib.hid (HM.out.keepB HB3.out)
 have HD2 := Lib.hid (show DataK w2.drew z ({ x.1 with p := p }, x.2) from by
  have h9 : DataK w2.drew z x := HD.out.keepB HB3.out HM.out.zs
  exact h9)
 have hl1 : (LdF (.pointer (some ⟨q, 0, none⟩))).run Tryz.prog w2.drew = .ok (.agg (fileC { x.1 with p := p } x.2.1 x.2.2)) w2.drew := file_load (show Blk w2.drew q 41 _ from HX2.out)
 have d2 : w2.drew.cell? ⟨mb, 2, none⟩ = some (.slice A s.t.length c) := (HM2.out.blk.cell 2).trans rfl
 clear hq c0 f0
 obtain ⟨ds, h1, h2, h3⟩ := HM2.out.things
 have H1 := Lib.hid h1
 have H2 := Lib.hid h2
 have H3 := Lib.hid h3
 have HL := Lib.hid (show s.t.length + 1 ≤ maxLen ∧ (s.t.length + 1) * 48 ≤ 140737488355328 from by unfold maxLen; omega)
 clear h1 h2 h3
 have d3 : ∀ o, (w2.alloc o).cell? ⟨mb, 2, none⟩ = some (.slice A s.t.length c) := fun o => (World.cell?_alloc_lt w2 o ⟨mb, 2, none⟩ HM2.out.blk.lt).trans d2
 have hbs : ∀ W, (SlB 1 #[(0, .agg (fileC { x.1 with p := p } x.2.1 x.2.2))]).run Tryz.prog W = .ok (.slice (some ⟨W.heap.size, 0, none⟩) 1 1) (W.alloc (.cells (fileC { x.1 with p := p } x.2.1 x.2.2) 41)) := fun W => run_buildSlice1 elemFile zero_file rfl rfl (by omega) W
 go_region_law (first
  | (refine step_append_slf (by rfl) elemFile (by rfl) (by rfl) (n := s.t.length) (xs := ds.flatMap ftL) (Own.alloc H2.out _) (m := 1) (by omega) (by rfl) (Reads.of_blk (n := 1) (xs := ftL ({ x.1 with p := p }, x.2)) (heap_alloc_new _ _) rfl rfl) (ftL_one _) HL.out.1 HL.out.2 (by have := HM2.out.zs; simp at this ⊢; omega) ?_; intro A4 c4 w4 o4 k4 n4; obtain ⟨e1, e2, e3, e4⟩ := HM2.out.stayed (y := ({ x.1 with p := p }, x.2)) H1.out H3.out HD2.out o4 (((Kept.refl _ _ _ _).alloc _).trans k4); have HE3 := Lib.hid e3; have HE4 := Lib.hid e4; have HE5 := Lib.hid (show StayK w (w4.setCell ⟨mb, 2, none⟩ (.slice A4 (s.t.length + 1) c4)) mb A A4 from fun r hr hm9 ha => by
      have hr2 : r < w2.drew.heap.size := Nat.lt_of_lt_of_le hr HB3.out.size
      obtain ⟨m1, m2⟩ := n4 r (by simp at hr2 ⊢; omega) (notB_of ha)
      refine ⟨?_, of_notB m2⟩
      rw [Below.heap_setCell _ _ _ _ (by simpa using hm9), m1]
      exact (Below.heap_alloc w2.drew _ _ hr2).trans (HB3.out.block r hr)); clear e3 e4 o4 k4 n4))
 all_goals
  go_wp2_with fail
  first | refine bodyPost_end (results_none rfl _ _ _) rfl ?_ | refine bodyPost_ret (results_none rfl _ _ _) rfl ?_
  exact ⟨rfl, ⟨A4, ⟨c4, by rw [HS.out]; exact HE3.out⟩, HE5.out⟩, (Kept.mono (Kept.ofBelow (E := []) (base := w.heap.size) (G := []) HB3.out) HM.out.zs (by simp) (by simp)).trans HE4.out⟩
theorem MG.clashed {w w4 : World} {z mb so st cb : Nat} {A : Option Addr} {c n n' : Nat} {f : Mc} {s : MSt} {x : ClashD} {k : CK} {v : Value} (hm : MG w z mb so st cb A c n f s) (hk : k.1 = (x.p, (x.why : Int))) (hv : VC w4 cb n' (cput f k v)) (kk : Keep (Only cb) w w4) : MG w4 z mb so st cb A c n' (cput f k v) { s with c := s.c ++ [x] } ∧ Kept z [] [mb, cb] w w4 := by
 have hf : Kept z [] [mb, cb] w w4 := Kept.ofKeep kk (fun i _ q => by unfold Only at q; subst q; simp)
 have hne : mb ≠ cb := by
  rintro rfl
  obtain ⟨D, ⟨es, clock, q1, _⟩, _⟩ := hm.map
  have hb := hm.blk
  unfold Blk at hb
  rw [q1] at hb
  cases hb
 have hk0 : Kept z [] [cb] w w4 := Kept.ofKeep kk (fun i _ q => by unfold Only at q; subst q; simp)
 have hnr : ∀ e, NoRow w [cb] e := fun e g hg cs fz hc => by
  rw [List.mem_singleton] at hg
  subst hg
  obtain ⟨D, ⟨es, clock, q1, _⟩, _⟩ := hm.map
  rw [q1] at hc
  cases hc
 exact ⟨⟨hm.blk.keep kk (by unfold Only; exact hne), Nat.le_trans hm.zs kk.size, hm.zm, hm.zc, hm.things.frm hk0 hm.zs (by intro g hg; rw [List.mem_singleton] at hg; subst hg; exact hm.zc) (by simp) (hnr _) (by simp) (hnr _), hv, hm.cl.put x k hk v⟩, hf⟩
def BdK (ps : Array (Nat × Value)) : Sem Value := Instr.build 44 ps
theorem bd_k (ps : Array (Nat × Value)) : Instr.build 44 ps = BdK ps := rfl
theorem build_clash (p : Pth) (k : Int) (w : World) : (Instr.build 44 #[(0, strC p), (1, .int .i64 k)]).run Tryz.prog w = .ok (.agg #[strC p, .int .i64 k]) w := by kernel_rfl
attribute [local go_sem ↓] bd_k
set_option maxHeartbeats 4000000 in
set_option maxRecDepth 100000 in
theorem clash_any (z mb so st cb : Nat) (A : Option Addr) (c n : Nat) (f : Mc) (s : MSt) (p : Pth) (why : Nat) (w : World) (hm : MG w z mb so st cb A c n f s) (hp : p.length ≤ 1000000) (hw : why ≤ 1000) (hn : n ≤ 1000000) :
    Calls Tryz.prog 71 #[.pointer (some ⟨mb, 0, none⟩), strC p, .int .i64 (why : Nat)] w fun e w' => e = .returned (.tuple #[]) ∧ (∃ n' f', n' ≤ n + 1 ∧ MG w' z mb so st cb A c n' f' (s.clash p why)) ∧ Kept z [] [mb, cb] w w' := by
 have hwf : (Lit.int .i64 (why : Int)).wf = true := Go.WalkArith.wf_i64 (by omega)
 obtain ⟨k, hk⟩ : ∃ k : CK, k.1 = (p, (why : Int)) := ⟨⟨(p, (why : Int)), by unfold maxLen; simp only; omega, hwf⟩, rfl⟩
 have hcl : clV k = .agg #[strC p, .int .i64 (why : Nat)] := by unfold clV; rw [hk]
 have HM2 := Lib.hid (hm.keepB (w' := w.drew) (Below.refl _ w).drew)
 have HS := Lib.hid (show s.clash p why = { s with c := s.c ++ [⟨p, why⟩] } from rfl)
 have d3 : w.drew.cell? ⟨mb, 3, none⟩ = some (.map (some cb)) := (HM2.out.blk.cell 3).trans rfl
 have hlen := HM2.out.map.len Tryz.underlying64 3
 obtain ⟨w4, hst, hv4, hk4, _⟩ := HM2.out.map.store (s := k) Tryz.underlying64 (by unfold maxLen; omega) (.int .i64 (n : Nat))
 rw [hcl] at hst
 obtain ⟨m4, r4⟩ := HM2.out.clashed (x := ⟨p, why⟩) hk hv4 hk4
 have HM4 := Lib.hid m4
 have HR4 := Lib.hid (show Kept z [] [mb, cb] w w4 from (Kept.refl z [] [mb, cb] w).drew.trans r4)
 have hbd : ∀ W, (BdK #[(0, strC p), (1, .int .i64 (why : Nat))]).run Tryz.prog W = .ok (.agg #[strC p, .int .i64 (why : Nat)]) W := fun W => build_clash p why W
 have HN := Lib.hid (show (if (f k).isSome = true then n else n + 1) ≤ n + 1 from by split <;> omega)
 clear hm hwf hcl hv4 hk4 m4 r4 hk
 go_enter Tryz.func71, Tryz.ntmps71
 go_wp2_with fail
 go_region_law (fail)
 all_goals
  go_wp2_with fail
  first | refine bodyPost_end (results_none rfl _ _ _) rfl ?_ | refine bodyPost_ret (results_none rfl _ _ _) rfl ?_
  exact ⟨rfl, ⟨_, _, HN.out, by rw [HS.out]; exact HM4.out⟩, HR4.out⟩
end Go.Proofs.YteeeehfnldkjlaaGreatDoor
namespace Go.Proofs.YteeeehfnldkjlaaGreatDoor
open Go.RowKit Go.Maps
def MGA (w : World) (z mb so st cb N : Nat) (A : Option Addr) (s : MSt) : Prop := ∃ c n f, n ≤ N ∧ MG w z mb so st cb A c n f s
def MGE (w : World) (z mb so st cb N : Nat) (s : MSt) : Prop := ∃ A c n f, n ≤ N ∧ MG w z mb so st cb A c n f s
theorem Frm.ofC {w w' : World} {z mb cb : Nat} (h : Kept z [] [mb, cb] w w') : Frm z mb cb w w' := Kept.mono h (Nat.le_refl _) (by simp) (fun _ h => .inl h)
section
variable {w w' : World} {z mb so st cb N : Nat} {s : MSt}
theorem MGA.e {A : Option Addr} (h : MGA w z mb so st cb N A s) : MGE w z mb so st cb N s := by
 obtain ⟨c, n, f, h1, h2⟩ := h
 exact ⟨A, c, n, f, h1, h2⟩
theorem MGE.a (h : MGE w z mb so st cb N s) : ∃ A, MGA w z mb so st cb N A s := by
 obtain ⟨A, c, n, f, h1, h2⟩ := h
 exact ⟨A, c, n, f, h1, h2⟩
theorem MGA.lt {A : Option Addr} (h : MGA w z mb so st cb N A s) : ∀ a, A = some a → a.block < w.heap.size := by
 obtain ⟨c, n, f, h1, h2⟩ := h
 obtain ⟨ds, _, h3, _⟩ := h2.things
 exact fun a ha => (h3.blkA a ha).2.1
theorem MGE.lts (h : MGE w z mb so st cb N s) : z ≤ mb ∧ mb < w.heap.size ∧ z ≤ cb ∧ cb < w.heap.size := by
 obtain ⟨A, c, n, f, h1, h2⟩ := h
 exact ⟨h2.zm, h2.blk.lt, h2.zc, h2.map.lt⟩
theorem MGA.keepB {A : Option Addr} (h : MGA w z mb so st cb N A s) (hb : Below w.heap.size w w') : MGA w' z mb so st cb N A s := by
 obtain ⟨c, n, f, h1, h2⟩ := h
 exact ⟨c, n, f, h1, h2.keepB hb⟩
theorem MGA.stay {A : Option Addr} (hm : MGA w z mb so st cb N A s) {x : FT} (hx : DataK w z x) (p : Pth) (hl : s.t.length ≤ 1000000) :
    Calls Tryz.prog 70 #[.pointer (some ⟨mb, 0, none⟩), strC p, .agg (fileC x.1 x.2.1 x.2.2)] w fun e w' => e = .returned (.tuple #[]) ∧ (∃ A', MGA w' z mb so st cb N A' (s.stay p x.1) ∧ StayK w w' mb A A') ∧ Frm z mb cb w w' := by
 obtain ⟨c, n, f, h1, h2⟩ := hm
 refine (stay_any z mb so st cb A c n f s p x w h2 hx hl).mono ?_
 rintro e w' ⟨h3, ⟨A', c', h4, h6⟩, h5⟩
 exact ⟨h3, ⟨A', ⟨c', n, f, h1, h4⟩, h6⟩, h5⟩
theorem MGE.keepB (h : MGE w z mb so st cb N s) (hb : Below w.heap.size w w') : MGE w' z mb so st cb N s := by
 obtain ⟨A, c, n, f, h1, h2⟩ := h
 exact ⟨A, c, n, f, h1, h2.keepB hb⟩
theorem MGE.zs (h : MGE w z mb so st cb N s) : z ≤ w.heap.size := by
 obtain ⟨A, c, n, f, h1, h2⟩ := h
 exact h2.zs
theorem MGE.more {N' : Nat} (h : MGE w z mb so st cb N s) (hn : N ≤ N') : MGE w z mb so st cb N' s := by
 obtain ⟨A, c, n, f, h1, h2⟩ := h
 exact ⟨A, c, n, f, Nat.le_trans h1 hn, h2⟩
theorem MGE.data {x : FT} (hm : MGE w z mb so st cb N s) (h : DataK w z x) (hk : Frm z mb cb w w') : DataK w' z x := by
 obtain ⟨A, c, n, f, h1, h2⟩ := hm
 exact h.mg h2 hk
theorem MGE.stay (hm : MGE w z mb so st cb N s) {x : FT} (hx : DataK w z x) (p : Pth) (hl : s.t.length ≤ 1000000) :
    Calls Tryz.prog 70 #[.pointer (some ⟨mb, 0, none⟩), strC p, .agg (fileC x.1 x.2.1 x.2.2)] w fun e w' => e = .returned (.tuple #[]) ∧ MGE w' z mb so st cb N (s.stay p x.1) ∧ Frm z mb cb w w' := by
 obtain ⟨A, c, n, f, h1, h2⟩ := hm
 refine (stay_any z mb so st cb A c n f s p x w h2 hx hl).mono ?_
 rintro e w' ⟨h3, ⟨A', c', h4, _⟩, h5⟩
 exact ⟨h3, ⟨A', c', n, f, h1, h4⟩, h5⟩
theorem MGE.clash (hm : MGE w z mb so st cb N s) (p : Pth) (why : Nat) (hp : p.length ≤ 1000000) (hw : why ≤ 1000) (hn : N ≤ 1000000) :
    Calls Tryz.prog 71 #[.pointer (some ⟨mb, 0, none⟩), strC p, .int .i64 (why : Nat)] w fun e w' => e = .returned (.tuple #[]) ∧ MGE w' z mb so st cb (N + 1) (s.clash p why) ∧ Kept z [] [mb, cb] w w' := by
 obtain ⟨A, c, n, f, h1, h2⟩ := hm
 refine (clash_any z mb so st cb A c n f s p why w h2 hp hw (by omega)).mono ?_
 rintro e w' ⟨h3, ⟨n', f', h6, h4⟩, h5⟩
 exact ⟨h3, ⟨A, c, n', f', by omega, h4⟩, h5⟩
end
theorem Frm.ofBelow {w w' : World} {z mb cb : Nat} (h : Below w.heap.size w w') (hz : z ≤ w.heap.size) : Frm z mb cb w w' := Kept.mono (Kept.ofBelow (E := []) (base := w.heap.size) (G := []) h) hz (by simp) (by simp)
set_option maxHeartbeats 1000000 in
set_option maxRecDepth 100000 in
theorem text_any (k : Int) (w : World) : Calls Tryz.prog 111 #[.int .i64 k] w fun e w' => e = .returned (.bool (isText k)) ∧ w = w' := by
 have hk : isText k = (k == 1 || k == 2) := rfl
 rw [hk]
 clear hk
 go_enter Tryz.func111, Tryz.ntmps111
 cases h1 : (k == 1) with
 | true =>
  go_wp2_with fail
  go_ret
  exact ⟨rfl, rfl⟩
 | false =>
  go_wp2_with fail
  go_ret
  exact ⟨rfl, rfl⟩
theorem run_eql_strC (a b : Pth) (w : World) : (binOp .eql 9 (strC a) (strC b)).run Tryz.prog w = .ok (.bool (a == b)) w := by
 unfold strC
 go_simp
theorem run_neq_strC (a b : Pth) (w : World) : (binOp .neq 9 (strC a) (strC b)).run Tryz.prog w = .ok (.bool (a != b)) w := by
 unfold strC
 go_simp
 simp [bne]
theorem eqGuard_strC (x y : Operand) (a b : Pth) (w : World) : (eqGuard .eql 9 x y (strC a) (strC b)).run Tryz.prog w = .ok () w := by
 unfold strC
 go_simp
theorem neGuard_strC (x y : Operand) (a b : Pth) (w : World) : (eqGuard .neq 9 x y (strC a) (strC b)).run Tryz.prog w = .ok () w := by
 unfold strC
 go_simp
attribute [local go_sem] run_eql_strC run_neq_strC eqGuard_strC neGuard_strC
attribute [local go_sem ↓] ld_f
set_option maxHeartbeats 4000000 in
set_option maxRecDepth 100000 in
theorem alone_any (z mb so st cb N : Nat) (s : MSt) (f : FT) (q : Pth) (x : FT) (w : World) (hm : MGE w z mb so st cb N s) (hf : DataK w z f) (hx : DataK w z x) (hl : s.t.length ≤ 1000000) (hq : q.length ≤ 1000000) (hN : N ≤ 1000000) :
    Calls Tryz.prog 69 #[.pointer (some ⟨mb, 0, none⟩), .agg (fileC f.1 f.2.1 f.2.2), strC q, .agg (fileC x.1 x.2.1 x.2.2)] w fun e w' => e = .returned (.tuple #[]) ∧ MGE w' z mb so st cb (N + 1) (s.alone f.1 q x.1) ∧ Frm z mb cb w w' := by
 have hz := hm.zs
 have hs : s.alone f.1 q x.1 = if q = f.1.p ∧ x.1.k = f.1.k ∧ x.1.d = f.1.d then s else (s.stay q x.1).clash q 2 := rfl
 have hb1 := (Blk.new w 41 (fileC f.1 f.2.1 f.2.2)).alloc (.cells (fileC x.1 x.2.1 x.2.2) 41)
 have hb2 := Blk.new (w.alloc (.cells (fileC f.1 f.2.1 f.2.2) 41)) 41 (fileC x.1 x.2.1 x.2.2)
 rw [show (w.alloc (.cells (fileC f.1 f.2.1 f.2.2) 41)).heap.size = w.heap.size + 1 from by simp] at hb2
 have hbl : Below w.heap.size w ((w.alloc (.cells (fileC f.1 f.2.1 f.2.2) 41)).alloc (.cells (fileC x.1 x.2.1 x.2.2) 41)) := ((Below.refl _ w).alloc (Nat.le_refl _) _).alloc (by simp) _
 have HB1 := Lib.hid hb1
 have HB2 := Lib.hid hb2
 have HBL := Lib.hid hbl
 have HS := Lib.hid hs
 have HM := Lib.hid (hm.keepB hbl)
 have HF := Lib.hid (hf.keepB hbl hz)
 have HX := Lib.hid (hx.keepB hbl hz)
 clear hb1 hb2 hbl hs hm hf hx
 go_enter Tryz.func69, Tryz.ntmps69
 go_upto_region 1 with (first | (refine wpList_boxed rfl rfl (cs := fileC f.1 f.2.1 f.2.2) rfl ?_) | (refine wpList_boxed rfl rfl (cs := fileC x.1 x.2.1 x.2.2) rfl ?_))
 generalize (w.alloc (.cells (fileC f.1 f.2.1 f.2.2) 41)).alloc (.cells (fileC x.1 x.2.1 x.2.2) 41) = w2 at *
 have c0 := (HB1.out.cell 0).trans (show (fileC f.1 f.2.1 f.2.2)[0]? = some (strC f.1.p) from rfl)
 have c1 := (HB1.out.cell 1).trans (show (fileC f.1 f.2.1 f.2.2)[1]? = some (.int .i64 f.1.k) from rfl)
 have c2 := (HB1.out.cell 2).trans (show (fileC f.1 f.2.1 f.2.2)[2]? = some (.slice f.2.1 f.1.d.length f.2.2) from rfl)
 have d1 := (HB2.out.cell 1).trans (show (fileC x.1 x.2.1 x.2.2)[1]? = some (.int .i64 x.1.k) from rfl)
 have d2 := (HB2.out.cell 2).trans (show (fileC x.1 x.2.1 x.2.2)[2]? = some (.slice x.2.1 x.1.d.length x.2.2) from rfl)
 have HEQ := Lib.hid (show Calls Tryz.prog 109 #[.slice x.2.1 x.1.d.length x.2.2, .slice f.2.1 f.1.d.length f.2.2] w2 (fun e w' => e = .returned (.bool (decide (x.1.d = f.1.d))) ∧ w2 = w') from by
  obtain ⟨D1, d1, e1, _, _, r1⟩ := HX.out.reads HM.out.zs
  obtain ⟨D2, d2, e2, _, _, r2⟩ := HF.out.reads HM.out.zs
  injection e1 with e1 _ e3
  injection e2 with e2 _ e4
  subst D1 D2 d1 d2
  exact (bytesEq_any r1 r2).mono fun _ _ h => ⟨h.1, h.2.symm⟩)
 simp only [Act.put, List.setIfInBounds_toArray, List.set]
 rw [show (w.alloc (.cells (fileC f.1 f.2.1 f.2.2) 41)).heap.size = w.heap.size + 1 from by simp]
 go_cut [25] (fun s25 wx => s25 = .bool (decide (q = f.1.p ∧ x.1.k = f.1.k ∧ x.1.d = f.1.d)) ∧ w2 = wx)
 case first =>
  cases e1 : (q == f.1.p) with
  | false =>
   go_wp2_with fail
   go_meet
   exact ⟨by rw [decide_eq_false]; intro h; rw [h.1] at e1; simp at e1, rfl⟩
  | true =>
   cases e2 : (x.1.k == f.1.k) with
   | false =>
    go_wp2_with fail
    go_meet
    exact ⟨by rw [decide_eq_false]; intro h; rw [h.2.1] at e2; simp at e2, rfl⟩
   | true =>
    go_wp2_with (go_at_call 109; refine HEQ.out.mono ?_; rintro _ _ ⟨rfl, rfl⟩)
    go_meet
    exact ⟨by congr 1; rw [Bool.eq_iff_iff, decide_eq_true_eq, decide_eq_true_eq]; exact ⟨fun h => ⟨eq_of_beq e1, eq_of_beq e2, h⟩, fun h => h.2.2⟩, rfl⟩
 case rest =>
  obtain ⟨rfl, rfl⟩ := hcut
  clear c0 c1 c2 d1 d2 HEQ
  cases hd : decide (q = f.1.p ∧ x.1.k = f.1.k ∧ x.1.d = f.1.d) with
  | true =>
   go_wp2_with fail
   first | refine bodyPost_end (results_none rfl _ _ _) rfl ?_ | refine bodyPost_ret (results_none rfl _ _ _) rfl ?_
   exact ⟨rfl, by rw [HS.out, if_pos (of_decide_eq_true hd)]; exact HM.out.more (by omega), Frm.ofBelow HBL.out hz⟩
  | false =>
   have hl1 : (LdF (.pointer (some ⟨w.heap.size + 1, 0, none⟩))).run Tryz.prog w2 = .ok (.agg (fileC x.1 x.2.1 x.2.2)) w2 := file_load HB2.out
   have HST := Lib.hid (HM.out.stay HX.out q hl)
   go_wp2_with (go_at_call 70; refine HST.out.mono ?_)
   rintro _ w3 ⟨rfl, m3, k3⟩
   have HK3 := Lib.hid k3
   have HCL := Lib.hid (m3.clash q 2 hq (by omega) hN)
   clear m3 k3 HST
   go_wp2_with (go_at_call 71; refine HCL.out.mono ?_)
   rintro _ w4 ⟨rfl, m4, k4⟩
   have HM4 := Lib.hid m4
   have HK4 := Lib.hid (show Frm z mb cb w w4 from ((Frm.ofBelow HBL.out hz).trans HK3.out).trans (Frm.ofC k4))
   clear m4 k4 HCL
   go_wp2_with fail
   first | refine bodyPost_end (results_none rfl _ _ _) rfl ?_ | refine bodyPost_ret (results_none rfl _ _ _) rfl ?_
   exact ⟨rfl, by rw [HS.out, if_neg (of_decide_eq_false hd)]; exact HM4.out, HK4.out⟩
end Go.Proofs.YteeeehfnldkjlaaGreatDoor
namespace Go.Proofs.YteeeehfnldkjlaaGreatDoor
open Go.RowKit Go.Maps
theorem info_pair : (Tryz.prog.info? 99).map (·.size) = some 3 := by kernel_rfl
set_option maxHeartbeats 4000000 in
set_option maxRecDepth 100000 in
theorem goes_any {z q : Nat} {s : SideD} {b1 b2 b3 n1 n2 n3 : Nat} {f1 f2 f3 : Mp} (p : Pth) (w : World) (h : SideM w z q s b1 b2 b3 n1 n2 n3 f1 f2 f3) (hp : p.length ≤ 1000000) :
    Calls Tryz.prog 68 #[.pointer (some ⟨q, 0, none⟩), strC p] w fun e w' => e = .returned (.tuple #[strC (s.goes p).1, .bool (s.goes p).2]) ∧ Below w.heap.size w w' := by
 have e1 := (h.blk.cell 1).trans (show (#[.map (some b1), .map (some b2), .map (some b3)] : Array Value)[1]? = some (.map (some b2)) from rfl)
 have hlk := h.m2.look_ok (s := p) Tryz.underlying110 (zero_pair w) (by unfold maxLen; omega)
 rw [h.p2 p] at hlk
 have HH := Lib.hid h
 obtain ⟨G, hG⟩ : ∃ G, s.goes p = G := ⟨_, rfl⟩
 rw [hG]
 have HG := Lib.hid hG
 clear h hG
 cases hf : s.l.find? (fun x => x.old == p) with
 | some x =>
  have HE := Lib.hid (show G = (x.new, true) from by rw [← HG.out]; unfold SideD.goes; rw [hf])
  rw [hf] at hlk
  have hlk : (Instr.lookup 110 (.map (some b2)) (strC p) true).run Tryz.prog w = .ok (.tuple #[.agg (pairL x).toArray, .bool true]) w := hlk
  clear HG hf HH
  go_enter Tryz.func68, Tryz.ntmps68
  go_upto_region 2 with (refine wpList_storeBlk rfl rfl (vs := (pairL x).toArray) rfl rfl (Blk.new _ _ _) rfl info_pair (by simpa using pairL_one x) ?_; intro w6 hx6 hk6 hz6)
  have HK6 := Lib.hid (show Below w.heap.size w w6 from (Keep.ofNew hk6).all)
  have y1 := (hx6.cell 1).trans (show (pairL x).toArray[1]? = some (strC x.new) from rfl)
  clear hx6 hk6 hz6
  go_wp2_with fail
  go_ret2
  exact ⟨by rw [HE.out]; rfl, HK6.out⟩
 | none =>
  have HE := Lib.hid (show G = (p, hasF s.f p) from by rw [← HG.out]; unfold SideD.goes; rw [hf])
  rw [hf] at hlk
  have hlk : (Instr.lookup 110 (.map (some b2)) (strC p) true).run Tryz.prog w = .ok (.tuple #[.agg #[.string ⟨#[]⟩, .string ⟨#[]⟩, .int .i64 0], .bool false]) w := hlk
  clear HG hf
  go_enter Tryz.func68, Tryz.ntmps68
  go_upto_region 2 with (refine wpList_storeBlk rfl rfl (vs := (pairL ⟨[], [], 0⟩).toArray) rfl rfl (Blk.new _ _ _) rfl info_pair (by simpa using pairL_one ⟨[], [], 0⟩) ?_; intro w6 hx6 hk6 hz6)
  have HK6 := Lib.hid (show Below w.heap.size w w6 from (Keep.ofNew hk6).all)
  clear hx6 hk6 hz6
  have e0 := ((HH.out.blk.below HK6.out HH.out.blk.lt).cell 0).trans (show (#[.map (some b1), .map (some b2), .map (some b3)] : Array Value)[0]? = some (.map (some b1)) from rfl)
  have hlk2 := (HH.out.m1.keep (Below.keep_ HK6.out Nothing) (fun q => q)).look_ok (s := p) Tryz.underlying67 (zero_file w6) (by unfold maxLen; omega)
  obtain ⟨D, d, hget, _⟩ := HH.out.p1.get p
  rw [hget, HH.out.p1.1 p] at hlk2
  generalize getF s.f p = g at *
  clear hget e1 hlk HH
  go_wp2_with (refine wpList_storeBlk rfl rfl (vs := fileC g D d) rfl rfl (Blk.new _ _ _) rfl info_file (fileC_one _ _ _) ?_; intro w7 hx7 hk7 hz7; have HK7 := Lib.hid (show Below w6.heap.size w6 w7 from (Keep.ofNew hk7).all); clear hx7 hk7 hz7)
  go_ret2
  exact ⟨by rw [HE.out]; rfl, HK6.out.trans (HK7.out.mono HK6.out.size)⟩
end Go.Proofs.YteeeehfnldkjlaaGreatDoor
namespace Go.Proofs.YteeeehfnldkjlaaGreatDoor
open Go.RowKit Go.Maps
theorem MG.keepG {w w' : World} {z mb so st cb : Nat} {A : Option Addr} {c n : Nat} {f : Mc} {s : MSt} {G : List Nat} (h : MG w z mb so st cb A c n f s) (hk : Kept z [] G w w') (hg : ∀ g ∈ G, z ≤ g ∧ g ≠ mb ∧ g ≠ cb ∧ ∀ a, A = some a → a.block ≠ g) (hu : NoRow w G 5) : MG w' z mb so st cb A c n f s := by
 obtain ⟨ds, h1, h2, h3⟩ := h.things
 refine ⟨hk.blk h.blk (fun q => (hg _ q).2.1 rfl) (by simp), Nat.le_trans h.zs hk.size, h.zm, h.zc, ⟨ds, h1, h2.same1 fun a ha => hk.block _ (h2.blkA a ha).2.1 fun q => ?_, fun x hx => (h3 x hx).frm hk h.zs (fun g hg' => (hg g hg').1) (by simp) hu⟩, h.map.keep hk fun q => ?_, h.cl⟩
 · rcases q with q | ⟨_, e, he, _⟩
   · exact (hg _ q).2.2.2 a ha rfl
   · cases he
 · rcases q with q | ⟨_, e, he, _⟩
   · exact (hg _ q).2.2.1 rfl
   · cases he
section
variable {w w' : World} {z mb so st cb N : Nat} {A : Option Addr} {s : MSt}
theorem MGA.keepG {G : List Nat} (h : MGA w z mb so st cb N A s) (hk : Kept z [] G w w') (hg : ∀ g ∈ G, z ≤ g ∧ g ≠ mb ∧ g ≠ cb ∧ ∀ a, A = some a → a.block ≠ g) (hu : NoRow w G 5) : MGA w' z mb so st cb N A s := by
 obtain ⟨c, n, f, h1, h2⟩ := h
 exact ⟨c, n, f, h1, h2.keepG hk hg hu⟩
theorem MGA.clash (hm : MGA w z mb so st cb N A s) (p : Pth) (why : Nat) (hp : p.length ≤ 1000000) (hw : why ≤ 1000) (hn : N ≤ 1000000) :
    Calls Tryz.prog 71 #[.pointer (some ⟨mb, 0, none⟩), strC p, .int .i64 (why : Nat)] w fun e w' => e = .returned (.tuple #[]) ∧ MGA w' z mb so st cb (N + 1) A (s.clash p why) ∧ Kept z [] [mb, cb] w w' := by
 obtain ⟨c, n, f, h1, h2⟩ := hm
 refine (clash_any z mb so st cb A c n f s p why w h2 hp hw (by omega)).mono ?_
 rintro e w' ⟨h3, ⟨n', f', h6, h4⟩, h5⟩
 exact ⟨h3, ⟨c, n', f', by omega, h4⟩, h5⟩
theorem MGA.more {N' : Nat} (h : MGA w z mb so st cb N A s) (hn : N ≤ N') : MGA w z mb so st cb N' A s := by
 obtain ⟨c, n, f, h1, h2⟩ := h
 exact ⟨c, n, f, Nat.le_trans h1 hn, h2⟩
theorem MGA.noRow (h : MGA w z mb so st cb N A s) {e : TypeId} (he : e ≠ 66) : NoRow w [mb, cb] e := by
 obtain ⟨c, n, f, h1, h2⟩ := h
 exact h2.noRow he
end
structure BoS (w0 w : World) (z mb so st cb N : Nat) (A : Option Addr) (s : MSt) (q : Nat) (b x y o : FT) : Prop where
 m : MGA w z mb so st cb N A s
 bb : Blk w q 41 (fileC b.1 b.2.1 b.2.2)
 bx : Blk w (q + 1) 41 (fileC x.1 x.2.1 x.2.2)
 by_ : Blk w (q + 2) 41 (fileC y.1 y.2.1 y.2.2)
 bo : Blk w (q + 3) 41 (fileC o.1 o.2.1 o.2.2)
 db : DataK w z b
 dx : DataK w z x
 dy : DataK w z y
 do_ : DataK w z o
 lq : z ≤ q ∧ mb < q ∧ cb < q ∧ z ≤ mb ∧ z ≤ cb ∧ ∀ a, A = some a → a.block < q
 k : Frm z mb cb w0 w
section
variable {w0 w w' : World} {z mb so st cb N : Nat} {A : Option Addr} {s : MSt} {q : Nat} {b x y o : FT}
theorem BoS.more {N' : Nat} (h : BoS w0 w z mb so st cb N A s q b x y o) (hn : N ≤ N') : BoS w0 w z mb so st cb N' A s q b x y o := ⟨h.m.more hn, h.bb, h.bx, h.by_, h.bo, h.db, h.dx, h.dy, h.do_, h.lq, h.k⟩
theorem BoS.zs (h : BoS w0 w z mb so st cb N A s q b x y o) : z ≤ w.heap.size := h.m.e.zs
theorem BoS.out (h : BoS w0 w z mb so st cb N A s q b x y o) (h0 : w0.heap.size ≤ q) {p : Addr} (hp : p.block = q + 3) {u : Value} {o' : FT} (hb : Blk (w.setCell p u) (q + 3) 41 (fileC o'.1 o'.2.1 o'.2.2)) (hd : DataK w z o') : BoS w0 (w.setCell p u) z mb so st cb N A s q b x y o' := by
 have hk : Kept z [] [q + 3] w (w.setCell p u) := (Kept.refl _ _ _ _).setCell (.inl (by simp [hp])) u
 have hu : NoRow w [q + 3] 5 := by
  intro g hg cs fz hc
  rw [List.mem_singleton] at hg
  subst hg
  have := h.bo
  unfold Blk at this
  rw [this] at hc
  injection hc with hc
  injection hc with _ hc
  exact absurd hc (by decide)
 have hg : ∀ g ∈ [q + 3], z ≤ g := by intro g hg; rw [List.mem_singleton] at hg; subst hg; have := h.lq.1; omega
 have dd : ∀ x, DataK w z x → DataK (w.setCell p u) z x := fun x hx => hx.frm hk h.zs hg (by simp) hu
 refine ⟨h.m.keepG hk (fun g hg' => ?_) hu, hk.blk h.bb (by simp) (by simp), hk.blk h.bx (by simp) (by simp), hk.blk h.by_ (by simp) (by simp), hb, dd _ h.db, dd _ h.dx, dd _ h.dy, dd _ hd, h.lq, ?_⟩
 · rw [List.mem_singleton] at hg'
   subst hg'
   obtain ⟨l1, l2, l3, l4, l5, l6⟩ := h.lq
   exact ⟨by omega, by omega, by omega, fun a ha => by have := l6 a ha; omega⟩
 · exact Kept.setCell h.k (.inr (by rw [hp]; omega)) u
theorem BoS.err (h : BoS w0 w z mb so st cb N A s q b x y o) : w.cell? ⟨mb, 4, none⟩ = some (.int .i64 (s.e : Nat)) ∧ w.frozen? ⟨mb, 4, none⟩ = false := by
 obtain ⟨c, n, f, h1, h2⟩ := h.m
 exact ⟨(h2.blk.cell 4).trans rfl, h2.blk.frozen 4⟩
theorem BoS.clash {s' : MSt} {N' : Nat} (h : BoS w0 w z mb so st cb N A s q b x y o) (hm : MGA w' z mb so st cb N' A s') (hk : Kept z [] [mb, cb] w w') : BoS w0 w' z mb so st cb N' A s' q b x y o := by
 obtain ⟨l1, l2, l3, l4, l5, l6⟩ := h.lq
 have dd : ∀ x, DataK w z x → DataK w' z x := fun x hx => hx.frm hk h.zs (by intro g hg; simp only [List.mem_cons, List.not_mem_nil, or_false] at hg; rcases hg with rfl | rfl <;> assumption) (by simp) (h.m.noRow (by decide))
 have hn : ∀ i, q ≤ i → i ∉ [mb, cb] := fun i hi => by simp only [List.mem_cons, List.not_mem_nil, or_false]; omega
 exact ⟨hm, hk.blk h.bb (hn _ (by omega)) (by simp), hk.blk h.bx (hn _ (by omega)) (by simp), hk.blk h.by_ (hn _ (by omega)) (by simp), hk.blk h.bo (hn _ (by omega)) (by simp), dd _ h.db, dd _ h.dx, dd _ h.dy, dd _ h.do_, h.lq, h.k.trans (Frm.ofC hk)⟩
theorem BoS.keepB (h : BoS w0 w z mb so st cb N A s q b x y o) (hb : Below w.heap.size w w') : BoS w0 w' z mb so st cb N A s q b x y o :=
 ⟨h.m.keepB hb, h.bb.below hb h.bb.lt, h.bx.below hb h.bx.lt, h.by_.below hb h.by_.lt, h.bo.below hb h.bo.lt, h.db.keepB hb h.zs, h.dx.keepB hb h.zs, h.dy.keepB hb h.zs, h.do_.keepB hb h.zs, h.lq, h.k.trans (Frm.ofBelow hb h.zs)⟩
theorem BoS.setErr {e : Nat} (h : BoS w0 w z mb so st cb N A s q b x y o) : BoS w0 (w.setCell ⟨mb, 4, none⟩ (.int .i64 (e : Nat))) z mb so st cb N A { s with e := e } q b x y o := by
 obtain ⟨l1, l2, l3, l4, l5, l6⟩ := h.lq
 have hk : Kept z [] [mb, cb] w (w.setCell ⟨mb, 4, none⟩ (.int .i64 (e : Nat))) := (Kept.refl _ _ _ _).setCell (p := ⟨mb, 4, none⟩) (.inl (by simp)) _
 have hk0 : Kept z [] [mb] w (w.setCell ⟨mb, 4, none⟩ (.int .i64 (e : Nat))) := (Kept.refl _ _ _ _).setCell (p := ⟨mb, 4, none⟩) (.inl (by simp)) _
 refine h.clash (s' := { s with e := e }) (N' := N) ?_ hk
 obtain ⟨c, n, f, h1, h2⟩ := h.m
 have hr : NoRow w [mb] 5 ∧ NoRow w [mb] 41 := by
  constructor <;>
  · intro g hg cs fz hc
    rw [List.mem_singleton] at hg
    subst hg
    have := h2.blk
    unfold Blk at this
    rw [this] at hc
    injection hc with hc
    injection hc with _ hc
    exact absurd hc (by decide)
 refine ⟨c, n, f, h1, by have := h2.blk.set_ 4 (.int .i64 (e : Nat)); simpa [mgC] using this, by simp [World.setCell]; exact h2.zs, h2.zm, h2.zc, h2.things.frm hk0 h2.zs (by intro g hg; rw [List.mem_singleton] at hg; subst hg; exact h2.zm) (by simp) hr.1 (by simp) hr.2, h2.map.setCell (p := ⟨mb, 4, none⟩) (fun e => ?_) _, h2.cl⟩
 have e : cb = mb := e
 obtain ⟨D, ⟨es, clock, q1, _⟩, _⟩ := h2.map
 have hb := h2.blk
 unfold Blk at hb
 rw [← e, q1] at hb
 cases hb
end
theorem BoS.dataErr {w0 w : World} {z mb so st cb N : Nat} {A : Option Addr} {s : MSt} {q : Nat} {b x y o d : FT} {e : Nat} (h : BoS w0 w z mb so st cb N A s q b x y o) (hd : DataK w z d) : DataK (w.setCell ⟨mb, 4, none⟩ (.int .i64 (e : Nat))) z d := by
 obtain ⟨l1, l2, l3, l4, l5, l6⟩ := h.lq
 have hk : Kept z [] [mb, cb] w (w.setCell ⟨mb, 4, none⟩ (.int .i64 (e : Nat))) := (Kept.refl _ _ _ _).setCell (p := ⟨mb, 4, none⟩) (.inl (by simp)) _
 exact hd.frm hk h.zs (by intro g hg; simp only [List.mem_cons, List.not_mem_nil, or_false] at hg; rcases hg with rfl | rfl <;> assumption) (by simp) (h.m.noRow (by decide))
theorem bytes_two {w : World} {z : Nat} {x y : FT} (hz : z ≤ w.heap.size) (hx : DataK w z x) (hy : DataK w z y) : Calls Tryz.prog 109 #[.slice x.2.1 x.1.d.length x.2.2, .slice y.2.1 y.1.d.length y.2.2] w (fun e w' => e = .returned (.bool (decide (x.1.d = y.1.d))) ∧ w = w') := by
 obtain ⟨D1, d1, e1, _, _, r1⟩ := hx.reads hz
 obtain ⟨D2, d2, e2, _, _, r2⟩ := hy.reads hz
 injection e1 with e1 _ e3
 injection e2 with e2 _ e4
 subst D1 D2 d1 d2
 exact (bytesEq_any r1 r2).mono fun _ _ h => ⟨h.1, h.2.symm⟩
end Go.Proofs.YteeeehfnldkjlaaGreatDoor
