/- Contract of codec.ParseCommit. No statement of the seat is proved here. -/
import Derived.Test.YtmlmbkelpjmafaaGreatPT10
namespace Go.Proofs.YtmlmbkelpjmafaaGreat
open Go.RowKit
def pcLoop (b : List UInt8) : Nat → Nat → Int → List Id → List Id × Nat × Int
 | 0, at_, e, ps => (ps, at_, e)
 | k + 1, at_, e, ps => if e = 0 then pcLoop b k (takeAt b at_ 0 32) (note (note (takeE b at_ 0 32) (!isNone (idOf (takeL b at_ 0 32))) 1) (!hasId ps (idOf (takeL b at_ 0 32))) 18) (ps ++ [idOf (takeL b at_ 0 32)]) else (ps, at_, e)
theorem pcLoop_err {b : List UInt8} {k at_ : Nat} {e : Int} {ps : List Id} (h : e ≠ 0) : pcLoop b k at_ e ps = (ps, at_, e) := by
 cases k with
 | zero => rfl
 | succ k => show (if _ then _ else _) = _; rw [if_neg h]
def pcE2 (b : List UInt8) : Int := note (takeE b 0 0 32) (!isNone (idOf (takeL b 0 0 32))) 1
def pcN (b : List UInt8) : Nat := num (takeL b (takeAt b 0 0 32) (pcE2 b) 1)
def pcAt2 (b : List UInt8) : Nat := takeAt b (takeAt b 0 0 32) (pcE2 b) 1
def pcE4 (b : List UInt8) : Int := note (takeE b (takeAt b 0 0 32) (pcE2 b) 1) (decide ((pcN b : Int) ≤ 8)) 4
def pcL (b : List UInt8) : List Id × Nat × Int := pcLoop b (pcN b) (pcAt2 b) (pcE4 b) []
def pcAuthor (b : List UInt8) (at_ : Nat) (e : Int) : List UInt8 := shortL b at_ e
def pcTime (b : List UInt8) (at_ : Nat) (e : Int) : Int := wrap64 (num (takeL b (shortAt b at_ e) (shortE2 b at_ e) 8) : Int)
def pcAt5 (b : List UInt8) (at_ : Nat) (e : Int) : Nat := takeAt b (shortAt b at_ e) (shortE2 b at_ e) 8
def pcE5 (b : List UInt8) (at_ : Nat) (e : Int) : Int := takeE b (shortAt b at_ e) (shortE2 b at_ e) 8
def pcMsg (b : List UInt8) (at_ : Nat) (e : Int) : List UInt8 := shortL b (pcAt5 b at_ e) (pcE5 b at_ e)
def pcEnd (b : List UInt8) (at_ : Nat) (e : Int) : Int := endE b (shortAt b (pcAt5 b at_ e) (pcE5 b at_ e)) (shortE2 b (pcAt5 b at_ e) (pcE5 b at_ e))
def com0 : ComD := ⟨noId, [], ByteArray.empty, 0, ByteArray.empty⟩
def parseCommit (b : List UInt8) : ComD × Int :=
 let at_ := (pcL b).2.1
 let e := (pcL b).2.2
 if pcEnd b at_ e = 0 then (⟨idOf (takeL b 0 0 32), (pcL b).1, str (pcAuthor b at_ e), pcTime b at_ e, str (pcMsg b at_ e)⟩, 0) else (com0, pcEnd b at_ e)
def ComPost (b : List UInt8) (w : World) (r : Ending) (w' : World) : Prop :=
 ∃ A c, r = .returned (.tuple #[.agg (comC (parseCommit b).1.tree (.slice A (parseCommit b).1.parents.length c) (parseCommit b).1.author (parseCommit b).1.time (parseCommit b).1.msg), .int .i64 (parseCommit b).2]) ∧
  Own w' w.heap.size 29 32 A (parseCommit b).1.parents.length c (idLs (parseCommit b).1.parents) ∧ Below w.heap.size w w'
theorem run_build_part {P : Program} {t : TypeId} {fs : Array Field} (ht : P.underlying t = some (.struct fs)) {z : Array Value} (w : World) (hz : (zeroValue t).run P w = .ok (.agg z) w) {places : Array (Nat × Nat)}
    (hp : (fs.mapM fun f => do pure (f.offset, ← sizeOf f.type) : Sem (Array (Nat × Nat))).run P w = .ok places w) {i off : Nat} {vs : Array Value} (hi : places[i]? = some (off, vs.size)) (hf : off + vs.size ≤ z.size) :
    (Instr.build t #[(i, .agg vs)]).run P w = .ok (.agg (spl z off vs.toList)) w := by
 have hne : ¬ (z.size < off + vs.size) := by omega
 unfold Instr.build
 simp only [Sem.run_bind, hz, Result.andThen_ok, run_underlying ht, hp, Value.cells, Instr.fill, hi]
 have hfa := fill_at vs z off hf
 simp only [Array.size_zipIdx] at hfa
 simp [hne, hfa]
theorem places_com (w : World) : ((Tryz.prog.fieldsOf 94).mapM fun f => do pure (f.offset, ← sizeOf f.type) : Sem (Array (Nat × Nat))).run Tryz.prog w = .ok #[(0, 32), (32, 1), (33, 1), (34, 1), (35, 1)] w := by kernel_rfl
theorem fields_com : Tryz.prog.underlying 94 = some (.struct (Tryz.prog.fieldsOf 94)) := by kernel_rfl
set_option maxRecDepth 100000 in
theorem build_com1 (t : Id) (w : World) : (Instr.build 94 #[(0, idV t)]).run Tryz.prog w = .ok (.agg (comC t nilS ByteArray.empty 0 ByteArray.empty)) w := by
 have h := run_build_part (P := Tryz.prog) fields_com w (zero_com w) (places_com w) (i := 0) (off := 0) (vs := idC t) (by rw [idC_size]; rfl) (by rw [idC_size, comC_size]; decide)
 rw [show idV t = .agg (idC t) from rfl, h]
 congr 2
 apply Array.ext'
 have h1 := idL_len t
 have h2 := idL_len noId
 simp [spl, comC, comL, idC, h1, h2]
theorem comL_one (t : Id) (p : Value) (a : ByteArray) (n : Int) (m : ByteArray) (hp : p.oneCell' = true) : ∀ v ∈ (comC t p a n m).toList, v.oneCell' = true := by
 intro v hv
 simp only [comC, comL, List.mem_append, List.mem_cons, List.not_mem_nil, or_false] at hv
 rcases hv with hv | rfl | rfl | rfl | rfl
 · exact idL_one _ v hv
 · exact hp
 · rfl
 · rfl
 · rfl
theorem results_cell_tmp {P : Program} {fn : Func} {t u : Tmp} {ty : TypeId} (h : fn.results = #[.cell t ty, .tmp u]) (tmps : Array Value) (w : World) {ad : Addr} (ht : tmps.getD t undef = .pointer (some ad)) {v : Value} (hl : (loadVar ty ad).run P w = .ok v w) :
    (results fn tmps).run P w = .ok (.tuple #[v, tmps.getD u undef]) w := by
 simp only [Array.getD_eq_getD_getElem?] at ht
 simp [results, h, ht, asAddr, hl]
theorem Rd.kept {w w' : World} {g B base : Nat} {E : List TypeId} {G : List Nat} {b : List UInt8} {at_ : Nat} {e : Int} (h : Rd w g B b at_ e) (hk : Kept base E G w w') (hB : B ≤ base) (hz : B ≤ w.heap.size) (hG : ∀ x ∈ G, B ≤ x ∧ x ≠ g) (hE : 155 ∉ E) : Rd w' g B b at_ e := by
 obtain ⟨A, c, hb, hrd, h1, h2, h3, h4⟩ := h
 exact ⟨A, c, hk.blk hb (fun q => (hG g q).2 rfl) hE, hrd.below (hk.below hB hz (fun x hx => (hG x hx).1)), h1, h2, h3, h4⟩
theorem Rd.setCell {w : World} {g B : Nat} {b : List UInt8} {at_ : Nat} {e : Int} (h : Rd w g B b at_ e) {p : Addr} (hB : B ≤ p.block) (hg : g ≠ p.block) (u : Value) : Rd (w.setCell p u) g B b at_ e := by
 obtain ⟨A, c, hb, hrd, h1, h2, h3, h4⟩ := h
 exact ⟨A, c, hb.far hg u, hrd.setCell hB u, h1, h2, h3, h4⟩
def BdCom (ps : Array (Nat × Value)) : Sem Value := Instr.build 94 ps
theorem bd_com (ps : Array (Nat × Value)) : Instr.build 94 ps = BdCom ps := rfl
def StCom (p v : Value) : Sem Unit := Instr.storeAt 94 p v
theorem st_com (p v : Value) : Instr.storeAt 94 p v = StCom p v := rfl
theorem StCom.same {w : World} {g : Nat} {tt : TypeId} {t : Id} {p : Value} {a : ByteArray} {n : Int} {m : ByteArray} (h : Blk w g tt (comC t p a n m)) (hp : p.oneCell' = true) : (StCom (.pointer (some ⟨g, 0, none⟩)) (.agg (comC t p a n m))).run Tryz.prog w = .ok () w := by
 have := run_storeAt_blk (P := Tryz.prog) (ty := 94) (vs := comC t p a n m) h 0 (by rw [comC_size]; exact info_com) (by omega) (comL_one _ _ _ _ _ hp)
 rw [spl_all rfl, setRow_same h] at this
 exact this
attribute [local go_sem ↓] ld_id eq_id bd_com st_com
set_option maxHeartbeats 4000000 in
set_option maxRecDepth 100000 in
theorem parseCommit_any (b : List UInt8) (A : Option Addr) (c : Nat) (w : World) (hr : Reads w w.heap.size 1 A b.length (b.map bv)) (_hl : b.length ≤ 1000000) (hc1 : b.length ≤ c) (hc2 : c ≤ maxLen) :
    Calls Tryz.prog 71 #[.slice A b.length c] w (ComPost b w) := by
 go_enter Tryz.func71, Tryz.ntmps71
 go_wp2_with (first | (refine wpList_allocAgg rfl rfl (zero_com _) ?_))
 have hq0 : Blk ((w.alloc (.cells (comC noId nilS ByteArray.empty 0 ByteArray.empty) 94)).alloc (.cells #[.slice A b.length c, .int .i64 0, .int .i64 0] 155)) w.heap.size 94 (comC noId nilS ByteArray.empty 0 ByteArray.empty) := (Blk.new _ _ _).alloc _
 have hR0 : Rd ((w.alloc (.cells (comC noId nilS ByteArray.empty 0 ByteArray.empty) 94)).alloc (.cells #[.slice A b.length c, .int .i64 0, .int .i64 0] 155)) (w.heap.size + 1) w.heap.size b 0 0 := by
  refine ⟨A, c, ?_, (hr.alloc (Nat.le_refl _) _).alloc (by simp) _, Nat.zero_le _, hc1, hc2, by omega⟩
  have := Blk.new (w.alloc (.cells (comC noId nilS ByteArray.empty 0 ByteArray.empty) 94)) 155 #[.slice A b.length c, .int .i64 0, .int .i64 0]
  simpa using this
 have hk0 : Keep Nothing w ((w.alloc (.cells (comC noId nilS ByteArray.empty 0 ByteArray.empty) 94)).alloc (.cells #[.slice A b.length c, .int .i64 0, .int .i64 0] 155)) := ((Keep.refl _ _).alloc _).alloc _
 generalize (w.alloc (.cells (comC noId nilS ByteArray.empty 0 ByteArray.empty) 94)).alloc (.cells #[.slice A b.length c, .int .i64 0, .int .i64 0] 155) = w0 at *
 have hz0 := hk0.size
 generalize hq : w.heap.size = q at *
 have HQ := Lib.hid hq
 have hqle : q ≤ w.heap.size := by omega
 have hqge : w.heap.size ≤ q := by omega
 have l0 := hq0.lt
 clear hq
 refine (rid_any (q + 1) q b 0 0 _ hR0 (by omega)).mono ?_
 rintro r w1 ⟨rfl, hR1, hk1⟩
 have hq1 := hq0.keep hk1 (by unfold Only; omega)
 have kw1 : Keep (Only (q + 1)) w w1 := (hk0.mono (fun _ _ h => h.elim)).trans hk1
 have z1 := hk1.size
 clear hk1 hq0 hR0 hk0
 generalize hti : idOf (takeL b 0 0 32) = t at *
 have HT := Lib.hid hti
 clear hti
 go_wp2_with (first | (refine wpList_built rfl rfl (vs := #[(0, idV t)]) rfl (build_com1 t _) ?_) | (refine wpList_allocAgg rfl rfl (zero_com _) ?_) | (refine wpList_storeBlk rfl rfl (vs := comC t nilS ByteArray.empty 0 ByteArray.empty) rfl rfl (Blk.new _ _ _) (by rw [comC_size, comC_size]) (by rw [comC_size]; exact info_com) (comL_one _ _ _ _ _ rfl) ?_; intro w2 hc2' hkc hzc))
 go_frame
 have hkN : Keep Nothing w1 w2 := Keep.ofNew hkc
 have hR2 := hR1.keep (by omega) hkN (fun _ h => h.elim)
 have hq2 := hq1.keep hkN (fun h => h)
 have kw2 : Keep (Only (q + 1)) w w2 := kw1.trans (hkN.mono (fun _ _ h => h.elim))
 have z2 := hkN.size
 have hp : q + 1 < w1.heap.size := by obtain ⟨_, _, hbb, _⟩ := hR1; exact hbb.lt
 generalize w1.heap.size = p at *
 clear hkc hzc hkN hR1 hq1 kw1
 obtain ⟨A2, c2, hb2, hR2'⟩ := hR2.blk
 have L1 := ldId_com hc2'.drew
 have l2 := hb2.lt
 go_region_law (first | (go_simp; go_at_call 87; refine (none_any t _).mono ?_; rintro r w3 ⟨rfl, hk3⟩; have hb3 := hb2.drew.keep hk3 (fun h => h)) | (go_simp; go_at_call 85; refine (must_any (q + 1) _ _ _ _ 1 _ _ hb3).mono ?_; rintro r w4 ⟨rfl, hb4, hk4⟩))
 have hR4 := hR2' _ _ hb4 (by omega) ((Keep.drew (Keep.refl (Only (q + 1)) w2)).trans ((hk3.mono (fun _ _ h => h.elim)).trans hk4))
 have k24 : Keep (Only (q + 1)) w2 w4 := (Keep.drew (Keep.refl (Only (q + 1)) w2)).trans ((hk3.mono (fun _ _ h => h.elim)).trans hk4)
 have hc4 := hc2'.keep k24 (by unfold Only; omega)
 have hq4 := hq2.keep k24 (by unfold Only; omega)
 have kw4 := kw2.trans k24
 have z4 := k24.size
 clear hk3 hk4 k24 hb3 hb4 hb2 hR2' hR2 hc2' hq2 kw2 L1
 change Rd w4 (q + 1) q b (takeAt b 0 0 32) (note (takeE b 0 0 32) (!isNone t) 1) at hR4
 rw [show note (takeE b 0 0 32) (!isNone t) 1 = pcE2 b from by unfold pcE2; rw [HT.out]] at hR4
 go_wp2_with fail
 refine (rnumber_any 1 (by omega) (q + 1) q b _ _ _ hR4 (by omega)).mono ?_
 rintro r w5 ⟨rfl, hR5, hk5⟩
 have hv : num (takeL b (takeAt b 0 0 32) (pcE2 b) 1) < 256 := Nat.lt_of_lt_of_le (num_lt _) (Nat.le_trans (Nat.pow_le_pow_right (by omega) (takeL_le b (takeAt b 0 0 32) (pcE2 b) 1)) (by decide))
 have hc5 := hc4.keep hk5 (by unfold Only; omega)
 have hq5 := hq4.keep hk5 (by unfold Only; omega)
 have kw5 := kw4.trans hk5
 have z5 := hk5.size
 clear hk5 hR4 hc4 hq4 kw4
 change Rd w5 (q + 1) q b (pcAt2 b) (takeE b (takeAt b 0 0 32) (pcE2 b) 1) at hR5
 generalize hnn : num (takeL b (takeAt b 0 0 32) (pcE2 b) 1) = n at *
 have HN := Lib.hid (show pcN b = n from hnn)
 clear hnn
 obtain ⟨A5, c5, hb5, hR5'⟩ := hR5.blk
 go_wp2_with fail
 refine (must_any (q + 1) _ _ _ _ 4 _ _ hb5).mono ?_
 rintro r w6 ⟨rfl, hb6, hk6⟩
 have hR6 := hR5' _ _ hb6 (by omega) hk6
 have hc6 := hc5.keep hk6 (by unfold Only; omega)
 have hq6 := hq5.keep hk6 (by unfold Only; omega)
 have kw6 := kw5.trans hk6
 have z6 := hk6.size
 clear hk6 hR5 hR5' hb5 hb6 hc5 hq5 kw5
 rw [show note (takeE b (takeAt b 0 0 32) (pcE2 b) 1) (decide ((n : Int) ≤ 8)) 4 = pcE4 b from by unfold pcE4; rw [HN.out]] at hR6
 have HL := Lib.hid (show pcLoop b n (pcAt2 b) (pcE4 b) [] = pcL b from by unfold pcL; rw [HN.out])
 go_wp2_with fail
 go_loopg [7] n (fun f i wr => ∃ k at_ e ps A' c', i = .int .i64 (k : Nat) ∧ k + f = n ∧ pcLoop b f at_ e ps = pcL b ∧ Rd wr (q + 1) q b at_ e ∧ Blk wr p 94 (comC t (.slice A' ps.length c') ByteArray.empty 0 ByteArray.empty) ∧ Own wr q 29 32 A' ps.length c' (idLs ps) ∧ Blk wr q 94 (comC noId nilS ByteArray.empty 0 ByteArray.empty) ∧ Kept q [29] [] w wr ∧ p < wr.heap.size ∧ ps.length ≤ k)
 case atStart => exact ⟨0, pcAt2 b, pcE4 b, [], none, 0, rfl, by omega, HL.out, hR6, hc6, Own.nil _ _ _ _, hq6, Kept.ofKeep kw6 (by unfold Only; intro i hi h; omega), hc6.lt, by simp⟩
 case round =>
  obtain ⟨k, at_, e, ps, A', c', rfl, hkf, hpl, hR, hc, hown, hq0, hkp, hpz, hpsl⟩ := hrel
  have HP := Lib.hid hpl
  have HKF := Lib.hid hkf
  have hkn : k ≤ n := by omega
  clear hpl hkf hR6 hc6 hq6 kw6
  have z7 := hkp.size
  obtain ⟨A7, c7, hb7, hR7⟩ := hR.blk
  have r2 := hb7.cell 2
  simp at r2
  by_cases hgo : k < n ∧ e = 0
  · obtain ⟨hkn', he⟩ := hgo
    subst he
    cases gk with
    | zero => exact absurd HKF.out (by omega)
    | succ f =>
     go_wp2_with fail
     refine (rid_any (q + 1) q b at_ 0 _ hR (by omega)).mono ?_
     rintro r w8 ⟨rfl, hR8, hk8⟩
     have HP2 := Lib.hid (show pcLoop b (f + 1) at_ 0 ps = pcLoop b f (takeAt b at_ 0 32) (note (note (takeE b at_ 0 32) (!isNone (idOf (takeL b at_ 0 32))) 1) (!hasId ps (idOf (takeL b at_ 0 32))) 18) (ps ++ [idOf (takeL b at_ 0 32)]) from by show (if _ then _ else _) = _; rw [if_pos rfl])
     generalize idOf (takeL b at_ 0 32) = x at *
     have hc8 := hc.keep hk8 (by unfold Only; omega)
     have z8 := hk8.size
     go_wp2_with (first | (refine wpList_allocAgg rfl rfl (zero_noId _) ?_) | (refine wpList_storeBlk rfl rfl (vs := idC x) rfl rfl (Blk.new _ _ _) (by rw [idC_size, idC_size]) (by rw [idC_size]; exact info42) (idL_one _) ?_; intro w9 hx9 hkc hzc))
     go_frame
     have hkN : Keep Nothing w8 w9 := Keep.ofNew hkc
     have hR9 := hR8.keep (by omega) hkN (fun _ h => h.elim)
     have hc9 := hc8.keep hkN (fun h => h)
     have k9 : Keep (Only (q + 1)) wr w9 := hk8.trans (hkN.mono (fun _ _ h => h.elim))
     have z9 := hkN.size
     have hxl : wr.heap.size ≤ w8.heap.size := z8
     generalize w8.heap.size = x8 at *
     clear hkc hzc hkN hR8 hc8 hk8
     obtain ⟨A9, c9, hb9, hR9'⟩ := hR9.blk
     have L1 := LdId.blk hx9.drew
     go_region_law (first | (go_simp; go_at_call 87; refine (none_any x _).mono ?_; rintro r w10 ⟨rfl, hk10⟩; have hb10 := hb9.drew.keep hk10 (fun h => h)) | (go_simp; go_at_call 85; refine (must_any (q + 1) _ _ _ _ 1 _ _ hb10).mono ?_; rintro r w11 ⟨rfl, hb11, hk11⟩))
     have k911 : Keep (Only (q + 1)) w9 w11 := (Keep.drew (Keep.refl (Only (q + 1)) w9)).trans ((hk10.mono (fun _ _ h => h.elim)).trans hk11)
     have hR11 := hR9' _ _ hb11 (by omega) k911
     have hc11 := hc9.keep k911 (by unfold Only; omega)
     have hx11 := hx9.keep k911 (by unfold Only; omega)
     have k11 := k9.trans k911
     have z11 := k911.size
     have o11 := hown.keepOnly k11 hb7 (by decide)
     have pv := (hc11.cell 32).trans comC_at.1
     clear hk10 hk11 k911 hb10 hb11 hb9 hR9' hR9 hc9 hx9 k9 L1
     obtain ⟨A11, c11, hb11, hR11'⟩ := hR11.blk
     have L2 := LdId.blk hx11.drew
     have lb := hb11.lt
     go_wp2_with fail
     go_region_law (first | (go_simp; go_at_call 88; refine (contains_any ps x A' c' _ _ o11.reads.drew (Nat.le_refl _) (by omega)).mono ?_; rintro r w12 ⟨rfl, hk12⟩; have hb12 := hb11.drew.keep hk12 (fun h => h)) | (go_simp; go_at_call 85; refine (must_any (q + 1) _ _ _ _ 18 _ _ hb12).mono ?_; rintro r w13 ⟨rfl, hb13, hk13⟩))
     all_goals
      have k1113 : Keep (Only (q + 1)) w11 w13 := (Keep.drew (Keep.refl (Only (q + 1)) w11)).trans ((hk12.mono (fun _ _ h => h.elim)).trans hk13)
      have hR13 := hR11' _ _ hb13 (by omega) k1113
      have hc13 := hc11.keep k1113 (by unfold Only; omega)
      have hx13 := hx11.keep k1113 (by unfold Only; omega)
      have k13 := k11.trans k1113
      have z13 := k1113.size
      have o13 := hown.keepOnly k13 hb7 (by decide)
      have pv13 := (hc13.cell 32).trans comC_at.1
      have fr13 := hc13.frozen 32
      have L3 := LdId.blk hx13
      have lx := hx13.lt
      clear hk12 hk13 k1113 hb12 hb13 hb11 hR11' hR11 hc11 hx11 k11 L2 pv o11
      go_wp2_with (first | (refine wpList_buildSlice1 rfl elemId rfl zero_noId (idC_size _) (idC_size _) (by omega) rfl ?_) | (at_builtin; refine wpList_append_sl rfl elemId rfl rfl (o13.alloc _) rfl (Reads.of_cells (n := 1) (xs := idL x) (heap_alloc_new _ _) rfl (by rw [idL_len])) (idL_one _) (by unfold maxLen; omega) (by omega) (by simp; omega) ?_; intro A14 c14 w14 o14 k14; have hc14 := k14.blk (hc13.alloc _) (by simp) (by decide); have pv14 := (hc14.cell 32).trans comC_at.1; have fr14 := hc14.frozen 32))
      go_roundg f
      case measure => omega
      case rel =>
       have o14' : Own w14 q 29 32 A14 (ps ++ [x]).length c14 (idLs (ps ++ [x])) := by simpa [idLs] using o14
       have el : ps.length + 1 = (ps ++ [x]).length := by simp
       rw [el]
       refine ⟨k + 1, _, _, ps ++ [x], A14, c14, by go_num, by have := HKF.out; omega, by rw [← HP2.out]; exact HP.out, ((hR13.alloc (by omega) _).kept k14 (Nat.le_refl _) (by simp; omega) (by simp) (by decide)).setCell (p := ⟨p, 32, none⟩) (by simp; omega) (by simp; omega) _, ?_, o14'.setCell (p := ⟨p, 32, none⟩) hc14 (by decide) _, ?_, ?_, ?_, by simp; omega⟩
       · have := hc14.set_ 32 (.slice A14 (ps ++ [x]).length c14)
         rwa [(comC_set _ _ _ _ _).1] at this
       · exact (k14.blk ((hq0.keep k13 (by unfold Only; omega)).alloc _) (by simp) (by decide)).far (p := ⟨p, 32, none⟩) (by simp; omega) _
       · refine Kept.setCell (p := ⟨p, 32, none⟩) ?_ (.inr (by simp; omega)) _
         exact ((hkp.lift (Kept.ofKeep (base := q) (E := []) (G := [q + 1]) k13 (by unfold Only; simp)) (Nat.le_refl _) (by simp) (by simp; omega)).alloc _).trans k14
       · have := k14.size
         simp [World.setCell] at this ⊢
         omega
  · have hend : pcL b = (ps, at_, e) := by
     rw [← HP.out]
     by_cases he : e = 0
     · have h0 : gk = 0 := by have := HKF.out; omega
       rw [h0]
       rfl
     · exact pcLoop_err he
    have HEND := Lib.hid hend
    have HGO := Lib.hid hgo
    clear hend
    have kwr : Kept q [29] [] w wr := hkp
    have step : ∀ W : World, Kept q [29] [] w W → True := fun _ _ => trivial
    clear step
    have t33 := (hc.cell 33).trans comC_at.2.1
    have fin : (k < n ∧ (e == 0) = false) ∨ n ≤ k := by
     by_cases h1 : k < n
     · left
       exact ⟨h1, beq_eq_false_iff_ne.2 (fun h => hgo ⟨h1, h⟩)⟩
     · right
       omega
    clear hgo
    rcases fin with ⟨f1, f2⟩ | f1
    all_goals
     go_wp2_with fail
     refine (rshort_any (q + 1) q b at_ e _ hR (by omega)).mono ?_
     rintro r w8 ⟨rfl, hR8, hk8⟩
     have hc8 := hc.keep hk8 (by unfold Only; omega)
     have z8 := hk8.size
     have o8 := hown.keepOnly hk8 hb7 (by decide)
     have p8 := hq0.keep hk8 (by unfold Only; omega)
     have kk8 : Kept q [29] [] w w8 := hkp.lift (Kept.ofKeep (base := q) (E := []) (G := [q + 1]) hk8 (by unfold Only; simp)) (Nat.le_refl _) (by simp) (by simp; omega)
     have e8 := (hc8.cell 33).trans comC_at.2.1
     have f8 := hc8.frozen 33
     clear hk8
     go_wp2_with fail
     have hR9 := hR8.setCell (p := ⟨p, 33, none⟩) (by simp; omega) (by simp; omega) (.string (str (shortL b at_ e)))
     have hc9 := hc8.set_ 33 (.string (str (shortL b at_ e)))
     rw [(comC_set _ _ _ _ _).2.1] at hc9
     have o9 := o8.setCell (p := ⟨p, 33, none⟩) hc8 (by decide) (.string (str (shortL b at_ e)))
     have p9 := p8.far (p := ⟨p, 33, none⟩) (by simp; omega) (.string (str (shortL b at_ e)))
     have kk9 := kk8.setCell (p := ⟨p, 33, none⟩) (.inr (by simp; omega)) (.string (str (shortL b at_ e)))
     have z9 : (w8.setCell ⟨p, 33, none⟩ (.string (str (shortL b at_ e)))).heap.size = w8.heap.size := by simp [World.setCell]
     have z9' : w8.heap.size ≤ (w8.setCell ⟨p, 33, none⟩ (.string (str (shortL b at_ e)))).heap.size := by omega
     clear z9
     generalize w8.setCell ⟨p, 33, none⟩ (.string (str (shortL b at_ e))) = w9 at *
     clear hR8 hc8 o8 p8 kk8 e8 f8
     refine (rnumber_any 8 (by omega) (q + 1) q b _ _ _ hR9 (by omega)).mono ?_
     rintro r w10 ⟨rfl, hR10, hk10⟩
     have hRb9 := hR9.blk
     obtain ⟨A9, c9, hb9, _⟩ := hRb9
     have hc10 := hc9.keep hk10 (by unfold Only; omega)
     have z10 := hk10.size
     have o10 := o9.keepOnly hk10 hb9 (by decide)
     have p10 := p9.keep hk10 (by unfold Only; omega)
     have kk10 : Kept q [29] [] w w10 := kk9.lift (Kept.ofKeep (base := q) (E := []) (G := [q + 1]) hk10 (by unfold Only; simp)) (Nat.le_refl _) (by simp) (by simp; omega)
     have e10 := (hc10.cell 34).trans comC_at.2.2.1
     have f10 := hc10.frozen 34
     clear hk10 hR9 hc9 o9 p9 kk9 hb9
     go_wp2_with fail
     change Calls _ _ _ (w10.setCell ⟨p, 34, none⟩ (.int .i64 (pcTime b at_ e))) _
     have hR11 := hR10.setCell (p := ⟨p, 34, none⟩) (by simp; omega) (by simp; omega) (.int .i64 (pcTime b at_ e))
     have hc11 := hc10.set_ 34 (.int .i64 (pcTime b at_ e))
     rw [(comC_set _ _ _ _ _).2.2.1] at hc11
     have o11 := o10.setCell (p := ⟨p, 34, none⟩) hc10 (by decide) (.int .i64 (pcTime b at_ e))
     have p11 := p10.far (p := ⟨p, 34, none⟩) (by simp; omega) (.int .i64 (pcTime b at_ e))
     have kk11 := kk10.setCell (p := ⟨p, 34, none⟩) (.inr (by simp; omega)) (.int .i64 (pcTime b at_ e))
     have z11' : w10.heap.size ≤ (w10.setCell ⟨p, 34, none⟩ (.int .i64 (pcTime b at_ e))).heap.size := by simp [World.setCell]
     generalize w10.setCell ⟨p, 34, none⟩ (.int .i64 (pcTime b at_ e)) = w11 at *
     clear hR10 hc10 o10 p10 kk10 e10 f10
     change Rd w11 (q + 1) q b (pcAt5 b at_ e) (pcE5 b at_ e) at hR11
     refine (rshort_any (q + 1) q b _ _ _ hR11 (by omega)).mono ?_
     rintro r w12 ⟨rfl, hR12, hk12⟩
     obtain ⟨A11, c11, hb11, _⟩ := hR11.blk
     have hc12 := hc11.keep hk12 (by unfold Only; omega)
     have z12 := hk12.size
     have o12 := o11.keepOnly hk12 hb11 (by decide)
     have p12 := p11.keep hk12 (by unfold Only; omega)
     have kk12 : Kept q [29] [] w w12 := kk11.lift (Kept.ofKeep (base := q) (E := []) (G := [q + 1]) hk12 (by unfold Only; simp)) (Nat.le_refl _) (by simp) (by simp; omega)
     have e12 := (hc12.cell 35).trans comC_at.2.2.2
     have f12 := hc12.frozen 35
     clear hk12 hR11 hc11 o11 p11 kk11 hb11
     go_wp2_with fail
     change Calls _ _ _ (w12.setCell ⟨p, 35, none⟩ (.string (str (pcMsg b at_ e)))) _
     have hR13 := hR12.setCell (p := ⟨p, 35, none⟩) (by simp; omega) (by simp; omega) (.string (str (pcMsg b at_ e)))
     have hc13 := hc12.set_ 35 (.string (str (pcMsg b at_ e)))
     rw [(comC_set _ _ _ _ _).2.2.2] at hc13
     have o13 := o12.setCell (p := ⟨p, 35, none⟩) hc12 (by decide) (.string (str (pcMsg b at_ e)))
     have p13 := p12.far (p := ⟨p, 35, none⟩) (by simp; omega) (.string (str (pcMsg b at_ e)))
     have kk13 := kk12.setCell (p := ⟨p, 35, none⟩) (.inr (by simp; omega)) (.string (str (pcMsg b at_ e)))
     have z13' : w12.heap.size ≤ (w12.setCell ⟨p, 35, none⟩ (.string (str (pcMsg b at_ e)))).heap.size := by simp [World.setCell]
     generalize w12.setCell ⟨p, 35, none⟩ (.string (str (pcMsg b at_ e))) = w13 at *
     clear hR12 hc12 o12 p12 kk12 e12 f12
     refine (rend_any (q + 1) q b _ _ _ hR13 (by omega)).mono ?_
     rintro r w14 ⟨rfl, hR14, hk14⟩
     obtain ⟨A13, c13, hb13, _⟩ := hR13.blk
     have hc14 := hc13.keep hk14 (by unfold Only; omega)
     have z14 := hk14.size
     have o14 := o13.keepOnly hk14 hb13 (by decide)
     have p14 := p13.keep hk14 (by unfold Only; omega)
     have kk14 : Kept q [29] [] w w14 := kk13.lift (Kept.ofKeep (base := q) (E := []) (G := [q + 1]) hk14 (by unfold Only; simp)) (Nat.le_refl _) (by simp) (by simp; omega)
     clear hk14 hR13 hc13 o13 p13 kk13 hb13
     change Rd w14 (q + 1) q b _ (pcEnd b at_ e) at hR14
     obtain ⟨A14, c14, hb14, _⟩ := hR14.blk
     have r14 := hb14.cell 2
     simp at r14
     have HR := Lib.hid (show parseCommit b = if pcEnd b at_ e = 0 then (⟨t, ps, str (pcAuthor b at_ e), pcTime b at_ e, str (pcMsg b at_ e)⟩, 0) else (com0, pcEnd b at_ e) from by unfold parseCommit; rw [HEND.out, HT.out])
     obtain ⟨ee, hee⟩ : ∃ ee, pcEnd b at_ e = ee := ⟨_, rfl⟩
     rw [hee] at r14
     have HEE := Lib.hid hee
     clear hee hb14 hR14
     by_cases h0 : ee = 0
     · subst h0
       have HR2 := Lib.hid (HR.out.trans (if_pos HEE.out))
       go_wp2_with (first | (refine wpList_load rfl rfl rfl (load_com hc14) ?_) | (refine wpList_storeBlk rfl rfl (vs := comC t (.slice A' ps.length c') (str (pcAuthor b at_ e)) (pcTime b at_ e) (str (pcMsg b at_ e))) rfl rfl p14 (by rw [comC_size, comC_size]) (by rw [comC_size]; exact info_com) (comL_one _ _ _ _ _ rfl) ?_; intro w15 p15 hk15 z15))
       refine bodyPost_ret (results_cell_tmp rfl _ _ rfl (run_loadVar_cells w15 _ (comC t (.slice A' ps.length c') (str (pcAuthor b at_ e)) (pcTime b at_ e) (str (pcMsg b at_ e))) Tryz.underlying94 rfl (by rw [comC_size]; exact info_com) (fun j v hj => by rw [add_at, p15.cell, ← hj]; simp))) rfl ?_
       have o15 := o14.keepOnly hk15 p14 (by decide)
       have kk15 : Kept q [29] [] w w15 := kk14.lift (Kept.ofKeep (base := q) (E := []) (G := [q]) hk15 (by unfold Only; simp)) (Nat.le_refl _) (by simp) (by simp; omega)
       have := HQ.out
       subst this
       refine ⟨A', c', ?_, ?_, kk15.all⟩
       · rw [HR2.out]; rfl
       · rw [HR2.out]; exact o15
     · have h01 : (ee != 0) = true := by simpa using h0
       have HR2 := Lib.hid (HR.out.trans ((if_neg (by rw [HEE.out]; exact h0)).trans (by rw [HEE.out])))
       go_wp2_with fail
       have B1 : ∀ W, (BdCom #[]).run Tryz.prog W = .ok (.agg (comC noId nilS ByteArray.empty 0 ByteArray.empty)) W := build_com0
       have S1 := StCom.same p14.drew rfl
       go_region_law (fail)
       all_goals
        go_wp2_with fail
        refine bodyPost_ret (results_cell_tmp rfl _ _ rfl (run_loadVar_cells w14.drew _ (comC noId nilS ByteArray.empty 0 ByteArray.empty) Tryz.underlying94 rfl (by rw [comC_size]; exact info_com) (fun j v hj => by rw [add_at, p14.drew.cell, ← hj]; simp))) rfl ?_
        have kk15 := kk14.drew
        have := HQ.out
        subst this
        refine ⟨none, 0, ?_, ?_, kk15.all⟩
        · rw [HR2.out]; rfl
        · rw [HR2.out]; exact Own.nil _ _ _ _
end Go.Proofs.YtmlmbkelpjmafaaGreat
