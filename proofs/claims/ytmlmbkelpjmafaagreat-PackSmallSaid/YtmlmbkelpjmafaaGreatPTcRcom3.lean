/- Contract of the reference's ParseCommit. No statement of the seat is proved here. -/
import Derived.Deep.CutBlock
import Derived.Test.YtmlmbkelpjmafaaGreatPTcRcom
import Derived.Test.YtmlmbkelpjmafaaGreatPT08
import Derived.Deep.DeepCutAuto
namespace Go.Proofs.YtmlmbkelpjmafaaGreat
open Go.RowKit
theorem takeE_err {b : List UInt8} {at_ : Nat} {e n : Int} (h : e ≠ 0) : takeE b at_ e n = e := (take_e b at_ e n (by simpa using h)).2.2
theorem shortE_err {b : List UInt8} {at_ : Nat} {e : Int} (h : e ≠ 0) : shortE b at_ e = e := by unfold shortE; rw [takeE_err h, note_err h]
theorem shortE2_err {b : List UInt8} {at_ : Nat} {e : Int} (h : shortE b at_ e ≠ 0) : shortE2 b at_ e = shortE b at_ e := by unfold shortE2; rw [takeE_err h]
theorem pcE5_err {b : List UInt8} {at_ : Nat} {e : Int} (h : shortE2 b at_ e ≠ 0) : pcE5 b at_ e = shortE2 b at_ e := by unfold pcE5; rw [takeE_err h]
theorem pcEnd_err3 {b : List UInt8} {at_ : Nat} {e : Int} (h : shortE2 b (pcAt5 b at_ e) (pcE5 b at_ e) ≠ 0) : pcEnd b at_ e = shortE2 b (pcAt5 b at_ e) (pcE5 b at_ e) := by unfold pcEnd endE; rw [note_err h]
theorem pcEnd_err2 {b : List UInt8} {at_ : Nat} {e : Int} (h : shortE b (pcAt5 b at_ e) (pcE5 b at_ e) ≠ 0) : pcEnd b at_ e = shortE b (pcAt5 b at_ e) (pcE5 b at_ e) := by
 rw [pcEnd_err3 (by rw [shortE2_err h]; exact h), shortE2_err h]
theorem pcEnd_err1 {b : List UInt8} {at_ : Nat} {e : Int} (h : shortE b at_ e ≠ 0) : pcEnd b at_ e = shortE b at_ e := by
 have h5 : pcE5 b at_ e = shortE b at_ e := by rw [pcE5_err (by rw [shortE2_err h]; exact h), shortE2_err h]
 have h6 : shortE b (pcAt5 b at_ e) (pcE5 b at_ e) = shortE b at_ e := by rw [h5, shortE_err h]
 rw [pcEnd_err2 (by rw [h6]; exact h), h6]
theorem pcEnd_err {b : List UInt8} {at_ : Nat} {e : Int} (h : e ≠ 0) : pcEnd b at_ e = e := by
 rw [pcEnd_err1 (by rw [shortE_err h]; exact h), shortE_err h]
def pcTail (b : List UInt8) (t : Id) (ps : List Id) (at_ : Nat) (e : Int) : ComD × Int :=
 if pcEnd b at_ e = 0 then (⟨t, ps, str (pcAuthor b at_ e), pcTime b at_ e, str (pcMsg b at_ e)⟩, 0) else (com0, pcEnd b at_ e)
theorem pcTail_err {b : List UInt8} {t : Id} {ps : List Id} {at_ : Nat} {e k : Int} (h : pcEnd b at_ e = k) (h0 : k ≠ 0) : pcTail b t ps at_ e = (com0, k) := by unfold pcTail; rw [h, if_neg h0]
theorem parse_tail {b : List UInt8} {ps : List Id} {at_ : Nat} {e : Int} (h : pcL b = (ps, at_, e)) : parseCommit b = pcTail b (idOf (takeL b 0 0 32)) ps at_ e := by
 unfold parseCommit pcTail
 rw [h]
theorem parse_errL {b : List UInt8} {e : Int} (h : (pcL b).2.2 = e) (h0 : e ≠ 0) : parseCommit b = (com0, e) := by
 rw [parse_tail (ps := (pcL b).1) (at_ := (pcL b).2.1) (e := (pcL b).2.2) rfl, h]
 exact pcTail_err (pcEnd_err h0) h0
theorem parse_err4 {b : List UInt8} {e : Int} (h : pcE4 b = e) (h0 : e ≠ 0) : parseCommit b = (com0, e) := by
 refine parse_errL ?_ h0
 unfold pcL
 rw [h, pcLoop_err h0]
theorem parse_err2 {b : List UInt8} {e : Int} (h : pcE2 b = e) (h0 : e ≠ 0) : parseCommit b = (com0, e) := by
 refine parse_err4 ?_ h0
 unfold pcE4
 rw [h, takeE_err h0, note_err h0]
theorem note_yes {e k : Int} {x : Bool} (h : ((e == 0) && x) = true) : note e (!x) k = k := by
 simp only [Bool.and_eq_true, beq_iff_eq] at h
 rw [h.1, h.2]
 rfl
theorem note_no {e k : Int} {x : Bool} (h14 : e = 0 ∨ e = 14) (h : ((e == 0) && x) = false) : note e (!x) k = e := by
 rcases h14 with rfl | rfl
 · have : x = false := by simpa using h
   rw [this]
   rfl
 · exact note_err (by decide) _ _
section
variable {P : Program}
theorem wpList_built_g {ops : Array Oper} {rest : List Oper} {o : Oper} {a : Act} {w : World} {Q : Exit → Act → World → Prop} (hw : Region.wanted o (yielded ops a.tmps) = true) {t : TypeId} {parts : Array (Nat × Operand)} (ho : o.op = .build t parts) {vs : Array (Nat × Value)} {v : Value} (hp : parts.toList.map (fun p => (p.1, a.eval p.2)) = vs.toList) (hrun : (Instr.build t vs).run P w = .ok v w)
    (h : wpList P ops Q rest (a.put o.dst v) w) : wpList P ops Q (o :: rest) a w :=
 BigFrame.wpList_want hw fun _ hK => by
  have hq : (parts.map fun (i, x) => (i, a.eval x)) = vs := by
   apply Array.ext'
   rw [← hp, Array.toList_map]
  unfold Oper.wp execOp
  simp only [ho, hq, Sem.run_bind, hrun, Result.andThen_ok, Sem.run_pure]
  exact hK _ _ h
end
theorem Cu.setCell {w : World} {g B : Nat} {b : List UInt8} {at_ : Nat} {e : Int} (h : Cu w g B b at_ e) {p : Addr} (hB : B ≤ p.block) (hg : g ≠ p.block) (u : Value) : Cu (w.setCell p u) g B b at_ e := by
 obtain ⟨A, c, hb, hrd, h1, h2, h3, h4⟩ := h
 exact ⟨A, c, hb.far hg u, hrd.setCell hB u, h1, h2, h3, h4⟩
theorem com_err {b : List UInt8} {w w' : World} {e : Int} (he : parseCommit b = (com0, e)) (hk : Kept w.heap.size [29] [] w w') : ComPost b w (.returned (.tuple #[.agg (comC noId nilS ByteArray.empty 0 ByteArray.empty), .int .i64 e])) w' :=
 ⟨none, 0, by rw [he]; rfl, by rw [he]; exact Own.nil _ _ _ _, hk.all⟩
theorem loadVar_com {w : World} {g : Nat} {tt : TypeId} {t : Id} {p : Value} {a : ByteArray} {n : Int} {m : ByteArray} (h : Blk w g tt (comC t p a n m)) : (loadVar 94 ⟨g, 0, none⟩).run Tryz.prog w = .ok (.agg (comC t p a n m)) w :=
 run_loadVar_cells (P := Tryz.prog) w _ (comC t p a n m) Tryz.underlying94 rfl (by rw [comC_size]; exact info_com) (fun j v hj => by rw [add_at, h.cell, ← hj]; simp)
attribute [local go_sem ↓] ld_id eq_id bd_com st_com
set_option maxHeartbeats 4000000 in
set_option maxRecDepth 100000 in
theorem rparseCommit_any (b : List UInt8) (A : Option Addr) (c : Nat) (w : World) (hr : Reads w w.heap.size 1 A b.length (b.map bv)) (hl : b.length ≤ 1000000) (hc1 : b.length ≤ c) (hc2 : c ≤ maxLen) :
    Calls Tryz.prog 32 #[.slice A b.length c] w (ComPost b w) := by
 have B1 : ∀ W, (BdCom #[]).run Tryz.prog W = .ok (.agg (comC noId nilS ByteArray.empty 0 ByteArray.empty)) W := build_com0
 have hq0 : Blk ((w.alloc (.cells (comC noId nilS ByteArray.empty 0 ByteArray.empty) 94)).alloc (.cells #[.slice A b.length c, .int .i64 0, .bool false] 114)) w.heap.size 94 (comC noId nilS ByteArray.empty 0 ByteArray.empty) := (Blk.new _ _ _).alloc _
 have hR0 : Cu ((w.alloc (.cells (comC noId nilS ByteArray.empty 0 ByteArray.empty) 94)).alloc (.cells #[.slice A b.length c, .int .i64 0, .bool false] 114)) (w.heap.size + 1) w.heap.size b 0 0 := by
  refine ⟨A, c, ?_, (hr.alloc (Nat.le_refl _) _).alloc (by simp) _, Nat.zero_le _, hc1, hc2, by omega⟩
  have := Blk.new (w.alloc (.cells (comC noId nilS ByteArray.empty 0 ByteArray.empty) 94)) 114 #[.slice A b.length c, .int .i64 0, .bool false]
  simpa using this
 have hk0 : Keep Nothing w ((w.alloc (.cells (comC noId nilS ByteArray.empty 0 ByteArray.empty) 94)).alloc (.cells #[.slice A b.length c, .int .i64 0, .bool false] 114)) := ((Keep.refl _ _).alloc _).alloc _
 go_enter Tryz.func32, Tryz.ntmps32
 go_wp2_with (first | (refine wpList_allocAgg rfl rfl (zero_com _) ?_))
 generalize (w.alloc (.cells (comC noId nilS ByteArray.empty 0 ByteArray.empty) 94)).alloc (.cells #[.slice A b.length c, .int .i64 0, .bool false] 114) = w0 at *
 have hz0 := hk0.size
 generalize hq : w.heap.size = q at *
 have HQ := Lib.hid hq
 have hqle : q ≤ w.heap.size := by omega
 have hqge : w.heap.size ≤ q := by omega
 have l0 := hq0.lt
 have lc0 := hR0.lt
 clear hq
 have fin : ∀ (W : World) (e : Int), parseCommit b = (com0, e) → Kept q [29] [] w W → ComPost b w (.returned (.tuple #[.agg (comC noId nilS ByteArray.empty 0 ByteArray.empty), .int .i64 e])) W := fun W e h1 h2 => com_err h1 (by rw [HQ.out]; exact h2)
 have FIN := Lib.hid fin
 clear fin
 refine (cid_any (q + 1) q b 0 0 _ hR0 (by omega) (by omega)).mono ?_
 rintro r w1 ⟨rfl, hR1, hk1⟩
 have hq1 := hq0.keep hk1 (by unfold Only; omega)
 have kw1 : Keep (Only (q + 1)) w w1 := (hk0.mono (fun _ _ h => h.elim)).trans hk1
 have z1 := hk1.size
 clear hk1 hq0 hR0 hk0
 generalize hti : idOf (takeL b 0 0 32) = t at *
 have HT := Lib.hid hti
 clear hti
 go_upto_region 3 with (first | (refine wpList_built rfl rfl (vs := #[(0, idV t)]) rfl (build_com1 t _) ?_) | (refine wpList_allocAgg rfl rfl (zero_com _) ?_) | (refine wpList_storeBlk rfl rfl (vs := comC t nilS ByteArray.empty 0 ByteArray.empty) rfl rfl (Blk.new _ _ _) (by rw [comC_size, comC_size]) (by rw [comC_size]; exact info_com) (comL_one _ _ _ _ _ rfl) ?_; intro w2 hc2' hkc hzc))
 go_frame
 have hkN : Keep Nothing w1 w2 := Keep.ofNew hkc
 have hR2 := hR1.keep (by omega) hkN (fun _ h => h.elim)
 have hq2 := hq1.keep hkN (fun h => h)
 have kw2 : Keep (Only (q + 1)) w w2 := kw1.trans (hkN.mono (fun _ _ h => h.elim))
 have z2 := hkN.size
 have hp : q + 1 < w1.heap.size := hR1.lt
 generalize w1.heap.size = p at *
 clear hkc hzc hkN hR1 hq1 kw1
 have HE1 := Lib.hid (takeE_14 b 0 32 (.inl rfl : (0 : Int) = 0 ∨ (0 : Int) = 14))
 have HE2 := Lib.hid (show pcE2 b = note (takeE b 0 0 32) (!isNone t) 1 from by unfold pcE2; rw [HT.out])
 have HN := Lib.hid (show pcN b = num (takeL b (takeAt b 0 0 32) (pcE2 b) 1) from rfl)
 have HA2 := Lib.hid (show pcAt2 b = takeAt b (takeAt b 0 0 32) (pcE2 b) 1 from rfl)
 have HE4 := Lib.hid (show pcE4 b = note (takeE b (takeAt b 0 0 32) (pcE2 b) 1) (decide ((pcN b : Int) ≤ 8)) 4 from rfl)
 generalize takeAt b 0 0 32 = at1 at *
 generalize takeE b 0 0 32 = e1 at *
 generalize hisn : isNone t = isn at *
 have HIS := Lib.hid hisn
 clear hisn
 go_cut [26] (fun s26 wx => w2 = wx ∧ s26 = .bool ((e1 == 0) && isn))
 case first =>
  obtain ⟨A2, c2, hb2, hR2'⟩ := hR2
  have b2 := hb2.cell 2
  simp at b2
  rcases HE1.out with rfl | rfl
  · have L1 := ldId_com hc2'
    have G1 := fun (a b : Operand) (W : World) => guard_id .eql a b t noId W
    have E1 := fun W => run_EqId W t noId
    rw [show (t == noId) = isn from HIS.out] at E1
    have HB := Lib.hid (build_noId w2)
    go_wp2_with (first | (refine wpList_built_g (by rfl) rfl (vs := #[]) rfl HB.out ?_))
    go_meet
    exact ⟨rfl, rfl⟩
  · go_wp2_with fail
    go_meet
    exact ⟨rfl, rfl⟩
 case rest =>
  obtain ⟨rfl, rfl⟩ := hcut
  obtain ⟨tb, htb⟩ : ∃ tb, ((e1 == 0) && isn) = tb := ⟨_, rfl⟩
  rw [htb]
  cases tb with
  | true =>
   have HR := Lib.hid (show parseCommit b = (com0, 1) from parse_err2 (by rw [HE2.out]; exact note_yes htb) (by decide))
   have S1 := StCom.same hq2 rfl
   clear htb
   go_wp2_with fail
   refine bodyPost_ret (results_cell_tmp rfl _ _ rfl (loadVar_com hq2)) rfl ?_
   exact FIN.out _ 1 HR.out (Kept.ofKeep kw2 (by unfold Only; intro i hi h; omega))
  | false =>
   have HEE := Lib.hid (show pcE2 b = e1 from by rw [HE2.out]; exact note_no HE1.out htb)
   clear htb HE2
   rw [HEE.out] at HN HA2 HE4
   go_wp2_with fail
   refine (cnum_any 1 (by omega) (q + 1) q b at1 e1 _ hR2 (by omega)).mono ?_
   rintro r w3 ⟨rfl, hR3, hk3⟩
   have hv : num (takeL b at1 e1 1) < 256 := Nat.lt_of_lt_of_le (num_lt _) (Nat.le_trans (Nat.pow_le_pow_right (by omega) (takeL_le b at1 e1 1)) (by decide))
   have hc3 := hc2'.keep hk3 (by unfold Only; omega)
   have hq3 := hq2.keep hk3 (by unfold Only; omega)
   have kw3 := kw2.trans hk3
   have z3 := hk3.size
   have HE3 := Lib.hid (takeE_14 b at1 1 HE1.out)
   clear hk3 hR2 hc2' hq2 kw2
   change Cu w3 (q + 1) q b (takeAt b at1 e1 1) (takeE b at1 e1 1) at hR3
   generalize num (takeL b at1 e1 1) = n at *
   generalize takeAt b at1 e1 1 = at2 at *
   generalize takeE b at1 e1 1 = e3 at *
   obtain ⟨db, hdb⟩ : ∃ db, decide ((8 : Int) < (n : Int)) = db := ⟨_, rfl⟩
   have HDB := Lib.hid hdb
   go_upto_region 6 with fail
   go_cut [38] (fun s38 wx => w3 = wx ∧ s38 = .bool ((e3 == 0) && db))
   case first =>
    obtain ⟨A3, c3, hb3, hR3'⟩ := hR3
    have b3 := hb3.cell 2
    simp at b3
    rcases HE3.out with rfl | rfl
    · go_wp2_with fail
      go_meet
      exact ⟨rfl, rfl⟩
    · go_wp2_with fail
      go_meet
      exact ⟨rfl, rfl⟩
   case rest =>
    clear hdb
    obtain ⟨rfl, rfl⟩ := hcut
    obtain ⟨tb, htb⟩ : ∃ tb, ((e3 == 0) && db) = tb := ⟨_, rfl⟩
    rw [htb]
    have hdn : decide ((pcN b : Int) ≤ 8) = !db := by rw [HN.out, ← HDB.out, ← decide_not]; congr 1; exact propext ⟨fun h => by omega, fun h => by omega⟩
    cases tb with
    | true =>
     have HR := Lib.hid (show parseCommit b = (com0, 4) from parse_err4 (by rw [HE4.out, hdn]; exact note_yes htb) (by decide))
     have S1 := StCom.same hq3 rfl
     clear htb hdn
     go_wp2_with fail
     refine bodyPost_ret (results_cell_tmp rfl _ _ rfl (loadVar_com hq3)) rfl ?_
     exact FIN.out _ 4 HR.out (Kept.ofKeep kw3 (by unfold Only; intro i hi h; omega))
    | false =>
     have HL := Lib.hid (show pcLoop b n at2 e3 [] = pcL b from by unfold pcL; rw [HN.out, HA2.out, HE4.out, hdn, note_no HE3.out htb])
     clear htb hdn HE4 HN HA2 HEE
     go_upto_block 0 with fail
     go_cut [7] (fun s7 wx => ∃ at_ e ps A' c', (e = 0 ∨ e = 14) ∧ pcTail b t ps at_ e = parseCommit b ∧ Cu wx (q + 1) q b at_ e ∧ Blk wx p 94 (comC t (.slice A' ps.length c') ByteArray.empty 0 ByteArray.empty) ∧ Own wx q 29 32 A' ps.length c' (idLs ps) ∧ Blk wx q 94 (comC noId nilS ByteArray.empty 0 ByteArray.empty) ∧ Kept q [29] [] w wx ∧ p < wx.heap.size)
     case first =>
      go_wp2_with fail
      go_loopg [7] n (fun f i wr => ∃ k at_ e ps A' c', i = .int .i64 (k : Nat) ∧ k + f = n ∧ (e = 0 ∨ e = 14) ∧ pcLoop b f at_ e ps = pcL b ∧ Cu wr (q + 1) q b at_ e ∧ Blk wr p 94 (comC t (.slice A' ps.length c') ByteArray.empty 0 ByteArray.empty) ∧ Own wr q 29 32 A' ps.length c' (idLs ps) ∧ Blk wr q 94 (comC noId nilS ByteArray.empty 0 ByteArray.empty) ∧ Kept q [29] [] w wr ∧ p < wr.heap.size ∧ ps.length ≤ k)
      case atStart => exact ⟨0, at2, e3, [], none, 0, rfl, by omega, HE3.out, HL.out, hR3, hc3, Own.nil _ _ _ _, hq3, Kept.ofKeep kw3 (by unfold Only; intro i hi h; omega), hc3.lt, by simp⟩
      case round =>
       obtain ⟨k, at_, e, ps, A', c', rfl, hkf, h14, hpl, hR, hc, hown, hq0, hkp, hpz, hpsl⟩ := hrel
       have HP := Lib.hid hpl
       have HKF := Lib.hid hkf
       have H14 := Lib.hid h14
       have hkn : k ≤ n := by omega
       clear hpl hkf h14 hR3 hc3 hq3 kw3 HL
       have z7 := hkp.size
       obtain ⟨A7, c7, hb7, hR7⟩ := hR
       have r2 := hb7.cell 2
       simp at r2
       by_cases hgo : k < n ∧ e = 0
       · obtain ⟨hkn', he⟩ := hgo
         subst he
         cases gk with
         | zero => exact absurd HKF.out (by omega)
         | succ f =>
          go_wp2_with fail
          refine (cid_any (q + 1) q b at_ 0 _ ⟨A7, c7, hb7, hR7⟩ (by omega) (by omega)).mono ?_
          rintro r w8 ⟨rfl, hR8, hk8⟩
          have HP2 := Lib.hid (show pcLoop b (f + 1) at_ 0 ps = pcLoop b f (takeAt b at_ 0 32) (note (note (takeE b at_ 0 32) (!isNone (idOf (takeL b at_ 0 32))) 1) (!hasId ps (idOf (takeL b at_ 0 32))) 18) (ps ++ [idOf (takeL b at_ 0 32)]) from by show (if _ then _ else _) = _; rw [if_pos rfl])
          have HE8 := Lib.hid (takeE_14 b at_ 32 (.inl rfl : (0 : Int) = 0 ∨ (0 : Int) = 14))
          generalize idOf (takeL b at_ 0 32) = x at *
          change Cu w8 (q + 1) q b (takeAt b at_ 0 32) (takeE b at_ 0 32) at hR8
          generalize takeAt b at_ 0 32 = at8 at *
          generalize takeE b at_ 0 32 = e8 at *
          have hc8 := hc.keep hk8 (by unfold Only; omega)
          have z8 := hk8.size
          go_upto_region 12 with (first | (refine wpList_allocAgg rfl rfl (zero_noId _) ?_) | (refine wpList_storeBlk rfl rfl (vs := idC x) rfl rfl (Blk.new _ _ _) (by rw [idC_size, idC_size]) (by rw [idC_size]; exact info42) (idL_one _) ?_; intro w9 hx9 hkc hzc))
          go_frame
          have hkN : Keep Nothing w8 w9 := Keep.ofNew hkc
          have hR9 := hR8.keep (by omega) hkN (fun _ h => h.elim)
          have hc9 := hc8.keep hkN (fun h => h)
          have k9 : Keep (Only (q + 1)) wr w9 := hk8.trans (hkN.mono (fun _ _ h => h.elim))
          have z9 := hkN.size
          have hxl : wr.heap.size ≤ w8.heap.size := z8
          have hq9 := hq0.keep k9 (by unfold Only; omega)
          have o9 := hown.keepOnly k9 hb7 (by decide)
          have kk9 : Kept q [29] [] w w9 := hkp.lift (Kept.ofKeep (base := q) (E := []) (G := [q + 1]) k9 (by unfold Only; simp)) (Nat.le_refl _) (by simp) (by simp; omega)
          generalize w8.heap.size = x8 at *
          clear hkc hzc hkN hR8 hc8 hk8 k9 hown hq0 hkp hb7 r2 hR7 hc
          obtain ⟨A9, c9, hb9, hR9'⟩ := hR9
          have b9 := hb9.cell 2
          simp at b9
          rcases HE8.out with rfl | rfl
          · cases hxn : (x == noId) with
            | true =>
             have HR := Lib.hid (show parseCommit b = (com0, 1) from parse_errL (by rw [← HP.out, HP2.out]; unfold isNone; rw [hxn, show note 0 (!true) 1 = 1 from rfl, note_err (by decide), pcLoop_err (by decide)]) (by decide))
             have S1 := StCom.same hq9 rfl
             have L1 := LdId.blk hx9
             have G1 := fun (a b : Operand) (W : World) => guard_id .eql a b x noId W
             have E1 := fun W => run_EqId W x noId
             rw [hxn] at E1
             clear hxn
             go_wp2_with (first | (refine wpList_built rfl rfl (vs := #[]) rfl (build_noId _) ?_))
             refine bodyPost_ret (results_cell_tmp rfl _ _ rfl (loadVar_com hq9)) rfl ?_
             exact FIN.out _ 1 HR.out kk9
            | false =>
             have HP3 := Lib.hid (show pcL b = pcLoop b f at8 (note 0 (!hasId ps x) 18) (ps ++ [x]) from by rw [← HP.out, HP2.out]; unfold isNone; rw [hxn]; rfl)
             have L1 := LdId.blk hx9
             have G1 := fun (a b : Operand) (W : World) => guard_id .eql a b x noId W
             have E1 := fun W => run_EqId W x noId
             rw [hxn] at E1
             have pv := (hc9.cell 32).trans comC_at.1
             clear hxn
             go_wp2_with (first | (refine wpList_built rfl rfl (vs := #[]) rfl (build_noId _) ?_))
             refine (has_any ps ps.length rfl x A' c' _ _ o9.reads (Nat.le_refl _) (by omega)).mono ?_
             rintro r w10 ⟨rfl, hk10⟩
             have hR10 := Cu.keep (e := 0) ⟨A9, c9, hb9, hR9'⟩ (by omega) hk10 (fun _ h => h.elim)
             have hc10 := hc9.keep hk10 (fun h => h)
             have hx10 := hx9.keep hk10 (fun h => h)
             have hq10 := hq9.keep hk10 (fun h => h)
             have o10 := o9.kept (b' := 0) (E := []) (G := []) (Kept.ofKeep hk10 (by unfold Nothing; simp)) (by simp) (by simp)
             have kk10 := kk9.nothing hk10
             have z10 := hk10.size
             clear hk10 o9 hq9 hx9 hc9 hb9 hR9' kk9 L1 G1 E1 pv b9
             cases hh : hasId ps x with
             | true =>
              have HR := Lib.hid (show parseCommit b = (com0, 18) from parse_errL (by rw [HP3.out, hh, show note 0 (!true) 18 = 18 from rfl, pcLoop_err (by decide)]) (by decide))
              have S1 := StCom.same hq10 rfl
              clear hh
              go_wp2_with fail
              refine bodyPost_ret (results_cell_tmp rfl _ _ rfl (loadVar_com hq10)) rfl ?_
              exact FIN.out _ 18 HR.out kk10
             | false =>
              have HP4 := Lib.hid (show pcLoop b f at8 0 (ps ++ [x]) = pcL b from by rw [HP3.out, hh]; rfl)
              clear hh
              have L3 := LdId.blk hx10
              have pv10 := (hc10.cell 32).trans comC_at.1
              have lx := hx10.lt
              go_wp2_with (first | (refine wpList_buildSlice1 rfl elemId rfl zero_noId (idC_size _) (idC_size _) (by omega) rfl ?_) | (at_builtin; refine wpList_append_sl rfl elemId rfl rfl (o10.alloc _) rfl (Reads.of_cells (n := 1) (xs := idL x) (heap_alloc_new _ _) rfl (by rw [idL_len])) (idL_one _) (by unfold maxLen; omega) (by omega) (by simp; omega) ?_; intro A14 c14 w14 o14 k14; have hc14 := k14.blk (hc10.alloc _) (by simp) (by decide); have pv14 := (hc14.cell 32).trans comC_at.1; have fr14 := hc14.frozen 32))
              go_roundg f
              case measure => omega
              case rel =>
               have o14' : Own w14 q 29 32 A14 (ps ++ [x]).length c14 (idLs (ps ++ [x])) := by simpa [idLs] using o14
               have el : ps.length + 1 = (ps ++ [x]).length := by simp
               rw [el]
               refine ⟨k + 1, at8, 0, ps ++ [x], A14, c14, by go_num, by have := HKF.out; omega, .inl rfl, HP4.out, ?_, ?_, o14'.setCell (p := ⟨p, 32, none⟩) hc14 (by decide) _, ?_, ?_, ?_, by simp; omega⟩
               · obtain ⟨Ar, cr, br, rr, s1, s2, s3, s4⟩ := hR10.alloc (by omega) (.cells (idC x) 29)
                 exact ⟨Ar, cr, (k14.blk br (by simp) (by decide)).far (p := ⟨p, 32, none⟩) (by simp; omega) _, (rr.below (k14.below (Nat.le_refl _) (by simp; omega) (by simp))).setCell (p := ⟨p, 32, none⟩) (by simp; omega) _, s1, s2, s3, s4⟩
               · have := hc14.set_ 32 (.slice A14 (ps ++ [x]).length c14)
                 rwa [(comC_set _ _ _ _ _).1] at this
               · exact (k14.blk (hq10.alloc _) (by simp) (by decide)).far (p := ⟨p, 32, none⟩) (by simp; omega) _
               · exact Kept.setCell (p := ⟨p, 32, none⟩) ((kk10.alloc _).trans k14) (.inr (by simp; omega)) _
               · have := k14.size
                 simp [World.setCell] at this ⊢
                 omega
          · have HR := Lib.hid (show pcTail b t ps at8 14 = parseCommit b from by rw [pcTail_err (pcEnd_err (by decide)) (by decide), parse_errL (e := 14) (by rw [← HP.out, HP2.out, show note 14 (!isNone x) 1 = 14 from note_err (by decide) _ _, note_err (by decide), pcLoop_err (by decide)]) (by decide)])
            go_wp2_with fail
            go_meet
            exact ⟨at8, 14, ps, A', c', .inr rfl, HR.out, ⟨A9, c9, hb9, hR9'⟩, hc9, o9, hq9, kk9, by have := hx9.lt; omega⟩
       · have hend : pcTail b t ps at_ e = parseCommit b := by
          have : pcL b = (ps, at_, e) := by
           rw [← HP.out]
           by_cases he : e = 0
           · have h0 : gk = 0 := by have := HKF.out; omega
             rw [h0]
             rfl
           · exact pcLoop_err he
          rw [parse_tail this, HT.out]
         have HEND := Lib.hid hend
         have fin : (k < n ∧ e = 14) ∨ n ≤ k := by
          rcases H14.out with h | h
          · right
            rcases Nat.lt_or_ge k n with h1 | h1
            · exact absurd ⟨h1, h⟩ hgo
            · exact h1
          · rcases Nat.lt_or_ge k n with h1 | h1
            · exact .inl ⟨h1, h⟩
            · exact .inr h1
         clear hend hgo
         rcases fin with ⟨f1, rfl⟩ | f1
         all_goals
          go_wp2_with fail
          go_meet
          exact ⟨at_, _, ps, A', c', (by first | exact H14.out | exact .inr rfl), HEND.out, ⟨A7, c7, hb7, hR7⟩, hc, hown, hq0, hkp, hpz⟩
     case rest =>
      clear hR3 hc3 hq3 kw3 HL
      obtain ⟨at_, e, ps, A', c', h14, htl, hR, hc, hown, hq4, hkp, hpz⟩ := hcut
      have H14 := Lib.hid h14
      have z4 := hkp.size
      have lg := hR.lt
      have HX := Lib.hid (fun k (h : pcEnd b at_ e = k) (h0 : k ≠ 0) => (htl.symm.trans (pcTail_err h h0) : parseCommit b = (com0, k)))
      have HTL := Lib.hid htl
      clear h14 htl
      obtain ⟨A4, c4, hb4, hR4'⟩ := hR
      have hR : Cu wc (q + 1) q b at_ e := ⟨A4, c4, hb4, hR4'⟩
      go_wp2_with fail
      refine (cnum_any 2 (by omega) (q + 1) q b at_ e _ hR (by omega)).mono ?_
      rintro r w5 ⟨rfl, hR5, hk5⟩
      change Cu w5 (q + 1) q b (takeAt b at_ e 2) (takeE b at_ e 2) at hR5
      have hc5 := hc.keep hk5 (by unfold Only; omega)
      have hq5 := hq4.keep hk5 (by unfold Only; omega)
      have o5 := hown.keepOnly hk5 hb4 (by decide)
      have kk5 := hkp.only hk5 (by omega)
      have z5 := hk5.size
      have hv5 : num (takeL b at_ e 2) < 65536 := Nat.lt_of_lt_of_le (num_lt _) (Nat.le_trans (Nat.pow_le_pow_right (by omega) (takeL_le b at_ e 2)) (by decide))
      have HE5 := Lib.hid (takeE_14 b at_ 2 H14.out)
      have HS1 := Lib.hid (show shortE b at_ e = note (takeE b at_ e 2) (decide ((num (takeL b at_ e 2) : Int) ≤ 1000)) 5 from rfl)
      have HS2 := Lib.hid (show shortL b at_ e = takeL b (takeAt b at_ e 2) (shortE b at_ e) (num (takeL b at_ e 2)) ∧ shortAt b at_ e = takeAt b (takeAt b at_ e 2) (shortE b at_ e) (num (takeL b at_ e 2)) ∧ shortE2 b at_ e = takeE b (takeAt b at_ e 2) (shortE b at_ e) (num (takeL b at_ e 2)) from ⟨rfl, rfl, rfl⟩)
      clear hk5 hR hc hq4 hown hkp hb4 hR4'
      generalize num (takeL b at_ e 2) = n5 at *
      generalize takeAt b at_ e 2 = at5 at *
      generalize takeE b at_ e 2 = e5 at *
      obtain ⟨db, hdb⟩ : ∃ db, decide ((1000 : Int) < (n5 : Int)) = db := ⟨_, rfl⟩
      have HDB := Lib.hid hdb
      go_upto_region 19 with fail
      go_cut [83] (fun s83 wx => w5 = wx ∧ s83 = .bool ((e5 == 0) && db))
      case first =>
       obtain ⟨A3, c3, hb3, hR3'⟩ := hR5
       have b3 := hb3.cell 2
       simp at b3
       rcases HE5.out with rfl | rfl
       · go_wp2_with fail
         go_meet
         exact ⟨rfl, rfl⟩
       · go_wp2_with fail
         go_meet
         exact ⟨rfl, rfl⟩
      case rest =>
       clear hdb
       obtain ⟨rfl, rfl⟩ := hcut
       obtain ⟨tb, htb⟩ : ∃ tb, ((e5 == 0) && db) = tb := ⟨_, rfl⟩
       rw [htb]
       have hdn : decide ((n5 : Int) ≤ 1000) = !db := by rw [← HDB.out, ← decide_not]; congr 1; exact propext ⟨fun h => by omega, fun h => by omega⟩
       cases tb with
       | true =>
        have hs : shortE b at_ e = 5 := by rw [HS1.out, hdn]; exact note_yes htb
        have HR := Lib.hid (HX.out 5 ((pcEnd_err1 (by rw [hs]; decide)).trans hs) (by decide))
        have S1 := StCom.same hq5 rfl
        clear htb hdn hs
        go_wp2_with fail
        refine bodyPost_ret (results_cell_tmp rfl _ _ rfl (loadVar_com hq5)) rfl ?_
        exact FIN.out _ 5 HR.out kk5
       | false =>
        have hs : shortE b at_ e = e5 := by rw [HS1.out, hdn]; exact note_no HE5.out htb
        have HS3 := Lib.hid (show shortL b at_ e = takeL b at5 e5 n5 ∧ shortAt b at_ e = takeAt b at5 e5 n5 ∧ shortE2 b at_ e = takeE b at5 e5 n5 from by have := HS2.out; rw [hs] at this; exact this)
        clear htb hdn HS1 HS2 HDB hs
        have hb5 := hR5
        obtain ⟨A5, c5, hb5, hR5'⟩ := hb5
        have lg5 := hb5.lt
        go_wp2_with fail
        refine (cbytes_any n5 (q + 1) q b at5 e5 _ hR5 (by omega) (by omega)).mono ?_
        rintro r w6 ⟨A6, c6, rfl, ho6, hR6, hk6⟩
        have hc6 := hc5.keep hk6 (by unfold Only; omega)
        have hq6 := hq5.keep hk6 (by unfold Only; omega)
        have o6 := o5.keepOnly hk6 hb5 (by decide)
        have kk6 := kk5.only hk6 (by omega)
        have z6 := hk6.size
        have HE6 := Lib.hid (takeE_14 b at5 n5 HE5.out)
        clear hk6 hR5 hc5 hq5 o5 kk5 hb5 hR5'
        generalize takeL b at5 e5 n5 = l6 at *
        generalize takeAt b at5 e5 n5 = at6 at *
        generalize takeE b at5 e5 n5 = e6 at *
        have s6 := (hc6.cell 33).trans comC_at.2.1
        have f6 := hc6.frozen 33
        have rd6 := ho6.reads
        clear ho6
        go_wp2_with (first | (refine wpList_convStr rfl rfl Tryz.underlying22 Tryz.underlying5 Tryz.underlying9 rfl rd6 ?_))
        change Calls _ _ _ (w6.setCell ⟨p, 33, none⟩ (.string (str l6))) _
        have hR7 := hR6.setCell (p := ⟨p, 33, none⟩) (by simp; omega) (by simp; omega) (.string (str l6))
        have hc7 := hc6.set_ 33 (.string (str l6))
        rw [(comC_set _ _ _ _ _).2.1] at hc7
        have o7 := o6.setCell (p := ⟨p, 33, none⟩) hc6 (by decide) (.string (str l6))
        have hq7 := hq6.far (p := ⟨p, 33, none⟩) (by simp; omega) (.string (str l6))
        have kk7 := kk6.setCell (p := ⟨p, 33, none⟩) (.inr (by simp; omega)) (.string (str l6))
        have z7 : w6.heap.size ≤ (w6.setCell ⟨p, 33, none⟩ (.string (str l6))).heap.size := by simp [World.setCell]
        generalize w6.setCell ⟨p, 33, none⟩ (.string (str l6)) = w7 at *
        clear hR6 hc6 o6 hq6 kk6 s6 f6 rd6
        have lg7 := hR7.lt
        obtain ⟨A7, c7, hb7, _⟩ := id hR7
        refine (cnum8_any (q + 1) q b at6 e6 _ hR7 (by omega)).mono ?_
        rintro r w8 ⟨rfl, hR8, hk8⟩
        have hc8 := hc7.keep hk8 (by unfold Only; omega)
        have hq8 := hq7.keep hk8 (by unfold Only; omega)
        have o8 := o7.keepOnly hk8 hb7 (by decide)
        have kk8 := kk7.only hk8 (by omega)
        have z8 := hk8.size
        have HE8 := Lib.hid (takeE_14 b at6 8 HE6.out)
        have HS8 := Lib.hid (show pcTime b at_ e = numS (takeL b at6 e6 8) ∧ pcAt5 b at_ e = takeAt b at6 e6 8 ∧ pcE5 b at_ e = takeE b at6 e6 8 from by unfold pcTime pcAt5 pcE5; rw [HS3.out.2.1, HS3.out.2.2]; exact ⟨rfl, rfl, rfl⟩)
        clear hk8 hR7 hc7 hq7 o7 kk7 hb7
        generalize numS (takeL b at6 e6 8) = tm8 at *
        generalize takeAt b at6 e6 8 = at8 at *
        generalize takeE b at6 e6 8 = e8 at *
        have s8 := (hc8.cell 34).trans comC_at.2.2.1
        have f8 := hc8.frozen 34
        go_wp2_with fail
        have hR9 := hR8.setCell (p := ⟨p, 34, none⟩) (by simp; omega) (by simp; omega) (.int .i64 tm8)
        have hc9 := hc8.set_ 34 (.int .i64 tm8)
        rw [(comC_set _ _ _ _ _).2.2.1] at hc9
        have o9 := o8.setCell (p := ⟨p, 34, none⟩) hc8 (by decide) (.int .i64 tm8)
        have hq9 := hq8.far (p := ⟨p, 34, none⟩) (by simp; omega) (.int .i64 tm8)
        have kk9 := kk8.setCell (p := ⟨p, 34, none⟩) (.inr (by simp; omega)) (.int .i64 tm8)
        have z9 : w8.heap.size ≤ (w8.setCell ⟨p, 34, none⟩ (.int .i64 tm8)).heap.size := by simp [World.setCell]
        generalize w8.setCell ⟨p, 34, none⟩ (.int .i64 tm8) = w9 at *
        clear hR8 hc8 o8 hq8 kk8 s8 f8
        have lg9 := hR9.lt
        obtain ⟨A9, c9, hb9, _⟩ := id hR9
        refine (cnum_any 2 (by omega) (q + 1) q b at8 e8 _ hR9 (by omega)).mono ?_
        rintro r w10 ⟨rfl, hR10, hk10⟩
        change Cu w10 (q + 1) q b (takeAt b at8 e8 2) (takeE b at8 e8 2) at hR10
        have hc10 := hc9.keep hk10 (by unfold Only; omega)
        have hq10 := hq9.keep hk10 (by unfold Only; omega)
        have o10 := o9.keepOnly hk10 hb9 (by decide)
        have kk10 := kk9.only hk10 (by omega)
        have z10 := hk10.size
        have hv10 : num (takeL b at8 e8 2) < 65536 := Nat.lt_of_lt_of_le (num_lt _) (Nat.le_trans (Nat.pow_le_pow_right (by omega) (takeL_le b at8 e8 2)) (by decide))
        have HE10 := Lib.hid (takeE_14 b at8 2 HE8.out)
        have HU1 := Lib.hid (show shortE b at8 e8 = note (takeE b at8 e8 2) (decide ((num (takeL b at8 e8 2) : Int) ≤ 1000)) 5 from rfl)
        have HU2 := Lib.hid (show shortL b at8 e8 = takeL b (takeAt b at8 e8 2) (shortE b at8 e8) (num (takeL b at8 e8 2)) ∧ shortAt b at8 e8 = takeAt b (takeAt b at8 e8 2) (shortE b at8 e8) (num (takeL b at8 e8 2)) ∧ shortE2 b at8 e8 = takeE b (takeAt b at8 e8 2) (shortE b at8 e8) (num (takeL b at8 e8 2)) from ⟨rfl, rfl, rfl⟩)
        clear hk10 hR9 hc9 hq9 o9 kk9 hb9
        generalize num (takeL b at8 e8 2) = n10 at *
        generalize takeAt b at8 e8 2 = at10 at *
        generalize takeE b at8 e8 2 = e10 at *
        obtain ⟨db2, hdb2⟩ : ∃ db, decide ((1000 : Int) < (n10 : Int)) = db := ⟨_, rfl⟩
        have HDB := Lib.hid hdb2
        go_upto_region 24 with fail
        go_cut [103] (fun s103 wx => w10 = wx ∧ s103 = .bool ((e10 == 0) && db2))
        case first =>
         obtain ⟨A3, c3, hb3, hR3'⟩ := hR10
         have b3 := hb3.cell 2
         simp at b3
         rcases HE10.out with rfl | rfl
         · go_wp2_with fail
           go_meet
           exact ⟨rfl, rfl⟩
         · go_wp2_with fail
           go_meet
           exact ⟨rfl, rfl⟩
        case rest =>
         clear hdb2
         obtain ⟨rfl, rfl⟩ := hcut
         obtain ⟨tb, htb⟩ : ∃ tb, ((e10 == 0) && db2) = tb := ⟨_, rfl⟩
         rw [htb]
         have hdn : decide ((n10 : Int) ≤ 1000) = !db2 := by rw [← HDB.out, ← decide_not]; congr 1; exact propext ⟨fun h => by omega, fun h => by omega⟩
         cases tb with
         | true =>
          have hs : shortE b at8 e8 = 5 := by rw [HU1.out, hdn]; exact note_yes htb
          have hs2 : shortE b (pcAt5 b at_ e) (pcE5 b at_ e) = 5 := by rw [HS8.out.2.1, HS8.out.2.2, hs]
          have HR := Lib.hid (HX.out 5 ((pcEnd_err2 (by rw [hs2]; decide)).trans hs2) (by decide))
          have S1 := StCom.same hq10 rfl
          clear htb hdn hs hs2
          go_wp2_with fail
          refine bodyPost_ret (results_cell_tmp rfl _ _ rfl (loadVar_com hq10)) rfl ?_
          exact FIN.out _ 5 HR.out kk10
         | false =>
          have hs : shortE b at8 e8 = e10 := by rw [HU1.out, hdn]; exact note_no HE10.out htb
          have HU3 := Lib.hid (show shortL b at8 e8 = takeL b at10 e10 n10 ∧ shortAt b at8 e8 = takeAt b at10 e10 n10 ∧ shortE2 b at8 e8 = takeE b at10 e10 n10 from by have := HU2.out; rw [hs] at this; exact this)
          clear htb hdn HU1 HU2 HDB hs
          obtain ⟨A10, c10, hb10, _⟩ := id hR10
          have lg10 := hb10.lt
          go_wp2_with fail
          refine (cbytes_any n10 (q + 1) q b at10 e10 _ hR10 (by omega) (by omega)).mono ?_
          rintro r w11 ⟨A11, c11, rfl, ho11, hR11, hk11⟩
          have hc11 := hc10.keep hk11 (by unfold Only; omega)
          have hq11 := hq10.keep hk11 (by unfold Only; omega)
          have o11 := o10.keepOnly hk11 hb10 (by decide)
          have kk11 := kk10.only hk11 (by omega)
          have z11 := hk11.size
          have HE11 := Lib.hid (takeE_14 b at10 n10 HE10.out)
          have HEND := Lib.hid (show pcMsg b at_ e = takeL b at10 e10 n10 ∧ pcEnd b at_ e = note (takeE b at10 e10 n10) ((takeAt b at10 e10 n10 : Int) == (b.length : Int)) 15 from by
           unfold pcMsg pcEnd endE
           rw [HS8.out.2.1, HS8.out.2.2, HU3.out.1, HU3.out.2.1, HU3.out.2.2]
           exact ⟨rfl, rfl⟩)
          clear hk11 hR10 hc10 hq10 o10 kk10 hb10 HU3
          generalize takeL b at10 e10 n10 = l11 at *
          generalize takeAt b at10 e10 n10 = at11 at *
          generalize takeE b at10 e10 n10 = e11 at *
          have s11 := (hc11.cell 35).trans comC_at.2.2.2
          have f11 := hc11.frozen 35
          have rd11 := ho11.reads
          clear ho11
          go_upto_region 27 with (first | (refine wpList_convStr rfl rfl Tryz.underlying22 Tryz.underlying5 Tryz.underlying9 rfl rd11 ?_))
          have hR12 := hR11.setCell (p := ⟨p, 35, none⟩) (by simp; omega) (by simp; omega) (.string (str l11))
          have hc12 := hc11.set_ 35 (.string (str l11))
          rw [(comC_set _ _ _ _ _).2.2.2] at hc12
          have o12 := o11.setCell (p := ⟨p, 35, none⟩) hc11 (by decide) (.string (str l11))
          have hq12 := hq11.far (p := ⟨p, 35, none⟩) (by simp; omega) (.string (str l11))
          have kk12 := kk11.setCell (p := ⟨p, 35, none⟩) (.inr (by simp; omega)) (.string (str l11))
          have z12 : w11.heap.size ≤ (w11.setCell ⟨p, 35, none⟩ (.string (str l11))).heap.size := by simp [World.setCell]
          change Code.wp _ _ _ _ (w11.setCell ⟨p, 35, none⟩ (.string (str l11)))
          generalize w11.setCell ⟨p, 35, none⟩ (.string (str l11)) = w12 at *
          clear hR11 hc11 o11 hq11 kk11 s11 f11 rd11
          obtain ⟨A12, c12, hb12, hR12', hat12, _⟩ := hR12
          have b2 := hb12.cell 2
          have b1 := hb12.cell 1
          simp at b2 b1
          have S1 := StCom.same hq12 rfl
          rcases HE11.out with rfl | rfl
          · by_cases hend : at11 < b.length
            · have HR := Lib.hid (HX.out 15 (by rw [HEND.out.2, show ((at11 : Int) == (b.length : Int)) = false from beq_eq_false_iff_ne.2 (by omega)]; rfl) (by decide))
              go_wp2_with fail
              refine bodyPost_ret (results_cell_tmp rfl _ _ rfl (loadVar_com hq12)) rfl ?_
              exact FIN.out _ 15 HR.out kk12
            · have h0 : pcEnd b at_ e = 0 := by rw [HEND.out.2, show ((at11 : Int) == (b.length : Int)) = true from beq_iff_eq.2 (by omega)]; rfl
              have HR := Lib.hid (show parseCommit b = (⟨t, ps, str l6, tm8, str l11⟩, 0) from by rw [← HTL.out]; unfold pcTail; rw [if_pos h0]; unfold pcAuthor; rw [HS3.out.1, HS8.out.1, HEND.out.1])
              clear h0 S1
              go_wp2_with (first | (refine wpList_load rfl rfl rfl (load_com hc12) ?_) | (refine wpList_storeBlk rfl rfl (vs := comC t (.slice A' ps.length c') (str l6) tm8 (str l11)) rfl rfl hq12 (by rw [comC_size, comC_size]) (by rw [comC_size]; exact info_com) (comL_one _ _ _ _ _ rfl) ?_; intro w15 p15 hk15 z15))
              refine bodyPost_ret (results_cell_tmp rfl _ _ rfl (loadVar_com p15)) rfl ?_
              have o15 := o12.keepOnly hk15 hq12 (by decide)
              have kk15 : Kept q [29] [] w w15 := kk12.lift (Kept.ofKeep (base := q) (E := []) (G := [q]) hk15 (by unfold Only; simp)) (Nat.le_refl _) (by simp) (by simp; omega)
              have := HQ.out
              subst this
              refine ⟨A', c', ?_, ?_, kk15.all⟩
              · rw [HR.out]; rfl
              · rw [HR.out]; exact o15
          · have HR := Lib.hid (HX.out 14 (by rw [HEND.out.2]; exact note_err (by decide) _ _) (by decide))
            go_wp2_with fail
            refine bodyPost_ret (results_cell_tmp rfl _ _ rfl (loadVar_com hq12)) rfl ?_
            exact FIN.out _ 14 HR.out kk12
end Go.Proofs.YtmlmbkelpjmafaaGreat
