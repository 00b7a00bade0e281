/-
  Contract of codec.ParseObj. No statement of the seat is proved here.
-/
import Derived.Test.YtppmolneklidfaaObj1
import Derived.Test.YtppmolneklidfaaEcom
import Derived.Deep.DeepCutAuto
namespace Go.Proofs.Ytppmolneklidfaa
open Go.RowKit

/-! ### Plain -/
def poK (b : List UInt8) : Int := kindOf (UInt8.ofNat (num (takeL b 0 0 1)))
def poE1 (b : List UInt8) : Int := note (takeE b 0 0 1) (poK b != 0) 3
def poAt1 (b : List UInt8) : Nat := takeAt b 0 0 1
def poE4 (b : List UInt8) (at_ : Nat) (e : Int) : Int := endE b (textAt b at_ e 4) (textE b at_ e 4)
def poE5 (b : List UInt8) (k : Int) (at_ : Nat) (e : Int) : Int := if poE4 b at_ e = 0 then bodyE k (textL b at_ e 4) else poE4 b at_ e
def poTail (b : List UInt8) (k : Int) (at_ : Nat) (e : Int) : (Int × List UInt8) × Int := if poE5 b k at_ e = 0 then ((k, textL b at_ e 4), 0) else ((0, []), poE5 b k at_ e)
def parseObj (b : List UInt8) : (Int × List UInt8) × Int := if b.length < 5 then ((0, []), 14) else poTail b (poK b) (poAt1 b) (poE1 b)
theorem textE_err {b : List UInt8} {at_ : Nat} {e n : Int} (h : (e != 0) = true) : textE b at_ e n = e := by
  unfold textE
  rw [(take_e b at_ e n h).2.2]
  exact (take_e b _ e _ h).2.2
theorem poE4_err {b : List UInt8} {at_ : Nat} {e : Int} (h : (e != 0) = true) : poE4 b at_ e = e := by
  unfold poE4 endE
  rw [textE_err h]
  exact if_neg (by simpa using h)
theorem poE5_err {b : List UInt8} {k : Int} {at_ : Nat} {e : Int} (h : (e != 0) = true) : poE5 b k at_ e = e := by
  have h0 : e ≠ 0 := by simpa using h
  unfold poE5
  rw [poE4_err h, if_neg h0]
theorem poTail_err {b : List UInt8} {k : Int} {at_ : Nat} {e : Int} (h : (e != 0) = true) : poTail b k at_ e = ((0, []), e) := by
  have h0 : e ≠ 0 := by simpa using h
  unfold poTail
  rw [poE5_err h, if_neg h0]
def ObjPost (b : List UInt8) (w : World) (r : Ending) (w' : World) : Prop :=
  ∃ A c, r = .returned (.tuple #[.agg #[.int .i64 (parseObj b).1.1, .slice A (parseObj b).1.2.length c], .int .i64 (parseObj b).2]) ∧ Own w' w.heap.size 5 1 A (parseObj b).1.2.length c ((parseObj b).1.2.map bv) ∧ Below w.heap.size w w'

theorem info_obj : (Try.prog.info? 38).map (·.size) = some 2 := by kernel_rfl
theorem obj_one : ∀ v ∈ (#[Value.int .i64 0, Value.slice none 0 0] : Array Value).toList, v.oneCell' = true := by
  intro v hv
  simp at hv
  rcases hv with rfl | rfl <;> rfl
theorem obj_one2 {k : Int} {A : Option Addr} {n c : Nat} : ∀ v ∈ (#[Value.int .i64 k, Value.slice A n c] : Array Value).toList, v.oneCell' = true := by
  intro v hv
  simp at hv
  rcases hv with rfl | rfl <;> rfl
theorem loadVar_obj {w : World} {g : Nat} {tt : TypeId} {k : Int} {v : Value} (h : Blk w g tt #[.int .i64 k, v]) : (loadVar 38 ⟨g, 0, none⟩).run Try.prog w = .ok (.agg #[.int .i64 k, v]) w :=
  run_loadVar_cells (P := Try.prog) w _ #[.int .i64 k, v] Try.underlying38 rfl info_obj (fun j x hj => by rw [add_at, h.cell, ← hj]; simp)
set_option maxHeartbeats 4000000 in
set_option maxRecDepth 100000 in
theorem parseObj_any (b : List UInt8) (A : Option Addr) (c : Nat) (w : World) (hr : Reads w w.heap.size 1 A b.length (b.map bv)) (hl : b.length ≤ 1000000) (hc1 : b.length ≤ c) (hc2 : c ≤ maxLen) :
    Calls Try.prog 28 #[.slice A b.length c] w (ObjPost b w) := by
  have hq0 : Blk ((w.alloc (.cells #[.int .i64 0, .slice none 0 0] 38)).alloc (.cells #[.slice A b.length c, .int .i64 0, .int .i64 0] 103)) w.heap.size 38 #[.int .i64 0, .slice none 0 0] := (Blk.new _ _ _).alloc _
  have hR0 : Rd ((w.alloc (.cells #[.int .i64 0, .slice none 0 0] 38)).alloc (.cells #[.slice A b.length c, .int .i64 0, .int .i64 0] 103)) (w.heap.size + 1) w.heap.size b 0 0 := by
    refine ⟨A, c, ?_, (hr.alloc (Nat.le_refl _) _).alloc (by simp) _, Nat.zero_le _, hc1, hc2, by omega⟩
    have := Blk.new (w.alloc (.cells #[.int .i64 0, .slice none 0 0] 38)) 103 #[.slice A b.length c, .int .i64 0, .int .i64 0]
    simpa using this
  have hk0 : Keep Nothing w ((w.alloc (.cells #[.int .i64 0, .slice none 0 0] 38)).alloc (.cells #[.slice A b.length c, .int .i64 0, .int .i64 0] 103)) := ((Keep.refl _ _).alloc _).alloc _
  go_enter Try.func28, Try.ntmps28
  go_wp2_with fail
  generalize (w.alloc (.cells #[.int .i64 0, .slice none 0 0] 38)).alloc (.cells #[.slice A b.length c, .int .i64 0, .int .i64 0] 103) = w0 at *
  have hz0 := hk0.size
  generalize hq : w.heap.size = q at *
  have HQ := Lib.hid hq
  have hqle : q ≤ w.heap.size := by omega
  have hqge : w.heap.size ≤ q := by omega
  have l0 := hq0.lt
  clear hq
  obtain ⟨A0, c0, hb0, hR0'⟩ := hR0.blk
  refine (must_any (q + 1) _ _ _ _ 14 _ _ hb0).mono ?_
  rintro r w1 ⟨rfl, hb1, hk1⟩
  have hR1 := hR0' _ _ hb1 (by omega) hk1
  have hq1 := hq0.keep hk1 (by unfold Only; omega)
  have kw1 : Keep (Only (q + 1)) w w1 := (hk0.mono (fun _ _ h => h.elim)).trans hk1
  have z1 := hk1.size
  have l1 := hb1.lt
  clear hk1 hR0 hR0' hb0 hb1 hq0 hk0
  have q2 : Blk (w1.alloc (.cells #[.int .i64 0, .slice none 0 0] 38)) w1.heap.size 38 #[.int .i64 0, .slice none 0 0] := Blk.new _ _ _
  have hR2 := hR1.alloc (by omega) (.cells #[.int .i64 0, .slice none 0 0] 38)
  have hq2 := hq1.alloc (.cells #[.int .i64 0, .slice none 0 0] 38)
  have kw2 := kw1.alloc (.cells #[.int .i64 0, .slice none 0 0] 38)
  have z2 : w1.heap.size ≤ (w1.alloc (.cells #[.int .i64 0, .slice none 0 0] 38)).heap.size := by simp
  clear hR1 hq1 kw1
  go_upto_region 4 with fail
  generalize w1.alloc (.cells #[.int .i64 0, .slice none 0 0] 38) = w2 at *
  generalize w1.heap.size = p at *
  obtain ⟨db, hdb⟩ : ∃ db, decide ((5 : Int) ≤ (b.length : Int)) = db := ⟨_, rfl⟩
  rw [hdb] at hR2
  rw [hdb]
  have HDB := Lib.hid hdb
  clear hdb
  go_cut [23] (fun s23 wx => w2 = wx ∧ s23 = .bool db)
  case first =>
    obtain ⟨Ar, cr, hbr, _⟩ := hR2.blk
    have r2 := hbr.cell 2
    simp at r2
    cases db
    all_goals
      go_wp2_with fail
      go_meet
      exact ⟨rfl, rfl⟩
  case rest =>
    obtain ⟨rfl, rfl⟩ := hcut
    go_upto_if 23 with fail
    go_cut [23] (fun s23 wx => ∃ k at_ e, poTail b k at_ e = parseObj b ∧ Rd wx (q + 1) q b at_ e ∧ Blk wx p 38 #[.int .i64 k, .slice none 0 0] ∧ Blk wx q 38 #[.int .i64 0, .slice none 0 0] ∧ Keep (Only (q + 1)) w wx ∧ p < wx.heap.size)
    case first =>
      cases db with
      | false =>
        have h5 : b.length < 5 := by have := of_decide_eq_false HDB.out; omega
        have HP := Lib.hid (show poTail b 0 0 14 = parseObj b from by rw [poTail_err (by decide)]; unfold parseObj; rw [if_pos h5])
        go_wp2_with fail
        go_meet
        exact ⟨0, 0, 14, HP.out, hR2, q2, hq2, kw2, q2.lt⟩
      | true =>
        have h5 : ¬ b.length < 5 := by have := of_decide_eq_true HDB.out; omega
        have HP := Lib.hid (show poTail b (poK b) (poAt1 b) (poE1 b) = parseObj b from by unfold parseObj; rw [if_neg h5])
        change Rd w2 (q + 1) q b 0 0 at hR2
        go_wp2_with fail
        refine (rnumber_any 1 (by omega) (q + 1) q b 0 0 _ hR2 (by omega)).mono ?_
        rintro r w3 ⟨rfl, hR3, hk3⟩
        have q3 := q2.keep hk3 (by unfold Only; omega)
        have hq3 := hq2.keep hk3 (by unfold Only; omega)
        have kw3 := kw2.trans hk3
        have z3 := hk3.size
        clear hk3 hR2 q2 hq2 kw2
        have hv : num (takeL b 0 0 1) < 256 := Nat.lt_of_lt_of_le (num_lt _) (Nat.le_trans (Nat.pow_le_pow_right (by omega) (takeL_le b 0 0 1)) (by decide))
        have HK := Lib.hid (show poK b = kindOf (UInt8.ofNat (num (takeL b 0 0 1))) from rfl)
        have hu : ((UInt8.ofNat (num (takeL b 0 0 1))).toNat : Int) = (num (takeL b 0 0 1) : Int) := by rw [UInt8.toNat_ofNat', Nat.mod_eq_of_lt (by omega)]
        change Rd w3 (q + 1) q b (poAt1 b) (takeE b 0 0 1) at hR3
        have hki := fun W => kind_any (UInt8.ofNat (num (takeL b 0 0 1))) W
        rw [hu, ← HK.out] at hki
        have HKI := Lib.hid hki
        generalize num (takeL b 0 0 1) = nk at *
        clear hu hki
        go_wp2_with fail
        refine (HKI.out _).mono ?_
        rintro r w4 ⟨rfl, rfl⟩
        have c0 := q3.cell 0
        have f0 := q3.frozen 0
        simp at c0
        go_upto_region 6 with fail
        have hR5 := hR3.setCell (p := ⟨p, 0, none⟩) (by simp; omega) (by simp; omega) (.int .i64 (poK b))
        have q5 := q3.set_ 0 (.int .i64 (poK b))
        simp only [List.setIfInBounds_toArray, List.set_cons_zero] at q5
        have hq5 := hq3.far (p := ⟨p, 0, none⟩) (by simp; omega) (.int .i64 (poK b))
        have kw5 := kw3.setCell (p := ⟨p, 0, none⟩) (.inr (by simp; omega)) (.int .i64 (poK b))
        have z5 : w3.heap.size ≤ (w3.setCell ⟨p, 0, none⟩ (.int .i64 (poK b))).heap.size := by simp [World.setCell]
        generalize w3.setCell ⟨p, 0, none⟩ (.int .i64 (poK b)) = w5 at *
        clear hR3 q3 hq3 kw3 c0 f0
        have HE1 := Lib.hid (show poE1 b = note (takeE b 0 0 1) (poK b != 0) 3 from rfl)
        generalize poK b = kk at *
        generalize takeE b 0 0 1 = ee at *
        generalize poAt1 b = aa at *
        obtain ⟨A5, c5, hb5, hR5'⟩ := hR5.blk
        have k0 := q5.cell 0
        simp at k0
        go_region_law (first | (go_simp; go_at_call 40; refine (must_any (q + 1) _ _ _ _ 3 _ _ hb5.drew).mono ?_; rintro r w6 ⟨rfl, hb6, hk6⟩))
        all_goals
          have k56 : Keep (Only (q + 1)) w5 w6 := (Keep.drew (Keep.refl (Only (q + 1)) w5)).trans hk6
          have hR6 := hR5' _ _ hb6 (by omega) k56
          rw [← HE1.out] at hR6
          go_wp2_with fail
          go_meet
          have z6 := k56.size
          exact ⟨kk, aa, _, HP.out, hR6, q5.keep k56 (by unfold Only; omega), hq5.keep k56 (by unfold Only; omega), kw5.trans k56, (q5.keep k56 (by unfold Only; omega)).lt⟩
    case rest =>
      clear hR2 q2 hq2 kw2
      obtain ⟨k, at_, e, htl, hR, hp, hq1, hk, hpz⟩ := hcut
      have HTL := Lib.hid htl
      clear htl
      have z := hk.size
      obtain ⟨Ag, cg, hbg, _⟩ := hR.blk
      have lg := hbg.lt
      clear hbg
      go_wp2_with fail
      refine (rnumber_any 4 (by omega) (q + 1) q b at_ e _ hR (by omega)).mono ?_
      rintro r w3 ⟨rfl, hR3, hk3⟩
      have hv : num (takeL b at_ e 4) < 4294967296 := Nat.lt_of_lt_of_le (num_lt _) (Nat.le_trans (Nat.pow_le_pow_right (by omega) (takeL_le b at_ e 4)) (by decide))
      have p3 := hp.keep hk3 (by unfold Only; omega)
      have q3 := hq1.keep hk3 (by unfold Only; omega)
      have kw3 := hk.trans hk3
      have z3 := hk3.size
      have HB := Lib.hid (show textL b at_ e 4 = takeL b (takeAt b at_ e 4) (takeE b at_ e 4) (num (takeL b at_ e 4)) ∧ textAt b at_ e 4 = takeAt b (takeAt b at_ e 4) (takeE b at_ e 4) (num (takeL b at_ e 4)) ∧ textE b at_ e 4 = takeE b (takeAt b at_ e 4) (takeE b at_ e 4) (num (takeL b at_ e 4)) from ⟨rfl, rfl, rfl⟩)
      clear hk3 hR hp hq1 hk
      change Rd w3 (q + 1) q b (takeAt b at_ e 4) (takeE b at_ e 4) at hR3
      generalize num (takeL b at_ e 4) = n3 at *
      generalize takeAt b at_ e 4 = a3 at *
      generalize takeE b at_ e 4 = e3 at *
      go_wp2_with fail
      refine (take_any (q + 1) q b a3 e3 n3 _ hR3 (by omega)).mono ?_
      rintro r w4 ⟨A4, c4, rfl, hrd4, hlc4, hcm4, hR4, hk4⟩
      have p4 := p3.keep hk4 (by unfold Only; omega)
      have q4 := q3.keep hk4 (by unfold Only; omega)
      have kw4 := kw3.trans hk4
      have z4 := hk4.size
      clear hk4 hR3 p3 q3 kw3
      rw [← HB.out.2.1, ← HB.out.2.2] at hR4
      rw [← HB.out.1] at hrd4 hlc4
      rw [← HB.out.1]
      have hbl : (textL b at_ e 4).length ≤ b.length := by
        rw [HB.out.1]
        unfold takeL
        split
        · simp; omega
        · simp
      have HT := Lib.hid (show poTail b k at_ e = if poE5 b k at_ e = 0 then ((k, textL b at_ e 4), 0) else ((0, []), poE5 b k at_ e) from rfl)
      have HE4 := Lib.hid (show poE4 b at_ e = endE b (textAt b at_ e 4) (textE b at_ e 4) from rfl)
      have HE5 := Lib.hid (show poE5 b k at_ e = if poE4 b at_ e = 0 then bodyE k (textL b at_ e 4) else poE4 b at_ e from rfl)
      generalize textL b at_ e 4 = bd at *
      generalize textAt b at_ e 4 = a4 at *
      generalize textE b at_ e 4 = e4 at *
      clear HB
      go_wp2_with fail
      refine (clone_any bd A4 c4 _ _ hrd4 (by omega) (by omega)).mono ?_
      rintro r w5 ⟨A5, c5, rfl, o5, hk5⟩
      have p5 := p4.keep hk5 (fun h => h)
      have q5 := q4.keep hk5 (fun h => h)
      have kw5 := kw4.trans (hk5.mono (fun _ _ h => h.elim))
      have hR5 := hR4.keep (by omega) hk5 (fun _ h => h.elim)
      have z5 := hk5.size
      have o5' := o5.mono (base' := q) (by omega)
      clear hk5 hR4 p4 q4 kw4 o5 hrd4
      have c1 := p5.cell 1
      have f1 := p5.frozen 1
      simp at c1
      go_wp2_with fail
      have hR6 := hR5.setCell (p := ⟨p, 1, none⟩) (by simp; omega) (by simp; omega) (.slice A5 bd.length c5)
      have p6 := p5.set_ 1 (.slice A5 bd.length c5)
      simp only [List.setIfInBounds_toArray, List.set_cons_succ, List.set_cons_zero] at p6
      have q6 := q5.far (p := ⟨p, 1, none⟩) (by simp; omega) (.slice A5 bd.length c5)
      have kw6 := kw5.setCell (p := ⟨p, 1, none⟩) (.inr (by simp; omega)) (.slice A5 bd.length c5)
      have o6 := o5'.setCell (p := ⟨p, 1, none⟩) p5 (by decide) (.slice A5 bd.length c5)
      have z6 : w5.heap.size ≤ (w5.setCell ⟨p, 1, none⟩ (.slice A5 bd.length c5)).heap.size := by simp [World.setCell]
      generalize w5.setCell ⟨p, 1, none⟩ (.slice A5 bd.length c5) = w6 at *
      clear hR5 p5 q5 kw5 o5' c1 f1
      refine (rend_any (q + 1) q b _ _ _ hR6 (by omega)).mono ?_
      rintro r w7 ⟨rfl, hR7, hk7⟩
      obtain ⟨A6, c6, hb6, _⟩ := hR6.blk
      have p7 := p6.keep hk7 (by unfold Only; omega)
      have q7 := q6.keep hk7 (by unfold Only; omega)
      have kw7 := kw6.trans hk7
      have o7 := o6.keepOnly hk7 hb6 (by decide)
      have z7 := hk7.size
      rw [← HE4.out] at hR7
      clear hk7 hR6 p6 q6 kw6 o6 hb6
      obtain ⟨A7, c7, hb7, hR7'⟩ := hR7.blk
      have r7 := hb7.cell 2
      simp at r7
      have fin : ∀ (W : World) (ee : Int), poE5 b k at_ e = ee → ee ≠ 0 → Kept q [5] [] w W → ObjPost b w (.returned (.tuple #[.agg #[.int .i64 0, .slice none 0 0], .int .i64 ee])) W := by
        intro W ee h1 h2 h3
        have hp : parseObj b = ((0, []), ee) := by rw [← HTL.out, HT.out, h1, if_neg h2]
        have h4 : Kept w.heap.size [5] [] w W := by rw [HQ.out]; exact h3
        exact ⟨none, 0, by rw [hp]; rfl, by rw [hp]; exact Own.nil _ _ _ _, h4.all⟩
      have FIN := Lib.hid fin
      clear fin
      have kk7 : Kept q [5] [] w w7 := Kept.ofKeep kw7 (by unfold Only; intro i hi h; omega)
      generalize hee4 : poE4 b at_ e = ee4 at *
      have HEE4 := Lib.hid hee4
      clear hee4
      have l7 := hb7.lt
      by_cases h0 : ee4 = 0
      · subst h0
        have HE5' := Lib.hid (HE5.out.trans (if_pos rfl))
        have c0 := p7.cell 0
        have c1 := p7.cell 1
        simp at c0 c1
        have hcm := o7.cap_le
        go_wp2_with fail
        go_region_law (first | (go_simp; go_at_call 55; refine (body_any k bd A5 c5 _ o7.reads.drew (by omega) hcm.1 hcm.2).mono ?_; rintro r w8 ⟨rfl, hbe8⟩; have hb8 := hb7.drew.below hbe8 l7; have k8 := hbe8) | (go_simp; go_at_call 70; refine (fail_any (q + 1) _ _ _ _ _ _ hb8).mono ?_; rintro r w9 ⟨rfl, hb9, hk9⟩))
        all_goals
          have k79 : Keep (Only (q + 1)) w7 w9 := (Keep.drew (Keep.refl (Only (q + 1)) w7)).trans ((Below.keep_ k8 (Only (q + 1))).trans hk9)
          have p9 := p7.keep k79 (by unfold Only; omega)
          have q9 := q7.keep k79 (by unfold Only; omega)
          have o9 := o7.keepOnly k79 hb7 (by decide)
          have kk9 := kk7.only k79 (by omega)
          have z9 := k79.size
          rw [show note 0 false (bodyE k bd) = bodyE k bd from rfl, ← HE5'.out] at hb9
          have r9 := hb9.cell 2
          simp at r9
          clear k79 k8 hbe8 hb8 hk9 c0 c1 r7 kk7
          generalize hee5 : poE5 b k at_ e = ee5 at *
          have HEE5 := Lib.hid hee5
          clear hee5
          by_cases h5 : ee5 = 0
          · subst h5
            have HP := Lib.hid (show parseObj b = ((k, bd), 0) from by rw [← HTL.out, HT.out]; exact if_pos rfl)
            go_wp2_with (first | (refine wpList_load rfl rfl rfl (load_obj p9) ?_) | (refine wpList_storeBlk rfl rfl (vs := #[.int .i64 k, .slice A5 bd.length c5]) rfl rfl q9 rfl info_obj obj_one2 ?_; intro wf qf kf zf))
            refine bodyPost_ret (results_cell_tmp rfl _ _ rfl (loadVar_obj qf)) rfl ?_
            have of := o9.keepOnly kf q9 (by decide)
            have kff : Kept w.heap.size [5] [] w wf := by rw [HQ.out]; exact kk9.only kf (by omega)
            refine ⟨A5, c5, by rw [HP.out]; rfl, ?_, kff.all⟩
            rw [HP.out, HQ.out]
            exact of
          · have h01 : (ee5 != 0) = true := by simpa using h5
            have a0 := q9.cell 0
            have a1 := q9.cell 1
            have g0 := q9.frozen 0
            have g1 := q9.frozen 1
            simp at a0 a1
            go_wp2_with fail
            go_region_law (fail)
            all_goals
              go_wp2_with fail
              have qf := (q9.drew.set_ 0 (.int .i64 0)).set_ 1 (.slice none 0 0)
              simp only [List.setIfInBounds_toArray, List.set_cons_succ, List.set_cons_zero] at qf
              have kf := (kk9.drew.setCell (p := ⟨q, 0, none⟩) (.inr (by simp; omega)) (.int .i64 0)).setCell (p := ⟨q, 1, none⟩) (.inr (by simp; omega)) (.slice none 0 0)
              refine bodyPost_ret (results_cell_tmp rfl _ _ rfl (loadVar_obj qf)) rfl ?_
              exact FIN.out _ _ rfl h5 kf
      · have h01 : (ee4 == 0) = false := by simpa using h0
        have h02 : (ee4 != 0) = true := by simpa using h0
        have HE5' := Lib.hid (HE5.out.trans (if_neg h0))
        have a0 := q7.cell 0
        have a1 := q7.cell 1
        have g0 := q7.frozen 0
        have g1 := q7.frozen 1
        simp at a0 a1
        go_wp2_with fail
        go_region_law (fail)
        all_goals
          go_wp2_with fail
          have qf := (q7.drew.set_ 0 (.int .i64 0)).set_ 1 (.slice none 0 0)
          simp only [List.setIfInBounds_toArray, List.set_cons_succ, List.set_cons_zero] at qf
          have kf := (kk7.drew.setCell (p := ⟨q, 0, none⟩) (.inr (by simp; omega)) (.int .i64 0)).setCell (p := ⟨q, 1, none⟩) (.inr (by simp; omega)) (.slice none 0 0)
          refine bodyPost_ret (results_cell_tmp rfl _ _ rfl (loadVar_obj qf)) rfl ?_
          exact FIN.out _ _ HE5'.out h0 kf
end Go.Proofs.Ytppmolneklidfaa
