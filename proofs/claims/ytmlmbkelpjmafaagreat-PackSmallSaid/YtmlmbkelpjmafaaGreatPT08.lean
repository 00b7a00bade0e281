/- Contracts of the reference's Get and of its cursor's num at eight bytes; append of a string in a region that draws. No statement of the seat is proved here. -/
import Derived.Test.YtmlmbkelpjmafaaGreatPT07
namespace Go.Proofs.YtmlmbkelpjmafaaGreat
open Go.RowKit
def CTextPost (g B : Nat) (b : List UInt8) (at_ : Nat) (e n : Int) (w : World) (r : Ending) (w' : World) : Prop :=
 r = .returned (.string (str (textL b at_ e n))) ∧ Cu w' g B b (textAt b at_ e n) (textE b at_ e n) ∧ Keep (Only g) w w'
def CIdPost (g B : Nat) (b : List UInt8) (at_ : Nat) (e : Int) (w : World) (r : Ending) (w' : World) : Prop :=
 r = .returned (idV (idOf (takeL b at_ e 32))) ∧ Cu w' g B b (takeAt b at_ e 32) (takeE b at_ e 32) ∧ Keep (Only g) w w'
set_option maxHeartbeats 1000000 in
theorem ctext_any (n : Nat) (hn : n ≤ 7) (g B : Nat) (b : List UInt8) (at_ : Nat) (e : Int) (w : World) (hr : Cu w g B b at_ e) (hB : B ≤ w.heap.size) (hbl : b.length ≤ 140737488355328) :
    Calls Tryz.prog 47 #[.pointer (some ⟨g, 0, none⟩), .int .i64 n] w (CTextPost g B b at_ e n w) := by
 have hl8 := takeL_le b at_ e n
 go_enter Tryz.func47, Tryz.ntmps47
 go_wp2_with fail
 refine (cnum_any n (by omega) g B b at_ e _ hr hB).mono ?_
 rintro r w1 ⟨rfl, hR, hk⟩
 have hz := hk.size
 go_wp2_with fail
 refine (cbytes_any _ g B b _ _ _ hR (by omega) hbl).mono ?_
 rintro r w2 ⟨A, c, rfl, hown, hR2, hk2⟩
 go_wp2_with (first | (refine wpList_convStr rfl rfl Tryz.underlying22 Tryz.underlying5 Tryz.underlying9 rfl hown.reads ?_))
 go_ret
 exact ⟨rfl, hR2, hk.trans hk2⟩
theorem idOf_nil : idOf [] = noId := dif_neg (by decide)
set_option maxHeartbeats 1000000 in
set_option maxRecDepth 100000 in
theorem cid_any (g B : Nat) (b : List UInt8) (at_ : Nat) (e : Int) (w : World) (hr : Cu w g B b at_ e) (hB : B ≤ w.heap.size) (hbl : b.length ≤ 140737488355328) :
    Calls Tryz.prog 48 #[.pointer (some ⟨g, 0, none⟩)] w (CIdPost g B b at_ e w) := by
 have hlg := hr.lt
 go_enter Tryz.func48, Tryz.ntmps48
 go_wp2_with (first | (refine wpList_allocAgg rfl rfl (zero_noId _) ?_))
 have hr1 := hr.alloc hB (.cells (idC noId) 29)
 have hb1 : Blk (w.alloc (.cells (idC noId) 29)) w.heap.size 29 (idC noId) := Blk.new _ _ _
 have hk1 : Keep (Only g) w (w.alloc (.cells (idC noId) 29)) := (Keep.refl _ _).alloc _
 have hz1 : w.heap.size ≤ (w.alloc (.cells (idC noId) 29)).heap.size := by simp
 generalize w.alloc (.cells (idC noId) 29) = w1 at *
 obtain ⟨q, hq⟩ : ∃ q, w.heap.size = q := ⟨_, rfl⟩
 rw [hq] at hb1 ⊢
 refine (cbytes_any 32 g B b at_ e _ hr1 (by omega) hbl).mono ?_
 rintro r w2 ⟨A, c, rfl, hown, hR2, hk2⟩
 have hb2 := hb1.keep hk2 (by unfold Only; omega)
 have hz2 := hk2.size
 have hk12 := hk1.trans hk2
 obtain ⟨Ar, cr, hbr, hrr, h1, h2, h3, h4⟩ := hR2
 have c2 := hbr.cell 2
 simp at c2
 have fin : ∀ (w3 : World) (v : Id), v = idOf (takeL b at_ e 32) → Blk w3 q 29 (idC v) → Keep (Only q) w2 w3 → CIdPost g B b at_ e w (.returned (idV v)) w3 := by
  intro w3 v hv hb3 hk3
  subst hv
  refine ⟨rfl, ⟨Ar, cr, hbr.keep hk3 (by unfold Only; omega), hrr.kept hk3 (by omega) (fun i hi h => by unfold Only at h; omega), h1, h2, h3, h4⟩, hk12.then_ hk3 (by unfold Only; intro i hi h; omega)⟩
 have hor : (takeL b at_ e 32).length = 32 ∨ takeL b at_ e 32 = [] := takeL_or b at_ e 32
 have hcut : (takeE b at_ e 32 != 0) = true → takeL b at_ e 32 = [] := by
  intro h
  unfold takeE at h
  unfold takeL
  rw [if_neg]
  rintro ⟨rfl, h5⟩
  rw [if_pos h5] at h
  simp at h
 have hgood : (takeE b at_ e 32 != 0) = false → (takeL b at_ e 32).length = 32 := by
  intro h
  have h0 : takeE b at_ e 32 = 0 := by simpa using h
  obtain ⟨rfl, h5, h6⟩ := takeE_zero h0
  unfold takeL
  rw [if_pos ⟨rfl, h5, h6⟩]
  simp
  omega
 have HF := Lib.hid fin
 have HG := Lib.hid hgood
 have HC := Lib.hid hcut
 clear fin hor hgood hcut
 cases hc : takeE b at_ e 32 != 0 with
 | true =>
  rw [hc] at c2
  have hnil := HC.out hc
  have HN := Lib.hid (show noId = idOf (takeL b at_ e 32) from by rw [hnil, idOf_nil])
  clear hnil
  go_wp2_with (first | (refine wpList_built rfl rfl (vs := #[]) rfl (build_noId _) ?_) | (refine wpList_storeBlk rfl rfl (vs := idC noId) rfl rfl hb2 (by rw [idC_size]) (by rw [idC_size]; exact info42) (idL_one _) ?_; intro w3 hb3 hk3 hz3))
  refine bodyPost_ret (v := idV noId) (results_cell rfl _ _ rfl (run_loadVar_cells w3 _ (idC noId) Tryz.underlying29 rfl (by rw [idC_size]; exact info42) (fun j v hj => by rw [add_at, hb3.cell, ← hj]; simp))) rfl ?_
  have T := HF.out w3 noId HN.out hb3 hk3
  exact T
 | false =>
  rw [hc] at c2
  have h32 := HG.out hc
  have H32 := Lib.hid h32
  clear h32
  go_wp2_with fail
  refine (at_any _ H32.out _ A c _ hown.reads (Nat.le_refl _)).mono ?_
  rintro r w3 ⟨rfl, hbe⟩
  have hb3 := hb2.below hbe hb2.lt
  have hk3 : Keep (Only q) w2 w3 := Below.keep_ hbe _
  go_wp2_with (first | (refine wpList_storeBlk rfl rfl (vs := idC (idOf (takeL b at_ e 32))) rfl rfl hb3 (by rw [idC_size, idC_size]) (by rw [idC_size]; exact info42) (idL_one _) ?_; intro w4 hb4 hk4 hz4))
  refine bodyPost_ret (v := idV (idOf (takeL b at_ e 32))) (results_cell rfl _ _ rfl (run_loadVar_cells w4 _ (idC (idOf (takeL b at_ e 32))) Tryz.underlying29 rfl (by rw [idC_size]; exact info42) (fun j v hj => by rw [add_at, hb4.cell, ← hj]; simp))) rfl ?_
  exact HF.out w4 _ rfl hb4 (hk3.trans hk4)
def REntPost (x : Ent) (first : Bool) (last : ByteArray) (w : World) (r : Ending) (w' : World) : Prop := r = .returned (.int .i64 (entE 0 x last first)) ∧ Below w.heap.size w w'
theorem REntPost.of {x : Ent} {first : Bool} {last : ByteArray} {w w' : World} {r : Ending} {e : Int} (hr : r = .returned (.int .i64 e)) (he : entE 0 x last first = e) (hb : Below w.heap.size w w') : REntPost x first last w r w' := ⟨by rw [he]; exact hr, hb⟩
set_option maxHeartbeats 2000000 in
set_option maxRecDepth 100000 in
theorem rentry_any (x : Ent) (first : Bool) (last : ByteArray) (w : World) : Calls Tryz.prog 49 #[entV x, .bool first, .string last] w (REntPost x first last w) := by
 have hq1 : Blk (w.alloc (.cells (entC x) 117)) w.heap.size 117 (entC x) := Blk.new _ _ _
 have hk1 : Keep Nothing w (w.alloc (.cells (entC x) 117)) := (Keep.refl _ _).alloc _
 cases hk : kindOk x.kind with
 | false =>
  have he : entE 0 x last first = 3 := by unfold entE note; rw [hk]; rfl
  have HE := Lib.hid he
  by_cases h1 : 1 ≤ x.kind
  · have h2 : ¬ x.kind ≤ 4 := by intro h; simp [kindOk, h1, h] at hk
    have d1 : decide (x.kind < 1) = false := decide_eq_false (by omega)
    have d2 : decide (4 < x.kind) = true := decide_eq_true (by omega)
    clear he hk
    go_enter Tryz.func49, Tryz.ntmps49
    go_wp2_with (first | (refine wpList_boxed rfl rfl (cs := entC x) rfl ?_; generalize w.alloc (.cells (entC x) 117) = w1 at *; generalize w.heap.size = q at *; have a1 := hq1.cell 1; simp [entC, entL] at a1))
    go_ret
    exact REntPost.of rfl HE.out hk1.all
  · have d1 : decide (x.kind < 1) = true := decide_eq_true (by omega)
    clear he hk
    go_enter Tryz.func49, Tryz.ntmps49
    go_wp2_with (first | (refine wpList_boxed rfl rfl (cs := entC x) rfl ?_; generalize w.alloc (.cells (entC x) 117) = w1 at *; generalize w.heap.size = q at *; have a1 := hq1.cell 1; simp [entC, entL] at a1))
    go_ret
    exact REntPost.of rfl HE.out hk1.all
 | true =>
  obtain ⟨h1, h2⟩ := kindOk_le hk
  have d1 : decide (x.kind < 1) = false := decide_eq_false (by omega)
  have d2 : decide (4 < x.kind) = false := decide_eq_false (by omega)
  have e0 : entE 0 x last first = note (note (note 0 (nameOk x.name.data.toList) 7) (!isNone x.id) 1) (first || above x.name last) 18 := by unfold entE; rw [hk]; rfl
  have HE0 := Lib.hid e0
  clear e0 hk
  go_enter Tryz.func49, Tryz.ntmps49
  go_wp2_with (first | (refine wpList_boxed rfl rfl (cs := entC x) rfl ?_; generalize w.alloc (.cells (entC x) 117) = w1 at *; generalize w.heap.size = q at *; have a1 := hq1.cell 1; have a0 := hq1.cell 0; simp [entC, entL] at a1 a0))
  refine (rname_any x.name _).mono ?_
  rintro r w2 ⟨rfl, hbe⟩
  have hq2 := hq1.below hbe hq1.lt
  have hk2 := hk1.trans (Below.keep_ hbe _)
  have b0 := hq2.cell 0
  simp [entC, entL] at b0
  clear hbe hq1 hk1 a0 a1
  cases hn : nameOk x.name.data.toList with
  | false =>
   have HE := Lib.hid (show entE 0 x last first = 7 from by rw [HE0.out, hn]; rfl)
   go_wp2_with fail
   go_ret
   exact REntPost.of rfl HE.out hk2.all
  | true =>
   cases hi : (x.id == noId) with
   | true =>
    have HE := Lib.hid (show entE 0 x last first = 1 from by rw [HE0.out, hn]; unfold isNone; rw [hi]; rfl)
    have hrun := run_eql_id w2 x.id noId
    rw [hi] at hrun
    go_wp2_with (first | (refine wpList_load rfl rfl rfl (load_ent_id hq2) ?_) | (refine wpList_built rfl rfl (vs := #[]) rfl (build_noId _) ?_) | (refine wpList_bin rfl rfl (u := idV x.id) rfl (v := idV noId) rfl (guard_id _ _ _ x.id noId _) hrun ?_))
    go_ret
    exact REntPost.of rfl HE.out hk2.all
   | false =>
    have e2 : entE 0 x last first = note 0 (first || above x.name last) 18 := by rw [HE0.out, hn]; unfold isNone; rw [hi]; rfl
    have HE2 := Lib.hid e2
    have hrun := run_eql_id w2 x.id noId
    rw [hi] at hrun
    clear e2
    cases first with
    | true =>
     have HE := Lib.hid (show entE 0 x last true = 0 from by rw [HE2.out]; rfl)
     go_wp2_with (first | (refine wpList_load rfl rfl rfl (load_ent_id hq2) ?_) | (refine wpList_built rfl rfl (vs := #[]) rfl (build_noId _) ?_) | (refine wpList_bin rfl rfl (u := idV x.id) rfl (v := idV noId) rfl (guard_id _ _ _ x.id noId _) hrun ?_))
     go_ret
     exact REntPost.of rfl HE.out hk2.all
    | false =>
     obtain ⟨u, hu⟩ : ∃ u, (Op.bytesLess x.name.toList last.toList || x.name.toList == last.toList) = u := ⟨_, rfl⟩
     have HE := Lib.hid (show entE 0 x last false = (if u then 18 else 0) from by rw [HE2.out, ← hu]; unfold above note; cases Op.bytesLess x.name.toList last.toList <;> cases (x.name.toList == last.toList) <;> rfl)
     cases u
     all_goals
      go_wp2_with (first | (refine wpList_load rfl rfl rfl (load_ent_id hq2) ?_) | (refine wpList_built rfl rfl (vs := #[]) rfl (build_noId _) ?_) | (refine wpList_bin rfl rfl (u := idV x.id) rfl (v := idV noId) rfl (guard_id _ _ _ x.id noId _) hrun ?_))
      go_ret
      exact REntPost.of rfl HE.out hk2.all
end Go.Proofs.YtmlmbkelpjmafaaGreat
namespace Go.Proofs.YtmlmbkelpjmafaaGreat
open Go.RowKit
section
variable {P : Program}
end
theorem or_byte_8 (v : Nat) (x : UInt8) (hv : v < 72057594037927936) : bits .or .i64 (wrap64 ((v : Int) * 256)) (x.toNat : Int) = wrap64 ((v * 256 + x.toNat : Nat) : Int) := by
 have hx := x.toNat_lt
 have e : ∀ a : Nat, a < 18446744073709551616 → (BitVec.ofInt 64 (wrap64 (a : Int))).toNat = a := fun a ha => by
  rw [BitVec.toNat_ofInt]
  unfold wrap64
  omega
 have e2 : (BitVec.ofInt 64 (x.toNat : Int)).toNat = x.toNat := by
  rw [BitVec.ofInt_natCast, BitVec.toNat_ofNat]; exact Nat.mod_eq_of_lt (by omega)
 have hor : v * 256 ||| x.toNat = v * 256 + x.toNat := by
  have := Nat.shiftLeft_add_eq_or_of_lt (a := v) (b := x.toNat) (i := 8) (by omega)
  rw [Nat.shiftLeft_eq] at this
  exact this.symm
 rw [show (v : Int) * 256 = ((v * 256 : Nat) : Int) from by omega]
 show IntKind.i64.wrap ((BitVec.ofInt 64 (wrap64 ((v * 256 : Nat) : Int)) ||| BitVec.ofInt 64 (x.toNat : Int)).toNat : Int) = _
 rw [BitVec.toNat_or, e _ (by omega), e2, hor, IntWalk.i64_left]
def numS (l : List UInt8) : Int := wrap64 (num l : Int)
theorem numS_in (l : List UInt8) (h : l.length ≤ 7) : numS l = (num l : Int) := by
 have := num_lt8 l h
 unfold numS
 exact IntWalk.wrap64_in _ (by omega)
theorem numS_nil : numS [] = 0 := (numS_in [] (by simp)).trans rfl
set_option maxHeartbeats 1000000 in
theorem get8_any (b : List UInt8) (at_ : Nat) (hn : at_ + 8 ≤ b.length) (B : Nat) (A : Option Addr) (c : Nat) (w : World) (hr : Reads w B 1 A b.length (b.map bv)) (hb : b.length ≤ 9223372036854775807) :
    Calls Tryz.prog 67 #[.slice A b.length c, .int .i64 at_, .int .i64 8] w fun r w' => r = .returned (.int .i64 (numS ((b.drop at_).take 8))) ∧ w = w' := by
 go_enter Tryz.func67, Tryz.ntmps67
 go_wp2_with fail
 go_loop [7, 8] (fun v i => ∃ k : Nat, k ≤ 8 ∧ i = .int .i64 k ∧ v = .int .i64 (numS ((b.drop at_).take k))) (fun _ i => 8 - (intOf i).toNat)
 case atStart => exact ⟨0, Nat.zero_le _, rfl, by rw [List.take_zero, numS_nil]⟩
 case round =>
  obtain ⟨k, hk', rfl, rfl⟩ := hrel
  by_cases hlt : k < 8
  · have hlk : at_ + k < b.length := by omega
    obtain ⟨ad, u, rfl, _, hx, hc⟩ := hr.at_ hlk
    have hu : u = bv b[at_ + k] := by simpa [hlk] using hx.symm
    subst hu
    unfold bv at hc
    have hv := num_lt8 ((b.drop at_).take k) (by simp; omega)
    have h7 := numS_in ((b.drop at_).take k) (by simp; omega)
    have hor := or_byte_8 (num ((b.drop at_).take k)) b[at_ + k] hv
    have hs : num ((b.drop at_).take (k + 1)) = num ((b.drop at_).take k) * 256 + b[at_ + k].toNat := by rw [List.take_succ_eq_append_getElem (by simp; omega), num_snoc]; simp
    rw [← hs] at hor
    change _ = numS ((b.drop at_).take (k + 1)) at hor
    rw [← h7] at hor
    have hv2 : 0 ≤ numS ((b.drop at_).take k) ∧ numS ((b.drop at_).take k) < 72057594037927936 := by rw [h7]; omega
    obtain ⟨hv3, hv4⟩ := hv2
    generalize numS ((b.drop at_).take k) = v at *
    obtain ⟨v', hv'⟩ : ∃ v', numS ((b.drop at_).take (k + 1)) = v' := ⟨_, rfl⟩
    rw [hv'] at hor
    have HV := Lib.hid hv'
    clear hv'
    have hx0 := b[at_ + k].toNat_lt
    generalize b[at_ + k].toNat = x at *
    clear hs hx h7 hv
    go_wp2
    go_round
    case rel => exact ⟨k + 1, by omega, by go_num, by rw [HV.out]⟩
    case measure => simp [intOf]; omega
  · obtain rfl : k = 8 := by omega
    go_wp2
    go_ret
    exact ⟨rfl, rfl⟩
def CNum8Post (g B : Nat) (b : List UInt8) (at_ : Nat) (e : Int) (w : World) (r : Ending) (w' : World) : Prop :=
 r = .returned (.int .i64 (numS (takeL b at_ e 8))) ∧ Cu w' g B b (takeAt b at_ e 8) (takeE b at_ e 8) ∧ Keep (Only g) w w'
set_option maxHeartbeats 1000000 in
theorem cnum8_any (g B : Nat) (b : List UInt8) (at_ : Nat) (e : Int) (w : World) (hr : Cu w g B b at_ e) (_hB : B ≤ w.heap.size) :
    Calls Tryz.prog 46 #[.pointer (some ⟨g, 0, none⟩), .int .i64 8] w (CNum8Post g B b at_ e w) := by
 obtain ⟨A, cap, hb, hrd, hat, hcap, hmax', hBg⟩ := hr
 have hmax := hmax'
 unfold maxLen at hmax
 have c0 := hb.cell 0
 have c1 := hb.cell 1
 have c2 := hb.cell 2
 have f1 := hb.frozen 1
 have f2 := hb.frozen 2
 simp at c0 c1 c2
 cases he : e != 0 with
 | true =>
  rw [he] at c2
  obtain ⟨t1, t2, t3⟩ := take_e b at_ e 8 he
  have HT := Lib.hid (And.intro t1 (And.intro t2 t3))
  have HE := Lib.hid he
  clear t1 t2 t3 he
  go_enter Tryz.func46, Tryz.ntmps46
  go_wp2_with fail
  go_quiet (fail)
  go_wp2_with fail
  go_ret
  refine ⟨by rw [HT.out.1, numS_nil]; rfl, ?_, ((Keep.refl (Only g) w).drewN nq).setCell (p := ⟨g, 2, none⟩) (.inl rfl) _⟩
  rw [HT.out.2.1, HT.out.2.2]
  refine ⟨A, cap, ?_, hrd.setCell (p := ⟨g, 2, none⟩) hBg _, hat, hcap, hmax', hBg⟩
  rw [HE.out]
  simpa using (hb.drewN nq).set_ 2 (.bool true)
 | false =>
  rw [he] at c2
  obtain rfl : e = 0 := by simpa using he
  by_cases hbig : (b.length : Int) - at_ < 8
  · have hd : decide ((b.length : Int) - at_ < 8) = true := decide_eq_true hbig
    obtain ⟨t1, t2, t3⟩ := take_cut b at_ 8 hbig
    have HT := Lib.hid (And.intro t1 (And.intro t2 t3))
    clear t1 t2 t3 he
    go_enter Tryz.func46, Tryz.ntmps46
    go_wp2_with fail
    go_quiet (fail)
    go_wp2_with fail
    go_ret
    refine ⟨by rw [HT.out.1, numS_nil]; rfl, ?_, ((Keep.refl (Only g) w).drewN nq).setCell (p := ⟨g, 2, none⟩) (.inl rfl) _⟩
    rw [HT.out.2.1, HT.out.2.2]
    refine ⟨A, cap, ?_, hrd.setCell (p := ⟨g, 2, none⟩) hBg _, hat, hcap, hmax', hBg⟩
    simpa using (hb.drewN nq).set_ 2 (.bool true)
  · have hd : decide ((b.length : Int) - at_ < 8) = false := decide_eq_false hbig
    obtain ⟨t1, t2, t3⟩ := take_good b at_ 8 (by omega)
    change takeL b at_ 0 8 = _ at t1
    change takeAt b at_ 0 8 = _ at t2
    change takeE b at_ 0 8 = _ at t3
    have HT := Lib.hid (And.intro t1 (And.intro t2 t3))
    have hb63 : (at_ : Int) + 8 ≤ 9223372036854775807 := by omega
    clear t1 t2 t3 he
    go_enter Tryz.func46, Tryz.ntmps46
    go_wp2_with fail
    go_quiet (fail)
    go_wp2_with fail
    have hbq := hb.drewN nq
    have hrq := hrd.drewN nq
    have hkq : Keep (Only g) w (w.drewN nq) := (Keep.refl _ _).drewN nq
    generalize w.drewN nq = w1 at *
    clear c0 c1 c2 f1 f2
    have c0 := hbq.cell 0
    have c1 := hbq.cell 1
    have f1 := hbq.frozen 1
    simp at c0 c1
    go_quiet ((go_at_call 67; exact (get8_any b at_ (by omega) B A cap _ (hrq.drewN _) (by omega)).mono fun _ _ h => ⟨h.1, _, h.2.symm⟩))
    go_wp2_with fail
    go_ret
    refine ⟨by rw [HT.out.1]; rfl, ?_, (hkq.drewN nq).setCell (p := ⟨g, 1, none⟩) (.inl rfl) _⟩
    rw [HT.out.2.1, HT.out.2.2]
    refine ⟨A, cap, ?_, (hrq.drewN nq).setCell (p := ⟨g, 1, none⟩) hBg _, by omega, hcap, hmax', hBg⟩
    simpa using (hbq.drewN nq).set_ 1 (.int .i64 ((at_ : Int) + 8))
end Go.Proofs.YtmlmbkelpjmafaaGreat
