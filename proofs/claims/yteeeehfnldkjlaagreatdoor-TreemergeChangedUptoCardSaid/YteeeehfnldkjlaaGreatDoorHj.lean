/-
 The law walk of TreemergeChanged. No statement of the seat is proved here.
-/
import Derived.Test.YteeeehfnldkjlaaGreatDoorIn
import Derived.Test.YteeeehfnldkjlaaGreatDoorTC39
import Derived.Test.YteeeehfnldkjlaaGreatDoorTC41
import Derived.Test.YteeeehfnldkjlaaGreatDoorTC33
import Derived.Deep.RegionHeld3
namespace Go.Proofs.YteeeehfnldkjlaaGreatDoor
open Go.RowKit Go.Maps

/-- Does nothing of the first k stand above or below a path? -/
def aloneP (all : List FileD) (p : Pth) (k : Nat) : Bool := (all.take k).all fun f => !belowB f.p p && !belowB p f.p
def unlikeP (v : List ClashD) (p : Pth) (k : Nat) : Bool := (v.take k).all fun x => x.p != p
theorem aloneP_next {all : List FileD} {p : Pth} {k : Nat} {f : FileD} (h : all[k]? = some f) : aloneP all p (k + 1) = (aloneP all p k && (!belowB f.p p && !belowB p f.p)) := by
 unfold aloneP
 rw [List.take_add_one, h, Option.toList_some, List.all_append]
 simp
theorem unlikeP_next {v : List ClashD} {p : Pth} {k : Nat} {x : ClashD} (h : v[k]? = some x) : unlikeP v p (k + 1) = (unlikeP v p k && x.p != p) := by
 unfold unlikeP
 rw [List.take_add_one, h, Option.toList_some, List.all_append]
 simp
/-- What the plain law says of one path. -/
theorem ch_path {b o t x : List FileD} {v : List ClashD} (h : treemergeP b o t = .ok (x, v)) (ho : detectP (diffT b o) = []) (ht : detectP (diffT b t) = []) {p : Pth} (ha : aloneP (b ++ o ++ t) p (b ++ o ++ t).length = true) (hl : p.getLast? ≠ some 126) :
    (getF b p = getF o p → getF x p = getF t p) ∧ (getF b p = getF t p → getF x p = getF o p) := by
 refine merge_changed h ho ht (fun q hq => ?_) hl
 unfold aloneP at ha
 rw [List.take_length, List.all_eq_true] at ha
 have : ∃ f ∈ b ++ o ++ t, f.p = q := by
  rcases hq with hq | hq | hq <;> obtain ⟨f, hf, e⟩ := hasF_iff.1 hq
  · exact ⟨f, by simp [hf], e⟩
  · exact ⟨f, by simp [hf], e⟩
  · exact ⟨f, by simp [hf], e⟩
 obtain ⟨f, hf, rfl⟩ := this
 have := ha f hf
 rw [Bool.and_eq_true, Bool.not_eq_true'] at this
 intro hm
 have h1 := this.1
 unfold belowB at h1
 rw [List.contains_eq_mem, decide_eq_false_iff_not] at h1
 exact h1 hm
/-- An empty row of the call's own. -/
theorem FO.made {w : World} {q : Nat} (hq : w.heap.size = q) : Own (w.alloc (.cells #[] 41)) q 41 3 (some ⟨q, 0, none⟩) 0 0 [] :=
 ⟨by simp, .inr ⟨q, 0, #[], rfl, Nat.le_refl _, blk_new_at w 41 #[] q hq, Nat.le_refl _, Nat.zero_le _, by simp, by simp⟩⟩
theorem zip_at {fs gs : List FileD} {tv uv : List Value} {w : World} {B : Nat} (h1 : tv.length = fs.length) (h3 : ∀ (k : Nat) x y, fs[k]? = some x → tv[k]? = some y → DataR w B x y) (g3 : ∀ (k : Nat) x y, gs[k]? = some x → uv[k]? = some y → DataR w B x y) : ∀ (k : Nat) x y, (fs ++ gs)[k]? = some x → (tv ++ uv)[k]? = some y → DataR w B x y := fun k x y e1 e2 => by
 rcases Nat.lt_or_ge k fs.length with q | q
 · rw [List.getElem?_append_left q] at e1
   rw [List.getElem?_append_left (by omega)] at e2
   exact h3 k x y e1 e2
 · rw [List.getElem?_append_right q] at e1
   rw [List.getElem?_append_right (by omega), h1] at e2
   exact g3 _ x y e1 e2
theorem no_err0 {b o t : List FileD} : treemergeP b o t ≠ .error 0 := by
 unfold treemergeP
 simp only
 intro h
 split at h
 · rename_i q; injection h with h; exact q h
 · split at h
   · rename_i q; injection h with h; exact q h
   · split at h
     · rename_i q; injection h with h; exact q h
     · split at h
       · rename_i q; injection h with h; exact q h
       · split at h
         · rename_i q; injection h with h; exact q h
         · cases h
theorem changed_says (b o t : List FileD) : ∃ x v n, SaysP (treemergeP (goodP b) (goodP o) (goodP t)) x v n ∧ (n = 0 → treemergeP (goodP b) (goodP o) (goodP t) = .ok (x, v)) := by
 cases h : treemergeP (goodP b) (goodP o) (goodP t) with
 | error e =>
  refine ⟨[], [], e, .inl ⟨rfl, rfl, rfl⟩, fun q => ?_⟩
  subst q
  exact absurd h no_err0
 | ok r =>
  obtain ⟨x, v⟩ := r
  exact ⟨x, v, 0, .inr ⟨rfl, rfl⟩, fun _ => rfl⟩
theorem clash_path {w : World} {B : Nat} {A : Option Addr} {v : List ClashD} (h : Reads w B 2 A v.length (v.flatMap clashL)) {k : Nat} {x : ClashD} (hk : v[k]? = some x) : ∃ g o, A = some ⟨g, o, none⟩ ∧ w.cell? ⟨g, o + k * 2, none⟩ = some (.string ⟨x.p.toArray⟩) := by
 have hlt := (List.getElem?_eq_some_iff.1 hk).1
 obtain ⟨g, o, rfl, _, hc⟩ := h.at0 (by omega) (by omega)
 exact ⟨g, o, rfl, hc _ _ ((flat2 v k x hk 0 (by omega)).trans rfl)⟩
theorem last_126 {p : Pth} {u : Bool} (h : p.length - 1 < (ByteArray.mk p.toArray).size) (hu : (((((ByteArray.mk p.toArray)[p.length - 1]'h).toNat : Nat) : Int) == 126) = u) : u = false → p.getLast? ≠ some 126 := by
 rintro rfl hl
 rw [List.getLast?_eq_getElem?] at hl
 obtain ⟨q, e⟩ := List.getElem?_eq_some_iff.1 hl
 rw [show (ByteArray.mk p.toArray)[p.length - 1]'h = p[p.length - 1]'q from by show p.toArray[p.length - 1] = _; rw [List.getElem_toArray], e] at hu
 exact absurd hu (by decide)
theorem boxes3 (w : World) (t : TypeId) (c : Array Value) : Hid (Blk (((w.alloc (.cells c t)).alloc (.cells c t)).alloc (.cells c t)) w.heap.size t c ∧ Blk (((w.alloc (.cells c t)).alloc (.cells c t)).alloc (.cells c t)) (w.heap.size + 1) t c ∧ Blk (((w.alloc (.cells c t)).alloc (.cells c t)).alloc (.cells c t)) (w.heap.size + 2) t c ∧ Below w.heap.size w (((w.alloc (.cells c t)).alloc (.cells c t)).alloc (.cells c t))) := by
 have h2 := Blk.new (w.alloc (.cells c t)) t c
 have h3 := Blk.new ((w.alloc (.cells c t)).alloc (.cells c t)) t c
 rw [show (w.alloc (.cells c t)).heap.size = w.heap.size + 1 from by simp] at h2
 rw [show ((w.alloc (.cells c t)).alloc (.cells c t)).heap.size = w.heap.size + 2 from by simp] at h3
 exact Lib.hid ⟨((Blk.new w t c).alloc _).alloc _, h2.alloc _, h3, (((Below.refl _ w).alloc (Nat.le_refl _) _).alloc (by simp) _).alloc (by simp; omega) _⟩
theorem same13 {w13 : World} {h : Nat} {f g : FileD} {D E : Option Addr} {d e : Nat} (hh : w13.heap.size = h) (r1 : Reads w13 h 1 D f.d.length (f.d.map byteV)) (r2 : Reads w13 h 1 E g.d.length (g.d.map byteV)) (W : World) (k : Below h w13 W) :
    Calls Tryz.prog 26 #[.agg (fileC f D d), .agg (fileC g E e)] W fun e w' => e = .returned (.bool (decide (f = g))) ∧ Below h w13 w' := by
 have := k.size
 have hw : h ≤ W.heap.size := by omega
 refine (same_any f g D E d e h W hw (r1.below k) (r2.below k)).mono ?_
 rintro _ w' ⟨rfl, hb⟩
 exact ⟨by rw [sameB_eq], k.trans (hb.mono hw)⟩
theorem same13x {w13 : World} {h : Nat} {f g : FileD} {E : Option Addr} {e : Nat} (hh : w13.heap.size = h) (r2 : Reads w13 h 1 E g.d.length (g.d.map byteV)) (W : World) (D : Option Addr) (d : Nat) (k : Below h w13 W) (r1 : Reads W W.heap.size 1 D f.d.length (f.d.map byteV)) (hfg : f = g) :
    Calls Tryz.prog 26 #[.agg (fileC f D d), .agg (fileC g E e)] W fun e w' => e = .returned (.bool true) ∧ Below h w13 w' := by
 have := k.size
 have hw : h ≤ W.heap.size := by omega
 refine (same_any f g D E d e W.heap.size W (Nat.le_refl _) r1 ((r2.below k).more hw)).mono ?_
 rintro _ w' ⟨rfl, hb⟩
 exact ⟨by rw [sameB_eq, decide_eq_true hfg], k.trans (hb.mono hw)⟩
theorem find13 {w13 : World} {h B : Nat} {x : List FileD} {A : Option Addr} (c : Nat) (p : Pth) (hh : w13.heap.size = h) (hB : B ≤ h) (hf : ∀ W, Below h w13 W → FI W B A x) (hl : x.length ≤ 1000000000000) (W : World) (k : Below h w13 W) :
    Calls Tryz.prog 25 #[.slice A x.length c, .string ⟨p.toArray⟩] W fun e w' => ∃ D d, e = .returned (.agg (fileC (getF x p) D d)) ∧ Reads w' w'.heap.size 1 D (getF x p).d.length ((getF x p).d.map byteV) ∧ Below h w13 w' := by
 have := k.size
 have hw : B ≤ W.heap.size := by omega
 refine (find_any x p A c B W hw (hf W k) hl).mono ?_
 rintro _ w' ⟨D, d, rfl, r, _, _, hb⟩
 have := hb.size
 exact ⟨D, d, rfl, r.more (by omega), k.trans (hb.mono (by omega))⟩
theorem boxes_load {w13 : World} {h a : Nat} {f o t : FileD} {D1 D2 D3 : Option Addr} {d1 d2 d3 : Nat} (hh : w13.heap.size = h) (h1 : Blk w13 a 41 (fileC f D1 d1)) (h2 : Blk w13 (a + 1) 41 (fileC o D2 d2)) (h3 : Blk w13 (a + 2) 41 (fileC t D3 d3)) (W : World) (k : Below h w13 W) :
    (LdF (.pointer (some ⟨a, 0, none⟩))).run Tryz.prog W = .ok (.agg (fileC f D1 d1)) W ∧ (LdF (.pointer (some ⟨a + 1, 0, none⟩))).run Tryz.prog W = .ok (.agg (fileC o D2 d2)) W ∧ (LdF (.pointer (some ⟨a + 1 + 1, 0, none⟩))).run Tryz.prog W = .ok (.agg (fileC t D3 d3)) W :=
 ⟨file_load (h1.below k (hh ▸ h1.lt)), file_load (h2.below k (hh ▸ h2.lt)), file_load (h3.below k (hh ▸ h3.lt))⟩
/-- What stands where the three files lie in their boxes. -/
theorem ch_facts {q q7 : Nat} {w7 wr w8 w9 w10 w13 : World} {F O T : FileD} {D1 D2 D3 : Option Addr} {d1 d2 d3 : Nat} (hq7 : w7.heap.size = q7) (hqq : q ≤ q7) (HW : Below q7 w7 wr) (B8 : Below wr.heap.size wr w8) (_ : Below wr.heap.size wr w9) (K9 : Below w8.heap.size w8 w9) (B10 : Below wr.heap.size wr w10) (K10 : Below w9.heap.size w9 w10)
    (X1 : Blk w13 w10.heap.size 41 (fileC F D1 d1)) (X2 : Blk w13 (w10.heap.size + 1) 41 (fileC O D2 d2)) (X3 : Blk w13 (w10.heap.size + 2) 41 (fileC T D3 d3)) (b13 : Below w10.heap.size w10 w13)
    (r1 : Reads w8 q 1 D1 F.d.length (F.d.map byteV)) (r2 : Reads w9 q 1 D2 O.d.length (O.d.map byteV)) (r3 : Reads w10 q 1 D3 T.d.length (T.d.map byteV)) :
    ∃ h, w13.heap.size = h ∧ q7 ≤ h ∧ Below q7 w7 w13 ∧ Reads w13 h 1 D1 F.d.length (F.d.map byteV) ∧ Reads w13 h 1 D2 O.d.length (O.d.map byteV) ∧ Reads w13 h 1 D3 T.d.length (T.d.map byteV) ∧ ∀ W, Below h w13 W →
     (LdF (.pointer (some ⟨w10.heap.size, 0, none⟩))).run Tryz.prog W = .ok (.agg (fileC F D1 d1)) W ∧ (LdF (.pointer (some ⟨w10.heap.size + 1, 0, none⟩))).run Tryz.prog W = .ok (.agg (fileC O D2 d2)) W ∧ (LdF (.pointer (some ⟨w10.heap.size + 1 + 1, 0, none⟩))).run Tryz.prog W = .ok (.agg (fileC T D3 d3)) W := by
 have e1 := HW.size
 have e2 := B8.size
 have e3 := K9.size
 have e4 := K10.size
 have e5 := b13.size
 exact ⟨_, rfl, by omega, (HW.trans (B10.mono (by omega))).trans (b13.mono (by omega)), (((r1.below (K9.mono (by omega))).below (K10.mono (by omega))).below (b13.mono (by omega))).more (by omega), ((r2.below (K10.mono (by omega))).below (b13.mono (by omega))).more (by omega), (r3.below (b13.mono (by omega))).more (by omega), boxes_load rfl X1 X2 X3⟩
theorem tkT {P : Program} {ops : Array Oper} {md : Region.Mode} {Q : Exit → Act → World → Prop} {S : World → Prop} {i : Nat} {oi : Oper} {v : Value} {fuel : Nat} {listed : Array Bool} {a : Act} {w : World} (hi : ops[i]? = some oi) (hk : (Region.noSelect ops && Region.free md ops listed i && (Region.ready md ops listed).contains i) = true)
    (hQ : ∀ c a w, Q (.panic c) (a.put oi.dst v) w → Q (.panic c) a w) (hw : Region.wanted oi (yielded ops a.tmps) = true) (hy : ∀ w, S w → (execOp a.eval oi).run P w = .ok (.value v) w) (hS : S w) (h : wpAnyH P md ops Q S fuel (listed.setIfInBounds i true) (a.put oi.dst v) w) : wpAnyH P md ops Q S (fuel + 1) listed a w := by
 rw [Bool.and_eq_true, Bool.and_eq_true] at hk
 exact wpAnyH_take hi hk.1.1 hk.1.2 hk.2 hQ (.inl ⟨hw, hy⟩) hS h
theorem tkF {P : Program} {ops : Array Oper} {md : Region.Mode} {Q : Exit → Act → World → Prop} {S : World → Prop} {i : Nat} {oi : Oper} {fuel : Nat} {listed : Array Bool} {a : Act} {w : World} (hi : ops[i]? = some oi) (hk : (Region.noSelect ops && Region.free md ops listed i && (Region.ready md ops listed).contains i) = true)
    (hQ : ∀ c a w, Q (.panic c) (a.put oi.dst undef) w → Q (.panic c) a w) (hw : Region.wanted oi (yielded ops a.tmps) = false) (hS : S w) (h : wpAnyH P md ops Q S fuel (listed.setIfInBounds i true) (a.put oi.dst undef) w) : wpAnyH P md ops Q S (fuel + 1) listed a w := by
 rw [Bool.and_eq_true, Bool.and_eq_true] at hk
 exact wpAnyH_take hi hk.1.1 hk.1.2 hk.2 hQ (.inr ⟨hw, rfl⟩) hS h
attribute [local go_sem] run_eql_strC run_neq_strC eqGuard_strC neGuard_strC
attribute [local go_sem ↓] ld_f
set_option maxHeartbeats 16000000 in
set_option maxRecDepth 100000 in
theorem changed_law (b o t : List FileD) (A1 A2 A3 : Option Addr) (c1 c2 c3 B : Nat) (w : World) (hB : B ≤ w.heap.size) (h1 : FI w B A1 b) (h2 : FI w B A2 o) (h3 : FI w B A3 t) (hv : VarM w) (l1 : ∀ f ∈ b, f.p.length ≤ 100000000) (l2 : ∀ f ∈ o, f.p.length ≤ 100000000) (l3 : ∀ f ∈ t, f.p.length ≤ 100000000) :
    Calls Tryz.prog 7 #[.slice A1 b.length c1, .slice A2 o.length c2, .slice A3 t.length c3] w fun e w' => e = .returned (.bool true) ∧ Below w.heap.size w w' := by
 obtain ⟨z, hz⟩ : ∃ z, w.heap.size = z := ⟨_, rfl⟩
 have HK := Lib.hid (known17_any w hv)
 have HG1 := Lib.hid (fun W (k : Below w.heap.size w W) => good_any b A1 c1 B W (Nat.le_trans hB k.size) (h1.below (k.mono hB)) l1)
 have HG2 := Lib.hid (fun W (k : Below w.heap.size w W) => good_any o A2 c2 B W (Nat.le_trans hB k.size) (h2.below (k.mono hB)) l2)
 have HG3 := Lib.hid (fun W (k : Below w.heap.size w W) => good_any t A3 c3 B W (Nat.le_trans hB k.size) (h3.below (k.mono hB)) l3)
 have HV := Lib.hid (fun W (k : Below w.heap.size w W) => hv.below k hv.pos)
 have HLB := Lib.hid (good_paths b)
 have HLO := Lib.hid (good_paths o)
 have HLT := Lib.hid (good_paths t)
 have HCB := Lib.hid (goodP_ok b)
 have HCO := Lib.hid (goodP_ok o)
 have HCT := Lib.hid (goodP_ok t)
 have HNB := Lib.hid (And.intro (goodP_good b).2 (And.intro (goodP_good o).2 (goodP_good t).2))
 obtain ⟨x, v, n, s1, s2⟩ := changed_says b o t
 have HS1 := Lib.hid s1
 have HS2 := Lib.hid s2
 rw [hz] at HK HG1 HG2 HG3 HV
 generalize goodP b = gb at *
 generalize goodP o = go' at *
 generalize goodP t = gt at *
 rw [hz]
 clear h1 h2 h3 l1 l2 l3 hv s1 s2
 have HZ := Lib.hid hz
 clear hz
 go_enter Tryz.func7, Tryz.ntmps7
 go_upto_region 4 with (first
  | (go_at_call 14; (with_reducible refine HK.out.mono ?_); rintro _ w1 ⟨rfl, hb1⟩; have HB1 := Lib.hid hb1; clear hb1)
  | (go_at_call 21; (with_reducible refine (HG1.out w1 HB1.out).mono ?_); rintro _ w2 ⟨AB, cb, rfl, hf2, hb2⟩; have HF2 := Lib.hid hf2; have HB2 := Lib.hid (HB1.out.trans (hb2.mono (HZ.out ▸ HB1.out.size))); clear hf2 hb2)
  | (go_at_call 21; (with_reducible refine (HG2.out w2 HB2.out).mono ?_); rintro _ w3 ⟨AO, co, rfl, hf3, hb3⟩; have HF3 := Lib.hid hf3; have HF2' := Lib.hid (HF2.out.below hb3); have HS3' := Lib.hid hb3.size; have HB3 := Lib.hid (HB2.out.trans (hb3.mono (HZ.out ▸ HB2.out.size))); clear hf3 hb3)
  | (go_at_call 21; (with_reducible refine (HG3.out w3 HB3.out).mono ?_); rintro _ w4 ⟨AT, ct, rfl, hf4, hb4⟩; have HF4 := Lib.hid hf4; have HF3' := Lib.hid ((HF3.out.below hb4).more hb4.size); have HF2'' := Lib.hid ((HF2'.out.below (hb4.mono HS3'.out)).more (Nat.le_trans HS3'.out hb4.size)); have HB4 := Lib.hid (HB3.out.trans (hb4.mono (HZ.out ▸ HB3.out.size))); clear hf4 hb4))
 clear HK HG1 HG2 HG3 HB1 HF2 HB2 HF2' HF3 HS3' HB3
 have hz4 : z ≤ w4.heap.size := HZ.out ▸ HB4.out.size
 have HD1 := Lib.hid (rdiffs_any HCB.out HCO.out AB AO cb co w4.heap.size w4 (Nat.le_refl _) HF2''.out HF3'.out)
 have HD2 := Lib.hid (fun W (k : Below w4.heap.size w4 W) => rdiffs_any HCB.out HCT.out AB AT cb ct w4.heap.size W k.size (HF2''.out.below k) (HF4.out.below k))
 obtain ⟨P1, hP1⟩ : ∃ P1, detectP (diffT gb go') = P1 := ⟨_, rfl⟩
 obtain ⟨P2, hP2⟩ : ∃ P2, detectP (diffT gb gt) = P2 := ⟨_, rfl⟩
 have HE1 := Lib.hid (fun A c W (h : CI W W.heap.size A (diffT gb go')) => hP1 ▸ rpairs_any HCB.out HCO.out A c W.heap.size W (Nat.le_refl _) h)
 have HE2 := Lib.hid (fun A c W (h : CI W W.heap.size A (diffT gb gt)) => hP2 ▸ rpairs_any HCB.out HCT.out A c W.heap.size W (Nat.le_refl _) h)
 have HPP := Lib.hid (And.intro hP1 hP2)
 clear hP1 hP2
 go_cut [40] (fun s40 wx => ∃ bb, s40 = .bool bb ∧ Hid (bb = false → P1 = [] ∧ P2 = []) ∧ Hid (Below w4.heap.size w4 wx))
 case first =>
  by_cases hn1 : 0 < P1.length
  · have d1 : decide ((0 : Int) < (P1.length : Int)) = true := decide_eq_true (by omega)
    have d2 : (0 : Int) < (P1.length : Int) := by omega
    go_wp2_with (first
        | (go_at_call 23; (with_reducible refine HD1.out.mono ?_); rintro _ w5 ⟨A5, c5, rfl, hci, hb5⟩; have HC5 := Lib.hid hci; have HB5 := Lib.hid hb5; clear hci hb5)
        | (go_at_call 22; (with_reducible refine (HE1.out A5 c5 w5 HC5.out).mono ?_); rintro _ w6 ⟨A6, c6, rfl, _, hb6⟩; have HB6 := Lib.hid (HB5.out.trans (hb6.mono HB5.out.size)); clear hb6)
        | (go_at_call 23; (with_reducible refine (HD2.out w6 HB6.out).mono ?_); rintro _ w7 ⟨A7, c7, rfl, hci, hb7⟩; have HC7 := Lib.hid hci; have HB7 := Lib.hid (HB6.out.trans (hb7.mono HB6.out.size)); clear hci hb7)
        | (go_at_call 22; (with_reducible refine (HE2.out A7 c7 w7 HC7.out).mono ?_); rintro _ w8 ⟨A8, c8, rfl, _, hb8⟩; have HB8 := Lib.hid (HB7.out.trans (hb8.mono HB7.out.size)); clear hb8))
    go_meet
    exact ⟨true, rfl, Lib.hid (by simp), HB6⟩
  · have d1 : decide ((0 : Int) < (P1.length : Int)) = false := decide_eq_false (by omega)
    have HP1 := Lib.hid (show P1 = [] from List.length_eq_zero_iff.1 (by omega))
    obtain ⟨bb, hbb⟩ : ∃ bb, decide (0 < P2.length) = bb := ⟨_, rfl⟩
    have HP2 := Lib.hid (show bb = false → P2 = [] from fun q => List.length_eq_zero_iff.1 (by have := of_decide_eq_false (hbb.trans q); omega))
    clear hn1
    go_wp2_with (first
        | (go_at_call 23; (with_reducible refine HD1.out.mono ?_); rintro _ w5 ⟨A5, c5, rfl, hci, hb5⟩; have HC5 := Lib.hid hci; have HB5 := Lib.hid hb5; clear hci hb5)
        | (go_at_call 22; (with_reducible refine (HE1.out A5 c5 w5 HC5.out).mono ?_); rintro _ w6 ⟨A6, c6, rfl, _, hb6⟩; have HB6 := Lib.hid (HB5.out.trans (hb6.mono HB5.out.size)); clear hb6)
        | (go_at_call 23; (with_reducible refine (HD2.out w6 HB6.out).mono ?_); rintro _ w7 ⟨A7, c7, rfl, hci, hb7⟩; have HC7 := Lib.hid hci; have HB7 := Lib.hid (HB6.out.trans (hb7.mono HB6.out.size)); clear hci hb7)
        | (go_at_call 22; (with_reducible refine (HE2.out A7 c7 w7 HC7.out).mono ?_); rintro _ w8 ⟨A8, c8, rfl, _, hb8⟩; have HB8 := Lib.hid (HB7.out.trans (hb8.mono HB7.out.size)); clear hb8))
    go_meet
    exact ⟨bb, rfl, Lib.hid fun q => ⟨HP1.out, HP2.out q⟩, HB8⟩
 case rest =>
  obtain ⟨bb, rfl, HBB, HB5⟩ := hcut
  generalize wc = w5 at *
  have HW5 := Lib.hid (show Below z w w5 from HB4.out.trans (HB5.out.mono hz4))
  clear HD1 HD2 HE1 HE2
  cases bb with
  | true =>
   go_wp2_with fail
   go_ret
   exact ⟨rfl, HW5.out⟩
  | false =>
   obtain ⟨e1, e2⟩ := HBB.out rfl
   have HNP := Lib.hid (show detectP (diffT gb go') = [] ∧ detectP (diffT gb gt) = [] from ⟨HPP.out.1.trans e1, HPP.out.2.trans e2⟩)
   clear e1 e2 HBB HPP
   have fb := (HF2''.out.below HB5.out).more HB5.out.size
   have fo := (HF3'.out.below HB5.out).more HB5.out.size
   have ft := (HF4.out.below HB5.out).more HB5.out.size
   have hm := merge_says AB AO AT cb co ct w5.heap.size w5 (Nat.le_refl _) fb fo ft (HV.out w5 HW5.out) HLB.out HLO.out HLT.out HS1.out
   have HM := Lib.hid hm
   have HFF := Lib.hid (And.intro fb (And.intro fo ft))
   clear fb fo ft hm HF2'' HF3' HF4 HB4 hz4
   go_upto_region 7 with (go_at_call 16; (with_reducible refine HM.out.mono ?_); rintro _ w6 ⟨R1, r1, V1, v1, rfl, hf6, hv6, hvl, hb6⟩; have HF6 := Lib.hid hf6; have HV6 := Lib.hid hv6; have HVL := Lib.hid hvl; have HB6 := Lib.hid hb6; clear hf6 hv6 hvl hb6)
   by_cases hn : n = 0
   · have HMG := Lib.hid (HS2.out hn)
     have HXL := Lib.hid (show x.length ≤ 1000000000000 from by have := merge_size HMG.out; have := HNB.out; omega)
     subst hn
     rw [show ((0 : Nat) : Int) = 0 from rfl]
     clear HS1 HS2 HM
     have hq6 : z ≤ w6.heap.size := Nat.le_trans (HZ.out ▸ HW5.out.size) HB6.out.size
     obtain ⟨q, hq⟩ : ∃ q, w6.heap.size = q := ⟨_, rfl⟩
     go_upto_region 9 with fail
     go_cut [10] (fun s10 wx => ∃ A c, s10 = .slice A (gb ++ go' ++ gt).length c ∧ Hid (FO wx q q A c (gb ++ go' ++ gt)) ∧ Hid (Below q w6 wx))
     case first =>
      obtain ⟨tb, tb1, tb2, tb3⟩ := HFF.out.1.below HB6.out
      obtain ⟨tu, tu1, tu2, tu3⟩ := HFF.out.2.1.below HB6.out
      obtain ⟨tt, tt1, tt2, tt3⟩ := HFF.out.2.2.below HB6.out
      have hB5 : w5.heap.size ≤ q := hq ▸ HB6.out.size
      have HTB := Lib.hid (And.intro tb1 (And.intro tb2 tb3))
      have HTO := Lib.hid (And.intro tu1 (And.intro tu2 tu3))
      have HTT := Lib.hid (And.intro tt1 (And.intro tt2 tt3))
      have n1 := HNB.out.1
      have n2 := HNB.out.2.1
      have n3 := HNB.out.2.2
      have HLL := Lib.hid (And.intro n1 (And.intro n2 n3))
      have HM0 := Lib.hid (FO.made hq)
      have hba := below_at (.cells #[] 41) hq
      have HBA := Lib.hid hba
      clear tb1 tb2 tb3 tu1 tu2 tu3 tt1 tt2 tt3 n1 n2 n3 hba
      go_wp2_with (first
       | (at_builtin; refine wpList_append_sl rfl elemFile rfl rfl (n := 0) (xs := []) HM0.out rfl (HTB.out.2.1.below (HBA.out.mono hB5)) (filesL_one HTB.out.2.2) (by have := HLL.out.1; unfold maxLen; omega) (by have := HLL.out.1; omega) (by simp; omega) ?_; intro A7 c7 w7 o7 k7; have HO7 := Lib.hid (show Own w7 q 41 3 A7 gb.length c7 (filesL gb tb) from by rw [Nat.zero_add, List.nil_append] at o7; exact o7); have HB7 := Lib.hid (HBA.out.trans (k7.below (Nat.le_refl _) (by simp; omega) (by simp))); clear o7 k7)
       | (at_builtin; refine wpList_append_sl rfl elemFile rfl rfl (n := gb.length) (xs := filesL gb tb) HO7.out rfl (HTO.out.2.1.below (HB7.out.mono hB5)) (filesL_one HTO.out.2.2) (by have := HLL.out; unfold maxLen; omega) (by have := HLL.out; omega) (hq ▸ HB7.out.size) ?_; intro A8 c8 w8 o8 k8; have HO8 := Lib.hid o8; have HB8 := Lib.hid (HB7.out.trans (k8.below (Nat.le_refl _) (hq ▸ HB7.out.size) (by simp))); clear o8 k8)
       | (at_builtin; refine wpList_append_sl rfl elemFile rfl rfl (n := gb.length + go'.length) (xs := filesL gb tb ++ filesL go' tu) HO8.out rfl (HTT.out.2.1.below (HB8.out.mono hB5)) (filesL_one HTT.out.2.2) (by have := HLL.out; unfold maxLen; omega) (by have := HLL.out; omega) (hq ▸ HB8.out.size) ?_; intro A9 c9 w9 o9 k9; have HO9 := Lib.hid o9; have HB9 := Lib.hid (HB8.out.trans (k9.below (Nat.le_refl _) (hq ▸ HB8.out.size) (by simp))); clear o9 k9))
      go_meet
      refine ⟨A9, c9, by simp [Nat.add_assoc], Lib.hid ⟨tb ++ tu ++ tt, by simp [HTB.out.1, HTO.out.1, HTT.out.1], ?_, ?_⟩, HB9⟩
      · rw [filesL_app (by rw [List.length_append, List.length_append, HTB.out.1, HTO.out.1]), filesL_app HTB.out.1]
        have := HO9.out
        rw [List.length_append, List.length_append]
        exact this
      · exact zip_at (by rw [List.length_append, List.length_append, HTB.out.1, HTO.out.1]) (zip_at HTB.out.1 (fun k x y e1 e2 => ((HTB.out.2.2 k x y e1 e2).below (HB9.out.mono hB5)).more hB5) fun k x y e1 e2 => ((HTO.out.2.2 k x y e1 e2).below (HB9.out.mono hB5)).more hB5) fun k x y e1 e2 => ((HTT.out.2.2 k x y e1 e2).below (HB9.out.mono hB5)).more hB5
     case rest =>
      obtain ⟨A, c, rfl, HA, HB7⟩ := hcut
      generalize wc = w7 at *
      have hal : (gb ++ go' ++ gt).length ≤ 120 := by have := HNB.out; rw [List.length_append, List.length_append]; omega
      have HCP := Lib.hid (fun (p : Pth) (h : aloneP (gb ++ go' ++ gt) p (gb ++ go' ++ gt).length = true) (hl : p.getLast? ≠ some 126) => ch_path HMG.out HNP.out.1 HNP.out.2 h hl)
      have HPL := Lib.hid (show ∀ f ∈ gb ++ go' ++ gt, f.p.length ≤ 1000000 ∧ f.p ≠ [] from fun f hf => by
       rcases List.mem_append.1 hf with hf | hf
       · rcases List.mem_append.1 hf with hf | hf
         · exact ⟨HLB.out f hf, path_ne ((checkT_tree HCB.out).1.file f hf)⟩
         · exact ⟨HLO.out f hf, path_ne ((checkT_tree HCO.out).1.file f hf)⟩
       · exact ⟨HLT.out f hf, path_ne ((checkT_tree HCT.out).1.file f hf)⟩)
      generalize gb ++ go' ++ gt = al at *
      obtain ⟨q7, hq7⟩ : ∃ q7, w7.heap.size = q7 := ⟨_, rfl⟩
      have hqq : q ≤ q7 := by rw [← hq7, ← hq]; exact HB7.out.size
      have HAF := Lib.hid (fun W (k : Below q7 w7 W) => (HA.out.fi (by omega)).below (hq7 ▸ k))
      have HFB := Lib.hid (fun W (k : Below q7 w7 W) => (((HFF.out.1.below HB6.out).more HB6.out.size).below (hq ▸ HB7.out)).below ((k.mono hqq).mono (Nat.le_of_eq hq)))
      have HFO := Lib.hid (fun W (k : Below q7 w7 W) => (((HFF.out.2.1.below HB6.out).more HB6.out.size).below (hq ▸ HB7.out)).below ((k.mono hqq).mono (Nat.le_of_eq hq)))
      have HFT := Lib.hid (fun W (k : Below q7 w7 W) => (((HFF.out.2.2.below HB6.out).more HB6.out.size).below (hq ▸ HB7.out)).below ((k.mono hqq).mono (Nat.le_of_eq hq)))
      have HFX := Lib.hid (fun W (k : Below q7 w7 W) => (HF6.out.below (hq ▸ HB7.out)).below ((k.mono hqq).mono (Nat.le_of_eq hq)))
      have HVX := Lib.hid (fun W (k : Below q7 w7 W) => (HV6.out.below (hq ▸ HB7.out)).below ((k.mono hqq).mono (Nat.le_of_eq hq)))
      have HWZ := Lib.hid (show Below z w w7 from HW5.out.trans ((HB6.out.mono (HZ.out ▸ HW5.out.size)).trans (HB7.out.mono (hq ▸ hq6))))
      have HZ7 := Lib.hid (show z ≤ q7 from Nat.le_trans (hq ▸ hq6) hqq)
      clear HA HFF HF6 HV6 HB6 HB7 HW5 HMG HNP HLB HLO HLT HCB HCO HCT hq6
      go_wp2_with fail
      go_loopw [11] (fun s11 wr => ∃ i : Nat, s11 = .int .i64 (i : Nat) ∧ i ≤ al.length ∧ Hid (Below q7 w7 wr)) (fun s11 _ => al.length - (intOf s11).toNat)
      case atStart => exact ⟨0, rfl, Nat.zero_le _, Lib.hid (Below.refl _ _)⟩
      case round =>
       obtain ⟨i, rfl, hi, HW⟩ := hrel
       by_cases hlt : i < al.length
       · obtain ⟨f, hf⟩ : ∃ f, al[i]? = some f := ⟨_, List.getElem?_eq_getElem hlt⟩
         have i0 : (0 : Int) ≤ (i : Int) := by omega
         have i1 : (i : Int) < (al.length : Int) := by omega
         obtain ⟨hpl, hpn⟩ := HPL.out f (List.mem_of_getElem? hf)
         obtain ⟨gg, og, _, _, rfl, _, _, x0, _⟩ := (HAF.out wr HW.out).at_ hf
         obtain ⟨p, hp⟩ : ∃ p, f.p = p := ⟨_, rfl⟩
         rw [hp] at hpl hpn x0
         have x0' : wr.cell? ⟨gg, og + i * 3, none⟩ = some (.string ⟨p.toArray⟩) := x0
         have HPN := Lib.hid hpn
         clear x0 hp hf hpn
         go_wp2_with fail
         go_loopw [13, 14] (fun s13 s14 wx => ∃ k : Nat, s13 = .bool (aloneP al p k) ∧ s14 = .int .i64 (k : Nat) ∧ k ≤ al.length ∧ wr = wx) (fun _ s14 _ => al.length - (intOf s14).toNat)
         case atStart => exact ⟨0, rfl, rfl, Nat.zero_le _, rfl⟩
         case round =>
          obtain ⟨k, rfl, rfl, hk, rfl⟩ := hrel
          by_cases hkc : k < al.length
          · obtain ⟨g, hg⟩ : ∃ g, al[k]? = some g := ⟨_, List.getElem?_eq_getElem hkc⟩
            have k0 : (0 : Int) ≤ (k : Int) := by omega
            have k1 : (k : Int) < (al.length : Int) := by omega
            have hn := aloneP_next (p := p) hg
            obtain ⟨gk, ok, _, _, ek, _, _, y0, _⟩ := (HAF.out wr HW.out).at_ hg
            cases ek
            have y0' : wr.cell? ⟨gg, og + k * 3, none⟩ = some (.string ⟨g.p.toArray⟩) := y0
            have QB1 := Lib.hid (rbelow_any g.p p wr)
            have QB2 := Lib.hid (rbelow_any p g.p wr)
            unfold strC at QB1 QB2
            clear y0 hg
            -- <<A1
            cases hu : aloneP al p k with
            | false =>
             have HN1 := Lib.hid (show aloneP al p (k + 1) = false from by rw [hn, hu]; rfl)
             clear hn hu
             go_wp2_with fail
             go_roundw
             case rel => exact ⟨k + 1, by rw [HN1.out], by go_num, hkc, by first | rfl | trivial⟩
             case measure => simp [intOf]; omega
            | true =>
             cases hb1 : belowB g.p p with
             | true =>
              have HN1 := Lib.hid (show aloneP al p (k + 1) = false from by rw [hn, hu, hb1]; rfl)
              rw [hb1] at QB1
              clear hn hu hb1
              go_wp2_with (go_at_call 24; (with_reducible refine QB1.out.mono ?_); rintro _ _ ⟨rfl, rfl⟩)
              go_roundw
              case rel => exact ⟨k + 1, by rw [HN1.out], by go_num, hkc, by first | rfl | trivial⟩
              case measure => simp [intOf]; omega
             | false =>
              obtain ⟨u, hb2⟩ : ∃ u, belowB p g.p = u := ⟨_, rfl⟩
              have HN1 := Lib.hid (show aloneP al p (k + 1) = !u from by rw [hn, hu, hb1, hb2]; simp)
              rw [hb1] at QB1
              rw [hb2] at QB2
              clear hn hu hb1 hb2
              go_wp2_with (first
               | (go_at_call 24; (with_reducible refine QB1.out.mono ?_); rintro _ _ ⟨rfl, rfl⟩)
               | (go_at_call 24; (with_reducible refine QB2.out.mono ?_); rintro _ _ ⟨rfl, rfl⟩))
              go_roundw
              case rel => exact ⟨k + 1, by rw [HN1.out], by go_num, hkc, by first | rfl | trivial⟩
              case measure => simp [intOf]; omega
            -- >>A1
          · obtain rfl : k = al.length := by omega
            have hx : ¬ (al.length : Int) < (al.length : Int) := by omega
            have HCQ := Lib.hid (HCP.out p)
            obtain ⟨a, ha⟩ : ∃ a, aloneP al p al.length = a := ⟨_, rfl⟩
            rw [ha] at HCQ ⊢
            clear hk hkc ha
            have hvl : v.length ≤ 9223372036854775807 := HVL.out
            go_wp2_with fail
            go_loopw [13, 15] (fun s13 s15 wx => ∃ k : Nat, s13 = .bool (a && unlikeP v p k) ∧ s15 = .int .i64 (k : Nat) ∧ k ≤ v.length ∧ wr = wx) (fun _ s15 _ => v.length - (intOf s15).toNat)
            case atStart => exact ⟨0, by show Value.bool a = .bool (a && true); rw [Bool.and_true], rfl, Nat.zero_le _, rfl⟩
            case round =>
             obtain ⟨k, rfl, rfl, hk, rfl⟩ := hrel
             by_cases hkc : k < v.length
             · obtain ⟨y, hy⟩ : ∃ y, v[k]? = some y := ⟨_, List.getElem?_eq_getElem hkc⟩
               have k0 : (0 : Int) ≤ (k : Int) := by omega
               have k1 : (k : Int) < (v.length : Int) := by omega
               have hn := unlikeP_next (p := p) hy
               obtain ⟨gv, ov, rfl, y0⟩ := clash_path (HVX.out wr HW.out) hy
               clear hy
               -- <<A2
               cases hu : (a && unlikeP v p k) with
               | false =>
                have HN1 := Lib.hid (show (a && unlikeP v p (k + 1)) = false from by rw [hn, ← Bool.and_assoc, hu]; rfl)
                clear hn hu
                go_wp2_with fail
                go_roundw
                case rel => exact ⟨k + 1, by rw [HN1.out], by go_num, hkc, by first | rfl | trivial⟩
                case measure => simp [intOf]; omega
               | true =>
                obtain ⟨u, hu2⟩ : ∃ u, (y.p == p) = u := ⟨_, rfl⟩
                have HN1 := Lib.hid (show (a && unlikeP v p (k + 1)) = !u from by rw [hn, ← Bool.and_assoc, hu, ← hu2]; simp [bne])
                clear hn hu
                go_wp2_with fail
                go_roundw
                case rel => exact ⟨k + 1, by rw [HN1.out], by go_num, hkc, by first | rfl | trivial⟩
                case measure => simp [intOf]; omega
               -- >>A2
             · obtain rfl : k = v.length := by omega
               have hx : ¬ (v.length : Int) < (v.length : Int) := by omega
               obtain ⟨d, hd⟩ : ∃ d, (a && unlikeP v p v.length) = d := ⟨_, rfl⟩
               have HDA := Lib.hid (show d = true → a = true from fun q => by rw [← hd] at q; simp only [Bool.and_eq_true] at q; exact q.1)
               rw [hd]
               clear hd hk hkc
               go_upto_region 23 with fail
               have hqw : q ≤ wr.heap.size := Nat.le_trans hqq (hq7 ▸ HW.out.size)
               have HN1 := Lib.hid (fun W (kW : Below wr.heap.size wr W) => find_any gb p AB cb q W (Nat.le_trans hqw kW.size) (hq ▸ HFB.out W (HW.out.trans (kW.mono (hq7 ▸ HW.out.size)))) (by have := HNB.out.1; omega))
               have HN2 := Lib.hid (fun W (kW : Below wr.heap.size wr W) => find_any go' p AO co q W (Nat.le_trans hqw kW.size) (hq ▸ HFO.out W (HW.out.trans (kW.mono (hq7 ▸ HW.out.size)))) (by have := HNB.out.2.1; omega))
               have HN3 := Lib.hid (fun W (kW : Below wr.heap.size wr W) => find_any gt p AT ct q W (Nat.le_trans hqw kW.size) (hq ▸ HFT.out W (HW.out.trans (kW.mono (hq7 ▸ HW.out.size)))) (by have := HNB.out.2.2; omega))
               unfold FileBack strC at HN1 HN2 HN3
               go_upto_region 24 with (first
                | (go_at_call 25; (with_reducible refine (HN1.out wr (Below.refl _ _)).mono ?_); rintro _ w8 ⟨D1, d1, rfl, r1, m1, n1, b1⟩; have HR1 := Lib.hid (And.intro r1 (And.intro m1 n1)); have HB8 := Lib.hid b1; clear r1 m1 n1 b1)
                | (go_at_call 25; (with_reducible refine (HN2.out w8 HB8.out).mono ?_); rintro _ w9 ⟨D2, d2, rfl, r2, m2, n2, b2⟩; have HR2 := Lib.hid (And.intro r2 (And.intro m2 n2)); have HB9 := Lib.hid (HB8.out.trans (b2.mono HB8.out.size)); have HK9 := Lib.hid b2; clear r2 m2 n2 b2)
                | (go_at_call 25; (with_reducible refine (HN3.out w9 HB9.out).mono ?_); rintro _ w10 ⟨D3, d3, rfl, r3, m3, n3, b3⟩; have HR3 := Lib.hid (And.intro r3 (And.intro m3 n3)); have HB10 := Lib.hid (HB9.out.trans (b3.mono HB9.out.size)); have HK10 := Lib.hid b3; have HX := boxes3 w10 41 #[.string ⟨#[]⟩, .int .i64 0, .slice none 0 0]; clear r3 m3 n3 b3)
                | (refine wpList_storeBlk rfl rfl (vs := fileC (getF gb p) D1 d1) rfl rfl HX.out.1 rfl info_file (fileC_one _ _ _) ?_; intro w11 x11 k11 z11; have HX1 := Lib.hid (And.intro x11 (And.intro (HX.out.2.1.keep k11 (by unfold Only; omega)) (And.intro (HX.out.2.2.1.keep k11 (by unfold Only; omega)) (HX.out.2.2.2.trans (k11.below (HX.out.2.2.2.size) (by unfold Only; omega)))))); clear x11 k11 z11)
                | (refine wpList_storeBlk rfl rfl (vs := fileC (getF go' p) D2 d2) rfl rfl HX1.out.2.1 rfl info_file (fileC_one _ _ _) ?_; intro w12 x12 k12 z12; have HX2 := Lib.hid (And.intro (HX1.out.1.keep k12 (by unfold Only; omega)) (And.intro x12 (And.intro (HX1.out.2.2.1.keep k12 (by unfold Only; omega)) (HX1.out.2.2.2.trans (k12.below (HX1.out.2.2.2.size) (by unfold Only; omega)))))); clear x12 k12 z12)
                | (refine wpList_storeBlk rfl rfl (vs := fileC (getF gt p) D3 d3) rfl rfl HX2.out.2.2.1 rfl info_file (fileC_one _ _ _) ?_; intro w13 x13 k13 z13; have HX3 := Lib.hid (And.intro (HX2.out.1.keep k13 (by unfold Only; omega)) (And.intro (HX2.out.2.1.keep k13 (by unfold Only; omega)) (And.intro x13 (HX2.out.2.2.2.trans (k13.below (HX2.out.2.2.2.size) (by unfold Only; omega)))))); clear x13 k13 z13))
               have hpn := HPN.out
               have p1 : 0 < p.length := by cases p with | nil => exact absurd rfl hpn | cons => exact Nat.succ_pos _
               cases d with
               | false =>
                clear HX HX1 HX2 HR1 HR2 HR3 HB8 HB9 HK9 HK10 HN1 HN2 HN3
                go_wp2_with fail
                go_roundw
                case rel => exact ⟨i + 1, by go_num, hlt, Lib.hid ((HW.out.trans (HB10.out.mono (hq7 ▸ HW.out.size))).trans (HX3.out.2.2.2.mono (Nat.le_trans (hq7 ▸ HW.out.size) HB10.out.size)))⟩
                case measure => simp [intOf]; omega
               | true =>
                have psz : p.length - 1 < (ByteArray.mk p.toArray).size := by show p.length - 1 < p.toArray.size; simp; omega
                obtain ⟨u, hu⟩ : ∃ u, (((((ByteArray.mk p.toArray)[p.length - 1]'psz).toNat : Nat) : Int) == 126) = u := ⟨_, rfl⟩
                have HLQ := Lib.hid (last_126 psz hu)
                cases u with
                | true =>
                 clear HX HX1 HX2 HR1 HR2 HR3 HB8 HB9 HK9 HK10 HN1 HN2 HN3
                 go_wp2_with fail
                 go_roundw
                 case rel => exact ⟨i + 1, by go_num, hlt, Lib.hid ((HW.out.trans (HB10.out.mono (hq7 ▸ HW.out.size))).trans (HX3.out.2.2.2.mono (Nat.le_trans (hq7 ▸ HW.out.size) HB10.out.size)))⟩
                 case measure => simp [intOf]; omega
                | false =>
                 go_upto_region 25 with fail
                 clear hu psz hpn p1
                 obtain ⟨h, hh, hq7h, hbw, s1, s2, s3, hld⟩ := ch_facts hq7 hqq HW.out HB8.out HB9.out HK9.out HB10.out HK10.out HX3.out.1 HX3.out.2.1 HX3.out.2.2.1 HX3.out.2.2.2 HR1.out.1 HR2.out.1 HR3.out.1
                 have HEQ := Lib.hid (HCQ.out (HDA.out trivial) (HLQ.out trivial))
                 have KS := Lib.hid (same13 (d := d1) (e := d2) hh s1 s2)
                 have KT := Lib.hid (same13 (d := d1) (e := d3) hh s1 s3)
                 have KXT := Lib.hid (same13x (f := getF x p) (e := d3) hh s3)
                 have KXO := Lib.hid (same13x (f := getF x p) (e := d2) hh s2)
                 have KX := Lib.hid (find13 r1 p hh (Nat.le_trans hqq hq7h) (fun W k => hq ▸ HFX.out W (hbw.trans (k.mono hq7h))) HXL.out)
                 have HLD := Lib.hid hld
                 have HBW := Lib.hid (fun W (k : Below h w13 W) => hbw.trans (k.mono hq7h))
                 have HA := Lib.hid (show Below h w13 w13.drew from ⟨rfl, rfl, rfl, Nat.le_refl _, fun _ _ => rfl⟩)
                 obtain ⟨l1, l2, l3⟩ := HLD.out _ HA.out
                 clear hh hq7h hbw s1 s2 s3 hld HX HX1 HX2 HX3 HR1 HR2 HR3 HB8 HB9 HK9 HB10 HK10 HN1 HN2 HN3 HCQ HDA HLQ
                 generalize w10.heap.size = bx at *
                 generalize getF gb p = F at *
                 generalize getF go' p = O at *
                 generalize getF gt p = T at *
                 generalize getF x p = X at *
                 -- <<R25
                 obtain ⟨e1, hd1⟩ : ∃ e1, decide (F = O) = e1 := ⟨_, rfl⟩
                 obtain ⟨e2, hd2⟩ : ∃ e2, decide (F = T) = e2 := ⟨_, rfl⟩
                 rw [hd1] at KS
                 rw [hd2] at KT
                 have HQ1 := Lib.hid (show e1 = true → F = O from fun q => of_decide_eq_true (hd1.trans q))
                 have HQ2 := Lib.hid (show e2 = true → F = T from fun q => of_decide_eq_true (hd2.trans q))
                 clear hd1 hd2 l1 l2 l3
                 have HS := HA
                 clear HA
                 refine wp_region_held_drew (S := fun W => Below h w13 W) (by kernel_rfl) HS.out (fun _ => ?_)
                 refine tkT (i := 0) (v := ?_) rfl (by kernel_rfl) (fun _ _ _ h => h) (by rfl) ?_ HS.out ?_
                 rotate_left
                 · (intro W hW; obtain ⟨l1, l2, l3⟩ := HLD.out W hW; go_simp; try with_reducible rfl)
                 try simp only [Act.put, List.setIfInBounds_toArray]
                 refine tkT (i := 1) (v := ?_) rfl (by kernel_rfl) (fun _ _ _ h => h) (by rfl) ?_ HS.out ?_
                 rotate_left
                 · (intro W hW; obtain ⟨l1, l2, l3⟩ := HLD.out W hW; go_simp; try with_reducible rfl)
                 try simp only [Act.put]
                 refine wpAnyH_ready (rs := [2]) (by kernel_rfl) (by simp) ?_
                 refine AllReadyH.cons rfl (fun K hK => ?_) AllReadyH.nil
                 go_simp
                 go_at_call 26
                 (with_reducible refine (KS.out _ HS.out).mono ?_)
                 rintro _ wn ⟨rfl, hb⟩
                 go_wp2_with fail
                 refine hK.out _ _ hb (fun _ => ?_)
                 clear hK K HS
                 have HS := Lib.hid hb
                 clear hb
                 try simp only [Act.put, List.setIfInBounds_toArray, List.set_cons_zero, List.set_cons_succ]
                 refine tkT (i := 3) (v := ?_) rfl (by kernel_rfl) (fun _ _ _ h => h) (by rfl) ?_ HS.out ?_
                 rotate_left
                 · (intro W hW; obtain ⟨l1, l2, l3⟩ := HLD.out W hW; go_simp; try with_reducible rfl)
                 try simp only [Act.put, List.setIfInBounds_toArray]
                 cases e1
                 case' false =>
                  refine tkF (i := 4) rfl (by kernel_rfl) (fun _ _ _ h => h) (by rfl) HS.out ?_
                  try simp only [Act.put]
                  refine tkF (i := 5) rfl (by kernel_rfl) (fun _ _ _ h => h) (by rfl) HS.out ?_
                  try simp only [Act.put]
                  refine tkF (i := 7) rfl (by kernel_rfl) (fun _ _ _ h => h) (by rfl) HS.out ?_
                  try simp only [Act.put]
                  refine wpAnyH_ready (rs := [6]) (by kernel_rfl) (by simp) ?_
                  refine AllReadyH.cons rfl (fun K hK => ?_) AllReadyH.nil
                  go_simp
                  refine hK.out _ _ HS.out (fun _ => ?_)
                  clear hK K
                  try simp only [Act.put, List.setIfInBounds_toArray, List.set_cons_zero, List.set_cons_succ]
                  refine wpAnyH_ready (rs := [8]) (by kernel_rfl) (by simp) ?_
                  refine AllReadyH.cons rfl (fun K hK => ?_) AllReadyH.nil
                  go_simp
                  refine hK.out _ _ HS.out (fun _ => ?_)
                  clear hK K
                  try simp only [Act.put, List.setIfInBounds_toArray, List.set_cons_zero, List.set_cons_succ]
                  refine tkF (i := 9) rfl (by kernel_rfl) (fun _ _ _ h => h) (by rfl) HS.out ?_
                  try simp only [Act.put, List.setIfInBounds_toArray]
                 case' true =>
                  refine tkT (i := 4) (v := ?_) rfl (by kernel_rfl) (fun _ _ _ h => h) (by rfl) ?_ HS.out ?_
                  rotate_left
                  · (intro W hW; obtain ⟨l1, l2, l3⟩ := HLD.out W hW; go_simp; try with_reducible rfl)
                  try simp only [Act.put]
                  refine tkT (i := 5) (v := ?_) rfl (by kernel_rfl) (fun _ _ _ h => h) (by rfl) ?_ HS.out ?_
                  rotate_left
                  · (intro W hW; obtain ⟨l1, l2, l3⟩ := HLD.out W hW; go_simp; try with_reducible rfl)
                  try simp only [Act.put]
                  refine tkT (i := 7) (v := ?_) rfl (by kernel_rfl) (fun _ _ _ h => h) (by rfl) ?_ HS.out ?_
                  rotate_left
                  · (intro W hW; obtain ⟨l1, l2, l3⟩ := HLD.out W hW; go_simp; try with_reducible rfl)
                  try simp only [Act.put]
                  refine wpAnyH_ready (rs := [6]) (by kernel_rfl) (by simp) ?_
                  refine AllReadyH.cons rfl (fun K hK => ?_) AllReadyH.nil
                  go_simp
                  go_at_call 25
                  (with_reducible refine (KX.out _ HS.out).mono ?_)
                  rintro _ wn ⟨E, e, rfl, rx, hb⟩
                  go_wp2_with fail
                  refine hK.out _ _ hb (fun _ => ?_)
                  clear hK K HS
                  have HS := Lib.hid hb
                  clear hb
                  have RX := Lib.hid rx
                  clear rx
                  try simp only [Act.put, List.setIfInBounds_toArray, List.set_cons_zero, List.set_cons_succ]
                  refine wpAnyH_ready (rs := [8]) (by kernel_rfl) (by simp) ?_
                  refine AllReadyH.cons rfl (fun K hK => ?_) AllReadyH.nil
                  go_simp
                  go_at_call 26
                  (with_reducible refine (KXT.out _ E e HS.out RX.out (HEQ.out.1 (HQ1.out (by first | rfl | trivial)))).mono ?_)
                  rintro _ wn ⟨rfl, hb⟩
                  go_wp2_with fail
                  refine hK.out _ _ hb (fun _ => ?_)
                  clear hK K HS
                  have HS := Lib.hid hb
                  clear hb
                  try simp only [Act.put, List.setIfInBounds_toArray, List.set_cons_zero, List.set_cons_succ]
                  refine tkT (i := 9) (v := ?_) rfl (by kernel_rfl) (fun _ _ _ h => h) (by rfl) ?_ HS.out ?_
                  rotate_left
                  · (intro W hW; obtain ⟨l1, l2, l3⟩ := HLD.out W hW; go_simp; try with_reducible rfl)
                  try simp only [Act.put, List.setIfInBounds_toArray]
                 all_goals
                  refine tkT (i := 10) (v := ?_) rfl (by kernel_rfl) (fun _ _ _ h => h) (by rfl) ?_ HS.out ?_
                  rotate_left
                  · (intro W hW; obtain ⟨l1, l2, l3⟩ := HLD.out W hW; go_simp; try with_reducible rfl)
                  try simp only [Act.put]
                  refine tkT (i := 11) (v := ?_) rfl (by kernel_rfl) (fun _ _ _ h => h) (by rfl) ?_ HS.out ?_
                  rotate_left
                  · (intro W hW; obtain ⟨l1, l2, l3⟩ := HLD.out W hW; go_simp; try with_reducible rfl)
                  try simp only [Act.put]
                  refine tkT (i := 12) (v := ?_) rfl (by kernel_rfl) (fun _ _ _ h => h) (by rfl) ?_ HS.out ?_
                  rotate_left
                  · (intro W hW; obtain ⟨l1, l2, l3⟩ := HLD.out W hW; go_simp; try with_reducible rfl)
                  try simp only [Act.put]
                  refine tkT (i := 13) (v := ?_) rfl (by kernel_rfl) (fun _ _ _ h => h) (by rfl) ?_ HS.out ?_
                  rotate_left
                  · (intro W hW; obtain ⟨l1, l2, l3⟩ := HLD.out W hW; go_simp; try with_reducible rfl)
                  try simp only [Act.put]
                  refine wpAnyH_ready (rs := [14]) (by kernel_rfl) (by simp) ?_
                  refine AllReadyH.cons rfl (fun K hK => ?_) AllReadyH.nil
                  go_simp
                  go_at_call 26
                  (with_reducible refine (KT.out _ HS.out).mono ?_)
                  rintro _ wn ⟨rfl, hb⟩
                  go_wp2_with fail
                  refine hK.out _ _ hb (fun _ => ?_)
                  clear hK K HS
                  have HS := Lib.hid hb
                  clear hb
                  try simp only [Act.put, List.setIfInBounds_toArray, List.set_cons_zero, List.set_cons_succ]
                  refine tkT (i := 15) (v := ?_) rfl (by kernel_rfl) (fun _ _ _ h => h) (by rfl) ?_ HS.out ?_
                  rotate_left
                  · (intro W hW; obtain ⟨l1, l2, l3⟩ := HLD.out W hW; go_simp; try with_reducible rfl)
                  try simp only [Act.put, List.setIfInBounds_toArray]
                  cases e2
                  case' false =>
                   refine tkF (i := 16) rfl (by kernel_rfl) (fun _ _ _ h => h) (by rfl) HS.out ?_
                   try simp only [Act.put]
                   refine tkF (i := 17) rfl (by kernel_rfl) (fun _ _ _ h => h) (by rfl) HS.out ?_
                   try simp only [Act.put]
                   refine tkF (i := 19) rfl (by kernel_rfl) (fun _ _ _ h => h) (by rfl) HS.out ?_
                   try simp only [Act.put]
                   refine wpAnyH_ready (rs := [18]) (by kernel_rfl) (by simp) ?_
                   refine AllReadyH.cons rfl (fun K hK => ?_) AllReadyH.nil
                   go_simp
                   refine hK.out _ _ HS.out (fun _ => ?_)
                   clear hK K
                   try simp only [Act.put, List.setIfInBounds_toArray, List.set_cons_zero, List.set_cons_succ]
                   refine wpAnyH_ready (rs := [20]) (by kernel_rfl) (by simp) ?_
                   refine AllReadyH.cons rfl (fun K hK => ?_) AllReadyH.nil
                   go_simp
                   refine hK.out _ _ HS.out (fun _ => ?_)
                   clear hK K
                   try simp only [Act.put, List.setIfInBounds_toArray, List.set_cons_zero, List.set_cons_succ]
                   refine tkF (i := 21) rfl (by kernel_rfl) (fun _ _ _ h => h) (by rfl) HS.out ?_
                   try simp only [Act.put, List.setIfInBounds_toArray]
                  case' true =>
                   refine tkT (i := 16) (v := ?_) rfl (by kernel_rfl) (fun _ _ _ h => h) (by rfl) ?_ HS.out ?_
                   rotate_left
                   · (intro W hW; obtain ⟨l1, l2, l3⟩ := HLD.out W hW; go_simp; try with_reducible rfl)
                   try simp only [Act.put]
                   refine tkT (i := 17) (v := ?_) rfl (by kernel_rfl) (fun _ _ _ h => h) (by rfl) ?_ HS.out ?_
                   rotate_left
                   · (intro W hW; obtain ⟨l1, l2, l3⟩ := HLD.out W hW; go_simp; try with_reducible rfl)
                   try simp only [Act.put]
                   refine tkT (i := 19) (v := ?_) rfl (by kernel_rfl) (fun _ _ _ h => h) (by rfl) ?_ HS.out ?_
                   rotate_left
                   · (intro W hW; obtain ⟨l1, l2, l3⟩ := HLD.out W hW; go_simp; try with_reducible rfl)
                   try simp only [Act.put]
                   refine wpAnyH_ready (rs := [18]) (by kernel_rfl) (by simp) ?_
                   refine AllReadyH.cons rfl (fun K hK => ?_) AllReadyH.nil
                   go_simp
                   go_at_call 25
                   (with_reducible refine (KX.out _ HS.out).mono ?_)
                   rintro _ wn ⟨E9, e9, rfl, rx, hb⟩
                   go_wp2_with fail
                   refine hK.out _ _ hb (fun _ => ?_)
                   clear hK K HS
                   have HS := Lib.hid hb
                   clear hb
                   have RX9 := Lib.hid rx
                   clear rx
                   try simp only [Act.put, List.setIfInBounds_toArray, List.set_cons_zero, List.set_cons_succ]
                   refine wpAnyH_ready (rs := [20]) (by kernel_rfl) (by simp) ?_
                   refine AllReadyH.cons rfl (fun K hK => ?_) AllReadyH.nil
                   go_simp
                   go_at_call 26
                   (with_reducible refine (KXO.out _ E9 e9 HS.out RX9.out (HEQ.out.2 (HQ2.out (by first | rfl | trivial)))).mono ?_)
                   rintro _ wn ⟨rfl, hb⟩
                   go_wp2_with fail
                   refine hK.out _ _ hb (fun _ => ?_)
                   clear hK K HS
                   have HS := Lib.hid hb
                   clear hb
                   try simp only [Act.put, List.setIfInBounds_toArray, List.set_cons_zero, List.set_cons_succ]
                   refine tkT (i := 21) (v := ?_) rfl (by kernel_rfl) (fun _ _ _ h => h) (by rfl) ?_ HS.out ?_
                   rotate_left
                   · (intro W hW; obtain ⟨l1, l2, l3⟩ := HLD.out W hW; go_simp; try with_reducible rfl)
                   try simp only [Act.put, List.setIfInBounds_toArray]
                  all_goals
                   refine tkT (i := 22) (v := ?_) rfl (by kernel_rfl) (fun _ _ _ h => h) (by rfl) ?_ HS.out ?_
                   rotate_left
                   · (intro W hW; obtain ⟨l1, l2, l3⟩ := HLD.out W hW; go_simp; try with_reducible rfl)
                   try simp only [Act.put]
                   refine tkT (i := 23) (v := ?_) rfl (by kernel_rfl) (fun _ _ _ h => h) (by rfl) ?_ HS.out ?_
                   rotate_left
                   · (intro W hW; obtain ⟨l1, l2, l3⟩ := HLD.out W hW; go_simp; try with_reducible rfl)
                   try simp only [Act.put]
                   refine wpAnyH_done (by kernel_rfl) ?_ _
                   go_wp2_with fail
                   go_roundw
                   case rel => exact ⟨i + 1, by go_num, hlt, Lib.hid (HBW.out _ HS.out)⟩
                   case measure => simp [intOf]; omega
                 -- >>R25
       · obtain rfl : i = al.length := by omega
         have hx : ¬ (al.length : Int) < (al.length : Int) := by omega
         go_wp2_with fail
         go_ret
         exact ⟨rfl, HWZ.out.trans (HW.out.mono HZ7.out)⟩
   · have hn1 : ((n : Int) != 0) = true := by rw [bne_iff_ne]; omega
     have hn2 : ¬ (n : Int) = 0 := by omega
     go_wp2_with fail
     go_ret
     exact ⟨rfl, HW5.out.trans (HB6.out.mono (HZ.out ▸ HW5.out.size))⟩
end Go.Proofs.YteeeehfnldkjlaaGreatDoor
