/-
  Texts of the codec joined (Ecom, Rcom, Num8). No statement of the seat is proved here.
-/
import Derived.Test.YtppmolneklidfaaGreatZ08
import Derived.Test.YtppmolneklidfaaGreatZ05
namespace Go.Proofs.YtppmolneklidfaaGreat
open Go.RowKit

/-! ### Plain -/
def ecGo : Int → List UInt8 → List Id → List Id → Int × List UInt8
  | e, bs, _, [] => (e, bs)
  | e, bs, pre, p :: l => ecGo (note (note e (!isNone p) 1) (!hasId pre p) 18) (bs ++ p.1) (pre ++ [p]) l
def ecE0 (c : ComD) : Int := note (note 0 (!isNone c.tree) 1) (decide ((c.parents.length : Int) ≤ 8)) 4
def ecP (c : ComD) : Int × List UInt8 := ecGo (ecE0 c) (c.tree.1 ++ be 1 c.parents.length) [] c.parents
def ecE (c : ComD) : Int := note (note (ecP c).1 (decide ((c.author.size : Int) ≤ 1000)) 5) (decide ((c.msg.size : Int) ≤ 1000)) 5
/-- A time as a number modulo 2^64. -/
def timeN (t : Int) : Nat := (t % 18446744073709551616).toNat
def encCommit (c : ComD) : List UInt8 × Int :=
  if ecE c = 0 then ((ecP c).2 ++ be 2 c.author.size ++ c.author.data.toList ++ be 8 (timeN c.time) ++ be 2 c.msg.size ++ c.msg.data.toList, 0) else ([], ecE c)

theorem ecGo_len : ∀ (l : List Id) (e : Int) (bs : List UInt8) (pre : List Id), (ecGo e bs pre l).2.length = bs.length + l.length * 32
  | [], e, bs, pre => by simp [ecGo]
  | p :: l, e, bs, pre => by rw [ecGo, ecGo_len l, List.length_append, p.2, List.length_cons]; omega

theorem note_err {e : Int} (h : e ≠ 0) (b : Bool) (k : Int) : note e b k = e := if_neg h
theorem ecGo_err : ∀ (l : List Id) (e : Int) (bs : List UInt8) (pre : List Id), e ≠ 0 → (ecGo e bs pre l).1 = e
  | [], e, bs, pre, _ => rfl
  | p :: l, e, bs, pre, h => by
    rw [ecGo, note_err h, note_err h]
    exact ecGo_err l e _ _ h
theorem ecE_err {d : ComD} {e : Int} (h : (ecP d).1 = e) (h0 : e ≠ 0) : ecE d = e := by
  unfold ecE
  rw [h, note_err h0, note_err h0]
theorem ecE_err0 {d : ComD} {e : Int} (h : ecE0 d = e) (h0 : e ≠ 0) : ecE d = e := by
  refine ecE_err ?_ h0
  unfold ecP
  rw [h]
  exact ecGo_err _ _ _ _ h0

theorem ecE_zero {d : ComD} (h : ecE d = 0) : (ecP d).1 = 0 ∧ ecE0 d = 0 ∧ d.parents.length ≤ 8 ∧ d.author.size ≤ 1000 ∧ d.msg.size ≤ 1000 := by
  have h1 : (ecP d).1 = 0 := by
    rcases Decidable.em ((ecP d).1 = 0) with q | q
    · exact q
    · exact absurd ((ecE_err rfl q).symm.trans h) q
  have h0 : ecE0 d = 0 := by
    rcases Decidable.em (ecE0 d = 0) with q | q
    · exact q
    · exact absurd ((ecE_err0 rfl q).symm.trans h) q
  have a1 := (note_zero (by decide)).1 h0
  have a2 := (note_zero (by decide)).1 h
  have a3 := (note_zero (by decide)).1 a2.1
  have b1 := of_decide_eq_true a1.2
  have b2 := of_decide_eq_true a2.2
  have b3 := of_decide_eq_true a3.2
  exact ⟨h1, h0, by omega, by omega, by omega⟩

theorem contains_n (l : List Id) (n : Nat) (hn : l.length = n) (x : Id) (A : Option Addr) (c : Nat) (B : Nat) (w : World) (hr : Reads w B 32 A n (idLs l)) (hB : B ≤ w.heap.size) (hl : n ≤ 9223372036854775807) :
    Calls Tryz.prog 58 #[.slice A n c, idV x] w fun r w' => r = .returned (.bool (hasId l x)) ∧ Keep Nothing w w' := by
  subst hn
  exact contains_any l x A c B w hr hB hl

attribute [local go_sem ↓] ld_id eq_id bd_com st_com

def ecS (e : Int) (au ms : ByteArray) : Nat → Int
  | 0 => e
  | 1 => note e (decide ((au.size : Int) ≤ 1000)) 5
  | _ => note (note e (decide ((au.size : Int) ≤ 1000)) 5) (decide ((ms.size : Int) ≤ 1000)) 5
theorem load_com_id {w : World} {g : Nat} {tt : TypeId} {t : Id} {p : Value} {a : ByteArray} {n : Int} {m : ByteArray} (h : Blk w g tt (comC t p a n m)) : (Instr.loadAt 24 (.pointer (some ⟨g, 0, none⟩))).run Tryz.prog w = .ok (idV t) w := ldId_com h
theorem idLs_take (l : List Id) (k : Nat) : (idLs l).take (k * 32) = idLs (l.take k) := by
  induction l generalizing k with
  | nil => simp [idLs]
  | cons x l ih =>
    cases k with
    | zero => simp [idLs]
    | succ k =>
      have h := ih k
      simp only [idLs, List.take_succ_cons, List.flatMap_cons] at *
      rw [List.take_append, idL_len, List.take_of_length_le (by rw [idL_len]; omega), show (k + 1) * 32 - 32 = k * 32 by omega, h]
theorem wmust_any (g base : Nat) (bs : List UInt8) (e k : Int) (is : Bool) (w : World) (hw : Wt w g base bs e) :
    Calls Tryz.prog 44 #[.pointer (some ⟨g, 0, none⟩), .bool is, .int .i64 k] w fun r w' => r = .returned (.tuple #[]) ∧ Wt w' g base bs (note e is k) ∧ Keep (Only g) w w' := by
  obtain ⟨A, c, hb, ho, hbg⟩ := hw
  refine (must_any g _ _ _ e k is w hb).mono ?_
  rintro r w' ⟨rfl, hb', hk⟩
  exact ⟨rfl, ⟨A, c, hb', ho.keepOnly hk hb (by decide), hbg⟩, hk⟩
theorem Wt.drew {w : World} {g base : Nat} {bs : List UInt8} {e : Int} (h : Wt w g base bs e) : Wt w.drew g base bs e := h
theorem Wt.keep {w w' : World} {g base : Nat} {bs : List UInt8} {e : Int} (h : Wt w g base bs e) (hk : Keep Nothing w w') : Wt w' g base bs e := by
  obtain ⟨A, c, hb, ho, hbg⟩ := h
  exact ⟨A, c, hb.keep hk (fun q => q), ho.kept (b' := 0) (E := []) (G := []) (Kept.ofKeep hk (by unfold Nothing; simp)) (by simp) (by simp), hbg⟩
theorem Wt.lt {w : World} {g base : Nat} {bs : List UInt8} {e : Int} (h : Wt w g base bs e) : g < w.heap.size := by
  obtain ⟨A, c, hb, ho, hbg⟩ := h
  exact hb.lt
theorem Kept.only {base : Nat} {E : List TypeId} {w a b : World} (h : Kept base E [] w a) {g : Nat} (k : Keep (Only g) a b) (hg : w.heap.size ≤ g) : Kept base E [] w b :=
  h.lift (Kept.ofKeep (base := base) (E := []) (G := [g]) k (by unfold Only; simp)) (Nat.le_refl _) (by simp) (by simp; exact hg)
theorem Kept.nothing {base : Nat} {E : List TypeId} {w a b : World} (h : Kept base E [] w a) (k : Keep Nothing a b) : Kept base E [] w b :=
  h.lift (Kept.ofKeep (base := base) (E := []) (G := []) k (by unfold Nothing; simp)) (Nat.le_refl _) (by simp) (by simp)

set_option maxHeartbeats 4000000 in
set_option maxRecDepth 100000 in
theorem encodeCommit_any (d : ComD) (A : Option Addr) (c : Nat) (w : World) (hr : Reads w w.heap.size 32 A d.parents.length (idLs d.parents)) (hl : d.parents.length ≤ 1000) (hc : d.parents.length ≤ c) (ha : d.author.size ≤ 9223372036854775807) (hm : d.msg.size ≤ 9223372036854775807) :
    Calls Tryz.prog 28 #[.agg (comC d.tree (.slice A d.parents.length c) d.author d.time d.msg)] w (BytesPost (encCommit d) w) := by
  obtain ⟨t, ps, au, tm, ms⟩ := d
  go_enter Tryz.func28, Tryz.ntmps28
  go_wp2_with (first | (refine wpList_boxed rfl rfl (cs := comC t (.slice A ps.length c) au tm ms) rfl ?_))
  have hq0 : Blk ((w.alloc (.cells (comC t (.slice A ps.length c) au tm ms) 27)).alloc (.cells #[.slice none 0 0, .int .i64 0, .int .i64 0] 102)) w.heap.size 27 (comC t (.slice A ps.length c) au tm ms) := (Blk.new _ _ _).alloc _
  have hW0 : Wt ((w.alloc (.cells (comC t (.slice A ps.length c) au tm ms) 27)).alloc (.cells #[.slice none 0 0, .int .i64 0, .int .i64 0] 102)) (w.heap.size + 1) w.heap.size [] 0 := by
    refine ⟨none, 0, ?_, Own.nil _ _ _ _, Nat.le_succ _⟩
    have := Blk.new (w.alloc (.cells (comC t (.slice A ps.length c) au tm ms) 27)) 102 #[.slice none 0 0, .int .i64 0, .int .i64 0]
    simpa using this
  have hk0 : Kept w.heap.size [5] [] w ((w.alloc (.cells (comC t (.slice A ps.length c) au tm ms) 27)).alloc (.cells #[.slice none 0 0, .int .i64 0, .int .i64 0] 102)) := ((Kept.refl _ _ _ _).alloc _).alloc _
  generalize (w.alloc (.cells (comC t (.slice A ps.length c) au tm ms) 27)).alloc (.cells #[.slice none 0 0, .int .i64 0, .int .i64 0] 102) = w0 at *
  have hz0 := hk0.size
  generalize hq : w.heap.size = q at *
  have HQ := Lib.hid hq
  have hqle : q ≤ w.heap.size := by omega
  have hqge : w.heap.size ≤ q := by omega
  have l0 := hq0.lt
  have l0' := hW0.lt
  clear hq
  have L1 := ldId_com hq0.drew
  go_region_law (first | (go_simp; go_at_call 57; refine (none_any t _).mono ?_; rintro r w3 ⟨rfl, hk3⟩; have hW3 := hW0.drew.keep hk3) | (go_simp; go_at_call 44; refine (wmust_any (q + 1) q _ _ 1 _ _ hW3).mono ?_; rintro r w4 ⟨rfl, hW4, hk4⟩))
  have hk4' := (hk0.drew.nothing hk3).only hk4 (by omega)
  have hq4 := (hq0.drew.keep hk3 (fun h => h)).keep hk4 (by unfold Only; omega)
  have z4 := hk4'.size
  have l4 := hW4.lt
  clear hk3 hk4 hW3 hW0 hq0 hk0 L1
  have p4 := (hq4.cell 32).trans comC_at.1
  go_wp2_with fail
  go_region_law (first | (go_simp; go_at_call 44; refine (wmust_any (q + 1) q _ _ 4 _ _ hW4.drew).mono ?_; rintro r w5 ⟨rfl, hW5, hk5⟩))
  have hk5' := hk4'.drew.only hk5 (by omega)
  have hq5 := hq4.drew.keep hk5 (by unfold Only; omega)
  have z5 := hk5'.size
  have l5 := hW5.lt
  clear hk5 hW4 hq4 hk4' p4
  go_wp2_with (first | (refine wpList_load rfl rfl rfl (load_com_id hq5) ?_))
  refine (wid_any t (q + 1) q _ _ _ hW5 (by simp) (by omega)).mono ?_
  rintro r w6 ⟨rfl, hW6, hk6⟩
  have hq6 := hk6.blk hq5 (by simp) (by decide)
  have hk6' := hk5'.lift hk6 (Nat.le_refl _) (by simp) (by simp; omega)
  have z6 := hk6'.size
  have l6 := hW6.lt
  have p6 := (hq6.cell 32).trans comC_at.1
  clear hk6 hk5' hq5 hW5
  go_wp2_with fail
  have hps : IntKind.u64.wrap (ps.length : Int) = (ps.length : Int) := by simp [IntKind.wrap, IntKind.signed, IntKind.bits]; omega
  refine (wnumber_any 1 ps.length (by omega) (q + 1) q _ _ _ hW6 (by simp [t.2]) (by omega)).mono ?_
  rintro r w7 ⟨rfl, hW7, hk7⟩
  have hq7 := hk7.blk hq6 (by simp) (by decide)
  have hk7' := hk6'.lift hk7 (Nat.le_refl _) (by simp) (by simp; omega)
  have z7 := hk7'.size
  have p7 := (hq7.cell 32).trans comC_at.1
  clear hk7 hk6' hq6 hW6 hps p6
  have HL := Lib.hid (show ecP ⟨t, ps, au, tm, ms⟩ = ecGo (note (note 0 (!isNone t) 1) (decide ((ps.length : Int) ≤ 8)) 4) ([] ++ t.1 ++ be 1 ps.length) [] ps from rfl)
  have hlen : ([] ++ t.1 ++ be 1 ps.length).length = 33 := by simp [be_len, t.2]
  generalize [] ++ t.1 ++ be 1 ps.length = bs7 at *
  generalize note (note 0 (!isNone t) 1) (decide ((ps.length : Int) ≤ 8)) 4 = e7 at *
  go_wp2_with fail
  go_loopw [40] (fun i wr => ∃ k bs e, k ≤ ps.length ∧ i = .int .i64 k ∧ ecGo e bs (ps.take k) (ps.drop k) = ecP ⟨t, ps, au, tm, ms⟩ ∧ Wt wr (q + 1) q bs e ∧ Blk wr q 27 (comC t (.slice A ps.length c) au tm ms) ∧ Kept q [5] [] w wr ∧ bs.length = 33 + k * 32) (fun i _ => ps.length - (intOf i).toNat)
  case atStart => exact ⟨0, bs7, e7, Nat.zero_le _, rfl, HL.out.symm, hW7, hq7, hk7', by omega⟩
  case round =>
    obtain ⟨k, bs, e, hk, rfl, henc, hW, hqb, hkp, hbl⟩ := hrel
    have HE := Lib.hid henc
    clear henc
    have hz := hkp.size
    have lW := hW.lt
    have HBL := Lib.hid hbl
    clear hbl hlen
    by_cases hlt : k < ps.length
    · obtain ⟨x, hx⟩ : ∃ x, ps[k]? = some x := ⟨_, List.getElem?_eq_getElem hlt⟩
      have hdr : ps.drop k = x :: ps.drop (k + 1) := by rw [List.drop_eq_getElem_cons hlt]; congr 1; rw [List.getElem?_eq_getElem hlt] at hx; simpa using hx
      have htk : ps.take (k + 1) = ps.take k ++ [x] := by rw [List.take_succ_eq_append_getElem hlt]; congr 2; rw [List.getElem?_eq_getElem hlt] at hx; simpa using hx
      have hrw := hr.below (hkp.below (B := q) (Nat.le_refl _) (by omega) (by simp))
      have HR := Lib.hid hrw
      have HE2 := Lib.hid (show ecGo (note (note e (!isNone x) 1) (!hasId (ps.take k) x) 18) (bs ++ x.1) (ps.take (k + 1)) (ps.drop (k + 1)) = ecP ⟨t, ps, au, tm, ms⟩ from by rw [← HE.out, hdr, htk]; rfl)
      obtain ⟨g1, o1, rfl, _, hc1⟩ := hrw.at0 (by omega) (by omega)
      have L2 := ldId_at (w := wr) (fun j u hj => hc1 j u hj) hx
      clear hx hdr htk hrw hc1 HE
      have hi0 : (0 : Int) ≤ (k : Int) := Int.natCast_nonneg _
      have hi1 : (k : Int) < (ps.length : Int) := by omega
      go_wp2_with (first | (refine wpList_allocAgg rfl rfl (zero_noId _) ?_) | (refine wpList_storeBlk rfl rfl (vs := idC x) rfl rfl (Blk.new _ _ _) (by rw [idC_size, idC_size]) (by rw [idC_size]; exact info42) (idL_one _) ?_; intro w9 hx9 hkc hzc))
      go_frame
      have hkN : Keep Nothing wr w9 := Keep.ofNew hkc
      have hW9 := hW.keep hkN
      have hq9 := hqb.keep hkN (fun h => h)
      have hk9 := hkp.nothing hkN
      have l9 := hW9.lt
      have hr9 := HR.out.below (hkN.below (B := q) (by omega) (fun _ _ h => h))
      generalize wr.heap.size = x8 at *
      clear hkc hzc hkN hW hqb hkp L2 HR
      have L1 := LdId.blk hx9.drew
      go_region_law (first | (go_simp; go_at_call 57; refine (none_any x _).mono ?_; rintro r w10 ⟨rfl, hk10⟩; have hW10 := hW9.drew.keep hk10) | (go_simp; go_at_call 44; refine (wmust_any (q + 1) q _ _ 1 _ _ hW10).mono ?_; rintro r w11 ⟨rfl, hW11, hk11⟩))
      have k911 : Keep (Only (q + 1)) w9 w11 := (Keep.drew (Keep.refl (Only (q + 1)) w9)).trans ((hk10.mono (fun _ _ h => h.elim)).trans hk11)
      have hq11 := hq9.keep k911 (by unfold Only; omega)
      have hx11 := hx9.keep k911 (by unfold Only; omega)
      have hk11' := hk9.only k911 (by omega)
      have hr11 := hr9.kept k911 (by omega) (by unfold Only; omega)
      have z11 := k911.size
      have l11 := hW11.lt
      have pv := (hq11.cell 32).trans comC_at.1
      have hrk : Reads w11 q 32 (some ⟨g1, o1, none⟩) k (idLs (ps.take k)) := by rw [← idLs_take]; exact hr11.front (by omega)
      clear hk10 hk11 k911 hW10 hW9 hq9 hx9 hk9 hr9 hr11 L1
      have L2 := LdId.blk hx11.drew
      have hkc : (k : Int) ≤ (c : Int) := by omega
      have hzd : q ≤ w11.drew.heap.size := by show q ≤ w11.heap.size; omega
      have htl : (ps.take k).length = k := by rw [List.length_take]; omega
      have HTL := Lib.hid htl
      clear htl
      go_wp2_with fail
      go_region_law (first | (go_simp; go_at_call 58; refine (contains_n (ps.take k) k HTL.out x _ c _ _ hrk.drew hzd (by omega)).mono ?_; rintro r w12 ⟨rfl, hk12⟩; have hW12 := hW11.drew.keep hk12) | (go_simp; go_at_call 44; refine (wmust_any (q + 1) q _ _ 18 _ _ hW12).mono ?_; rintro r w13 ⟨rfl, hW13, hk13⟩))
      all_goals
        have k1113 : Keep (Only (q + 1)) w11 w13 := (Keep.drew (Keep.refl (Only (q + 1)) w11)).trans ((hk12.mono (fun _ _ h => h.elim)).trans hk13)
        have hq13 := hq11.keep k1113 (by unfold Only; omega)
        have hx13 := hx11.keep k1113 (by unfold Only; omega)
        have hk13' := hk11'.only k1113 (by omega)
        have z13 := k1113.size
        have l13 := hW13.lt
        have L3 := LdId.blk hx13
        clear hk12 hk13 k1113 hW12 hW11 hq11 hx11 hk11' L2 pv hrk
        go_wp2_with fail
        refine (wid_any x (q + 1) q _ _ _ hW13 (by rw [HBL.out]; omega) (by omega)).mono ?_
        rintro r w14 ⟨rfl, hW14, hk14⟩
        have hq14 := hk14.blk hq13 (by simp) (by decide)
        have hk14' := hk13'.lift hk14 (Nat.le_refl _) (by simp) (by simp; omega)
        clear hk14 hk13' hq13 hW13 L3 hx13
        go_wp2_with fail
        go_roundw
        case rel => exact ⟨k + 1, _, _, by omega, by go_num, HE2.out, hW14, hq14, hk14', by rw [List.length_append, HBL.out, x.2]; omega⟩
        case measure => simp [intOf]; omega
    · have hk' : k = ps.length := by omega
      have HG := HE.out
      rw [hk', List.drop_length] at HG
      have HG2 := Lib.hid (show ecP _ = (e, bs) from HG.symm)
      have hbl := HBL.out
      clear HG HE hk' HBL HL
      have p9 := (hqb.cell 33).trans comC_at.2.1
      have p10 := (hqb.cell 35).trans comC_at.2.2.2
      go_wp2_with fail
      have hW0 : Wt (wr.alloc (.cells #[.string au, .string ms] 9)) (q + 1) q bs e := hW.keep ((Keep.refl _ _).alloc _)
      have hq0 := hqb.alloc (.cells #[.string au, .string ms] 9)
      have hs0 : Blk (wr.alloc (.cells #[.string au, .string ms] 9)) wr.heap.size 9 #[.string au, .string ms] := Blk.new _ _ _
      have hk0 := hkp.alloc (.cells #[.string au, .string ms] 9)
      have hpz : q + 1 < wr.heap.size := lW
      generalize wr.alloc (.cells #[.string au, .string ms] 9) = w8 at *
      generalize wr.heap.size = p at *
      clear hW hqb hkp p9 p10 lW
      go_loopw [73] (fun i wr => ∃ j : Nat, j ≤ 2 ∧ i = .int .i64 j ∧ Wt wr (q + 1) q bs (ecS e au ms j) ∧ Blk wr q 27 (comC t (.slice A ps.length c) au tm ms) ∧ Blk wr p 9 #[.string au, .string ms] ∧ Kept q [5] [] w wr) (fun i _ => 2 - (intOf i).toNat)
      case atStart => exact ⟨0, by omega, rfl, hW0, hq0, hs0, hk0⟩
      case round =>
        obtain ⟨j, hj, rfl, hW, hqb, hsb, hkp⟩ := hrel
        clear hW0 hq0 hs0 hk0
        have hz := hkp.size
        have lW := hW.lt
        have s0 := hsb.cell 0
        have s1 := hsb.cell 1
        simp at s0 s1
        have hj3 : j = 0 ∨ j = 1 ∨ j = 2 := by omega
        rcases hj3 with rfl | rfl | rfl
        · go_wp2_with fail
          refine (wmust_any (q + 1) q _ _ 5 _ _ hW).mono ?_
          rintro r w9 ⟨rfl, hW9, hk9⟩
          go_wp2_with fail
          go_roundw
          case rel => exact ⟨1, by omega, by go_num, hW9, hqb.keep hk9 (by unfold Only; omega), hsb.keep hk9 (by unfold Only; omega), hkp.only hk9 (by omega)⟩
          case measure => simp [intOf]
        · go_wp2_with fail
          refine (wmust_any (q + 1) q _ _ 5 _ _ hW).mono ?_
          rintro r w9 ⟨rfl, hW9, hk9⟩
          go_wp2_with fail
          go_roundw
          case rel => exact ⟨2, by omega, by go_num, hW9, hqb.keep hk9 (by unfold Only; omega), hsb.keep hk9 (by unfold Only; omega), hkp.only hk9 (by omega)⟩
          case measure => simp [intOf]
        · have he : ecS e au ms 2 = ecE ⟨t, ps, au, tm, ms⟩ := by unfold ecE; rw [HG2.out]; rfl
          rw [he] at hW
          clear he s0 s1 hsb
          generalize hee : ecE ⟨t, ps, au, tm, ms⟩ = ee at *
          have HEE := Lib.hid hee
          clear hee
          obtain ⟨A2, c2, hb2, ho2, hbg2⟩ := hW
          have r2 := hb2.cell 2
          simp at r2
          by_cases h0 : ee = 0
          · subst h0
            obtain ⟨_, _, _, ha8, hm8⟩ := ecE_zero HEE.out
            clear ha hm
            have ha8 : au.size ≤ 1000 := ha8
            have hm8 : ms.size ≤ 1000 := hm8
            have f33 := (hqb.cell 33).trans comC_at.2.1
            go_wp2_with fail
            refine (wtext_any 2 au (by omega) (q + 1) q _ 0 _ ⟨A2, c2, hb2, ho2, hbg2⟩ (by omega) (by omega)).mono ?_
            rintro r w10 ⟨rfl, hW10, hk10⟩
            have hq10 := hk10.blk hqb (by simp) (by decide)
            have hk10' := hkp.lift hk10 (Nat.le_refl _) (by simp) (by simp; omega)
            have z10 := hk10'.size
            have f34 := (hq10.cell 34).trans comC_at.2.2.1
            clear hk10 hkp hqb hb2 ho2 r2
            have hwt : IntKind.u64.wrap tm = (timeN tm : Int) := by unfold timeN; simp [IntKind.wrap, IntKind.signed, IntKind.bits]; omega
            go_wp2_with fail
            refine (wnumber_any 8 (timeN tm) (by omega) (q + 1) q _ 0 _ hW10 (by simp only [List.length_append, be_len, ← Lib.size_eq]; omega) (by omega)).mono ?_
            rintro r w11 ⟨rfl, hW11, hk11⟩
            have hq11 := hk11.blk hq10 (by simp) (by decide)
            have hk11' := hk10'.lift hk11 (Nat.le_refl _) (by simp) (by simp; omega)
            have z11 := hk11'.size
            have f35 := (hq11.cell 35).trans comC_at.2.2.2
            clear hk11 hk10' hq10 hW10 f34 hwt
            go_wp2_with fail
            refine (wtext_any 2 ms (by omega) (q + 1) q _ 0 _ hW11 (by simp only [List.length_append, be_len, ← Lib.size_eq]; omega) (by omega)).mono ?_
            rintro r w12 ⟨rfl, hW12, hk12⟩
            have hk12' := hk11'.lift hk12 (Nat.le_refl _) (by simp) (by simp; omega)
            clear hk12 hk11' hq11 hW11 f35
            go_wp2_with fail
            refine (wdone_any (q + 1) q _ 0 _ hW12).mono ?_
            rintro r w13 ⟨A13, c13, rfl, ho13, hk13⟩
            have hd : encCommit ⟨t, ps, au, tm, ms⟩ = (doneL (bs ++ be 2 au.size ++ au.data.toList ++ be 8 (timeN tm) ++ be 2 ms.size ++ ms.data.toList) 0, 0) := by
              unfold encCommit
              rw [if_pos HEE.out, HG2.out]
              rfl
            have HD := Lib.hid hd
            clear hd
            generalize doneL (bs ++ be 2 au.size ++ au.data.toList ++ be 8 (timeN tm) ++ be 2 ms.size ++ ms.data.toList) 0 = out at *
            go_wp2_with fail
            go_ret2
            have hw2 : Kept w.heap.size [5] [] w w13 := by rw [HQ.out]; exact hk12'.nothing hk13
            exact ⟨A13, c13, by rw [HD.out]; rfl, by rw [HD.out, HQ.out]; exact ho13, hw2.all⟩
          · have h01 : (ee != 0) = true := by simpa using h0
            go_wp2_with fail
            go_quiet (fail)
            go_wp2_with fail
            go_ret2
            have hw2 : Kept w.heap.size [5] [] w wr := by rw [HQ.out]; exact hkp
            refine ⟨none, 0, ?_, ?_, hw2.drewN _ |>.all⟩
            · unfold encCommit; rw [HEE.out, if_neg h0]; rfl
            · unfold encCommit; rw [HEE.out, if_neg h0]; exact Own.nil _ _ _ _
end Go.Proofs.YtppmolneklidfaaGreat

namespace Go.Proofs.YtppmolneklidfaaGreat
open Go.RowKit

attribute [local go_sem ↓] ld_id eq_id bd_com st_com

set_option maxHeartbeats 1000000 in
set_option maxRecDepth 100000 in
theorem has_any (l : List Id) (n : Nat) (hn : l.length = n) (x : Id) (A : Option Addr) (c : Nat) (B : Nat) (w : World) (hr : Reads w B 32 A n (idLs l)) (hB : B ≤ w.heap.size) (hl : n ≤ 9223372036854775807) :
    Calls Tryz.prog 49 #[.slice A n c, idV x] w fun r w' => r = .returned (.bool (hasId l x)) ∧ Keep Nothing w w' := by
  subst hn
  go_enter Tryz.func49, Tryz.ntmps49
  go_wp2_with (first | (refine wpList_boxed rfl rfl (cs := idC x) rfl ?_))
  have hb0 : Blk (w.alloc (.cells (idC x) 24)) w.heap.size 24 (idC x) := Blk.new _ _ _
  have hk0 : Keep Nothing w (w.alloc (.cells (idC x) 24)) := (Keep.refl _ _).alloc _
  have hrk : ∀ W, Keep Nothing w W → Reads W B 32 A l.length (idLs l) := fun W h => hr.kept h hB (fun _ _ q => q)
  have HR := Lib.hid hrk
  clear hrk
  generalize w.alloc (.cells (idC x) 24) = w0 at *
  generalize w.heap.size = q at *
  go_loopw [5] (fun i wr => ∃ k : Nat, k ≤ l.length ∧ i = .int .i64 k ∧ (l.take k).contains x = false ∧ Keep Nothing w wr ∧ Blk wr q 24 (idC x)) (fun i _ => l.length - (intOf i).toNat)
  case atStart => exact ⟨0, Nat.zero_le _, rfl, rfl, hk0, hb0⟩
  case round =>
    obtain ⟨k, hk, rfl, hno, hkw, hbx⟩ := hrel
    have HN := Lib.hid hno
    clear hno
    by_cases hlt : k < l.length
    · obtain ⟨y, hy⟩ : ∃ y, l[k]? = some y := ⟨_, List.getElem?_eq_getElem hlt⟩
      have hts : l.take (k + 1) = l.take k ++ [y] := by rw [List.take_succ_eq_append_getElem hlt]; congr 2; rw [List.getElem?_eq_getElem hlt] at hy; simpa using hy
      obtain ⟨g1, o1, rfl, _, hc1⟩ := (HR.out _ hkw).at0 (by omega) (by omega)
      have L1 := fun n => LdId.blk (hbx.drewN n)
      have L2 := fun n => ldId_at (w := wr.drewN n) (fun j u hj => hc1 j u hj) hy
      have G1 := fun (a b : Operand) (W : World) => guard_id .eql a b y x W
      have HT := Lib.hid hts
      have HY := Lib.hid hy
      have hi0 : (0 : Int) ≤ (k : Int) := Int.natCast_nonneg _
      have hi1 : (k : Int) < (l.length : Int) := by omega
      clear hc1 hts hy
      cases hxy : (y == x) with
      | true =>
        have E1 := fun W => run_EqId W y x
        rw [hxy] at E1
        have HF := Lib.hid hxy
        clear hxy
        go_wp2_with fail
        go_quiet (fail)
        go_wp2_with fail
        go_ret
        refine ⟨?_, hkw.drewN _⟩
        have e1 : y = x := eq_of_beq HF.out
        subst e1
        rw [show hasId l y = true from List.contains_iff_mem.2 (List.mem_of_getElem? HY.out)]
        rfl
      | false =>
        have E1 := fun W => run_EqId W y x
        rw [hxy] at E1
        have HF := Lib.hid hxy
        clear hxy
        go_wp2_with fail
        go_quiet (fail)
        go_wp2_with fail
        go_roundw
        case rel =>
          refine ⟨k + 1, by omega, by go_num, ?_, hkw.drewN _, hbx.drewN _⟩
          rw [HT.out, List.contains_eq_any_beq, List.any_append, ← List.contains_eq_any_beq, HN.out]
          have := HF.out
          simp only [beq_eq_false_iff_ne, ne_eq] at this
          rw [show [y].any (fun a => x == a) = (x == y) from by simp, beq_eq_false_iff_ne.2 (fun h => this h.symm)]
          rfl
        case measure => simp [intOf]; omega
    · obtain rfl : k = l.length := by omega
      go_wp2_with fail
      go_ret
      refine ⟨?_, hkw⟩
      have := HN.out
      rw [List.take_length] at this
      unfold hasId
      rw [this]
      rfl

set_option maxHeartbeats 4000000 in
set_option maxRecDepth 100000 in
theorem rwrong_any (d : ComD) (A : Option Addr) (c : Nat) (w : World) (hr : Reads w w.heap.size 32 A d.parents.length (idLs d.parents)) (hl : d.parents.length ≤ 1000) (hc : d.parents.length ≤ c) (ha : d.author.size ≤ 9223372036854775807) (hm : d.msg.size ≤ 9223372036854775807) :
    Calls Tryz.prog 19 #[.agg (comC d.tree (.slice A d.parents.length c) d.author d.time d.msg)] w fun r w' => r = .returned (.int .i64 (ecE d)) ∧ Keep Nothing w w' := by
  obtain ⟨t, ps, au, tm, ms⟩ := d
  have hq0 : Blk (w.alloc (.cells (comC t (.slice A ps.length c) au tm ms) 27)) w.heap.size 27 (comC t (.slice A ps.length c) au tm ms) := Blk.new _ _ _
  have hk0 : Keep Nothing w (w.alloc (.cells (comC t (.slice A ps.length c) au tm ms) 27)) := (Keep.refl _ _).alloc _
  have G1 := fun (a b : Operand) (W : World) => guard_id .eql a b t noId W
  have E1 := fun W => run_EqId W t noId
  have L1 := ldId_com hq0
  have p1 := (hq0.cell 32).trans comC_at.1
  have HD := Lib.hid (show ∀ e, ecE0 ⟨t, ps, au, tm, ms⟩ = e → e ≠ 0 → ecE ⟨t, ps, au, tm, ms⟩ = e from fun _ h h0 => ecE_err0 h h0)
  cases hi : (t == noId) with
  | true =>
    rw [hi] at E1
    have HE := Lib.hid (HD.out 1 (by unfold ecE0 isNone; rw [hi]; rfl) (by decide))
    clear hi
    go_enter Tryz.func19, Tryz.ntmps19
    go_wp2_with (first | (refine wpList_boxed rfl rfl (cs := comC t (.slice A ps.length c) au tm ms) rfl ?_; generalize w.alloc (.cells (comC t (.slice A ps.length c) au tm ms) 27) = w1 at *; generalize w.heap.size = q at *) | (refine wpList_built rfl rfl (vs := #[]) rfl (build_noId _) ?_))
    go_ret
    exact ⟨by rw [HE.out]; rfl, hk0⟩
  | false =>
    rw [hi] at E1
    have HI := Lib.hid hi
    clear hi
    by_cases h8 : ps.length ≤ 8
    · have d8 : decide ((8 : Int) < (ps.length : Int)) = false := decide_eq_false (by omega)
      have HE0 := Lib.hid (show ecE0 ⟨t, ps, au, tm, ms⟩ = 0 from by unfold ecE0 isNone; rw [HI.out]; simp [note]; omega)
      have HS := Lib.hid (show ∃ bs, ecGo 0 bs [] ps = ecP ⟨t, ps, au, tm, ms⟩ from ⟨_, by unfold ecP; rw [HE0.out]⟩)
      clear HD
      go_enter Tryz.func19, Tryz.ntmps19
      go_wp2_with (first | (refine wpList_boxed rfl rfl (cs := comC t (.slice A ps.length c) au tm ms) rfl ?_; generalize w.alloc (.cells (comC t (.slice A ps.length c) au tm ms) 27) = w1 at *; generalize hq : w.heap.size = q at *; have HQ := Lib.hid hq; clear hq) | (refine wpList_built rfl rfl (vs := #[]) rfl (build_noId _) ?_))
      clear L1 p1 E1 G1
      go_loopw [3] (fun i wr => ∃ k, k ≤ ps.length ∧ i = .int .i64 (k : Nat) ∧ (∃ bs, ecGo 0 bs (ps.take k) (ps.drop k) = ecP ⟨t, ps, au, tm, ms⟩) ∧ Keep Nothing w wr ∧ Blk wr q 27 (comC t (.slice A ps.length c) au tm ms)) (fun i _ => ps.length - (intOf i).toNat)
      case atStart => exact ⟨0, Nat.zero_le _, rfl, HS.out, hk0, hq0⟩
      case round =>
        obtain ⟨k, hk, rfl, ⟨bs, hpre⟩, hkw, hqb⟩ := hrel
        have HE := Lib.hid hpre
        clear hpre hk0 hq0 HS
        have z := hkw.size
        have lq := hqb.lt
        by_cases hlt : k < ps.length
        · obtain ⟨x, hx⟩ : ∃ x, ps[k]? = some x := ⟨_, List.getElem?_eq_getElem hlt⟩
          have hdr : ps.drop k = x :: ps.drop (k + 1) := by rw [List.drop_eq_getElem_cons hlt]; congr 1; rw [List.getElem?_eq_getElem hlt] at hx; simpa using hx
          have htk : ps.take (k + 1) = ps.take k ++ [x] := by rw [List.take_succ_eq_append_getElem hlt]; congr 2; rw [List.getElem?_eq_getElem hlt] at hx; simpa using hx
          have hrw : Reads wr q 32 A ps.length (idLs ps) := hr.kept hkw (by have := HQ.out; omega) (fun _ _ h => h)
          have hrk : Reads wr q 32 A k (idLs (ps.take k)) := by rw [← idLs_take]; exact hrw.front (by omega)
          have HE2 := Lib.hid (show ecGo (note (note 0 (!isNone x) 1) (!hasId (ps.take k) x) 18) (bs ++ x.1) (ps.take (k + 1)) (ps.drop (k + 1)) = ecP ⟨t, ps, au, tm, ms⟩ from by rw [← HE.out, hdr, htk]; rfl)
          obtain ⟨g1, o1, rfl, _, hc1⟩ := hrw.at0 (by omega) (by omega)
          have L2 := ldId_at (w := wr) (fun j u hj => hc1 j u hj) hx
          have L3 := ldId_at (w := wr.drew) (fun j u hj => hc1 j u hj) hx
          have G1 := fun (a b : Operand) (W : World) => guard_id .eql a b x noId W
          have E1 := fun W => run_EqId W x noId
          have pv := (hqb.cell 32).trans comC_at.1
          clear hx hdr htk hrw hc1 HE
          have hi0 : (0 : Int) ≤ (k : Int) := Int.natCast_nonneg _
          have hi1 : (k : Int) < (ps.length : Int) := by omega
          cases hxn : (x == noId) with
          | true =>
            rw [hxn] at E1
            have HT := Lib.hid (show ecE ⟨t, ps, au, tm, ms⟩ = 1 from ecE_err (by rw [← HE2.out]; unfold isNone; rw [hxn, show note 0 (!true) 1 = 1 from rfl, note_err (by decide)]; exact ecGo_err _ _ _ _ (by decide)) (by decide))
            clear hxn hrk
            go_wp2_with (first | (refine wpList_built rfl rfl (vs := #[]) rfl (build_noId _) ?_))
            go_ret
            exact ⟨by rw [HT.out]; rfl, hkw⟩
          | false =>
            rw [hxn] at E1
            have HE3 := Lib.hid (show ecGo (note 0 (!hasId (ps.take k) x) 18) (bs ++ x.1) (ps.take (k + 1)) (ps.drop (k + 1)) = ecP ⟨t, ps, au, tm, ms⟩ from by rw [← HE2.out]; unfold isNone; rw [hxn]; rfl)
            have htl : (ps.take k).length = k := by rw [List.length_take]; omega
            have HTL := Lib.hid htl
            have hkc : (k : Int) ≤ (c : Int) := by omega
            have hzd : q ≤ wr.drew.heap.size := by show q ≤ wr.heap.size; omega
            clear hxn htl HE2
            go_wp2_with (first | (refine wpList_built rfl rfl (vs := #[]) rfl (build_noId _) ?_))
            clear L2 E1 G1
            go_region_law (first | (go_simp; go_at_call 49; refine (has_any (ps.take k) k HTL.out x _ c _ _ hrk.drew hzd (by omega)).mono ?_; rintro r w2 ⟨rfl, hk2⟩))
            all_goals
              have hkw2 := hkw.drew.trans hk2
              have hq2 := hqb.drew.keep hk2 (fun h => h)
              clear hk2 hrk L3 pv
              cases hh : hasId (ps.take k) x with
              | true =>
                have HT := Lib.hid (show ecE ⟨t, ps, au, tm, ms⟩ = 18 from ecE_err (by rw [← HE3.out, hh]; exact ecGo_err _ _ _ _ (by decide)) (by decide))
                clear hh
                go_wp2_with fail
                go_ret
                exact ⟨by rw [HT.out]; rfl, hkw2⟩
              | false =>
                have HT := Lib.hid (show ecGo 0 (bs ++ x.1) (ps.take (k + 1)) (ps.drop (k + 1)) = ecP ⟨t, ps, au, tm, ms⟩ from by rw [← HE3.out, hh]; rfl)
                clear hh
                go_wp2_with fail
                go_roundw
                case rel => exact ⟨k + 1, by omega, by go_num, ⟨_, HT.out⟩, hkw2, hq2⟩
                case measure => simp [intOf]; omega
        · have hk' : k = ps.length := by omega
          have HG := HE.out
          rw [hk', List.drop_length] at HG
          have HG2 := Lib.hid (show ecE ⟨t, ps, au, tm, ms⟩ = note (note 0 (decide ((au.size : Int) ≤ 1000)) 5) (decide ((ms.size : Int) ≤ 1000)) 5 from by unfold ecE; rw [← HG]; rfl)
          have p9 := (hqb.cell 33).trans comC_at.2.1
          have p10 := (hqb.cell 35).trans comC_at.2.2.2
          have p8 := (hqb.cell 32).trans comC_at.1
          clear HG HE hk'
          by_cases h1 : au.size ≤ 1000
          · have d1 : decide ((1000 : Int) < (au.size : Int)) = false := decide_eq_false (by omega)
            by_cases h2 : ms.size ≤ 1000
            · have d2 : decide ((1000 : Int) < (ms.size : Int)) = false := decide_eq_false (by omega)
              have HT := Lib.hid (show ecE ⟨t, ps, au, tm, ms⟩ = 0 from by rw [HG2.out, decide_eq_true (by omega), decide_eq_true (by omega)]; rfl)
              go_wp2_with fail
              go_ret
              exact ⟨by rw [HT.out]; rfl, hkw⟩
            · have d2 : decide ((1000 : Int) < (ms.size : Int)) = true := decide_eq_true (by omega)
              have HT := Lib.hid (show ecE ⟨t, ps, au, tm, ms⟩ = 5 from by rw [HG2.out, decide_eq_true (by omega), decide_eq_false (by omega)]; rfl)
              go_wp2_with fail
              go_ret
              exact ⟨by rw [HT.out]; rfl, hkw⟩
          · have d1 : decide ((1000 : Int) < (au.size : Int)) = true := decide_eq_true (by omega)
            have HT := Lib.hid (show ecE ⟨t, ps, au, tm, ms⟩ = 5 from by rw [HG2.out, decide_eq_false (by omega), note_err (by decide)]; rfl)
            go_wp2_with fail
            go_ret
            exact ⟨by rw [HT.out]; rfl, hkw⟩
    · have h8' : decide ((8 : Int) < (ps.length : Int)) = true := decide_eq_true (by omega)
      have HE := Lib.hid (HD.out 4 (by unfold ecE0 isNone; rw [HI.out]; simp [note]; omega) (by decide))
      clear h8
      go_enter Tryz.func19, Tryz.ntmps19
      go_wp2_with (first | (refine wpList_boxed rfl rfl (cs := comC t (.slice A ps.length c) au tm ms) rfl ?_; generalize w.alloc (.cells (comC t (.slice A ps.length c) au tm ms) 27) = w1 at *; generalize w.heap.size = q at *) | (refine wpList_built rfl rfl (vs := #[]) rfl (build_noId _) ?_))
      go_ret
      exact ⟨by rw [HE.out]; rfl, hk0⟩
end Go.Proofs.YtppmolneklidfaaGreat

namespace Go.Proofs.YtppmolneklidfaaGreat
open Go.RowKit

section
variable {P : Program}
theorem step_append_str {ops : Array Oper} {o : Oper} {a : Act} {w : World} {K : Act → World → Prop} {Q : Exit → Act → World → Prop} {E : Prop} (hgd : o.guard = none) {s x : Operand} {t u e : TypeId} (H : Elem P t e 1 1) (hz0 : (P.info? e).bind (·.zero) = some (.int .u8 0)) (hu : P.underlying u = some .string)
    (ho : o.op = .call { callee := .builtin .append, args := #[s, x], argTypes := #[t, u] }) {base : Nat} {A : Option Addr} {n c : Nat} {xs : List Value} (hs : a.eval s = .slice A n c) (hown : Own w base e 1 A n c xs)
    {st : ByteArray} (hx : a.eval x = .string st) (h63 : n + st.size ≤ maxLen) (hbytes : n + st.size ≤ 140737488355328) (hbase : base ≤ w.heap.size)
    (h : ∀ A' c' w', Own w' base e 1 A' (n + st.size) c' (xs ++ Lib.strCells st) → Kept base [e] [] w w' → K (a.put o.dst (.slice A' (n + st.size) c')) w') : if Region.wanted o (yielded ops a.tmps) = true then Oper.wp P o a w K Q else E := by
  have hw : Region.wanted o (yielded ops a.tmps) = true := by simp [Region.wanted, hgd]
  rw [if_pos hw]
  obtain ⟨A', c', w', hrun, h2, h3⟩ := run_append_str (ty := o.type) (u := u) H hz0 hu hown (s := st) h63 hbytes hbase
  exact wp_append_run ho hs hx hrun (h A' c' w' h2 h3)
end

theorem or_byte_8 (v : Nat) (x : UInt8) (hv : v < 72057594037927936) : bits .or .i64 (wrap64 ((v : Int) * 256)) (x.toNat : Int) = wrap64 ((v * 256 + x.toNat : Nat) : Int) := by
  have hx := x.toNat_lt
  have e : ∀ a : Nat, a < 18446744073709551616 → (BitVec.ofInt 64 (wrap64 (a : Int))).toNat = a := fun a ha => by
    rw [BitVec.toNat_ofInt]
    unfold wrap64
    omega
  have e2 : (BitVec.ofInt 64 (x.toNat : Int)).toNat = x.toNat := by
    rw [BitVec.ofInt_natCast, BitVec.toNat_ofNat]; exact Nat.mod_eq_of_lt (by omega)
  have hor : v * 256 ||| x.toNat = v * 256 + x.toNat := by
    have := Nat.shiftLeft_add_eq_or_of_lt (a := v) (b := x.toNat) (i := 8) (by omega)
    rw [Nat.shiftLeft_eq] at this
    exact this.symm
  rw [show (v : Int) * 256 = ((v * 256 : Nat) : Int) from by omega]
  show IntKind.i64.wrap ((BitVec.ofInt 64 (wrap64 ((v * 256 : Nat) : Int)) ||| BitVec.ofInt 64 (x.toNat : Int)).toNat : Int) = _
  rw [BitVec.toNat_or, e _ (by omega), e2, hor, IntWalk.i64_left]
/-- A number of up to eight bytes as an int64. -/
def numS (l : List UInt8) : Int := wrap64 (num l : Int)
theorem numS_in (l : List UInt8) (h : l.length ≤ 7) : numS l = (num l : Int) := by
  have := num_lt8 l h
  unfold numS
  exact IntWalk.wrap64_in _ (by omega)
theorem numS_nil : numS [] = 0 := (numS_in [] (by simp)).trans rfl

set_option maxHeartbeats 1000000 in
theorem get8_any (b : List UInt8) (at_ : Nat) (hn : at_ + 8 ≤ b.length) (B : Nat) (A : Option Addr) (c : Nat) (w : World) (hr : Reads w B 1 A b.length (b.map bv)) (hb : b.length ≤ 9223372036854775807) :
    Calls Tryz.prog 68 #[.slice A b.length c, .int .i64 at_, .int .i64 8] w fun r w' => r = .returned (.int .i64 (numS ((b.drop at_).take 8))) ∧ w = w' := by
  go_enter Tryz.func68, Tryz.ntmps68
  go_wp2_with fail
  go_loop [7, 8] (fun v i => ∃ k : Nat, k ≤ 8 ∧ i = .int .i64 k ∧ v = .int .i64 (numS ((b.drop at_).take k))) (fun _ i => 8 - (intOf i).toNat)
  case atStart => exact ⟨0, Nat.zero_le _, rfl, by rw [List.take_zero, numS_nil]⟩
  case round =>
    obtain ⟨k, hk', rfl, rfl⟩ := hrel
    by_cases hlt : k < 8
    · have hlk : at_ + k < b.length := by omega
      obtain ⟨ad, u, rfl, _, hx, hc⟩ := hr.at_ hlk
      have hu : u = bv b[at_ + k] := by simpa [hlk] using hx.symm
      subst hu
      unfold bv at hc
      have hv := num_lt8 ((b.drop at_).take k) (by simp; omega)
      have h7 := numS_in ((b.drop at_).take k) (by simp; omega)
      have hor := or_byte_8 (num ((b.drop at_).take k)) b[at_ + k] hv
      have hs : num ((b.drop at_).take (k + 1)) = num ((b.drop at_).take k) * 256 + b[at_ + k].toNat := by rw [List.take_succ_eq_append_getElem (by simp; omega), num_snoc]; simp
      rw [← hs] at hor
      change _ = numS ((b.drop at_).take (k + 1)) at hor
      rw [← h7] at hor
      have hv2 : 0 ≤ numS ((b.drop at_).take k) ∧ numS ((b.drop at_).take k) < 72057594037927936 := by rw [h7]; omega
      obtain ⟨hv3, hv4⟩ := hv2
      generalize numS ((b.drop at_).take k) = v at *
      obtain ⟨v', hv'⟩ : ∃ v', numS ((b.drop at_).take (k + 1)) = v' := ⟨_, rfl⟩
      rw [hv'] at hor
      have HV := Lib.hid hv'
      clear hv'
      have hx0 := b[at_ + k].toNat_lt
      generalize b[at_ + k].toNat = x at *
      clear hs hx h7 hv
      go_wp2
      go_round
      case rel => exact ⟨k + 1, by omega, by go_num, by rw [HV.out]⟩
      case measure => simp [intOf]; omega
    · obtain rfl : k = 8 := by omega
      go_wp2
      go_ret
      exact ⟨rfl, rfl⟩

def CNum8Post (g B : Nat) (b : List UInt8) (at_ : Nat) (e : Int) (w : World) (r : Ending) (w' : World) : Prop :=
  r = .returned (.int .i64 (numS (takeL b at_ e 8))) ∧ Cu w' g B b (takeAt b at_ e 8) (takeE b at_ e 8) ∧ Keep (Only g) w w'
set_option maxHeartbeats 1000000 in
theorem cnum8_any (g B : Nat) (b : List UInt8) (at_ : Nat) (e : Int) (w : World) (hr : Cu w g B b at_ e) (_hB : B ≤ w.heap.size) :
    Calls Tryz.prog 54 #[.pointer (some ⟨g, 0, none⟩), .int .i64 8] w (CNum8Post g B b at_ e w) := by
  obtain ⟨A, cap, hb, hrd, hat, hcap, hmax', hBg⟩ := hr
  have hmax := hmax'
  unfold maxLen at hmax
  have c0 := hb.cell 0
  have c1 := hb.cell 1
  have c2 := hb.cell 2
  have f1 := hb.frozen 1
  have f2 := hb.frozen 2
  simp at c0 c1 c2
  cases he : e != 0 with
  | true =>
    rw [he] at c2
    obtain ⟨t1, t2, t3⟩ := take_e b at_ e 8 he
    have HT := Lib.hid (And.intro t1 (And.intro t2 t3))
    have HE := Lib.hid he
    clear t1 t2 t3 he
    go_enter Tryz.func54, Tryz.ntmps54
    go_wp2_with fail
    go_quiet (fail)
    go_wp2_with fail
    go_ret
    refine ⟨by rw [HT.out.1, numS_nil]; rfl, ?_, ((Keep.refl (Only g) w).drewN nq).setCell (p := ⟨g, 2, none⟩) (.inl rfl) _⟩
    rw [HT.out.2.1, HT.out.2.2]
    refine ⟨A, cap, ?_, hrd.setCell (p := ⟨g, 2, none⟩) hBg _, hat, hcap, hmax', hBg⟩
    rw [HE.out]
    simpa using (hb.drewN nq).set_ 2 (.bool true)
  | false =>
    rw [he] at c2
    obtain rfl : e = 0 := by simpa using he
    by_cases hbig : (b.length : Int) - at_ < 8
    · have hd : decide ((b.length : Int) - at_ < 8) = true := decide_eq_true hbig
      obtain ⟨t1, t2, t3⟩ := take_cut b at_ 8 hbig
      have HT := Lib.hid (And.intro t1 (And.intro t2 t3))
      clear t1 t2 t3 he
      go_enter Tryz.func54, Tryz.ntmps54
      go_wp2_with fail
      go_quiet (fail)
      go_wp2_with fail
      go_ret
      refine ⟨by rw [HT.out.1, numS_nil]; rfl, ?_, ((Keep.refl (Only g) w).drewN nq).setCell (p := ⟨g, 2, none⟩) (.inl rfl) _⟩
      rw [HT.out.2.1, HT.out.2.2]
      refine ⟨A, cap, ?_, hrd.setCell (p := ⟨g, 2, none⟩) hBg _, hat, hcap, hmax', hBg⟩
      simpa using (hb.drewN nq).set_ 2 (.bool true)
    · have hd : decide ((b.length : Int) - at_ < 8) = false := decide_eq_false hbig
      obtain ⟨t1, t2, t3⟩ := take_good b at_ 8 (by omega)
      change takeL b at_ 0 8 = _ at t1
      change takeAt b at_ 0 8 = _ at t2
      change takeE b at_ 0 8 = _ at t3
      have HT := Lib.hid (And.intro t1 (And.intro t2 t3))
      have hb63 : (at_ : Int) + 8 ≤ 9223372036854775807 := by omega
      clear t1 t2 t3 he
      go_enter Tryz.func54, Tryz.ntmps54
      go_wp2_with fail
      go_quiet (fail)
      go_wp2_with fail
      have hbq := hb.drewN nq
      have hrq := hrd.drewN nq
      have hkq : Keep (Only g) w (w.drewN nq) := (Keep.refl _ _).drewN nq
      generalize w.drewN nq = w1 at *
      clear c0 c1 c2 f1 f2
      have c0 := hbq.cell 0
      have c1 := hbq.cell 1
      have f1 := hbq.frozen 1
      simp at c0 c1
      go_quiet ((go_at_call 68; exact (get8_any b at_ (by omega) B A cap _ (hrq.drewN _) (by omega)).mono fun _ _ h => ⟨h.1, _, h.2.symm⟩))
      go_wp2_with fail
      go_ret
      refine ⟨by rw [HT.out.1]; rfl, ?_, (hkq.drewN nq).setCell (p := ⟨g, 1, none⟩) (.inl rfl) _⟩
      rw [HT.out.2.1, HT.out.2.2]
      refine ⟨A, cap, ?_, (hrq.drewN nq).setCell (p := ⟨g, 1, none⟩) hBg _, by omega, hcap, hmax', hBg⟩
      simpa using (hbq.drewN nq).set_ 1 (.int .i64 ((at_ : Int) + 8))
end Go.Proofs.YtppmolneklidfaaGreat
