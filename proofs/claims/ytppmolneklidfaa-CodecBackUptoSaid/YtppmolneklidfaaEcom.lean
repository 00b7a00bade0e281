/-
  Contract of codec.EncodeCommit. No statement of the seat is proved here.
-/
import Derived.Test.YtppmolneklidfaaPcom
namespace Go.Proofs.Ytppmolneklidfaa
open Go.RowKit

/-! ### Plain -/
def ecGo : Int → List UInt8 → List Id → List Id → Int × List UInt8
  | e, bs, _, [] => (e, bs)
  | e, bs, pre, p :: l => ecGo (note (note e (!isNone p) 1) (!hasId pre p) 18) (bs ++ p.1) (pre ++ [p]) l
def ecE0 (c : ComD) : Int := note (note 0 (!isNone c.tree) 1) (decide ((c.parents.length : Int) ≤ 8)) 4
def ecP (c : ComD) : Int × List UInt8 := ecGo (ecE0 c) (c.tree.1 ++ be 1 c.parents.length) [] c.parents
def ecE (c : ComD) : Int := note (note (ecP c).1 (decide ((c.author.size : Int) ≤ 1000)) 5) (decide ((c.msg.size : Int) ≤ 1000)) 5
/-- A time as a number modulo 2^64. -/
def timeN (t : Int) : Nat := (t % 18446744073709551616).toNat
def encCommit (c : ComD) : List UInt8 × Int :=
  if ecE c = 0 then ((ecP c).2 ++ be 2 c.author.size ++ c.author.data.toList ++ be 8 (timeN c.time) ++ be 2 c.msg.size ++ c.msg.data.toList, 0) else ([], ecE c)

theorem ecGo_len : ∀ (l : List Id) (e : Int) (bs : List UInt8) (pre : List Id), (ecGo e bs pre l).2.length = bs.length + l.length * 32
  | [], e, bs, pre => by simp [ecGo]
  | p :: l, e, bs, pre => by rw [ecGo, ecGo_len l, List.length_append, p.2, List.length_cons]; omega

theorem note_err {e : Int} (h : e ≠ 0) (b : Bool) (k : Int) : note e b k = e := if_neg h
theorem ecGo_err : ∀ (l : List Id) (e : Int) (bs : List UInt8) (pre : List Id), e ≠ 0 → (ecGo e bs pre l).1 = e
  | [], e, bs, pre, _ => rfl
  | p :: l, e, bs, pre, h => by
    rw [ecGo, note_err h, note_err h]
    exact ecGo_err l e _ _ h
theorem ecE_err {d : ComD} {e : Int} (h : (ecP d).1 = e) (h0 : e ≠ 0) : ecE d = e := by
  unfold ecE
  rw [h, note_err h0, note_err h0]
theorem ecE_err0 {d : ComD} {e : Int} (h : ecE0 d = e) (h0 : e ≠ 0) : ecE d = e := by
  refine ecE_err ?_ h0
  unfold ecP
  rw [h]
  exact ecGo_err _ _ _ _ h0

theorem ecE_zero {d : ComD} (h : ecE d = 0) : (ecP d).1 = 0 ∧ ecE0 d = 0 ∧ d.parents.length ≤ 8 ∧ d.author.size ≤ 1000 ∧ d.msg.size ≤ 1000 := by
  have h1 : (ecP d).1 = 0 := by
    rcases Decidable.em ((ecP d).1 = 0) with q | q
    · exact q
    · exact absurd ((ecE_err rfl q).symm.trans h) q
  have h0 : ecE0 d = 0 := by
    rcases Decidable.em (ecE0 d = 0) with q | q
    · exact q
    · exact absurd ((ecE_err0 rfl q).symm.trans h) q
  have a1 := (note_zero (by decide)).1 h0
  have a2 := (note_zero (by decide)).1 h
  have a3 := (note_zero (by decide)).1 a2.1
  have b1 := of_decide_eq_true a1.2
  have b2 := of_decide_eq_true a2.2
  have b3 := of_decide_eq_true a3.2
  exact ⟨h1, h0, by omega, by omega, by omega⟩

theorem contains_n (l : List Id) (n : Nat) (hn : l.length = n) (x : Id) (A : Option Addr) (c : Nat) (B : Nat) (w : World) (hr : Reads w B 32 A n (idLs l)) (hB : B ≤ w.heap.size) (hl : n ≤ 9223372036854775807) :
    Calls Try.prog 57 #[.slice A n c, idV x] w fun r w' => r = .returned (.bool (hasId l x)) ∧ Keep Nothing w w' := by
  subst hn
  exact contains_any l x A c B w hr hB hl

attribute [local go_sem ↓] ld_id eq_id bd_com st_com

def ecS (e : Int) (au ms : ByteArray) : Nat → Int
  | 0 => e
  | 1 => note e (decide ((au.size : Int) ≤ 1000)) 5
  | _ => note (note e (decide ((au.size : Int) ≤ 1000)) 5) (decide ((ms.size : Int) ≤ 1000)) 5
theorem load_com_id {w : World} {g : Nat} {tt : TypeId} {t : Id} {p : Value} {a : ByteArray} {n : Int} {m : ByteArray} (h : Blk w g tt (comC t p a n m)) : (Instr.loadAt 42 (.pointer (some ⟨g, 0, none⟩))).run Try.prog w = .ok (idV t) w := ldId_com h
theorem idLs_take (l : List Id) (k : Nat) : (idLs l).take (k * 32) = idLs (l.take k) := by
  induction l generalizing k with
  | nil => simp [idLs]
  | cons x l ih =>
    cases k with
    | zero => simp [idLs]
    | succ k =>
      have h := ih k
      simp only [idLs, List.take_succ_cons, List.flatMap_cons] at *
      rw [List.take_append, idL_len, List.take_of_length_le (by rw [idL_len]; omega), show (k + 1) * 32 - 32 = k * 32 by omega, h]
theorem wmust_any (g base : Nat) (bs : List UInt8) (e k : Int) (is : Bool) (w : World) (hw : Wt w g base bs e) :
    Calls Try.prog 40 #[.pointer (some ⟨g, 0, none⟩), .bool is, .int .i64 k] w fun r w' => r = .returned (.tuple #[]) ∧ Wt w' g base bs (note e is k) ∧ Keep (Only g) w w' := by
  obtain ⟨A, c, hb, ho, hbg⟩ := hw
  refine (must_any g _ _ _ e k is w hb).mono ?_
  rintro r w' ⟨rfl, hb', hk⟩
  exact ⟨rfl, ⟨A, c, hb', ho.keepOnly hk hb (by decide), hbg⟩, hk⟩
theorem Wt.drew {w : World} {g base : Nat} {bs : List UInt8} {e : Int} (h : Wt w g base bs e) : Wt w.drew g base bs e := h
theorem Wt.keep {w w' : World} {g base : Nat} {bs : List UInt8} {e : Int} (h : Wt w g base bs e) (hk : Keep Nothing w w') : Wt w' g base bs e := by
  obtain ⟨A, c, hb, ho, hbg⟩ := h
  exact ⟨A, c, hb.keep hk (fun q => q), ho.kept (b' := 0) (E := []) (G := []) (Kept.ofKeep hk (by unfold Nothing; simp)) (by simp) (by simp), hbg⟩
theorem Wt.lt {w : World} {g base : Nat} {bs : List UInt8} {e : Int} (h : Wt w g base bs e) : g < w.heap.size := by
  obtain ⟨A, c, hb, ho, hbg⟩ := h
  exact hb.lt
theorem Kept.only {base : Nat} {E : List TypeId} {w a b : World} (h : Kept base E [] w a) {g : Nat} (k : Keep (Only g) a b) (hg : w.heap.size ≤ g) : Kept base E [] w b :=
  h.lift (Kept.ofKeep (base := base) (E := []) (G := [g]) k (by unfold Only; simp)) (Nat.le_refl _) (by simp) (by simp; exact hg)
theorem Kept.nothing {base : Nat} {E : List TypeId} {w a b : World} (h : Kept base E [] w a) (k : Keep Nothing a b) : Kept base E [] w b :=
  h.lift (Kept.ofKeep (base := base) (E := []) (G := []) k (by unfold Nothing; simp)) (Nat.le_refl _) (by simp) (by simp)

set_option maxHeartbeats 4000000 in
set_option maxRecDepth 100000 in
theorem encodeCommit_any (d : ComD) (A : Option Addr) (c : Nat) (w : World) (hr : Reads w w.heap.size 32 A d.parents.length (idLs d.parents)) (hl : d.parents.length ≤ 1000) (hc : d.parents.length ≤ c) (ha : d.author.size ≤ 9223372036854775807) (hm : d.msg.size ≤ 9223372036854775807) :
    Calls Try.prog 20 #[.agg (comC d.tree (.slice A d.parents.length c) d.author d.time d.msg)] w (BytesPost (encCommit d) w) := by
  obtain ⟨t, ps, au, tm, ms⟩ := d
  go_enter Try.func20, Try.ntmps20
  go_wp2_with (first | (refine wpList_boxed rfl rfl (cs := comC t (.slice A ps.length c) au tm ms) rfl ?_))
  have hq0 : Blk ((w.alloc (.cells (comC t (.slice A ps.length c) au tm ms) 45)).alloc (.cells #[.slice none 0 0, .int .i64 0, .int .i64 0] 92)) w.heap.size 45 (comC t (.slice A ps.length c) au tm ms) := (Blk.new _ _ _).alloc _
  have hW0 : Wt ((w.alloc (.cells (comC t (.slice A ps.length c) au tm ms) 45)).alloc (.cells #[.slice none 0 0, .int .i64 0, .int .i64 0] 92)) (w.heap.size + 1) w.heap.size [] 0 := by
    refine ⟨none, 0, ?_, Own.nil _ _ _ _, Nat.le_succ _⟩
    have := Blk.new (w.alloc (.cells (comC t (.slice A ps.length c) au tm ms) 45)) 92 #[.slice none 0 0, .int .i64 0, .int .i64 0]
    simpa using this
  have hk0 : Kept w.heap.size [5] [] w ((w.alloc (.cells (comC t (.slice A ps.length c) au tm ms) 45)).alloc (.cells #[.slice none 0 0, .int .i64 0, .int .i64 0] 92)) := ((Kept.refl _ _ _ _).alloc _).alloc _
  generalize (w.alloc (.cells (comC t (.slice A ps.length c) au tm ms) 45)).alloc (.cells #[.slice none 0 0, .int .i64 0, .int .i64 0] 92) = w0 at *
  have hz0 := hk0.size
  generalize hq : w.heap.size = q at *
  have HQ := Lib.hid hq
  have hqle : q ≤ w.heap.size := by omega
  have hqge : w.heap.size ≤ q := by omega
  have l0 := hq0.lt
  have l0' := hW0.lt
  clear hq
  have L1 := ldId_com hq0.drew
  go_region_law (first | (go_simp; go_at_call 56; refine (none_any t _).mono ?_; rintro r w3 ⟨rfl, hk3⟩; have hW3 := hW0.drew.keep hk3) | (go_simp; go_at_call 40; refine (wmust_any (q + 1) q _ _ 1 _ _ hW3).mono ?_; rintro r w4 ⟨rfl, hW4, hk4⟩))
  have hk4' := (hk0.drew.nothing hk3).only hk4 (by omega)
  have hq4 := (hq0.drew.keep hk3 (fun h => h)).keep hk4 (by unfold Only; omega)
  have z4 := hk4'.size
  have l4 := hW4.lt
  clear hk3 hk4 hW3 hW0 hq0 hk0 L1
  have p4 := (hq4.cell 32).trans comC_at.1
  go_wp2_with fail
  go_region_law (first | (go_simp; go_at_call 40; refine (wmust_any (q + 1) q _ _ 4 _ _ hW4.drew).mono ?_; rintro r w5 ⟨rfl, hW5, hk5⟩))
  have hk5' := hk4'.drew.only hk5 (by omega)
  have hq5 := hq4.drew.keep hk5 (by unfold Only; omega)
  have z5 := hk5'.size
  have l5 := hW5.lt
  clear hk5 hW4 hq4 hk4' p4
  go_wp2_with (first | (refine wpList_load rfl rfl rfl (load_com_id hq5) ?_))
  refine (wid_any t (q + 1) q _ _ _ hW5 (by simp) (by omega)).mono ?_
  rintro r w6 ⟨rfl, hW6, hk6⟩
  have hq6 := hk6.blk hq5 (by simp) (by decide)
  have hk6' := hk5'.lift hk6 (Nat.le_refl _) (by simp) (by simp; omega)
  have z6 := hk6'.size
  have l6 := hW6.lt
  have p6 := (hq6.cell 32).trans comC_at.1
  clear hk6 hk5' hq5 hW5
  go_wp2_with fail
  have hps : IntKind.u64.wrap (ps.length : Int) = (ps.length : Int) := by simp [IntKind.wrap, IntKind.signed, IntKind.bits]; omega
  refine (wnumber_any 1 ps.length (by omega) (q + 1) q _ _ _ hW6 (by simp [t.2]) (by omega)).mono ?_
  rintro r w7 ⟨rfl, hW7, hk7⟩
  have hq7 := hk7.blk hq6 (by simp) (by decide)
  have hk7' := hk6'.lift hk7 (Nat.le_refl _) (by simp) (by simp; omega)
  have z7 := hk7'.size
  have p7 := (hq7.cell 32).trans comC_at.1
  clear hk7 hk6' hq6 hW6 hps p6
  have HL := Lib.hid (show ecP ⟨t, ps, au, tm, ms⟩ = ecGo (note (note 0 (!isNone t) 1) (decide ((ps.length : Int) ≤ 8)) 4) ([] ++ t.1 ++ be 1 ps.length) [] ps from rfl)
  have hlen : ([] ++ t.1 ++ be 1 ps.length).length = 33 := by simp [be_len, t.2]
  generalize [] ++ t.1 ++ be 1 ps.length = bs7 at *
  generalize note (note 0 (!isNone t) 1) (decide ((ps.length : Int) ≤ 8)) 4 = e7 at *
  go_wp2_with fail
  go_loopw [40] (fun i wr => ∃ k bs e, k ≤ ps.length ∧ i = .int .i64 k ∧ ecGo e bs (ps.take k) (ps.drop k) = ecP ⟨t, ps, au, tm, ms⟩ ∧ Wt wr (q + 1) q bs e ∧ Blk wr q 45 (comC t (.slice A ps.length c) au tm ms) ∧ Kept q [5] [] w wr ∧ bs.length = 33 + k * 32) (fun i _ => ps.length - (intOf i).toNat)
  case atStart => exact ⟨0, bs7, e7, Nat.zero_le _, rfl, HL.out.symm, hW7, hq7, hk7', by omega⟩
  case round =>
    obtain ⟨k, bs, e, hk, rfl, henc, hW, hqb, hkp, hbl⟩ := hrel
    have HE := Lib.hid henc
    clear henc
    have hz := hkp.size
    have lW := hW.lt
    have HBL := Lib.hid hbl
    clear hbl hlen
    by_cases hlt : k < ps.length
    · obtain ⟨x, hx⟩ : ∃ x, ps[k]? = some x := ⟨_, List.getElem?_eq_getElem hlt⟩
      have hdr : ps.drop k = x :: ps.drop (k + 1) := by rw [List.drop_eq_getElem_cons hlt]; congr 1; rw [List.getElem?_eq_getElem hlt] at hx; simpa using hx
      have htk : ps.take (k + 1) = ps.take k ++ [x] := by rw [List.take_succ_eq_append_getElem hlt]; congr 2; rw [List.getElem?_eq_getElem hlt] at hx; simpa using hx
      have hrw := hr.below (hkp.below (B := q) (Nat.le_refl _) (by omega) (by simp))
      have HR := Lib.hid hrw
      have HE2 := Lib.hid (show ecGo (note (note e (!isNone x) 1) (!hasId (ps.take k) x) 18) (bs ++ x.1) (ps.take (k + 1)) (ps.drop (k + 1)) = ecP ⟨t, ps, au, tm, ms⟩ from by rw [← HE.out, hdr, htk]; rfl)
      obtain ⟨g1, o1, rfl, _, hc1⟩ := hrw.at0 (by omega) (by omega)
      have L2 := ldId_at (w := wr) (fun j u hj => hc1 j u hj) hx
      clear hx hdr htk hrw hc1 HE
      have hi0 : (0 : Int) ≤ (k : Int) := Int.natCast_nonneg _
      have hi1 : (k : Int) < (ps.length : Int) := by omega
      go_wp2_with (first | (refine wpList_allocAgg rfl rfl (zero_noId _) ?_) | (refine wpList_storeBlk rfl rfl (vs := idC x) rfl rfl (Blk.new _ _ _) (by rw [idC_size, idC_size]) (by rw [idC_size]; exact info42) (idL_one _) ?_; intro w9 hx9 hkc hzc))
      go_frame
      have hkN : Keep Nothing wr w9 := Keep.ofNew hkc
      have hW9 := hW.keep hkN
      have hq9 := hqb.keep hkN (fun h => h)
      have hk9 := hkp.nothing hkN
      have l9 := hW9.lt
      have hr9 := HR.out.below (hkN.below (B := q) (by omega) (fun _ _ h => h))
      generalize wr.heap.size = x8 at *
      clear hkc hzc hkN hW hqb hkp L2 HR
      have L1 := LdId.blk hx9.drew
      go_region_law (first | (go_simp; go_at_call 56; refine (none_any x _).mono ?_; rintro r w10 ⟨rfl, hk10⟩; have hW10 := hW9.drew.keep hk10) | (go_simp; go_at_call 40; refine (wmust_any (q + 1) q _ _ 1 _ _ hW10).mono ?_; rintro r w11 ⟨rfl, hW11, hk11⟩))
      have k911 : Keep (Only (q + 1)) w9 w11 := (Keep.drew (Keep.refl (Only (q + 1)) w9)).trans ((hk10.mono (fun _ _ h => h.elim)).trans hk11)
      have hq11 := hq9.keep k911 (by unfold Only; omega)
      have hx11 := hx9.keep k911 (by unfold Only; omega)
      have hk11' := hk9.only k911 (by omega)
      have hr11 := hr9.kept k911 (by omega) (by unfold Only; omega)
      have z11 := k911.size
      have l11 := hW11.lt
      have pv := (hq11.cell 32).trans comC_at.1
      have hrk : Reads w11 q 32 (some ⟨g1, o1, none⟩) k (idLs (ps.take k)) := by rw [← idLs_take]; exact hr11.front (by omega)
      clear hk10 hk11 k911 hW10 hW9 hq9 hx9 hk9 hr9 hr11 L1
      have L2 := LdId.blk hx11.drew
      have hkc : (k : Int) ≤ (c : Int) := by omega
      have hzd : q ≤ w11.drew.heap.size := by show q ≤ w11.heap.size; omega
      have htl : (ps.take k).length = k := by rw [List.length_take]; omega
      have HTL := Lib.hid htl
      clear htl
      go_wp2_with fail
      go_region_law (first | (go_simp; go_at_call 57; refine (contains_n (ps.take k) k HTL.out x _ c _ _ hrk.drew hzd (by omega)).mono ?_; rintro r w12 ⟨rfl, hk12⟩; have hW12 := hW11.drew.keep hk12) | (go_simp; go_at_call 40; refine (wmust_any (q + 1) q _ _ 18 _ _ hW12).mono ?_; rintro r w13 ⟨rfl, hW13, hk13⟩))
      all_goals
        have k1113 : Keep (Only (q + 1)) w11 w13 := (Keep.drew (Keep.refl (Only (q + 1)) w11)).trans ((hk12.mono (fun _ _ h => h.elim)).trans hk13)
        have hq13 := hq11.keep k1113 (by unfold Only; omega)
        have hx13 := hx11.keep k1113 (by unfold Only; omega)
        have hk13' := hk11'.only k1113 (by omega)
        have z13 := k1113.size
        have l13 := hW13.lt
        have L3 := LdId.blk hx13
        clear hk12 hk13 k1113 hW12 hW11 hq11 hx11 hk11' L2 pv hrk
        go_wp2_with fail
        refine (wid_any x (q + 1) q _ _ _ hW13 (by rw [HBL.out]; omega) (by omega)).mono ?_
        rintro r w14 ⟨rfl, hW14, hk14⟩
        have hq14 := hk14.blk hq13 (by simp) (by decide)
        have hk14' := hk13'.lift hk14 (Nat.le_refl _) (by simp) (by simp; omega)
        clear hk14 hk13' hq13 hW13 L3 hx13
        go_wp2_with fail
        go_roundw
        case rel => exact ⟨k + 1, _, _, by omega, by go_num, HE2.out, hW14, hq14, hk14', by rw [List.length_append, HBL.out, x.2]; omega⟩
        case measure => simp [intOf]; omega
    · have hk' : k = ps.length := by omega
      have HG := HE.out
      rw [hk', List.drop_length] at HG
      have HG2 := Lib.hid (show ecP _ = (e, bs) from HG.symm)
      have hbl := HBL.out
      clear HG HE hk' HBL HL
      have p9 := (hqb.cell 33).trans comC_at.2.1
      have p10 := (hqb.cell 35).trans comC_at.2.2.2
      go_wp2_with fail
      have hW0 : Wt (wr.alloc (.cells #[.string au, .string ms] 9)) (q + 1) q bs e := hW.keep ((Keep.refl _ _).alloc _)
      have hq0 := hqb.alloc (.cells #[.string au, .string ms] 9)
      have hs0 : Blk (wr.alloc (.cells #[.string au, .string ms] 9)) wr.heap.size 9 #[.string au, .string ms] := Blk.new _ _ _
      have hk0 := hkp.alloc (.cells #[.string au, .string ms] 9)
      have hpz : q + 1 < wr.heap.size := lW
      generalize wr.alloc (.cells #[.string au, .string ms] 9) = w8 at *
      generalize wr.heap.size = p at *
      clear hW hqb hkp p9 p10 lW
      go_loopw [73] (fun i wr => ∃ j : Nat, j ≤ 2 ∧ i = .int .i64 j ∧ Wt wr (q + 1) q bs (ecS e au ms j) ∧ Blk wr q 45 (comC t (.slice A ps.length c) au tm ms) ∧ Blk wr p 9 #[.string au, .string ms] ∧ Kept q [5] [] w wr) (fun i _ => 2 - (intOf i).toNat)
      case atStart => exact ⟨0, by omega, rfl, hW0, hq0, hs0, hk0⟩
      case round =>
        obtain ⟨j, hj, rfl, hW, hqb, hsb, hkp⟩ := hrel
        clear hW0 hq0 hs0 hk0
        have hz := hkp.size
        have lW := hW.lt
        have s0 := hsb.cell 0
        have s1 := hsb.cell 1
        simp at s0 s1
        have hj3 : j = 0 ∨ j = 1 ∨ j = 2 := by omega
        rcases hj3 with rfl | rfl | rfl
        · go_wp2_with fail
          refine (wmust_any (q + 1) q _ _ 5 _ _ hW).mono ?_
          rintro r w9 ⟨rfl, hW9, hk9⟩
          go_wp2_with fail
          go_roundw
          case rel => exact ⟨1, by omega, by go_num, hW9, hqb.keep hk9 (by unfold Only; omega), hsb.keep hk9 (by unfold Only; omega), hkp.only hk9 (by omega)⟩
          case measure => simp [intOf]
        · go_wp2_with fail
          refine (wmust_any (q + 1) q _ _ 5 _ _ hW).mono ?_
          rintro r w9 ⟨rfl, hW9, hk9⟩
          go_wp2_with fail
          go_roundw
          case rel => exact ⟨2, by omega, by go_num, hW9, hqb.keep hk9 (by unfold Only; omega), hsb.keep hk9 (by unfold Only; omega), hkp.only hk9 (by omega)⟩
          case measure => simp [intOf]
        · have he : ecS e au ms 2 = ecE ⟨t, ps, au, tm, ms⟩ := by unfold ecE; rw [HG2.out]; rfl
          rw [he] at hW
          clear he s0 s1 hsb
          generalize hee : ecE ⟨t, ps, au, tm, ms⟩ = ee at *
          have HEE := Lib.hid hee
          clear hee
          obtain ⟨A2, c2, hb2, ho2, hbg2⟩ := hW
          have r2 := hb2.cell 2
          simp at r2
          by_cases h0 : ee = 0
          · subst h0
            obtain ⟨_, _, _, ha8, hm8⟩ := ecE_zero HEE.out
            clear ha hm
            have ha8 : au.size ≤ 1000 := ha8
            have hm8 : ms.size ≤ 1000 := hm8
            have f33 := (hqb.cell 33).trans comC_at.2.1
            go_wp2_with fail
            refine (wtext_any 2 au (by omega) (q + 1) q _ 0 _ ⟨A2, c2, hb2, ho2, hbg2⟩ (by omega) (by omega)).mono ?_
            rintro r w10 ⟨rfl, hW10, hk10⟩
            have hq10 := hk10.blk hqb (by simp) (by decide)
            have hk10' := hkp.lift hk10 (Nat.le_refl _) (by simp) (by simp; omega)
            have z10 := hk10'.size
            have f34 := (hq10.cell 34).trans comC_at.2.2.1
            clear hk10 hkp hqb hb2 ho2 r2
            have hwt : IntKind.u64.wrap tm = (timeN tm : Int) := by unfold timeN; simp [IntKind.wrap, IntKind.signed, IntKind.bits]; omega
            go_wp2_with fail
            refine (wnumber_any 8 (timeN tm) (by omega) (q + 1) q _ 0 _ hW10 (by simp only [List.length_append, be_len, ← Lib.size_eq]; omega) (by omega)).mono ?_
            rintro r w11 ⟨rfl, hW11, hk11⟩
            have hq11 := hk11.blk hq10 (by simp) (by decide)
            have hk11' := hk10'.lift hk11 (Nat.le_refl _) (by simp) (by simp; omega)
            have z11 := hk11'.size
            have f35 := (hq11.cell 35).trans comC_at.2.2.2
            clear hk11 hk10' hq10 hW10 f34 hwt
            go_wp2_with fail
            refine (wtext_any 2 ms (by omega) (q + 1) q _ 0 _ hW11 (by simp only [List.length_append, be_len, ← Lib.size_eq]; omega) (by omega)).mono ?_
            rintro r w12 ⟨rfl, hW12, hk12⟩
            have hk12' := hk11'.lift hk12 (Nat.le_refl _) (by simp) (by simp; omega)
            clear hk12 hk11' hq11 hW11 f35
            go_wp2_with fail
            refine (wdone_any (q + 1) q _ 0 _ hW12).mono ?_
            rintro r w13 ⟨A13, c13, rfl, ho13, hk13⟩
            have hd : encCommit ⟨t, ps, au, tm, ms⟩ = (doneL (bs ++ be 2 au.size ++ au.data.toList ++ be 8 (timeN tm) ++ be 2 ms.size ++ ms.data.toList) 0, 0) := by
              unfold encCommit
              rw [if_pos HEE.out, HG2.out]
              rfl
            have HD := Lib.hid hd
            clear hd
            generalize doneL (bs ++ be 2 au.size ++ au.data.toList ++ be 8 (timeN tm) ++ be 2 ms.size ++ ms.data.toList) 0 = out at *
            go_wp2_with fail
            go_ret2
            have hw2 : Kept w.heap.size [5] [] w w13 := by rw [HQ.out]; exact hk12'.nothing hk13
            exact ⟨A13, c13, by rw [HD.out]; rfl, by rw [HD.out, HQ.out]; exact ho13, hw2.all⟩
          · have h01 : (ee != 0) = true := by simpa using h0
            go_wp2_with fail
            go_quiet (fail)
            go_wp2_with fail
            go_ret2
            have hw2 : Kept w.heap.size [5] [] w wr := by rw [HQ.out]; exact hkp
            refine ⟨none, 0, ?_, ?_, hw2.drewN _ |>.all⟩
            · unfold encCommit; rw [HEE.out, if_neg h0]; rfl
            · unfold encCommit; rw [HEE.out, if_neg h0]; exact Own.nil _ _ _ _
end Go.Proofs.Ytppmolneklidfaa
