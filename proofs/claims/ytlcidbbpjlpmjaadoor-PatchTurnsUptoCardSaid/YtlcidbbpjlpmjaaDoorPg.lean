/-
  Contract of the reference's Parse. No statement of the seat is proved here.
-/
import Derived.Test.YtlcidbbpjlpmjaaDoorPe
import Derived.Test.YtlcidbbpjlpmjaaDoorPf
import Derived.Laws.AppendOwn
namespace Go.Proofs.YtlcidbbpjlpmjaaDoor
open Go.RowKit

theorem wpList_convB {P : Program} {ops : Array Oper} {rest : List Oper} {o : Oper} {a : Act} {w w' : World} {Q : Exit → Act → World → Prop} (hgd : o.guard = none) {src dst : TypeId} {x : Operand} (ho : o.op = .convert src dst x) {u v : Value} (hx : a.eval x = u) (hrun : (convert src dst u).run P w = .ok v w')
    (h : wpList P ops Q rest (a.put o.dst v) w') : wpList P ops Q (o :: rest) a w :=
  wpList_plain hgd fun _ hK => by
    unfold Oper.wp execOp
    simp only [ho, hx, Sem.run_bind, hrun, Result.andThen_ok, Sem.run_pure]
    exact hK _ _ h
theorem run_convB (l : List UInt8) (w : World) : ∃ c w', (convert 9 53 (.string ⟨l.toArray⟩)).run Tryd.prog w = .ok (.slice (some ⟨w.heap.size, 0, none⟩) l.length c) w' ∧ Keep Nothing w w' ∧ l.length ≤ c ∧ Reads w' (w.heap.size + 1) 1 (some ⟨w.heap.size, 0, none⟩) l.length (l.map byteV) ∧ w.heap.size < w'.heap.size := by
  have hz : (⟨l.toArray⟩ : ByteArray).size = l.length := by simp [ByteArray.size]
  refine ⟨grownCap w l.length 0 5, Lib.bytesWorld w 5 ⟨l.toArray⟩, by have := Lib.run_convert_string_bytes (P := Tryd.prog) w 9 53 5 ⟨l.toArray⟩ Tryd.underlying9 Tryd.underlying53 Tryd.underlying5; rw [hz] at this; exact this, ⟨rfl, rfl, rfl, by rw [Lib.bytesWorld_size]; omega, fun i hi _ => Lib.bytesWorld_at_old w 5 ⟨l.toArray⟩ i hi⟩, grownCap_ge _ _ _ _, ⟨by simp, fun _ => ⟨_, rfl, Nat.lt_succ_self _, fun j u hj => ?_⟩⟩, by rw [Lib.bytesWorld_size]; omega⟩
  have hlt : j < l.length := by
    rcases Nat.lt_or_ge j l.length with q | q
    · exact q
    · rw [List.getElem?_eq_none (by simpa using q)] at hj; cases hj
  rw [add_at, Nat.zero_add, Lib.bytesWorld_cell w 5 ⟨l.toArray⟩ j (by rw [hz]; exact hlt)]
  simp only [List.getElem?_map, List.getElem?_eq_getElem hlt, Option.map_some, Option.some.injEq] at hj
  subst hj
  simp [byteV, List.getD, hlt]
theorem splitFrom_len : ∀ (b cur : List UInt8), (splitFrom cur b).length ≤ cur.length + b.length ∧ ∀ x ∈ splitFrom cur b, x.length ≤ cur.length + b.length
  | [], cur => by
    rw [splitFrom]
    split
    · simp
    next q =>
      have := List.length_pos_iff.2 q
      simp; omega
  | y :: b, cur => by
    rw [splitFrom]
    split
    · obtain ⟨h1, h2⟩ := splitFrom_len b []
      refine ⟨by simp at h1 ⊢; omega, fun x hx => ?_⟩
      rcases List.mem_cons.1 hx with rfl | hx
      · simp
      · have := h2 x hx
        simp at this ⊢
        omega
    · obtain ⟨h1, h2⟩ := splitFrom_len b (cur ++ [y])
      refine ⟨by simp at h1 ⊢; omega, fun x hx => ?_⟩
      have := h2 x hx
      simp at this ⊢
      omega
theorem numR_le (x : List UInt8) (at_ : Nat) : (numR x at_).2 ≤ at_ + 10 := by
  unfold numR
  split
  · simp
  · have : (digRun x at_).length ≤ 10 := by unfold digRun; rw [List.length_take]; omega
    simp only
    omega
/-- One line taken by the reference, that is no head. -/
theorem readR_line {c : UInt8} {y : List UInt8} {l : List (List UInt8)} {out : List HkQ} {op : Nat} (h : Lib.hasPrefix (c :: y) [64, 64, 32, 45] = false) (ho : out.isEmpty = false) (hs : signOf c = some op) : readR ((c :: y) :: l) out = if l.head? = some [92, 10] ∧ y ≠ [] then readR l.tail (addQ out op y.dropLast) else readR l (addQ out op y) := by
  rw [readR.eq_def]
  simp only [h, ho, hs]
  rfl
theorem readR_nil2 {x : List UInt8} {l : List (List UInt8)} (h : Lib.hasPrefix x [64, 64, 32, 45] = false) : readR (x :: l) [] = none := by
  rw [readR.eq_def]
  simp [h]
theorem readR_bad {c : UInt8} {y : List UInt8} {l : List (List UInt8)} {out : List HkQ} (h : Lib.hasPrefix (c :: y) [64, 64, 32, 45] = false) (hs : signOf c = none) : readR ((c :: y) :: l) out = none := by
  rw [readR.eq_def]
  simp [h, hs]
set_option maxHeartbeats 40000000 in
set_option maxRecDepth 100000 in
theorem rparse_any (s : List UInt8) (w : World) (hs : s.length ≤ 100000) :
    Calls Tryd.prog 27 #[.string ⟨s.toArray⟩] w (ParseR (resQ (readR (splitL s) []) s) w) := by
  obtain ⟨R, hR⟩ : ∃ R, resQ (readR (splitL s) []) s = R := ⟨_, rfl⟩
  rw [hR]
  obtain ⟨RES, hRES⟩ : ∃ x, readR (splitL s) [] = x := ⟨_, rfl⟩
  rw [hRES] at hR
  have HR := Lib.hid hR
  have HPN := Lib.hid (show RES = none → ∀ W, Below w.heap.size w W → ParseR R w (.returned (.tuple #[.slice none 0 0, .int .i64 28])) W from fun q W k => by
    have : R = none := by rw [← HR.out, q]; rfl
    rw [this]
    exact ⟨k, rfl⟩)
  obtain ⟨cv, wv, hcv, kv, hcc, hrv, hzv⟩ := run_convB s w
  have HCV := Lib.hid hcv
  have HSP := Lib.hid (split_any s (some ⟨w.heap.size, 0, none⟩) cv (w.heap.size + 1) wv (by omega) hrv (by omega) hcc)
  have hsl := splitFrom_len s []
  have HNE := Lib.hid (show ∀ x ∈ splitL s, x ≠ [] from splitFrom_ne)
  have hsl1 : (splitL s).length ≤ s.length := by have := hsl.1; show (splitFrom [] s).length ≤ s.length; simpa using this
  have HSL := Lib.hid (show ∀ x ∈ splitL s, x.length ≤ s.length from fun x hx => by have := hsl.2 x hx; simpa using this)
  generalize splitL s = L at *
  have HRES := Lib.hid hRES
  clear hR hRES hcv hrv hsl
  go_enter Tryd.func27, Tryd.ntmps27
  go_upto_region 3 with (first | (refine wpList_convB rfl rfl rfl HCV.out ?_) | (go_at_call 48; refine HSP.out.mono ?_))
  rintro _ w1 ⟨AL, cL, rfl, oL, bL⟩
  have b1 : Below w.heap.size w w1 := kv.all.trans (bL.mono (Nat.le_of_lt hzv))
  have hz01 := b1.size
  have HRL := Lib.hid (show ∀ W, Below w1.heap.size w1 W → Reads W w1.heap.size 1 AL L.length (strL L) from fun W k => oL.reads.below k)
  have HBW := Lib.hid (show ∀ W, Below w1.heap.size w1 W → Below w.heap.size w W from fun W k => b1.trans (k.mono hz01))
  clear oL bL b1 kv hzv HSP HCV
  generalize hz1 : w1.heap.size = z at *
  go_wp2_with fail
  go_loopw [4, 6] (fun s4 s6 wr => ∃ (i : Nat) (out : List HkQ) (A : Option Addr) (cp : Nat), s4 = .slice A out.length cp ∧ s6 = .int .i64 (i : Nat) ∧ i ≤ L.length ∧ Hid (readR (L.drop i) out = RES) ∧ HS wr z A cp out ∧ Below z w1 wr ∧ OutB s.length out (L.length - i)) (fun _ s6 _ => L.length - (intOf s6).toNat)
  case atStart => exact ⟨0, [], none, 0, rfl, rfl, Nat.zero_le _, HRES, .inl ⟨rfl, rfl, rfl⟩, Below.refl _ _, ⟨by simpa using hsl1, by simpa [sumLs] using hsl1, by simp, by simp⟩⟩
  case round =>
    obtain ⟨i, out, A, cp, rfl, rfl, hiL, HREAD, hh, hb, bnd⟩ := hrel
    have hz : z ≤ wr.heap.size := by have := hb.size; omega
    have hN := bnd.n
    by_cases hlt : ¬ (i < L.length)
    · obtain rfl : i = L.length := by omega
      have hfin : RES = some out := by rw [← HREAD.out, List.drop_length, readR]
      have hxx : ¬ (L.length < L.length) := Nat.lt_irrefl _
      have HR2 := Lib.hid (show R = if (out.map HkQ.toI).all okH = true ∧ hksT (out.map HkQ.toI) = s then some (out.map HkQ.toI) else none from by rw [← HR.out, hfin]; rfl)
      have hsm : ∀ h ∈ out, h.ls.length ≤ s.length := fun h hm => by have := sumLs_mem hm; have := bnd.s; omega
      have hks := hksT_sum (N := s.length) (by omega) out (fun h hm => ⟨hsm h hm, (bnd.h h hm).2⟩)
      have hks2 : sumLs out * (s.length + 5) ≤ 100000 * 100005 := Nat.mul_le_mul (by have := bnd.s; omega) (by omega)
      have hii := hh.reads
      have hml : (out.map HkQ.toI).length = out.length := by simp
      have HTX := Lib.hid (show Calls Tryd.prog 17 #[.slice A out.length cp] wr fun r w' => r = .returned (textR (out.map HkQ.toI)) ∧ Below wr.heap.size wr w' from by
        have := rtext_any (out.map HkQ.toI) A cp wr.heap.size wr (Nat.le_refl _) hii (by rw [hml]; omega) (fun h hm => by
          obtain ⟨x, hx, rfl⟩ := List.mem_map.1 hm
          have h1 := hsm x hx
          obtain ⟨h2, h3⟩ := bnd.h x hx
          have e1 : x.toI.eds.length = x.eds.length := by simp [HkQ.toI]
          have e2 : x.toI.ls = x.ls := rfl
          exact ⟨by rw [e1]; omega, by rw [e2]; omega, fun l hl => by have := h3 l hl; omega⟩) (by omega)
        rw [hml] at this
        exact this.mono fun r w' h => ⟨h.1, h.2.all⟩)
      have HII0 := Lib.hid hii
      have HML := Lib.hid hml
      clear hfin hsm hks hks2 hii hml hN bnd
      obtain ⟨L, hL⟩ : ∃ L, out.map HkQ.toI = L := ⟨_, rfl⟩
      rw [hL] at HR2 HTX HII0 HML
      clear hL
      cases hall : L.all okH
      case false =>
        have HTR := Lib.hid (show textR L = .tuple #[.string ⟨#[]⟩, .int .i64 1] from by unfold textR; simp [hall])
        have HRN := Lib.hid (show R = none from by rw [HR2.out, hall]; simp)
        rw [HTR.out] at HTX
        go_wp2_with (go_at_call 17; refine HTX.out.mono ?_)
        rintro _ w5 ⟨rfl, b5⟩
        have HB5 := Lib.hid (HBW.out _ (hb.trans (b5.mono hz)))
        go_wp2_with fail
        go_ret2
        rw [HRN.out]
        exact ⟨HB5.out, rfl⟩
      case true =>
        have HTR := Lib.hid (show textR L = .tuple #[.string ⟨(hksT L).toArray⟩, .int .i64 0] from by unfold textR; simp [hall])
        rw [HTR.out] at HTX
        by_cases hts : hksT L = s
        · have HRN := Lib.hid (show R = some L from by rw [HR2.out, hall]; simp [hts])
          rw [hts] at HTX
          clear hts
          go_wp2_with (go_at_call 17; refine HTX.out.mono ?_)
          rintro _ w5 ⟨rfl, b5⟩
          have HB5 := Lib.hid (HBW.out _ (hb.trans (b5.mono hz)))
          have HI5 := Lib.hid ((HII0.out.below b5).more b5.size)
          go_wp2_with fail
          go_ret2
          rw [HRN.out]
          exact ⟨HB5.out, _, _, by rw [HML.out]; rfl, HI5.out⟩
        · have HRN := Lib.hid (show R = none from by rw [HR2.out]; simp [hts])
          generalize hksT L = tx at *
          have g1 : (tx != s) = true := by simpa using hts
          have g2 : (tx == s) = false := by simpa using hts
          clear hts
          go_wp2_with (go_at_call 17; refine HTX.out.mono ?_)
          rintro _ w5 ⟨rfl, b5⟩
          have HB5 := Lib.hid (HBW.out _ (hb.trans (b5.mono hz)))
          go_wp2_with fail
          go_ret2
          rw [HRN.out]
          exact ⟨HB5.out, rfl⟩
    · have hlt : i < L.length := by omega
      obtain ⟨x, hx⟩ : ∃ x, L[i]? = some x := ⟨_, List.getElem?_eq_getElem hlt⟩
      have hxl := HSL.out x (List.mem_of_getElem? hx)
      have hxn := HNE.out x (List.mem_of_getElem? hx)
      have hdr : L.drop i = x :: L.drop (i + 1) := List.drop_eq_getElem?_toList_append.trans (by rw [hx]; rfl)
      rw [hdr] at HREAD
      obtain ⟨gl, ol, hAL, _, hcl⟩ := (HRL.out _ hb).at0 (by omega) (by omega)
      subst hAL
      have d1 : wr.cell? ⟨gl, ol + i, none⟩ = some (.string ⟨x.toArray⟩) := hcl i _ (strL_at' hx)
      have hi0 : (0 : Int) ≤ (i : Int) := Int.natCast_nonneg _
      have hi1 : (i : Int) < (L.length : Int) := by omega
      have HCL := Lib.hid hcl
      have HST := Lib.hid (fun W => starts_any x W (by omega))
      have hib : L.length ≤ 100000 := by omega
      clear hcl hx hdr
      obtain ⟨px, hpx⟩ : ∃ b, Lib.hasPrefix x [64, 64, 32, 45] = b := ⟨_, rfl⟩
      rw [hpx] at HST
      cases px
      case true =>
        have hx4 : 4 ≤ x.length := by
          unfold Lib.hasPrefix at hpx
          have := (List.isPrefixOf_iff_prefix.1 hpx).length_le
          simpa using this
        have HY := Lib.hid (show readR (L.drop (i + 1)) (out ++ [⟨(placeR x).1, (placeR x).2, [], []⟩]) = RES from by rw [← HREAD.out, readR_head hpx])
        have HN1 := Lib.hid (fun W => number_any x 4 W (by omega) hx4)
        have HN2 := Lib.hid (fun W => number_any x (min x.length ((numR x 4).2 + 1)) W (by omega) (by omega))
        have HN3 := Lib.hid (fun W => number_any x (min x.length ((numR x (min x.length ((numR x 4).2 + 1))).2 + 2)) W (by omega) (by omega))
        have HPL := Lib.hid (show (placeR x).1 = (numR x 4).1 ∧ (placeR x).2 = (numR x (min x.length ((numR x (min x.length ((numR x 4).2 + 1))).2 + 2))).1 from ⟨rfl, rfl⟩)
        generalize placeR x = pl at *
        obtain ⟨pa, pb⟩ := pl
        simp only at HPL HY
        obtain ⟨⟨n1, p1⟩, hn1⟩ : ∃ v, numR x 4 = v := ⟨_, rfl⟩
        rw [hn1] at HN1 HN2 HN3 HPL
        simp only at HN1 HN2 HN3 HPL
        obtain ⟨⟨n2, p2⟩, hn2⟩ : ∃ v, numR x (min x.length (p1 + 1)) = v := ⟨_, rfl⟩
        rw [hn2] at HN2 HN3 HPL
        simp only at HN2 HN3 HPL
        obtain ⟨⟨n3, p3⟩, hn3⟩ : ∃ v, numR x (min x.length (p2 + 2)) = v := ⟨_, rfl⟩
        rw [hn3] at HN3 HPL
        simp only at HN3 HPL
        have hp1 : p1 ≤ 14 := by have := numR_le x 4; rw [hn1] at this; exact this
        have hp2 : p2 ≤ 100010 := by have := numR_le x (min x.length (p1 + 1)); rw [hn2] at this; simp only at this; omega
        have hm1 : min (x.length : Int) ((p1 : Int) + 1) = ((min x.length (p1 + 1) : Nat) : Int) := by omega
        have hm2 : min (x.length : Int) ((p2 : Int) + 2) = ((min x.length (p2 + 2) : Nat) : Int) := by omega
        generalize min x.length (p1 + 1) = q1 at *
        generalize min x.length (p2 + 2) = q2 at *
        clear hn1 hn2 hn3 hpx
        go_upto_region 9 with (go_at_call 49; refine (HST.out _).mono ?_; rintro _ w2 ⟨rfl, rfl⟩)
        go_upto_region 10 with (go_at_call 50; refine (HN1.out _).mono ?_; rintro _ w2 ⟨rfl, rfl⟩)
        go_upto_region 11 with (go_at_call 50; refine (HN2.out _).mono ?_; rintro _ w2 ⟨rfl, rfl⟩)
        go_upto_region 12 with (go_at_call 50; refine (HN3.out _).mono ?_; rintro _ w2 ⟨rfl, rfl⟩)
        obtain ⟨rfl, rfl⟩ := HPL.out
        obtain ⟨tv, u1, u2, u3⟩ := hh.flat
        have HT := Lib.hid u3
        have HB3 := Lib.hid hb
        have hol : out.length ≤ 100000 := by omega
        have HBN := Lib.hid (bnd.push (k' := L.length - (i + 1)) (by omega) pa pb)
        clear u3 hh hb bnd hm1 hm2
        go_wp2_with (at_builtin; refine wpList_append_sl rfl elemHunk rfl rfl (n := out.length) (u2.alloc _) rfl (Reads.of_blk (n := 1) (xs := hkQ (newQ pa pb) (.slice none 0 0) (.slice none 0 0)) (heap_alloc_new _ _) rfl rfl) (hkn_one pa pb) (by unfold maxLen; omega) (by omega) (by simp; omega) ?_; intro A5 c5 w5 o5 k5; have HS5 := Lib.hid (HS.pushNew (i := pa) (j := pb) hz u1 HT.out (((Kept.refl _ _ _ _).alloc _).trans k5) o5); have HB5 := Lib.hid (HB3.out.trans ((((Kept.refl _ _ _ _).alloc _).trans k5).below (Nat.le_refl _) hz (by simp))); clear o5 k5)
        go_roundw
        case rel => exact ⟨i + 1, out ++ [⟨pa, pb, [], []⟩], A5, c5, by rw [List.length_append, List.length_singleton], by go_num, by omega, HY, HS5.out, HB5.out, HBN.out⟩
        case measure => simp [intOf]; omega
      case false =>
        cases out with
        | nil =>
          have HE := Lib.hid (HPN.out (by rw [← HREAD.out, readR_nil2 hpx]) wr (HBW.out _ hb))
          go_wp2_with (go_at_call 49; refine (HST.out _).mono ?_; rintro _ w2 ⟨rfl, rfl⟩)
          go_ret2
          exact HE.out
        | cons h0 r0 =>
          obtain ⟨out, hout⟩ : ∃ o, h0 :: r0 = o := ⟨_, rfl⟩
          have hone : out.isEmpty = false := by rw [← hout]; rfl
          have holp : 0 < out.length := by rw [← hout]; simp
          rw [hout] at hh bnd HREAD hN
          rw [hout]
          clear hout
          have hne0 : ((out.length : Int) == 0) = false := by rw [beq_eq_false_iff_ne]; omega
          have hne1 : ¬ (out.length = 0) := by omega
          have hne2 : ¬ (out = []) := by rintro rfl; simp at holp
          cases x with
          | nil => exact absurd rfl hxn
          | cons c y =>
            have hib0 : 0 < (⟨(c :: y).toArray⟩ : ByteArray).size := by show 0 < (c :: y).toArray.size; simp
            have hidx : (⟨(c :: y).toArray⟩ : ByteArray)[0]'hib0 = c := rfl
            cases hsg : signOf c with
            | none =>
              have HE := Lib.hid (HPN.out (by rw [← HREAD.out, readR_bad hpx hsg]) wr (HBW.out _ hb))
              have g1 : ((c.toNat : Int) == 32) = false := by rw [beq_eq_false_iff_ne]; intro q; have : c = 32 := UInt8.toNat_inj.1 (by have : (32 : UInt8).toNat = 32 := rfl; omega); rw [this] at hsg; cases hsg
              have g2 : ((c.toNat : Int) == 45) = false := by rw [beq_eq_false_iff_ne]; intro q; have : c = 45 := UInt8.toNat_inj.1 (by have : (45 : UInt8).toNat = 45 := rfl; omega); rw [this] at hsg; cases hsg
              have g3 : ((c.toNat : Int) == 43) = false := by rw [beq_eq_false_iff_ne]; intro q; have : c = 43 := UInt8.toNat_inj.1 (by have : (43 : UInt8).toNat = 43 := rfl; omega); rw [this] at hsg; cases hsg
              clear hsg
              go_wp2_with (go_at_call 49; refine (HST.out _).mono ?_; rintro _ w2 ⟨rfl, rfl⟩)
              go_ret2
              exact HE.out
            | some op =>
              rcases hh with ⟨rfl, _, _⟩ | ⟨ini, tv, ⟨xa, xb, xe, xl⟩, EA, ec, LA, lc, bk, rfl, hl⟩
              · exact absurd rfl hne2
              · obtain ⟨g, rfl, hg⟩ := hl.adr
                have hib2 : ini.length ≤ 100000 := by have := bnd.n; simp at this; omega
                obtain ⟨he1, he2⟩ := bnd.h ⟨xa, xb, xe, xl⟩ (by simp)
                have hls := sumLs_mem (h := (⟨xa, xb, xe, xl⟩ : HkQ)) (out := ini ++ [⟨xa, xb, xe, xl⟩]) (by simp)
                have hlb : xl.length ≤ 100000 := by have := bnd.s; simp only at hls; omega
                have heb : xe.length ≤ 100000 := by simp only at he1; omega
                have HEN := Lib.hid (show ∀ e ∈ xe, e.n ≤ xl.length from bnd.e ⟨xa, xb, xe, xl⟩ (by simp))
                have HBND := Lib.hid bnd
                have HL2 := Lib.hid hl
                have HB2 := Lib.hid hb
                have hz2 := hz
                have hlin := readR_line (l := L.drop (i + 1)) (out := ini ++ [⟨xa, xb, xe, xl⟩]) hpx hone hsg
                rw [HREAD.out] at hlin
                obtain ⟨lk, hlk⟩ : ∃ b, decide ((L.drop (i + 1)).head? = some [92, 10] ∧ y ≠ []) = b := ⟨_, rfl⟩
                have HLK := Lib.hid hlk
                have HLIN := Lib.hid hlin
                have hyl : y.length + 1 ≤ s.length := by simpa using hxl
                have hx1 : (⟨(c :: y).toArray⟩ : ByteArray).extract 1 (y.length + 1) = ⟨y.toArray⟩ := by
                  apply ByteArray.ext
                  rw [ByteArray.data_extract]
                  apply Array.ext'
                  rw [Array.toList_extract, List.extract_eq_take_drop]
                  simp
                have hx4 : (⟨y.toArray⟩ : ByteArray).extract 0 (y.length - 1) = ⟨y.dropLast.toArray⟩ := by
                  rw [ext_take, List.dropLast_eq_take]
                have hw4 : IntKind.i64.wrap ((i : Int) + 1) = (i : Int) + 1 := IntWalk.i64_in _ (by omega)
                have hc3 : (c = 32 ∧ op = 0) ∨ (c = 45 ∧ op = 1) ∨ (c = 43 ∧ op = 2) := by
                  unfold signOf at hsg
                  split at hsg
                  next q => injection hsg with hsg; exact .inl ⟨q, hsg.symm⟩
                  next q =>
                    split at hsg
                    next q2 => injection hsg with hsg; exact .inr (.inl ⟨q2, hsg.symm⟩)
                    next q2 =>
                      split at hsg
                      next q3 => injection hsg with hsg; exact .inr (.inr ⟨q3, hsg.symm⟩)
                      next q3 => cases hsg
                clear hsg hlk hlin hl hb bnd he1 he2 hls hpx hxn hxl hone holp hne2 hN
                rcases hc3 with ⟨rfl, rfl⟩ | ⟨rfl, rfl⟩ | ⟨rfl, rfl⟩
                · as_aux_lemma =>
                    go_upto_region 15 with (go_at_call 49; refine (HST.out _).mono ?_; rintro _ wr ⟨rfl, rfl⟩)
                    go_upto_region 23 with fail
                    go_cut [113] from 94 to 113 (fun s113 wx => s113 = .bool lk ∧ wr = wx)
                    case first =>
                      by_cases hA : i + 1 < L.length
                      · obtain ⟨n, hn⟩ : ∃ n, L[i + 1]? = some n := ⟨_, List.getElem?_eq_getElem hA⟩
                        have d2 : wr.cell? ⟨gl, ol + (i + 1), none⟩ = some (.string ⟨n.toArray⟩) := HCL.out (i + 1) _ (strL_at' hn)
                        have hAI : (i : Int) + 1 < (L.length : Int) := by omega
                        have hdI : decide ((i : Int) + 1 < (L.length : Int)) = true := decide_eq_true hAI
                        have hnn : (0 : Int) ≤ (i : Int) + 1 := by omega
                        have HLK2 := Lib.hid (show decide (n = [92, 10] ∧ y ≠ []) = lk from by
                          rw [← HLK.out]
                          refine decide_eq_decide.2 ?_
                          rw [List.head?_drop, hn, Option.some.injEq])
                        clear hn
                        by_cases hB : n = [92, 10]
                        · by_cases hy : y = []
                          · have hlf : lk = false := by rw [← HLK2.out]; simp [hy]
                            subst hy
                            subst hB
                            subst hlf
                            go_wp2_with fail
                            go_meet
                            exact ⟨rfl, rfl⟩
                          · have hlf : lk = true := by rw [← HLK2.out]; simp [hB, hy]
                            have hyp : 0 < y.length := List.length_pos_iff.2 hy
                            have hyI : (0 : Int) < (y.length : Int) := by omega
                            have hyd : decide (0 < y.length) = true := decide_eq_true hyp
                            have hyD : decide ((0 : Int) < (y.length : Int)) = true := decide_eq_true hyI
                            subst hB
                            subst hlf
                            clear hy
                            go_wp2_with fail
                            go_meet
                            exact ⟨rfl, rfl⟩
                        · have hlf : lk = false := by rw [← HLK2.out]; simp [hB]
                          have hne : (n == [92, 10]) = false := by simpa using hB
                          subst hlf
                          clear hB
                          go_wp2_with fail
                          go_meet
                          exact ⟨rfl, rfl⟩
                      · have hlf : lk = false := by
                          rw [← HLK.out]
                          have : L.drop (i + 1) = [] := List.drop_of_length_le (by omega)
                          rw [this]
                          simp
                        have hAI : ¬ ((i : Int) + 1 < (L.length : Int)) := by omega
                        have hdI : decide ((i : Int) + 1 < (L.length : Int)) = false := decide_eq_false hAI
                        subst hlf
                        go_wp2_with fail
                        go_meet
                        exact ⟨rfl, rfl⟩
                    case rest =>
                      obtain ⟨rfl, rfl⟩ := hcut
                      cases lk
                      case true =>
                        obtain ⟨hl1, hl2⟩ := of_decide_eq_true HLK.out
                        have hyp : 0 < y.length := List.length_pos_iff.2 hl2
                        have hA : i + 1 < L.length := by
                          rcases Nat.lt_or_ge (i + 1) L.length with q | q
                          · exact q
                          · rw [List.drop_of_length_le q] at hl1; simp at hl1
                        have hwy : IntKind.i64.wrap ((y.length : Int) - 1) = ((y.length - 1 : Nat) : Int) := by rw [IntWalk.i64_in _ (by omega)]; omega
                        have hy0 : (0 : Int) ≤ ((y.length - 1 : Nat) : Int) := Int.natCast_nonneg _
                        have hy1 : ((y.length - 1 : Nat) : Int) ≤ (y.length : Int) := by omega
                        have HY := Lib.hid (show readR (L.drop (i + 1 + 1)) (addQ (ini ++ [⟨xa, xb, xe, xl⟩]) 0 y.dropLast) = RES from by
                          rw [HLIN.out, if_pos ⟨hl1, hl2⟩, List.tail_drop])
                        have hyd : y.dropLast.length ≤ s.length + 1 := by rw [List.length_dropLast]; omega
                        have HBN := Lib.hid (HBND.out.add (op := 0) (k' := L.length - (i + 1 + 1)) (by omega) hyd)
                        clear hl1 hl2 HBND HLIN HREAD
                        go_upto_region 26 with fail
                        generalize y.dropLast = ln at *
                        as_aux_lemma =>
                          obtain ⟨f1, -⟩ := HL2.out.at_ 3 (by omega) _ rfl
                          have f1 : wr.cell? ⟨g, ini.length * 4 + 3, none⟩ = some (.slice LA xl.length lc) := f1
                          have HLN := Lib.hid (fun A1 c1 w1 o1 k1 => (HL2.out.keepN ((Keep.refl _ _).alloc (.cells #[.string ⟨ln.toArray⟩] 9))).lns (A1 := A1) (c1 := c1) (w1 := w1) (l := [ln]) k1 o1)
                          have HHI := Lib.hid HL2.out.hi
                          go_upto_region 27 with (at_builtin; refine wpList_append_sl rfl elemStr rfl rfl (n := xl.length) (xs := strL xl) (HL2.out.ol.alloc _) rfl (Reads.of_blk (n := 1) (size := 1) (xs := strL [ln]) (heap_alloc_new _ _) rfl rfl) (strL_one [ln]) (by unfold maxLen; omega) (by omega) (by have := HHI.out; simp; omega) ?_; intro A7 c7 w7 o7 k7; obtain ⟨g1, g2, g3, g4⟩ := HLN.out A7 c7 w7 o7 k7; have g1 : w7.cell? ⟨g, ini.length * 4 + 3, none⟩ = some (.slice LA xl.length lc) := g1; have HL3 := Lib.hid g3; have HB3 := Lib.hid ((HB2.out.alloc hz2 _).trans (g4.below (Nat.le_refl _) (by simp; omega) (by simp))); clear o7 k7 g3 g4 f1)
                          clear g1 g2
                          have e1 : xl.length + [ln].length = xl.length + 1 := rfl
                          rw [show (⟨xa, xb, xe, xl⟩ : HkQ).ls.length + [ln].length = xl.length + 1 from rfl] at HL3 HB3
                          generalize w7.setCell ⟨g, ini.length * 4 + 3, none⟩ (.slice A7 (xl.length + 1) c7) = w3 at *
                          have hz3 : z ≤ w3.heap.size := by have := HB3.out.size; omega
                          have hxl1 : (xl ++ [ln]).length ≤ 100001 := by simp; omega
                          clear e1 HLN HHI
                          have HL3 := Lib.hid (show HQ w3 z bk (some ⟨g, 0, none⟩) cp ini tv ⟨xa, xb, xe, xl ++ [ln]⟩ EA ec A7 c7 from HL3.out)
                          rcases List.eq_nil_or_concat xe with hed | ⟨es, ⟨o, k⟩, hed⟩
                          · subst hed
                            obtain ⟨f2c, -⟩ := HL3.out.at_ 2 (by omega) _ rfl
                            have f2c : w3.cell? ⟨g, ini.length * 4 + 2, none⟩ = some (.slice EA 0 ec) := f2c
                            have HAP := Lib.hid (show addP [] 0 = [⟨0, 1⟩] from rfl)
                            have HHI2 := Lib.hid HL3.out.hi
                            have HQE := Lib.hid (show ∀ A1 c1 w1, Own w1 bk 67 2 A1 (0 + 1) c1 ([] ++ edL ⟨0, 1⟩) → Kept bk [67] [] (w3.alloc (.cells #[.int .i64 0, .int .i64 1] 67)) w1 →
                                w1.cell? ⟨g, ini.length * 4 + 2, none⟩ = some (.slice EA 0 ec) ∧ w1.frozen? ⟨g, ini.length * 4 + 2, none⟩ = false ∧ HQ (w1.setCell ⟨g, ini.length * 4 + 2, none⟩ (.slice A1 1 c1)) z bk (some ⟨g, 0, none⟩) cp ini tv ⟨xa, xb, [⟨0, 1⟩], xl ++ [ln]⟩ A1 c1 A7 c7 ∧
                                Kept z E3 [] (w3.alloc (.cells #[.int .i64 0, .int .i64 1] 67)) (w1.setCell ⟨g, ini.length * 4 + 2, none⟩ (.slice A1 1 c1)) from fun A1 c1 w1 o1 k1 =>
                              (HL3.out.keepN ((Keep.refl _ _).alloc (.cells #[.int .i64 0, .int .i64 1] 67))).eds (A1 := A1) (c1 := c1) (w1 := w1) (e := ⟨0, 1⟩) k1 o1)
                            have HOE := Lib.hid (show ∀ W, W = w3.alloc (.cells #[.int .i64 0, .int .i64 1] 67) → Own W bk 67 2 EA 0 ec [] from fun W hW => by rw [hW]; exact HL3.out.oe.alloc _)
                            go_wp2_with (at_builtin; refine wpList_append_sl rfl elemEdit rfl rfl (n := 0) (xs := []) (HOE.out _ rfl) rfl (Reads.of_blk (n := 1) (xs := edL ⟨0, 1⟩) (heap_alloc_new _ _) rfl rfl) (edL_one ⟨0, 1⟩) (by unfold maxLen; omega) (by omega) (by have := HHI2.out; simp; omega) ?_; intro A6 c6 w6 o6 k6; obtain ⟨g1, g2, g3, g4⟩ := HQE.out A6 c6 w6 o6 k6; have HL7 := Lib.hid g3; have HB7 := Lib.hid ((HB3.out.alloc hz3 _).trans (g4.below (Nat.le_refl _) (by simp; omega) (by simp))); clear o6 k6 g3 g4 f2c)
                            go_roundw
                            case rel => exact ⟨i + 1 + 1, addQ (ini ++ [⟨xa, xb, [], xl⟩]) 0 ln, some ⟨g, 0, none⟩, cp, by rw [addQ_snoc]; simp, by go_num, by omega, HY, .inr ⟨ini, tv, addLn ⟨xa, xb, [], xl⟩ 0 ln, _, _, _, _, bk, addQ_snoc _ _ _ _, by have := HL7.out; simpa [addLn, HAP.out] using this⟩, HB7.out, HBN.out⟩
                            case measure => simp [intOf]; omega
                          · rw [List.concat_eq_append] at hed
                            subst hed
                            obtain ⟨ge, hEA, _⟩ := HL3.out.oe.adrn (by simp)
                            subst hEA
                            obtain ⟨f2c, -⟩ := HL3.out.at_ 2 (by omega) _ rfl
                            have f2d : w3.cell? ⟨g, ini.length * 4 + 2, none⟩ = some (.slice (some ⟨ge, 0, none⟩) (es.length + 1) ec) := by simpa using f2c
                            obtain ⟨i1, i2, fo, fk, fz⟩ := HL3.out.inc
                            have hkb : k ≤ xl.length := HEN.out ⟨o, k⟩ (by simp)
                            have heb : es.length + 1 ≤ 100000 := by simpa using heb
                            have hn0 : (0 : Int) < (es.length : Int) + 1 := by omega
                            clear f2c
                            by_cases hoo : o = 0
                            · obtain rfl : o = 0 := hoo
                              have HAP := Lib.hid (show addP (es ++ [⟨0, k⟩]) 0 = es ++ [⟨0, k + 1⟩] from by rw [addP_snoc, if_pos rfl])
                              have ek : ((k + 1 : Nat) : Int) = (k : Int) + 1 := by omega
                              rw [ek] at i1 i2
                              have HL7 := Lib.hid i1
                              have HB7 := Lib.hid (HB3.out.trans (i2.below (Nat.le_refl _) hz3 (by simp)))
                              clear i1 i2 ek
                              go_wp2_with fail
                              go_roundw
                              case rel => exact ⟨i + 1 + 1, addQ (ini ++ [⟨xa, xb, es ++ [⟨0, k⟩], xl⟩]) 0 ln, some ⟨g, 0, none⟩, cp, by rw [addQ_snoc]; simp, by go_num, by omega, HY, .inr ⟨ini, tv, addLn ⟨xa, xb, es ++ [⟨0, k⟩], xl⟩ 0 ln, _, _, _, _, bk, addQ_snoc _ _ _ _, by have := HL7.out; simpa [addLn, HAP.out] using this⟩, HB7.out, HBN.out⟩
                              case measure => simp [intOf]; omega
                            · have HAP := Lib.hid (show addP (es ++ [⟨o, k⟩]) 0 = es ++ [⟨o, k⟩] ++ [⟨0, 1⟩] from by rw [addP_snoc, if_neg hoo])
                              have hob : ((o : Int) == 0) = false := by rw [beq_eq_false_iff_ne]; omega
                              have hoc : ¬ ((o : Int) = 0) := by omega
                              clear i1 i2 fz
                              have HQE := Lib.hid (show ∀ A1 c1 w1, Own w1 bk 67 2 A1 (es.length + 1 + 1) c1 (edLs (es ++ [⟨o, k⟩]) ++ edL ⟨0, 1⟩) → Kept bk [67] [] (w3.alloc (.cells #[.int .i64 0, .int .i64 1] 67)) w1 →
                                  w1.cell? ⟨g, ini.length * 4 + 2, none⟩ = some (.slice (some ⟨ge, 0, none⟩) (es.length + 1) ec) ∧ w1.frozen? ⟨g, ini.length * 4 + 2, none⟩ = false ∧ HQ (w1.setCell ⟨g, ini.length * 4 + 2, none⟩ (.slice A1 (es.length + 1 + 1) c1)) z bk (some ⟨g, 0, none⟩) cp ini tv ⟨xa, xb, es ++ [⟨o, k⟩] ++ [⟨0, 1⟩], xl ++ [ln]⟩ A1 c1 A7 c7 ∧
                                  Kept z E3 [] (w3.alloc (.cells #[.int .i64 0, .int .i64 1] 67)) (w1.setCell ⟨g, ini.length * 4 + 2, none⟩ (.slice A1 (es.length + 1 + 1) c1)) from fun A1 c1 w1 o1 k1 => by
                                have hL : (⟨xa, xb, es ++ [⟨o, k⟩], xl ++ [ln]⟩ : HkQ).eds.length = es.length + 1 := by simp
                                have := (HL3.out.keepN ((Keep.refl _ _).alloc (.cells #[.int .i64 0, .int .i64 1] 67))).eds (A1 := A1) (c1 := c1) (w1 := w1) (e := ⟨0, 1⟩) k1 (by rw [hL]; show Own w1 bk 67 2 A1 (es.length + 1 + 1) c1 (edLs ((es ++ [⟨o, k⟩]) ++ [⟨0, 1⟩])); rw [edLs_snoc]; exact o1)
                                rw [hL] at this
                                exact this)
                              have HHI2 := Lib.hid HL3.out.hi
                              have HOE := Lib.hid (show ∀ W, W = w3.alloc (.cells #[.int .i64 0, .int .i64 1] 67) → Own W bk 67 2 (some ⟨ge, 0, none⟩) (es.length + 1) ec (edLs (es ++ [⟨o, k⟩])) from fun W hW => by have := HL3.out.oe.alloc (.cells #[.int .i64 0, .int .i64 1] 67); rw [hW]; simpa using this)
                              go_wp2_with (at_builtin; refine wpList_append_sl rfl elemEdit rfl rfl (n := es.length + 1) (xs := edLs (es ++ [⟨o, k⟩])) (HOE.out _ rfl) rfl (Reads.of_blk (n := 1) (xs := edL ⟨0, 1⟩) (heap_alloc_new _ _) rfl rfl) (edL_one ⟨0, 1⟩) (by unfold maxLen; omega) (by omega) (by have := HHI2.out; first | (simp; omega) | simp) ?_; intro A6 c6 w6 o6 k6; obtain ⟨g1, g2, g3, g4⟩ := HQE.out A6 c6 w6 o6 k6; have HL7 := Lib.hid g3; have HB7 := Lib.hid ((HB3.out.alloc hz3 _).trans (g4.below (Nat.le_refl _) (by first | (simp; omega) | simp) (by simp))); clear o6 k6 g3 g4 f2d fo fk)
                              go_roundw
                              case rel => exact ⟨i + 1 + 1, addQ (ini ++ [⟨xa, xb, es ++ [⟨o, k⟩], xl⟩]) 0 ln, some ⟨g, 0, none⟩, cp, by rw [addQ_snoc]; simp, by go_num, by omega, HY, .inr ⟨ini, tv, addLn ⟨xa, xb, es ++ [⟨o, k⟩], xl⟩ 0 ln, _, _, _, _, bk, addQ_snoc _ _ _ _, by have := HL7.out; simpa [addLn, HAP.out] using this⟩, HB7.out, HBN.out⟩
                              case measure => simp [intOf]; omega
                      case false =>
                        have HNK := Lib.hid (of_decide_eq_false HLK.out)
                        have HY := Lib.hid (show readR (L.drop (i + 1)) (addQ (ini ++ [⟨xa, xb, xe, xl⟩]) 0 y) = RES from by
                          rw [HLIN.out, if_neg HNK.out])
                        have HBN := Lib.hid (HBND.out.add (op := 0) (k' := L.length - (i + 1)) (by omega) (show y.length ≤ s.length + 1 by omega))
                        clear HBND HLIN HREAD
                        go_upto_region 26 with fail
                        clear hx1 hx4
                        generalize y = ln at *
                        as_aux_lemma =>
                          obtain ⟨f1, -⟩ := HL2.out.at_ 3 (by omega) _ rfl
                          have f1 : wr.cell? ⟨g, ini.length * 4 + 3, none⟩ = some (.slice LA xl.length lc) := f1
                          have HLN := Lib.hid (fun A1 c1 w1 o1 k1 => (HL2.out.keepN ((Keep.refl _ _).alloc (.cells #[.string ⟨ln.toArray⟩] 9))).lns (A1 := A1) (c1 := c1) (w1 := w1) (l := [ln]) k1 o1)
                          have HHI := Lib.hid HL2.out.hi
                          go_upto_region 27 with (at_builtin; refine wpList_append_sl rfl elemStr rfl rfl (n := xl.length) (xs := strL xl) (HL2.out.ol.alloc _) rfl (Reads.of_blk (n := 1) (size := 1) (xs := strL [ln]) (heap_alloc_new _ _) rfl rfl) (strL_one [ln]) (by unfold maxLen; omega) (by omega) (by have := HHI.out; simp; omega) ?_; intro A7 c7 w7 o7 k7; obtain ⟨g1, g2, g3, g4⟩ := HLN.out A7 c7 w7 o7 k7; have g1 : w7.cell? ⟨g, ini.length * 4 + 3, none⟩ = some (.slice LA xl.length lc) := g1; have HL3 := Lib.hid g3; have HB3 := Lib.hid ((HB2.out.alloc hz2 _).trans (g4.below (Nat.le_refl _) (by simp; omega) (by simp))); clear o7 k7 g3 g4 f1)
                          clear g1 g2
                          have e1 : xl.length + [ln].length = xl.length + 1 := rfl
                          rw [show (⟨xa, xb, xe, xl⟩ : HkQ).ls.length + [ln].length = xl.length + 1 from rfl] at HL3 HB3
                          generalize w7.setCell ⟨g, ini.length * 4 + 3, none⟩ (.slice A7 (xl.length + 1) c7) = w3 at *
                          have hz3 : z ≤ w3.heap.size := by have := HB3.out.size; omega
                          have hxl1 : (xl ++ [ln]).length ≤ 100001 := by simp; omega
                          clear e1 HLN HHI
                          have HL3 := Lib.hid (show HQ w3 z bk (some ⟨g, 0, none⟩) cp ini tv ⟨xa, xb, xe, xl ++ [ln]⟩ EA ec A7 c7 from HL3.out)
                          rcases List.eq_nil_or_concat xe with hed | ⟨es, ⟨o, k⟩, hed⟩
                          · subst hed
                            obtain ⟨f2c, -⟩ := HL3.out.at_ 2 (by omega) _ rfl
                            have f2c : w3.cell? ⟨g, ini.length * 4 + 2, none⟩ = some (.slice EA 0 ec) := f2c
                            have HAP := Lib.hid (show addP [] 0 = [⟨0, 1⟩] from rfl)
                            have HHI2 := Lib.hid HL3.out.hi
                            have HQE := Lib.hid (show ∀ A1 c1 w1, Own w1 bk 67 2 A1 (0 + 1) c1 ([] ++ edL ⟨0, 1⟩) → Kept bk [67] [] (w3.alloc (.cells #[.int .i64 0, .int .i64 1] 67)) w1 →
                                w1.cell? ⟨g, ini.length * 4 + 2, none⟩ = some (.slice EA 0 ec) ∧ w1.frozen? ⟨g, ini.length * 4 + 2, none⟩ = false ∧ HQ (w1.setCell ⟨g, ini.length * 4 + 2, none⟩ (.slice A1 1 c1)) z bk (some ⟨g, 0, none⟩) cp ini tv ⟨xa, xb, [⟨0, 1⟩], xl ++ [ln]⟩ A1 c1 A7 c7 ∧
                                Kept z E3 [] (w3.alloc (.cells #[.int .i64 0, .int .i64 1] 67)) (w1.setCell ⟨g, ini.length * 4 + 2, none⟩ (.slice A1 1 c1)) from fun A1 c1 w1 o1 k1 =>
                              (HL3.out.keepN ((Keep.refl _ _).alloc (.cells #[.int .i64 0, .int .i64 1] 67))).eds (A1 := A1) (c1 := c1) (w1 := w1) (e := ⟨0, 1⟩) k1 o1)
                            have HOE := Lib.hid (show ∀ W, W = w3.alloc (.cells #[.int .i64 0, .int .i64 1] 67) → Own W bk 67 2 EA 0 ec [] from fun W hW => by rw [hW]; exact HL3.out.oe.alloc _)
                            go_wp2_with (at_builtin; refine wpList_append_sl rfl elemEdit rfl rfl (n := 0) (xs := []) (HOE.out _ rfl) rfl (Reads.of_blk (n := 1) (xs := edL ⟨0, 1⟩) (heap_alloc_new _ _) rfl rfl) (edL_one ⟨0, 1⟩) (by unfold maxLen; omega) (by omega) (by have := HHI2.out; simp; omega) ?_; intro A6 c6 w6 o6 k6; obtain ⟨g1, g2, g3, g4⟩ := HQE.out A6 c6 w6 o6 k6; have HL7 := Lib.hid g3; have HB7 := Lib.hid ((HB3.out.alloc hz3 _).trans (g4.below (Nat.le_refl _) (by simp; omega) (by simp))); clear o6 k6 g3 g4 f2c)
                            go_roundw
                            case rel => exact ⟨i + 1, addQ (ini ++ [⟨xa, xb, [], xl⟩]) 0 ln, some ⟨g, 0, none⟩, cp, by rw [addQ_snoc]; simp, by go_num, by omega, HY, .inr ⟨ini, tv, addLn ⟨xa, xb, [], xl⟩ 0 ln, _, _, _, _, bk, addQ_snoc _ _ _ _, by have := HL7.out; simpa [addLn, HAP.out] using this⟩, HB7.out, HBN.out⟩
                            case measure => simp [intOf]; omega
                          · rw [List.concat_eq_append] at hed
                            subst hed
                            obtain ⟨ge, hEA, _⟩ := HL3.out.oe.adrn (by simp)
                            subst hEA
                            obtain ⟨f2c, -⟩ := HL3.out.at_ 2 (by omega) _ rfl
                            have f2d : w3.cell? ⟨g, ini.length * 4 + 2, none⟩ = some (.slice (some ⟨ge, 0, none⟩) (es.length + 1) ec) := by simpa using f2c
                            obtain ⟨i1, i2, fo, fk, fz⟩ := HL3.out.inc
                            have hkb : k ≤ xl.length := HEN.out ⟨o, k⟩ (by simp)
                            have heb : es.length + 1 ≤ 100000 := by simpa using heb
                            have hn0 : (0 : Int) < (es.length : Int) + 1 := by omega
                            clear f2c
                            by_cases hoo : o = 0
                            · obtain rfl : o = 0 := hoo
                              have HAP := Lib.hid (show addP (es ++ [⟨0, k⟩]) 0 = es ++ [⟨0, k + 1⟩] from by rw [addP_snoc, if_pos rfl])
                              have ek : ((k + 1 : Nat) : Int) = (k : Int) + 1 := by omega
                              rw [ek] at i1 i2
                              have HL7 := Lib.hid i1
                              have HB7 := Lib.hid (HB3.out.trans (i2.below (Nat.le_refl _) hz3 (by simp)))
                              clear i1 i2 ek
                              go_wp2_with fail
                              go_roundw
                              case rel => exact ⟨i + 1, addQ (ini ++ [⟨xa, xb, es ++ [⟨0, k⟩], xl⟩]) 0 ln, some ⟨g, 0, none⟩, cp, by rw [addQ_snoc]; simp, by go_num, by omega, HY, .inr ⟨ini, tv, addLn ⟨xa, xb, es ++ [⟨0, k⟩], xl⟩ 0 ln, _, _, _, _, bk, addQ_snoc _ _ _ _, by have := HL7.out; simpa [addLn, HAP.out] using this⟩, HB7.out, HBN.out⟩
                              case measure => simp [intOf]; omega
                            · have HAP := Lib.hid (show addP (es ++ [⟨o, k⟩]) 0 = es ++ [⟨o, k⟩] ++ [⟨0, 1⟩] from by rw [addP_snoc, if_neg hoo])
                              have hob : ((o : Int) == 0) = false := by rw [beq_eq_false_iff_ne]; omega
                              have hoc : ¬ ((o : Int) = 0) := by omega
                              clear i1 i2 fz
                              have HQE := Lib.hid (show ∀ A1 c1 w1, Own w1 bk 67 2 A1 (es.length + 1 + 1) c1 (edLs (es ++ [⟨o, k⟩]) ++ edL ⟨0, 1⟩) → Kept bk [67] [] (w3.alloc (.cells #[.int .i64 0, .int .i64 1] 67)) w1 →
                                  w1.cell? ⟨g, ini.length * 4 + 2, none⟩ = some (.slice (some ⟨ge, 0, none⟩) (es.length + 1) ec) ∧ w1.frozen? ⟨g, ini.length * 4 + 2, none⟩ = false ∧ HQ (w1.setCell ⟨g, ini.length * 4 + 2, none⟩ (.slice A1 (es.length + 1 + 1) c1)) z bk (some ⟨g, 0, none⟩) cp ini tv ⟨xa, xb, es ++ [⟨o, k⟩] ++ [⟨0, 1⟩], xl ++ [ln]⟩ A1 c1 A7 c7 ∧
                                  Kept z E3 [] (w3.alloc (.cells #[.int .i64 0, .int .i64 1] 67)) (w1.setCell ⟨g, ini.length * 4 + 2, none⟩ (.slice A1 (es.length + 1 + 1) c1)) from fun A1 c1 w1 o1 k1 => by
                                have hL : (⟨xa, xb, es ++ [⟨o, k⟩], xl ++ [ln]⟩ : HkQ).eds.length = es.length + 1 := by simp
                                have := (HL3.out.keepN ((Keep.refl _ _).alloc (.cells #[.int .i64 0, .int .i64 1] 67))).eds (A1 := A1) (c1 := c1) (w1 := w1) (e := ⟨0, 1⟩) k1 (by rw [hL]; show Own w1 bk 67 2 A1 (es.length + 1 + 1) c1 (edLs ((es ++ [⟨o, k⟩]) ++ [⟨0, 1⟩])); rw [edLs_snoc]; exact o1)
                                rw [hL] at this
                                exact this)
                              have HHI2 := Lib.hid HL3.out.hi
                              have HOE := Lib.hid (show ∀ W, W = w3.alloc (.cells #[.int .i64 0, .int .i64 1] 67) → Own W bk 67 2 (some ⟨ge, 0, none⟩) (es.length + 1) ec (edLs (es ++ [⟨o, k⟩])) from fun W hW => by have := HL3.out.oe.alloc (.cells #[.int .i64 0, .int .i64 1] 67); rw [hW]; simpa using this)
                              go_wp2_with (at_builtin; refine wpList_append_sl rfl elemEdit rfl rfl (n := es.length + 1) (xs := edLs (es ++ [⟨o, k⟩])) (HOE.out _ rfl) rfl (Reads.of_blk (n := 1) (xs := edL ⟨0, 1⟩) (heap_alloc_new _ _) rfl rfl) (edL_one ⟨0, 1⟩) (by unfold maxLen; omega) (by omega) (by have := HHI2.out; first | (simp; omega) | simp) ?_; intro A6 c6 w6 o6 k6; obtain ⟨g1, g2, g3, g4⟩ := HQE.out A6 c6 w6 o6 k6; have HL7 := Lib.hid g3; have HB7 := Lib.hid ((HB3.out.alloc hz3 _).trans (g4.below (Nat.le_refl _) (by first | (simp; omega) | simp) (by simp))); clear o6 k6 g3 g4 f2d fo fk)
                              go_roundw
                              case rel => exact ⟨i + 1, addQ (ini ++ [⟨xa, xb, es ++ [⟨o, k⟩], xl⟩]) 0 ln, some ⟨g, 0, none⟩, cp, by rw [addQ_snoc]; simp, by go_num, by omega, HY, .inr ⟨ini, tv, addLn ⟨xa, xb, es ++ [⟨o, k⟩], xl⟩ 0 ln, _, _, _, _, bk, addQ_snoc _ _ _ _, by have := HL7.out; simpa [addLn, HAP.out] using this⟩, HB7.out, HBN.out⟩
                              case measure => simp [intOf]; omega
                · as_aux_lemma =>
                    go_upto_region 15 with (go_at_call 49; refine (HST.out _).mono ?_; rintro _ wr ⟨rfl, rfl⟩)
                    go_upto_region 23 with fail
                    go_cut [113] from 94 to 113 (fun s113 wx => s113 = .bool lk ∧ wr = wx)
                    case first =>
                      by_cases hA : i + 1 < L.length
                      · obtain ⟨n, hn⟩ : ∃ n, L[i + 1]? = some n := ⟨_, List.getElem?_eq_getElem hA⟩
                        have d2 : wr.cell? ⟨gl, ol + (i + 1), none⟩ = some (.string ⟨n.toArray⟩) := HCL.out (i + 1) _ (strL_at' hn)
                        have hAI : (i : Int) + 1 < (L.length : Int) := by omega
                        have hdI : decide ((i : Int) + 1 < (L.length : Int)) = true := decide_eq_true hAI
                        have hnn : (0 : Int) ≤ (i : Int) + 1 := by omega
                        have HLK2 := Lib.hid (show decide (n = [92, 10] ∧ y ≠ []) = lk from by
                          rw [← HLK.out]
                          refine decide_eq_decide.2 ?_
                          rw [List.head?_drop, hn, Option.some.injEq])
                        clear hn
                        by_cases hB : n = [92, 10]
                        · by_cases hy : y = []
                          · have hlf : lk = false := by rw [← HLK2.out]; simp [hy]
                            subst hy
                            subst hB
                            subst hlf
                            go_wp2_with fail
                            go_meet
                            exact ⟨rfl, rfl⟩
                          · have hlf : lk = true := by rw [← HLK2.out]; simp [hB, hy]
                            have hyp : 0 < y.length := List.length_pos_iff.2 hy
                            have hyI : (0 : Int) < (y.length : Int) := by omega
                            have hyd : decide (0 < y.length) = true := decide_eq_true hyp
                            have hyD : decide ((0 : Int) < (y.length : Int)) = true := decide_eq_true hyI
                            subst hB
                            subst hlf
                            clear hy
                            go_wp2_with fail
                            go_meet
                            exact ⟨rfl, rfl⟩
                        · have hlf : lk = false := by rw [← HLK2.out]; simp [hB]
                          have hne : (n == [92, 10]) = false := by simpa using hB
                          subst hlf
                          clear hB
                          go_wp2_with fail
                          go_meet
                          exact ⟨rfl, rfl⟩
                      · have hlf : lk = false := by
                          rw [← HLK.out]
                          have : L.drop (i + 1) = [] := List.drop_of_length_le (by omega)
                          rw [this]
                          simp
                        have hAI : ¬ ((i : Int) + 1 < (L.length : Int)) := by omega
                        have hdI : decide ((i : Int) + 1 < (L.length : Int)) = false := decide_eq_false hAI
                        subst hlf
                        go_wp2_with fail
                        go_meet
                        exact ⟨rfl, rfl⟩
                    case rest =>
                      obtain ⟨rfl, rfl⟩ := hcut
                      cases lk
                      case true =>
                        obtain ⟨hl1, hl2⟩ := of_decide_eq_true HLK.out
                        have hyp : 0 < y.length := List.length_pos_iff.2 hl2
                        have hA : i + 1 < L.length := by
                          rcases Nat.lt_or_ge (i + 1) L.length with q | q
                          · exact q
                          · rw [List.drop_of_length_le q] at hl1; simp at hl1
                        have hwy : IntKind.i64.wrap ((y.length : Int) - 1) = ((y.length - 1 : Nat) : Int) := by rw [IntWalk.i64_in _ (by omega)]; omega
                        have hy0 : (0 : Int) ≤ ((y.length - 1 : Nat) : Int) := Int.natCast_nonneg _
                        have hy1 : ((y.length - 1 : Nat) : Int) ≤ (y.length : Int) := by omega
                        have HY := Lib.hid (show readR (L.drop (i + 1 + 1)) (addQ (ini ++ [⟨xa, xb, xe, xl⟩]) 1 y.dropLast) = RES from by
                          rw [HLIN.out, if_pos ⟨hl1, hl2⟩, List.tail_drop])
                        have hyd : y.dropLast.length ≤ s.length + 1 := by rw [List.length_dropLast]; omega
                        have HBN := Lib.hid (HBND.out.add (op := 1) (k' := L.length - (i + 1 + 1)) (by omega) hyd)
                        clear hl1 hl2 HBND HLIN HREAD
                        go_upto_region 26 with fail
                        generalize y.dropLast = ln at *
                        as_aux_lemma =>
                          obtain ⟨f1, -⟩ := HL2.out.at_ 3 (by omega) _ rfl
                          have f1 : wr.cell? ⟨g, ini.length * 4 + 3, none⟩ = some (.slice LA xl.length lc) := f1
                          have HLN := Lib.hid (fun A1 c1 w1 o1 k1 => (HL2.out.keepN ((Keep.refl _ _).alloc (.cells #[.string ⟨ln.toArray⟩] 9))).lns (A1 := A1) (c1 := c1) (w1 := w1) (l := [ln]) k1 o1)
                          have HHI := Lib.hid HL2.out.hi
                          go_upto_region 27 with (at_builtin; refine wpList_append_sl rfl elemStr rfl rfl (n := xl.length) (xs := strL xl) (HL2.out.ol.alloc _) rfl (Reads.of_blk (n := 1) (size := 1) (xs := strL [ln]) (heap_alloc_new _ _) rfl rfl) (strL_one [ln]) (by unfold maxLen; omega) (by omega) (by have := HHI.out; simp; omega) ?_; intro A7 c7 w7 o7 k7; obtain ⟨g1, g2, g3, g4⟩ := HLN.out A7 c7 w7 o7 k7; have g1 : w7.cell? ⟨g, ini.length * 4 + 3, none⟩ = some (.slice LA xl.length lc) := g1; have HL3 := Lib.hid g3; have HB3 := Lib.hid ((HB2.out.alloc hz2 _).trans (g4.below (Nat.le_refl _) (by simp; omega) (by simp))); clear o7 k7 g3 g4 f1)
                          clear g1 g2
                          have e1 : xl.length + [ln].length = xl.length + 1 := rfl
                          rw [show (⟨xa, xb, xe, xl⟩ : HkQ).ls.length + [ln].length = xl.length + 1 from rfl] at HL3 HB3
                          generalize w7.setCell ⟨g, ini.length * 4 + 3, none⟩ (.slice A7 (xl.length + 1) c7) = w3 at *
                          have hz3 : z ≤ w3.heap.size := by have := HB3.out.size; omega
                          have hxl1 : (xl ++ [ln]).length ≤ 100001 := by simp; omega
                          clear e1 HLN HHI
                          have HL3 := Lib.hid (show HQ w3 z bk (some ⟨g, 0, none⟩) cp ini tv ⟨xa, xb, xe, xl ++ [ln]⟩ EA ec A7 c7 from HL3.out)
                          rcases List.eq_nil_or_concat xe with hed | ⟨es, ⟨o, k⟩, hed⟩
                          · subst hed
                            obtain ⟨f2c, -⟩ := HL3.out.at_ 2 (by omega) _ rfl
                            have f2c : w3.cell? ⟨g, ini.length * 4 + 2, none⟩ = some (.slice EA 0 ec) := f2c
                            have HAP := Lib.hid (show addP [] 1 = [⟨1, 1⟩] from rfl)
                            have HHI2 := Lib.hid HL3.out.hi
                            have HQE := Lib.hid (show ∀ A1 c1 w1, Own w1 bk 67 2 A1 (0 + 1) c1 ([] ++ edL ⟨1, 1⟩) → Kept bk [67] [] (w3.alloc (.cells #[.int .i64 1, .int .i64 1] 67)) w1 →
                                w1.cell? ⟨g, ini.length * 4 + 2, none⟩ = some (.slice EA 0 ec) ∧ w1.frozen? ⟨g, ini.length * 4 + 2, none⟩ = false ∧ HQ (w1.setCell ⟨g, ini.length * 4 + 2, none⟩ (.slice A1 1 c1)) z bk (some ⟨g, 0, none⟩) cp ini tv ⟨xa, xb, [⟨1, 1⟩], xl ++ [ln]⟩ A1 c1 A7 c7 ∧
                                Kept z E3 [] (w3.alloc (.cells #[.int .i64 1, .int .i64 1] 67)) (w1.setCell ⟨g, ini.length * 4 + 2, none⟩ (.slice A1 1 c1)) from fun A1 c1 w1 o1 k1 =>
                              (HL3.out.keepN ((Keep.refl _ _).alloc (.cells #[.int .i64 1, .int .i64 1] 67))).eds (A1 := A1) (c1 := c1) (w1 := w1) (e := ⟨1, 1⟩) k1 o1)
                            have HOE := Lib.hid (show ∀ W, W = w3.alloc (.cells #[.int .i64 1, .int .i64 1] 67) → Own W bk 67 2 EA 0 ec [] from fun W hW => by rw [hW]; exact HL3.out.oe.alloc _)
                            go_wp2_with (at_builtin; refine wpList_append_sl rfl elemEdit rfl rfl (n := 0) (xs := []) (HOE.out _ rfl) rfl (Reads.of_blk (n := 1) (xs := edL ⟨1, 1⟩) (heap_alloc_new _ _) rfl rfl) (edL_one ⟨1, 1⟩) (by unfold maxLen; omega) (by omega) (by have := HHI2.out; simp; omega) ?_; intro A6 c6 w6 o6 k6; obtain ⟨g1, g2, g3, g4⟩ := HQE.out A6 c6 w6 o6 k6; have HL7 := Lib.hid g3; have HB7 := Lib.hid ((HB3.out.alloc hz3 _).trans (g4.below (Nat.le_refl _) (by simp; omega) (by simp))); clear o6 k6 g3 g4 f2c)
                            go_roundw
                            case rel => exact ⟨i + 1 + 1, addQ (ini ++ [⟨xa, xb, [], xl⟩]) 1 ln, some ⟨g, 0, none⟩, cp, by rw [addQ_snoc]; simp, by go_num, by omega, HY, .inr ⟨ini, tv, addLn ⟨xa, xb, [], xl⟩ 1 ln, _, _, _, _, bk, addQ_snoc _ _ _ _, by have := HL7.out; simpa [addLn, HAP.out] using this⟩, HB7.out, HBN.out⟩
                            case measure => simp [intOf]; omega
                          · rw [List.concat_eq_append] at hed
                            subst hed
                            obtain ⟨ge, hEA, _⟩ := HL3.out.oe.adrn (by simp)
                            subst hEA
                            obtain ⟨f2c, -⟩ := HL3.out.at_ 2 (by omega) _ rfl
                            have f2d : w3.cell? ⟨g, ini.length * 4 + 2, none⟩ = some (.slice (some ⟨ge, 0, none⟩) (es.length + 1) ec) := by simpa using f2c
                            obtain ⟨i1, i2, fo, fk, fz⟩ := HL3.out.inc
                            have hkb : k ≤ xl.length := HEN.out ⟨o, k⟩ (by simp)
                            have heb : es.length + 1 ≤ 100000 := by simpa using heb
                            have hn0 : (0 : Int) < (es.length : Int) + 1 := by omega
                            clear f2c
                            by_cases hoo : o = 1
                            · obtain rfl : o = 1 := hoo
                              have HAP := Lib.hid (show addP (es ++ [⟨1, k⟩]) 1 = es ++ [⟨1, k + 1⟩] from by rw [addP_snoc, if_pos rfl])
                              have ek : ((k + 1 : Nat) : Int) = (k : Int) + 1 := by omega
                              rw [ek] at i1 i2
                              have HL7 := Lib.hid i1
                              have HB7 := Lib.hid (HB3.out.trans (i2.below (Nat.le_refl _) hz3 (by simp)))
                              clear i1 i2 ek
                              go_wp2_with fail
                              go_roundw
                              case rel => exact ⟨i + 1 + 1, addQ (ini ++ [⟨xa, xb, es ++ [⟨1, k⟩], xl⟩]) 1 ln, some ⟨g, 0, none⟩, cp, by rw [addQ_snoc]; simp, by go_num, by omega, HY, .inr ⟨ini, tv, addLn ⟨xa, xb, es ++ [⟨1, k⟩], xl⟩ 1 ln, _, _, _, _, bk, addQ_snoc _ _ _ _, by have := HL7.out; simpa [addLn, HAP.out] using this⟩, HB7.out, HBN.out⟩
                              case measure => simp [intOf]; omega
                            · have HAP := Lib.hid (show addP (es ++ [⟨o, k⟩]) 1 = es ++ [⟨o, k⟩] ++ [⟨1, 1⟩] from by rw [addP_snoc, if_neg hoo])
                              have hob : ((o : Int) == 1) = false := by rw [beq_eq_false_iff_ne]; omega
                              have hoc : ¬ ((o : Int) = 1) := by omega
                              clear i1 i2 fz
                              have HQE := Lib.hid (show ∀ A1 c1 w1, Own w1 bk 67 2 A1 (es.length + 1 + 1) c1 (edLs (es ++ [⟨o, k⟩]) ++ edL ⟨1, 1⟩) → Kept bk [67] [] (w3.alloc (.cells #[.int .i64 1, .int .i64 1] 67)) w1 →
                                  w1.cell? ⟨g, ini.length * 4 + 2, none⟩ = some (.slice (some ⟨ge, 0, none⟩) (es.length + 1) ec) ∧ w1.frozen? ⟨g, ini.length * 4 + 2, none⟩ = false ∧ HQ (w1.setCell ⟨g, ini.length * 4 + 2, none⟩ (.slice A1 (es.length + 1 + 1) c1)) z bk (some ⟨g, 0, none⟩) cp ini tv ⟨xa, xb, es ++ [⟨o, k⟩] ++ [⟨1, 1⟩], xl ++ [ln]⟩ A1 c1 A7 c7 ∧
                                  Kept z E3 [] (w3.alloc (.cells #[.int .i64 1, .int .i64 1] 67)) (w1.setCell ⟨g, ini.length * 4 + 2, none⟩ (.slice A1 (es.length + 1 + 1) c1)) from fun A1 c1 w1 o1 k1 => by
                                have hL : (⟨xa, xb, es ++ [⟨o, k⟩], xl ++ [ln]⟩ : HkQ).eds.length = es.length + 1 := by simp
                                have := (HL3.out.keepN ((Keep.refl _ _).alloc (.cells #[.int .i64 1, .int .i64 1] 67))).eds (A1 := A1) (c1 := c1) (w1 := w1) (e := ⟨1, 1⟩) k1 (by rw [hL]; show Own w1 bk 67 2 A1 (es.length + 1 + 1) c1 (edLs ((es ++ [⟨o, k⟩]) ++ [⟨1, 1⟩])); rw [edLs_snoc]; exact o1)
                                rw [hL] at this
                                exact this)
                              have HHI2 := Lib.hid HL3.out.hi
                              have HOE := Lib.hid (show ∀ W, W = w3.alloc (.cells #[.int .i64 1, .int .i64 1] 67) → Own W bk 67 2 (some ⟨ge, 0, none⟩) (es.length + 1) ec (edLs (es ++ [⟨o, k⟩])) from fun W hW => by have := HL3.out.oe.alloc (.cells #[.int .i64 1, .int .i64 1] 67); rw [hW]; simpa using this)
                              go_wp2_with (at_builtin; refine wpList_append_sl rfl elemEdit rfl rfl (n := es.length + 1) (xs := edLs (es ++ [⟨o, k⟩])) (HOE.out _ rfl) rfl (Reads.of_blk (n := 1) (xs := edL ⟨1, 1⟩) (heap_alloc_new _ _) rfl rfl) (edL_one ⟨1, 1⟩) (by unfold maxLen; omega) (by omega) (by have := HHI2.out; first | (simp; omega) | simp) ?_; intro A6 c6 w6 o6 k6; obtain ⟨g1, g2, g3, g4⟩ := HQE.out A6 c6 w6 o6 k6; have HL7 := Lib.hid g3; have HB7 := Lib.hid ((HB3.out.alloc hz3 _).trans (g4.below (Nat.le_refl _) (by first | (simp; omega) | simp) (by simp))); clear o6 k6 g3 g4 f2d fo fk)
                              go_roundw
                              case rel => exact ⟨i + 1 + 1, addQ (ini ++ [⟨xa, xb, es ++ [⟨o, k⟩], xl⟩]) 1 ln, some ⟨g, 0, none⟩, cp, by rw [addQ_snoc]; simp, by go_num, by omega, HY, .inr ⟨ini, tv, addLn ⟨xa, xb, es ++ [⟨o, k⟩], xl⟩ 1 ln, _, _, _, _, bk, addQ_snoc _ _ _ _, by have := HL7.out; simpa [addLn, HAP.out] using this⟩, HB7.out, HBN.out⟩
                              case measure => simp [intOf]; omega
                      case false =>
                        have HNK := Lib.hid (of_decide_eq_false HLK.out)
                        have HY := Lib.hid (show readR (L.drop (i + 1)) (addQ (ini ++ [⟨xa, xb, xe, xl⟩]) 1 y) = RES from by
                          rw [HLIN.out, if_neg HNK.out])
                        have HBN := Lib.hid (HBND.out.add (op := 1) (k' := L.length - (i + 1)) (by omega) (show y.length ≤ s.length + 1 by omega))
                        clear HBND HLIN HREAD
                        go_upto_region 26 with fail
                        clear hx1 hx4
                        generalize y = ln at *
                        as_aux_lemma =>
                          obtain ⟨f1, -⟩ := HL2.out.at_ 3 (by omega) _ rfl
                          have f1 : wr.cell? ⟨g, ini.length * 4 + 3, none⟩ = some (.slice LA xl.length lc) := f1
                          have HLN := Lib.hid (fun A1 c1 w1 o1 k1 => (HL2.out.keepN ((Keep.refl _ _).alloc (.cells #[.string ⟨ln.toArray⟩] 9))).lns (A1 := A1) (c1 := c1) (w1 := w1) (l := [ln]) k1 o1)
                          have HHI := Lib.hid HL2.out.hi
                          go_upto_region 27 with (at_builtin; refine wpList_append_sl rfl elemStr rfl rfl (n := xl.length) (xs := strL xl) (HL2.out.ol.alloc _) rfl (Reads.of_blk (n := 1) (size := 1) (xs := strL [ln]) (heap_alloc_new _ _) rfl rfl) (strL_one [ln]) (by unfold maxLen; omega) (by omega) (by have := HHI.out; simp; omega) ?_; intro A7 c7 w7 o7 k7; obtain ⟨g1, g2, g3, g4⟩ := HLN.out A7 c7 w7 o7 k7; have g1 : w7.cell? ⟨g, ini.length * 4 + 3, none⟩ = some (.slice LA xl.length lc) := g1; have HL3 := Lib.hid g3; have HB3 := Lib.hid ((HB2.out.alloc hz2 _).trans (g4.below (Nat.le_refl _) (by simp; omega) (by simp))); clear o7 k7 g3 g4 f1)
                          clear g1 g2
                          have e1 : xl.length + [ln].length = xl.length + 1 := rfl
                          rw [show (⟨xa, xb, xe, xl⟩ : HkQ).ls.length + [ln].length = xl.length + 1 from rfl] at HL3 HB3
                          generalize w7.setCell ⟨g, ini.length * 4 + 3, none⟩ (.slice A7 (xl.length + 1) c7) = w3 at *
                          have hz3 : z ≤ w3.heap.size := by have := HB3.out.size; omega
                          have hxl1 : (xl ++ [ln]).length ≤ 100001 := by simp; omega
                          clear e1 HLN HHI
                          have HL3 := Lib.hid (show HQ w3 z bk (some ⟨g, 0, none⟩) cp ini tv ⟨xa, xb, xe, xl ++ [ln]⟩ EA ec A7 c7 from HL3.out)
                          rcases List.eq_nil_or_concat xe with hed | ⟨es, ⟨o, k⟩, hed⟩
                          · subst hed
                            obtain ⟨f2c, -⟩ := HL3.out.at_ 2 (by omega) _ rfl
                            have f2c : w3.cell? ⟨g, ini.length * 4 + 2, none⟩ = some (.slice EA 0 ec) := f2c
                            have HAP := Lib.hid (show addP [] 1 = [⟨1, 1⟩] from rfl)
                            have HHI2 := Lib.hid HL3.out.hi
                            have HQE := Lib.hid (show ∀ A1 c1 w1, Own w1 bk 67 2 A1 (0 + 1) c1 ([] ++ edL ⟨1, 1⟩) → Kept bk [67] [] (w3.alloc (.cells #[.int .i64 1, .int .i64 1] 67)) w1 →
                                w1.cell? ⟨g, ini.length * 4 + 2, none⟩ = some (.slice EA 0 ec) ∧ w1.frozen? ⟨g, ini.length * 4 + 2, none⟩ = false ∧ HQ (w1.setCell ⟨g, ini.length * 4 + 2, none⟩ (.slice A1 1 c1)) z bk (some ⟨g, 0, none⟩) cp ini tv ⟨xa, xb, [⟨1, 1⟩], xl ++ [ln]⟩ A1 c1 A7 c7 ∧
                                Kept z E3 [] (w3.alloc (.cells #[.int .i64 1, .int .i64 1] 67)) (w1.setCell ⟨g, ini.length * 4 + 2, none⟩ (.slice A1 1 c1)) from fun A1 c1 w1 o1 k1 =>
                              (HL3.out.keepN ((Keep.refl _ _).alloc (.cells #[.int .i64 1, .int .i64 1] 67))).eds (A1 := A1) (c1 := c1) (w1 := w1) (e := ⟨1, 1⟩) k1 o1)
                            have HOE := Lib.hid (show ∀ W, W = w3.alloc (.cells #[.int .i64 1, .int .i64 1] 67) → Own W bk 67 2 EA 0 ec [] from fun W hW => by rw [hW]; exact HL3.out.oe.alloc _)
                            go_wp2_with (at_builtin; refine wpList_append_sl rfl elemEdit rfl rfl (n := 0) (xs := []) (HOE.out _ rfl) rfl (Reads.of_blk (n := 1) (xs := edL ⟨1, 1⟩) (heap_alloc_new _ _) rfl rfl) (edL_one ⟨1, 1⟩) (by unfold maxLen; omega) (by omega) (by have := HHI2.out; simp; omega) ?_; intro A6 c6 w6 o6 k6; obtain ⟨g1, g2, g3, g4⟩ := HQE.out A6 c6 w6 o6 k6; have HL7 := Lib.hid g3; have HB7 := Lib.hid ((HB3.out.alloc hz3 _).trans (g4.below (Nat.le_refl _) (by simp; omega) (by simp))); clear o6 k6 g3 g4 f2c)
                            go_roundw
                            case rel => exact ⟨i + 1, addQ (ini ++ [⟨xa, xb, [], xl⟩]) 1 ln, some ⟨g, 0, none⟩, cp, by rw [addQ_snoc]; simp, by go_num, by omega, HY, .inr ⟨ini, tv, addLn ⟨xa, xb, [], xl⟩ 1 ln, _, _, _, _, bk, addQ_snoc _ _ _ _, by have := HL7.out; simpa [addLn, HAP.out] using this⟩, HB7.out, HBN.out⟩
                            case measure => simp [intOf]; omega
                          · rw [List.concat_eq_append] at hed
                            subst hed
                            obtain ⟨ge, hEA, _⟩ := HL3.out.oe.adrn (by simp)
                            subst hEA
                            obtain ⟨f2c, -⟩ := HL3.out.at_ 2 (by omega) _ rfl
                            have f2d : w3.cell? ⟨g, ini.length * 4 + 2, none⟩ = some (.slice (some ⟨ge, 0, none⟩) (es.length + 1) ec) := by simpa using f2c
                            obtain ⟨i1, i2, fo, fk, fz⟩ := HL3.out.inc
                            have hkb : k ≤ xl.length := HEN.out ⟨o, k⟩ (by simp)
                            have heb : es.length + 1 ≤ 100000 := by simpa using heb
                            have hn0 : (0 : Int) < (es.length : Int) + 1 := by omega
                            clear f2c
                            by_cases hoo : o = 1
                            · obtain rfl : o = 1 := hoo
                              have HAP := Lib.hid (show addP (es ++ [⟨1, k⟩]) 1 = es ++ [⟨1, k + 1⟩] from by rw [addP_snoc, if_pos rfl])
                              have ek : ((k + 1 : Nat) : Int) = (k : Int) + 1 := by omega
                              rw [ek] at i1 i2
                              have HL7 := Lib.hid i1
                              have HB7 := Lib.hid (HB3.out.trans (i2.below (Nat.le_refl _) hz3 (by simp)))
                              clear i1 i2 ek
                              go_wp2_with fail
                              go_roundw
                              case rel => exact ⟨i + 1, addQ (ini ++ [⟨xa, xb, es ++ [⟨1, k⟩], xl⟩]) 1 ln, some ⟨g, 0, none⟩, cp, by rw [addQ_snoc]; simp, by go_num, by omega, HY, .inr ⟨ini, tv, addLn ⟨xa, xb, es ++ [⟨1, k⟩], xl⟩ 1 ln, _, _, _, _, bk, addQ_snoc _ _ _ _, by have := HL7.out; simpa [addLn, HAP.out] using this⟩, HB7.out, HBN.out⟩
                              case measure => simp [intOf]; omega
                            · have HAP := Lib.hid (show addP (es ++ [⟨o, k⟩]) 1 = es ++ [⟨o, k⟩] ++ [⟨1, 1⟩] from by rw [addP_snoc, if_neg hoo])
                              have hob : ((o : Int) == 1) = false := by rw [beq_eq_false_iff_ne]; omega
                              have hoc : ¬ ((o : Int) = 1) := by omega
                              clear i1 i2 fz
                              have HQE := Lib.hid (show ∀ A1 c1 w1, Own w1 bk 67 2 A1 (es.length + 1 + 1) c1 (edLs (es ++ [⟨o, k⟩]) ++ edL ⟨1, 1⟩) → Kept bk [67] [] (w3.alloc (.cells #[.int .i64 1, .int .i64 1] 67)) w1 →
                                  w1.cell? ⟨g, ini.length * 4 + 2, none⟩ = some (.slice (some ⟨ge, 0, none⟩) (es.length + 1) ec) ∧ w1.frozen? ⟨g, ini.length * 4 + 2, none⟩ = false ∧ HQ (w1.setCell ⟨g, ini.length * 4 + 2, none⟩ (.slice A1 (es.length + 1 + 1) c1)) z bk (some ⟨g, 0, none⟩) cp ini tv ⟨xa, xb, es ++ [⟨o, k⟩] ++ [⟨1, 1⟩], xl ++ [ln]⟩ A1 c1 A7 c7 ∧
                                  Kept z E3 [] (w3.alloc (.cells #[.int .i64 1, .int .i64 1] 67)) (w1.setCell ⟨g, ini.length * 4 + 2, none⟩ (.slice A1 (es.length + 1 + 1) c1)) from fun A1 c1 w1 o1 k1 => by
                                have hL : (⟨xa, xb, es ++ [⟨o, k⟩], xl ++ [ln]⟩ : HkQ).eds.length = es.length + 1 := by simp
                                have := (HL3.out.keepN ((Keep.refl _ _).alloc (.cells #[.int .i64 1, .int .i64 1] 67))).eds (A1 := A1) (c1 := c1) (w1 := w1) (e := ⟨1, 1⟩) k1 (by rw [hL]; show Own w1 bk 67 2 A1 (es.length + 1 + 1) c1 (edLs ((es ++ [⟨o, k⟩]) ++ [⟨1, 1⟩])); rw [edLs_snoc]; exact o1)
                                rw [hL] at this
                                exact this)
                              have HHI2 := Lib.hid HL3.out.hi
                              have HOE := Lib.hid (show ∀ W, W = w3.alloc (.cells #[.int .i64 1, .int .i64 1] 67) → Own W bk 67 2 (some ⟨ge, 0, none⟩) (es.length + 1) ec (edLs (es ++ [⟨o, k⟩])) from fun W hW => by have := HL3.out.oe.alloc (.cells #[.int .i64 1, .int .i64 1] 67); rw [hW]; simpa using this)
                              go_wp2_with (at_builtin; refine wpList_append_sl rfl elemEdit rfl rfl (n := es.length + 1) (xs := edLs (es ++ [⟨o, k⟩])) (HOE.out _ rfl) rfl (Reads.of_blk (n := 1) (xs := edL ⟨1, 1⟩) (heap_alloc_new _ _) rfl rfl) (edL_one ⟨1, 1⟩) (by unfold maxLen; omega) (by omega) (by have := HHI2.out; first | (simp; omega) | simp) ?_; intro A6 c6 w6 o6 k6; obtain ⟨g1, g2, g3, g4⟩ := HQE.out A6 c6 w6 o6 k6; have HL7 := Lib.hid g3; have HB7 := Lib.hid ((HB3.out.alloc hz3 _).trans (g4.below (Nat.le_refl _) (by first | (simp; omega) | simp) (by simp))); clear o6 k6 g3 g4 f2d fo fk)
                              go_roundw
                              case rel => exact ⟨i + 1, addQ (ini ++ [⟨xa, xb, es ++ [⟨o, k⟩], xl⟩]) 1 ln, some ⟨g, 0, none⟩, cp, by rw [addQ_snoc]; simp, by go_num, by omega, HY, .inr ⟨ini, tv, addLn ⟨xa, xb, es ++ [⟨o, k⟩], xl⟩ 1 ln, _, _, _, _, bk, addQ_snoc _ _ _ _, by have := HL7.out; simpa [addLn, HAP.out] using this⟩, HB7.out, HBN.out⟩
                              case measure => simp [intOf]; omega
                · as_aux_lemma =>
                    go_upto_region 15 with (go_at_call 49; refine (HST.out _).mono ?_; rintro _ wr ⟨rfl, rfl⟩)
                    go_upto_region 23 with fail
                    go_cut [113] from 94 to 113 (fun s113 wx => s113 = .bool lk ∧ wr = wx)
                    case first =>
                      by_cases hA : i + 1 < L.length
                      · obtain ⟨n, hn⟩ : ∃ n, L[i + 1]? = some n := ⟨_, List.getElem?_eq_getElem hA⟩
                        have d2 : wr.cell? ⟨gl, ol + (i + 1), none⟩ = some (.string ⟨n.toArray⟩) := HCL.out (i + 1) _ (strL_at' hn)
                        have hAI : (i : Int) + 1 < (L.length : Int) := by omega
                        have hdI : decide ((i : Int) + 1 < (L.length : Int)) = true := decide_eq_true hAI
                        have hnn : (0 : Int) ≤ (i : Int) + 1 := by omega
                        have HLK2 := Lib.hid (show decide (n = [92, 10] ∧ y ≠ []) = lk from by
                          rw [← HLK.out]
                          refine decide_eq_decide.2 ?_
                          rw [List.head?_drop, hn, Option.some.injEq])
                        clear hn
                        by_cases hB : n = [92, 10]
                        · by_cases hy : y = []
                          · have hlf : lk = false := by rw [← HLK2.out]; simp [hy]
                            subst hy
                            subst hB
                            subst hlf
                            go_wp2_with fail
                            go_meet
                            exact ⟨rfl, rfl⟩
                          · have hlf : lk = true := by rw [← HLK2.out]; simp [hB, hy]
                            have hyp : 0 < y.length := List.length_pos_iff.2 hy
                            have hyI : (0 : Int) < (y.length : Int) := by omega
                            have hyd : decide (0 < y.length) = true := decide_eq_true hyp
                            have hyD : decide ((0 : Int) < (y.length : Int)) = true := decide_eq_true hyI
                            subst hB
                            subst hlf
                            clear hy
                            go_wp2_with fail
                            go_meet
                            exact ⟨rfl, rfl⟩
                        · have hlf : lk = false := by rw [← HLK2.out]; simp [hB]
                          have hne : (n == [92, 10]) = false := by simpa using hB
                          subst hlf
                          clear hB
                          go_wp2_with fail
                          go_meet
                          exact ⟨rfl, rfl⟩
                      · have hlf : lk = false := by
                          rw [← HLK.out]
                          have : L.drop (i + 1) = [] := List.drop_of_length_le (by omega)
                          rw [this]
                          simp
                        have hAI : ¬ ((i : Int) + 1 < (L.length : Int)) := by omega
                        have hdI : decide ((i : Int) + 1 < (L.length : Int)) = false := decide_eq_false hAI
                        subst hlf
                        go_wp2_with fail
                        go_meet
                        exact ⟨rfl, rfl⟩
                    case rest =>
                      obtain ⟨rfl, rfl⟩ := hcut
                      cases lk
                      case true =>
                        obtain ⟨hl1, hl2⟩ := of_decide_eq_true HLK.out
                        have hyp : 0 < y.length := List.length_pos_iff.2 hl2
                        have hA : i + 1 < L.length := by
                          rcases Nat.lt_or_ge (i + 1) L.length with q | q
                          · exact q
                          · rw [List.drop_of_length_le q] at hl1; simp at hl1
                        have hwy : IntKind.i64.wrap ((y.length : Int) - 1) = ((y.length - 1 : Nat) : Int) := by rw [IntWalk.i64_in _ (by omega)]; omega
                        have hy0 : (0 : Int) ≤ ((y.length - 1 : Nat) : Int) := Int.natCast_nonneg _
                        have hy1 : ((y.length - 1 : Nat) : Int) ≤ (y.length : Int) := by omega
                        have HY := Lib.hid (show readR (L.drop (i + 1 + 1)) (addQ (ini ++ [⟨xa, xb, xe, xl⟩]) 2 y.dropLast) = RES from by
                          rw [HLIN.out, if_pos ⟨hl1, hl2⟩, List.tail_drop])
                        have hyd : y.dropLast.length ≤ s.length + 1 := by rw [List.length_dropLast]; omega
                        have HBN := Lib.hid (HBND.out.add (op := 2) (k' := L.length - (i + 1 + 1)) (by omega) hyd)
                        clear hl1 hl2 HBND HLIN HREAD
                        go_upto_region 26 with fail
                        generalize y.dropLast = ln at *
                        as_aux_lemma =>
                          obtain ⟨f1, -⟩ := HL2.out.at_ 3 (by omega) _ rfl
                          have f1 : wr.cell? ⟨g, ini.length * 4 + 3, none⟩ = some (.slice LA xl.length lc) := f1
                          have HLN := Lib.hid (fun A1 c1 w1 o1 k1 => (HL2.out.keepN ((Keep.refl _ _).alloc (.cells #[.string ⟨ln.toArray⟩] 9))).lns (A1 := A1) (c1 := c1) (w1 := w1) (l := [ln]) k1 o1)
                          have HHI := Lib.hid HL2.out.hi
                          go_upto_region 27 with (at_builtin; refine wpList_append_sl rfl elemStr rfl rfl (n := xl.length) (xs := strL xl) (HL2.out.ol.alloc _) rfl (Reads.of_blk (n := 1) (size := 1) (xs := strL [ln]) (heap_alloc_new _ _) rfl rfl) (strL_one [ln]) (by unfold maxLen; omega) (by omega) (by have := HHI.out; simp; omega) ?_; intro A7 c7 w7 o7 k7; obtain ⟨g1, g2, g3, g4⟩ := HLN.out A7 c7 w7 o7 k7; have g1 : w7.cell? ⟨g, ini.length * 4 + 3, none⟩ = some (.slice LA xl.length lc) := g1; have HL3 := Lib.hid g3; have HB3 := Lib.hid ((HB2.out.alloc hz2 _).trans (g4.below (Nat.le_refl _) (by simp; omega) (by simp))); clear o7 k7 g3 g4 f1)
                          clear g1 g2
                          have e1 : xl.length + [ln].length = xl.length + 1 := rfl
                          rw [show (⟨xa, xb, xe, xl⟩ : HkQ).ls.length + [ln].length = xl.length + 1 from rfl] at HL3 HB3
                          generalize w7.setCell ⟨g, ini.length * 4 + 3, none⟩ (.slice A7 (xl.length + 1) c7) = w3 at *
                          have hz3 : z ≤ w3.heap.size := by have := HB3.out.size; omega
                          have hxl1 : (xl ++ [ln]).length ≤ 100001 := by simp; omega
                          clear e1 HLN HHI
                          have HL3 := Lib.hid (show HQ w3 z bk (some ⟨g, 0, none⟩) cp ini tv ⟨xa, xb, xe, xl ++ [ln]⟩ EA ec A7 c7 from HL3.out)
                          rcases List.eq_nil_or_concat xe with hed | ⟨es, ⟨o, k⟩, hed⟩
                          · subst hed
                            obtain ⟨f2c, -⟩ := HL3.out.at_ 2 (by omega) _ rfl
                            have f2c : w3.cell? ⟨g, ini.length * 4 + 2, none⟩ = some (.slice EA 0 ec) := f2c
                            have HAP := Lib.hid (show addP [] 2 = [⟨2, 1⟩] from rfl)
                            have HHI2 := Lib.hid HL3.out.hi
                            have HQE := Lib.hid (show ∀ A1 c1 w1, Own w1 bk 67 2 A1 (0 + 1) c1 ([] ++ edL ⟨2, 1⟩) → Kept bk [67] [] (w3.alloc (.cells #[.int .i64 2, .int .i64 1] 67)) w1 →
                                w1.cell? ⟨g, ini.length * 4 + 2, none⟩ = some (.slice EA 0 ec) ∧ w1.frozen? ⟨g, ini.length * 4 + 2, none⟩ = false ∧ HQ (w1.setCell ⟨g, ini.length * 4 + 2, none⟩ (.slice A1 1 c1)) z bk (some ⟨g, 0, none⟩) cp ini tv ⟨xa, xb, [⟨2, 1⟩], xl ++ [ln]⟩ A1 c1 A7 c7 ∧
                                Kept z E3 [] (w3.alloc (.cells #[.int .i64 2, .int .i64 1] 67)) (w1.setCell ⟨g, ini.length * 4 + 2, none⟩ (.slice A1 1 c1)) from fun A1 c1 w1 o1 k1 =>
                              (HL3.out.keepN ((Keep.refl _ _).alloc (.cells #[.int .i64 2, .int .i64 1] 67))).eds (A1 := A1) (c1 := c1) (w1 := w1) (e := ⟨2, 1⟩) k1 o1)
                            have HOE := Lib.hid (show ∀ W, W = w3.alloc (.cells #[.int .i64 2, .int .i64 1] 67) → Own W bk 67 2 EA 0 ec [] from fun W hW => by rw [hW]; exact HL3.out.oe.alloc _)
                            go_wp2_with (at_builtin; refine wpList_append_sl rfl elemEdit rfl rfl (n := 0) (xs := []) (HOE.out _ rfl) rfl (Reads.of_blk (n := 1) (xs := edL ⟨2, 1⟩) (heap_alloc_new _ _) rfl rfl) (edL_one ⟨2, 1⟩) (by unfold maxLen; omega) (by omega) (by have := HHI2.out; simp; omega) ?_; intro A6 c6 w6 o6 k6; obtain ⟨g1, g2, g3, g4⟩ := HQE.out A6 c6 w6 o6 k6; have HL7 := Lib.hid g3; have HB7 := Lib.hid ((HB3.out.alloc hz3 _).trans (g4.below (Nat.le_refl _) (by simp; omega) (by simp))); clear o6 k6 g3 g4 f2c)
                            go_roundw
                            case rel => exact ⟨i + 1 + 1, addQ (ini ++ [⟨xa, xb, [], xl⟩]) 2 ln, some ⟨g, 0, none⟩, cp, by rw [addQ_snoc]; simp, by go_num, by omega, HY, .inr ⟨ini, tv, addLn ⟨xa, xb, [], xl⟩ 2 ln, _, _, _, _, bk, addQ_snoc _ _ _ _, by have := HL7.out; simpa [addLn, HAP.out] using this⟩, HB7.out, HBN.out⟩
                            case measure => simp [intOf]; omega
                          · rw [List.concat_eq_append] at hed
                            subst hed
                            obtain ⟨ge, hEA, _⟩ := HL3.out.oe.adrn (by simp)
                            subst hEA
                            obtain ⟨f2c, -⟩ := HL3.out.at_ 2 (by omega) _ rfl
                            have f2d : w3.cell? ⟨g, ini.length * 4 + 2, none⟩ = some (.slice (some ⟨ge, 0, none⟩) (es.length + 1) ec) := by simpa using f2c
                            obtain ⟨i1, i2, fo, fk, fz⟩ := HL3.out.inc
                            have hkb : k ≤ xl.length := HEN.out ⟨o, k⟩ (by simp)
                            have heb : es.length + 1 ≤ 100000 := by simpa using heb
                            have hn0 : (0 : Int) < (es.length : Int) + 1 := by omega
                            clear f2c
                            by_cases hoo : o = 2
                            · obtain rfl : o = 2 := hoo
                              have HAP := Lib.hid (show addP (es ++ [⟨2, k⟩]) 2 = es ++ [⟨2, k + 1⟩] from by rw [addP_snoc, if_pos rfl])
                              have ek : ((k + 1 : Nat) : Int) = (k : Int) + 1 := by omega
                              rw [ek] at i1 i2
                              have HL7 := Lib.hid i1
                              have HB7 := Lib.hid (HB3.out.trans (i2.below (Nat.le_refl _) hz3 (by simp)))
                              clear i1 i2 ek
                              go_wp2_with fail
                              go_roundw
                              case rel => exact ⟨i + 1 + 1, addQ (ini ++ [⟨xa, xb, es ++ [⟨2, k⟩], xl⟩]) 2 ln, some ⟨g, 0, none⟩, cp, by rw [addQ_snoc]; simp, by go_num, by omega, HY, .inr ⟨ini, tv, addLn ⟨xa, xb, es ++ [⟨2, k⟩], xl⟩ 2 ln, _, _, _, _, bk, addQ_snoc _ _ _ _, by have := HL7.out; simpa [addLn, HAP.out] using this⟩, HB7.out, HBN.out⟩
                              case measure => simp [intOf]; omega
                            · have HAP := Lib.hid (show addP (es ++ [⟨o, k⟩]) 2 = es ++ [⟨o, k⟩] ++ [⟨2, 1⟩] from by rw [addP_snoc, if_neg hoo])
                              have hob : ((o : Int) == 2) = false := by rw [beq_eq_false_iff_ne]; omega
                              have hoc : ¬ ((o : Int) = 2) := by omega
                              clear i1 i2 fz
                              have HQE := Lib.hid (show ∀ A1 c1 w1, Own w1 bk 67 2 A1 (es.length + 1 + 1) c1 (edLs (es ++ [⟨o, k⟩]) ++ edL ⟨2, 1⟩) → Kept bk [67] [] (w3.alloc (.cells #[.int .i64 2, .int .i64 1] 67)) w1 →
                                  w1.cell? ⟨g, ini.length * 4 + 2, none⟩ = some (.slice (some ⟨ge, 0, none⟩) (es.length + 1) ec) ∧ w1.frozen? ⟨g, ini.length * 4 + 2, none⟩ = false ∧ HQ (w1.setCell ⟨g, ini.length * 4 + 2, none⟩ (.slice A1 (es.length + 1 + 1) c1)) z bk (some ⟨g, 0, none⟩) cp ini tv ⟨xa, xb, es ++ [⟨o, k⟩] ++ [⟨2, 1⟩], xl ++ [ln]⟩ A1 c1 A7 c7 ∧
                                  Kept z E3 [] (w3.alloc (.cells #[.int .i64 2, .int .i64 1] 67)) (w1.setCell ⟨g, ini.length * 4 + 2, none⟩ (.slice A1 (es.length + 1 + 1) c1)) from fun A1 c1 w1 o1 k1 => by
                                have hL : (⟨xa, xb, es ++ [⟨o, k⟩], xl ++ [ln]⟩ : HkQ).eds.length = es.length + 1 := by simp
                                have := (HL3.out.keepN ((Keep.refl _ _).alloc (.cells #[.int .i64 2, .int .i64 1] 67))).eds (A1 := A1) (c1 := c1) (w1 := w1) (e := ⟨2, 1⟩) k1 (by rw [hL]; show Own w1 bk 67 2 A1 (es.length + 1 + 1) c1 (edLs ((es ++ [⟨o, k⟩]) ++ [⟨2, 1⟩])); rw [edLs_snoc]; exact o1)
                                rw [hL] at this
                                exact this)
                              have HHI2 := Lib.hid HL3.out.hi
                              have HOE := Lib.hid (show ∀ W, W = w3.alloc (.cells #[.int .i64 2, .int .i64 1] 67) → Own W bk 67 2 (some ⟨ge, 0, none⟩) (es.length + 1) ec (edLs (es ++ [⟨o, k⟩])) from fun W hW => by have := HL3.out.oe.alloc (.cells #[.int .i64 2, .int .i64 1] 67); rw [hW]; simpa using this)
                              go_wp2_with (at_builtin; refine wpList_append_sl rfl elemEdit rfl rfl (n := es.length + 1) (xs := edLs (es ++ [⟨o, k⟩])) (HOE.out _ rfl) rfl (Reads.of_blk (n := 1) (xs := edL ⟨2, 1⟩) (heap_alloc_new _ _) rfl rfl) (edL_one ⟨2, 1⟩) (by unfold maxLen; omega) (by omega) (by have := HHI2.out; first | (simp; omega) | simp) ?_; intro A6 c6 w6 o6 k6; obtain ⟨g1, g2, g3, g4⟩ := HQE.out A6 c6 w6 o6 k6; have HL7 := Lib.hid g3; have HB7 := Lib.hid ((HB3.out.alloc hz3 _).trans (g4.below (Nat.le_refl _) (by first | (simp; omega) | simp) (by simp))); clear o6 k6 g3 g4 f2d fo fk)
                              go_roundw
                              case rel => exact ⟨i + 1 + 1, addQ (ini ++ [⟨xa, xb, es ++ [⟨o, k⟩], xl⟩]) 2 ln, some ⟨g, 0, none⟩, cp, by rw [addQ_snoc]; simp, by go_num, by omega, HY, .inr ⟨ini, tv, addLn ⟨xa, xb, es ++ [⟨o, k⟩], xl⟩ 2 ln, _, _, _, _, bk, addQ_snoc _ _ _ _, by have := HL7.out; simpa [addLn, HAP.out] using this⟩, HB7.out, HBN.out⟩
                              case measure => simp [intOf]; omega
                      case false =>
                        have HNK := Lib.hid (of_decide_eq_false HLK.out)
                        have HY := Lib.hid (show readR (L.drop (i + 1)) (addQ (ini ++ [⟨xa, xb, xe, xl⟩]) 2 y) = RES from by
                          rw [HLIN.out, if_neg HNK.out])
                        have HBN := Lib.hid (HBND.out.add (op := 2) (k' := L.length - (i + 1)) (by omega) (show y.length ≤ s.length + 1 by omega))
                        clear HBND HLIN HREAD
                        go_upto_region 26 with fail
                        clear hx1 hx4
                        generalize y = ln at *
                        as_aux_lemma =>
                          obtain ⟨f1, -⟩ := HL2.out.at_ 3 (by omega) _ rfl
                          have f1 : wr.cell? ⟨g, ini.length * 4 + 3, none⟩ = some (.slice LA xl.length lc) := f1
                          have HLN := Lib.hid (fun A1 c1 w1 o1 k1 => (HL2.out.keepN ((Keep.refl _ _).alloc (.cells #[.string ⟨ln.toArray⟩] 9))).lns (A1 := A1) (c1 := c1) (w1 := w1) (l := [ln]) k1 o1)
                          have HHI := Lib.hid HL2.out.hi
                          go_upto_region 27 with (at_builtin; refine wpList_append_sl rfl elemStr rfl rfl (n := xl.length) (xs := strL xl) (HL2.out.ol.alloc _) rfl (Reads.of_blk (n := 1) (size := 1) (xs := strL [ln]) (heap_alloc_new _ _) rfl rfl) (strL_one [ln]) (by unfold maxLen; omega) (by omega) (by have := HHI.out; simp; omega) ?_; intro A7 c7 w7 o7 k7; obtain ⟨g1, g2, g3, g4⟩ := HLN.out A7 c7 w7 o7 k7; have g1 : w7.cell? ⟨g, ini.length * 4 + 3, none⟩ = some (.slice LA xl.length lc) := g1; have HL3 := Lib.hid g3; have HB3 := Lib.hid ((HB2.out.alloc hz2 _).trans (g4.below (Nat.le_refl _) (by simp; omega) (by simp))); clear o7 k7 g3 g4 f1)
                          clear g1 g2
                          have e1 : xl.length + [ln].length = xl.length + 1 := rfl
                          rw [show (⟨xa, xb, xe, xl⟩ : HkQ).ls.length + [ln].length = xl.length + 1 from rfl] at HL3 HB3
                          generalize w7.setCell ⟨g, ini.length * 4 + 3, none⟩ (.slice A7 (xl.length + 1) c7) = w3 at *
                          have hz3 : z ≤ w3.heap.size := by have := HB3.out.size; omega
                          have hxl1 : (xl ++ [ln]).length ≤ 100001 := by simp; omega
                          clear e1 HLN HHI
                          have HL3 := Lib.hid (show HQ w3 z bk (some ⟨g, 0, none⟩) cp ini tv ⟨xa, xb, xe, xl ++ [ln]⟩ EA ec A7 c7 from HL3.out)
                          rcases List.eq_nil_or_concat xe with hed | ⟨es, ⟨o, k⟩, hed⟩
                          · subst hed
                            obtain ⟨f2c, -⟩ := HL3.out.at_ 2 (by omega) _ rfl
                            have f2c : w3.cell? ⟨g, ini.length * 4 + 2, none⟩ = some (.slice EA 0 ec) := f2c
                            have HAP := Lib.hid (show addP [] 2 = [⟨2, 1⟩] from rfl)
                            have HHI2 := Lib.hid HL3.out.hi
                            have HQE := Lib.hid (show ∀ A1 c1 w1, Own w1 bk 67 2 A1 (0 + 1) c1 ([] ++ edL ⟨2, 1⟩) → Kept bk [67] [] (w3.alloc (.cells #[.int .i64 2, .int .i64 1] 67)) w1 →
                                w1.cell? ⟨g, ini.length * 4 + 2, none⟩ = some (.slice EA 0 ec) ∧ w1.frozen? ⟨g, ini.length * 4 + 2, none⟩ = false ∧ HQ (w1.setCell ⟨g, ini.length * 4 + 2, none⟩ (.slice A1 1 c1)) z bk (some ⟨g, 0, none⟩) cp ini tv ⟨xa, xb, [⟨2, 1⟩], xl ++ [ln]⟩ A1 c1 A7 c7 ∧
                                Kept z E3 [] (w3.alloc (.cells #[.int .i64 2, .int .i64 1] 67)) (w1.setCell ⟨g, ini.length * 4 + 2, none⟩ (.slice A1 1 c1)) from fun A1 c1 w1 o1 k1 =>
                              (HL3.out.keepN ((Keep.refl _ _).alloc (.cells #[.int .i64 2, .int .i64 1] 67))).eds (A1 := A1) (c1 := c1) (w1 := w1) (e := ⟨2, 1⟩) k1 o1)
                            have HOE := Lib.hid (show ∀ W, W = w3.alloc (.cells #[.int .i64 2, .int .i64 1] 67) → Own W bk 67 2 EA 0 ec [] from fun W hW => by rw [hW]; exact HL3.out.oe.alloc _)
                            go_wp2_with (at_builtin; refine wpList_append_sl rfl elemEdit rfl rfl (n := 0) (xs := []) (HOE.out _ rfl) rfl (Reads.of_blk (n := 1) (xs := edL ⟨2, 1⟩) (heap_alloc_new _ _) rfl rfl) (edL_one ⟨2, 1⟩) (by unfold maxLen; omega) (by omega) (by have := HHI2.out; simp; omega) ?_; intro A6 c6 w6 o6 k6; obtain ⟨g1, g2, g3, g4⟩ := HQE.out A6 c6 w6 o6 k6; have HL7 := Lib.hid g3; have HB7 := Lib.hid ((HB3.out.alloc hz3 _).trans (g4.below (Nat.le_refl _) (by simp; omega) (by simp))); clear o6 k6 g3 g4 f2c)
                            go_roundw
                            case rel => exact ⟨i + 1, addQ (ini ++ [⟨xa, xb, [], xl⟩]) 2 ln, some ⟨g, 0, none⟩, cp, by rw [addQ_snoc]; simp, by go_num, by omega, HY, .inr ⟨ini, tv, addLn ⟨xa, xb, [], xl⟩ 2 ln, _, _, _, _, bk, addQ_snoc _ _ _ _, by have := HL7.out; simpa [addLn, HAP.out] using this⟩, HB7.out, HBN.out⟩
                            case measure => simp [intOf]; omega
                          · rw [List.concat_eq_append] at hed
                            subst hed
                            obtain ⟨ge, hEA, _⟩ := HL3.out.oe.adrn (by simp)
                            subst hEA
                            obtain ⟨f2c, -⟩ := HL3.out.at_ 2 (by omega) _ rfl
                            have f2d : w3.cell? ⟨g, ini.length * 4 + 2, none⟩ = some (.slice (some ⟨ge, 0, none⟩) (es.length + 1) ec) := by simpa using f2c
                            obtain ⟨i1, i2, fo, fk, fz⟩ := HL3.out.inc
                            have hkb : k ≤ xl.length := HEN.out ⟨o, k⟩ (by simp)
                            have heb : es.length + 1 ≤ 100000 := by simpa using heb
                            have hn0 : (0 : Int) < (es.length : Int) + 1 := by omega
                            clear f2c
                            by_cases hoo : o = 2
                            · obtain rfl : o = 2 := hoo
                              have HAP := Lib.hid (show addP (es ++ [⟨2, k⟩]) 2 = es ++ [⟨2, k + 1⟩] from by rw [addP_snoc, if_pos rfl])
                              have ek : ((k + 1 : Nat) : Int) = (k : Int) + 1 := by omega
                              rw [ek] at i1 i2
                              have HL7 := Lib.hid i1
                              have HB7 := Lib.hid (HB3.out.trans (i2.below (Nat.le_refl _) hz3 (by simp)))
                              clear i1 i2 ek
                              go_wp2_with fail
                              go_roundw
                              case rel => exact ⟨i + 1, addQ (ini ++ [⟨xa, xb, es ++ [⟨2, k⟩], xl⟩]) 2 ln, some ⟨g, 0, none⟩, cp, by rw [addQ_snoc]; simp, by go_num, by omega, HY, .inr ⟨ini, tv, addLn ⟨xa, xb, es ++ [⟨2, k⟩], xl⟩ 2 ln, _, _, _, _, bk, addQ_snoc _ _ _ _, by have := HL7.out; simpa [addLn, HAP.out] using this⟩, HB7.out, HBN.out⟩
                              case measure => simp [intOf]; omega
                            · have HAP := Lib.hid (show addP (es ++ [⟨o, k⟩]) 2 = es ++ [⟨o, k⟩] ++ [⟨2, 1⟩] from by rw [addP_snoc, if_neg hoo])
                              have hob : ((o : Int) == 2) = false := by rw [beq_eq_false_iff_ne]; omega
                              have hoc : ¬ ((o : Int) = 2) := by omega
                              clear i1 i2 fz
                              have HQE := Lib.hid (show ∀ A1 c1 w1, Own w1 bk 67 2 A1 (es.length + 1 + 1) c1 (edLs (es ++ [⟨o, k⟩]) ++ edL ⟨2, 1⟩) → Kept bk [67] [] (w3.alloc (.cells #[.int .i64 2, .int .i64 1] 67)) w1 →
                                  w1.cell? ⟨g, ini.length * 4 + 2, none⟩ = some (.slice (some ⟨ge, 0, none⟩) (es.length + 1) ec) ∧ w1.frozen? ⟨g, ini.length * 4 + 2, none⟩ = false ∧ HQ (w1.setCell ⟨g, ini.length * 4 + 2, none⟩ (.slice A1 (es.length + 1 + 1) c1)) z bk (some ⟨g, 0, none⟩) cp ini tv ⟨xa, xb, es ++ [⟨o, k⟩] ++ [⟨2, 1⟩], xl ++ [ln]⟩ A1 c1 A7 c7 ∧
                                  Kept z E3 [] (w3.alloc (.cells #[.int .i64 2, .int .i64 1] 67)) (w1.setCell ⟨g, ini.length * 4 + 2, none⟩ (.slice A1 (es.length + 1 + 1) c1)) from fun A1 c1 w1 o1 k1 => by
                                have hL : (⟨xa, xb, es ++ [⟨o, k⟩], xl ++ [ln]⟩ : HkQ).eds.length = es.length + 1 := by simp
                                have := (HL3.out.keepN ((Keep.refl _ _).alloc (.cells #[.int .i64 2, .int .i64 1] 67))).eds (A1 := A1) (c1 := c1) (w1 := w1) (e := ⟨2, 1⟩) k1 (by rw [hL]; show Own w1 bk 67 2 A1 (es.length + 1 + 1) c1 (edLs ((es ++ [⟨o, k⟩]) ++ [⟨2, 1⟩])); rw [edLs_snoc]; exact o1)
                                rw [hL] at this
                                exact this)
                              have HHI2 := Lib.hid HL3.out.hi
                              have HOE := Lib.hid (show ∀ W, W = w3.alloc (.cells #[.int .i64 2, .int .i64 1] 67) → Own W bk 67 2 (some ⟨ge, 0, none⟩) (es.length + 1) ec (edLs (es ++ [⟨o, k⟩])) from fun W hW => by have := HL3.out.oe.alloc (.cells #[.int .i64 2, .int .i64 1] 67); rw [hW]; simpa using this)
                              go_wp2_with (at_builtin; refine wpList_append_sl rfl elemEdit rfl rfl (n := es.length + 1) (xs := edLs (es ++ [⟨o, k⟩])) (HOE.out _ rfl) rfl (Reads.of_blk (n := 1) (xs := edL ⟨2, 1⟩) (heap_alloc_new _ _) rfl rfl) (edL_one ⟨2, 1⟩) (by unfold maxLen; omega) (by omega) (by have := HHI2.out; first | (simp; omega) | simp) ?_; intro A6 c6 w6 o6 k6; obtain ⟨g1, g2, g3, g4⟩ := HQE.out A6 c6 w6 o6 k6; have HL7 := Lib.hid g3; have HB7 := Lib.hid ((HB3.out.alloc hz3 _).trans (g4.below (Nat.le_refl _) (by first | (simp; omega) | simp) (by simp))); clear o6 k6 g3 g4 f2d fo fk)
                              go_roundw
                              case rel => exact ⟨i + 1, addQ (ini ++ [⟨xa, xb, es ++ [⟨o, k⟩], xl⟩]) 2 ln, some ⟨g, 0, none⟩, cp, by rw [addQ_snoc]; simp, by go_num, by omega, HY, .inr ⟨ini, tv, addLn ⟨xa, xb, es ++ [⟨o, k⟩], xl⟩ 2 ln, _, _, _, _, bk, addQ_snoc _ _ _ _, by have := HL7.out; simpa [addLn, HAP.out] using this⟩, HB7.out, HBN.out⟩
                              case measure => simp [intOf]; omega
end Go.Proofs.YtlcidbbpjlpmjaaDoor
