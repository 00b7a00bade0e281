/-
  Contract of patch.Apply. No statement of the seat is proved here.
-/
import Derived.Test.YtlcidbbpjlpmjaaDoorRn2
namespace Go.Proofs.YtlcidbbpjlpmjaaDoor
open Go.RowKit

set_option maxHeartbeats 8000000 in
set_option maxRecDepth 100000 in
theorem apply_any (a : List (List UInt8)) (Aa : Option Addr) (ca : Nat) (l : List HkI) (A0 : Option Addr) (c0 B : Nat) (w : World) (hB : B ≤ w.heap.size) (hr : Reads w B 1 Aa a.length (strL a)) (hca : a.length ≤ ca) (hal : a.length ≤ 4000) (hl : HII w B A0 l) (hll : l.length ≤ 1048576) (hls : ∀ h ∈ l, HkSmall 1048576 h) :
    Calls Tryd.prog 20 #[.slice Aa a.length ca, .slice A0 l.length c0] w (ApplyR (applyP a l) w) := by
  have HA := Lib.hid (all_any l A0 c0 B w hB hl (by omega) (fun h hh => ⟨by have := (hls h hh).n1; omega, by have := (hls h hh).n2; omega, fun s hs => by have := (hls h hh).n3 s hs; omega⟩))
  have HRA := Lib.hid (show ∀ W, Below w.heap.size w W → Reads W B 1 Aa a.length (strL a) from fun W k => hr.below (k.mono hB))
  have HRL := Lib.hid (show ∀ W, Below w.heap.size w W → HII W B A0 l from fun W k => hl.below (k.mono hB))
  have HLS := Lib.hid hls
  clear hr hl hls
  cases hall : l.all okH
  case false =>
    rw [hall] at HA
    have HR := Lib.hid (show applyP a l = .error 1 from by unfold applyP; rw [hall]; rfl)
    go_enter Tryd.func20, Tryd.ntmps20
    go_wp2_with (go_at_call 36; refine HA.out.mono ?_)
    rintro _ w1 ⟨rfl, k1⟩
    go_wp2_with fail
    go_ret2
    rw [HR.out]
    exact ⟨k1.all, rfl⟩
  case true =>
    rw [hall] at HA
    obtain ⟨R, hR⟩ : ∃ R, applyP a l = R := ⟨_, rfl⟩
    rw [hR]
    have HR0 := Lib.hid (show applyL a (l.map HkI.toD) 0 [] = R from by rw [← hR]; unfold applyP; rw [if_pos hall])
    have HOK := Lib.hid (show ∀ h ∈ l, ∃ t, mayP h = some t from fun h hh => Option.isSome_iff_exists.1 (List.all_eq_true.1 hall h hh))
    clear hR hall
    have h40 : decide ((4000 : Int) < (a.length : Int)) = false := decide_eq_false (by omega)
    have h41 : (a.length : Int) ≤ 4000 := by omega
    go_enter Tryd.func20, Tryd.ntmps20
    go_wp2_with (go_at_call 36; refine HA.out.mono ?_)
    rintro _ w1 ⟨rfl, k1⟩
    go_wp2_with fail
    clear h40
    go_loopw [6, 7, 8, 26] (fun s6 s7 s8 s26 wr => ∃ (k p : Nat) (out : List (List UInt8)) (A : Option Addr) (cp : Nat), k ≤ l.length ∧ s6 = .slice A out.length cp ∧ s7 = .int .i64 (p : Nat) ∧ s8 = .int .i64 ((out.length : Int) - (p : Int)) ∧ s26 = .int .i64 (k : Nat) ∧ Own wr w.heap.size 9 1 A out.length cp (strL out) ∧ p ≤ a.length ∧ out.length ≤ p + k * 1048576 ∧ applyL a ((l.drop k).map HkI.toD) p out = R ∧ Below w.heap.size w wr) (fun _ _ _ s26 _ => l.length - (intOf s26).toNat)
    case atStart => exact ⟨0, 0, [], none, 0, Nat.zero_le _, rfl, rfl, rfl, rfl, Own.nil _ _ _ _, Nat.zero_le _, Nat.zero_le _, HR0.out, k1.all⟩
    case round =>
      obtain ⟨k, p, out, A, cp, hk, rfl, rfl, rfl, rfl, ho, hp, hol, hap, hb⟩ := hrel
      have hz := hb.size
      have hob : out.length ≤ 1200000000000 := by
        have hkM : k * 1048576 ≤ 1048576 * 1048576 := Nat.mul_le_mul_right _ (by omega)
        omega
      have HOLK := Lib.hid hol
      clear hol
      by_cases hlt : k < l.length
      · obtain ⟨x, hx⟩ : ∃ x, l[k]? = some x := ⟨_, List.getElem?_eq_getElem hlt⟩
        obtain ⟨t, hm⟩ := HOK.out x (List.mem_of_getElem? hx)
        obtain ⟨n1, n2, n3⟩ := HLS.out x (List.mem_of_getElem? hx)
        obtain ⟨g, off, EA, ec, LA, lc, rfl, hg, ld, hat, _, hlc, _⟩ := (HRL.out _ hb).load hx
        have hdr : (l.drop k).map HkI.toD = x.toD :: (l.drop (k + 1)).map HkI.toD := by
          rw [List.drop_eq_getElem?_toList_append, hx]; rfl
        rw [hdr, applyL_step] at hap
        rw [hkC_toD hm] at ld
        have LD := Lib.hid ld
        have okd := okD_of hm (by omega) (by omega)
        obtain ⟨sd1, sd2⟩ := sides_of hm
        have hio := toD_toI hm
        have hei : edLs x.toD.eds = edIs x.eds := by have := congrArg HkI.eds hio; exact edIs_toD this
        have hen : x.toD.eds.length = x.eds.length := by simp [HkI.toD]
        have hll2 : x.toD.ls.length = x.ls.length := rfl
        have hi0 : (0 : Int) ≤ (k : Int) := Int.natCast_nonneg _
        have hi1 : (k : Int) < (l.length : Int) := by omega
        have hpl := mayP_eds hm
        obtain ⟨p1, p2, p3, p4⟩ := places_le hpl.2.2.2.1
        have da : (x.toD.a : Int) = x.a := congrArg HkI.a hio
        have db : (x.toD.b : Int) = x.b := congrArg HkI.b hio
        have hda : x.toD.a ≤ 999999999 := by omega
        have hdb : x.toD.b ≤ 999999999 := by omega
        have hold := oldL_len x.toD.eds x.toD.ls
        have hnew := newL_len x.toD.eds x.toD.ls
        have HX := Lib.hid (show ∀ W, Below B wr W → Reads W B 2 EA x.toD.eds.length (edLs x.toD.eds) ∧ Reads W B 1 LA x.toD.ls.length (strL x.toD.ls) from fun W kk => by
          obtain ⟨_, _, _, _, r1, r2⟩ := hat W kk
          rw [hei, hen]
          exact ⟨r1, r2⟩)
        have hsz := fun W (kk : Below B wr W) (hzz : B ≤ W.heap.size) => sizes_any x t hm EA LA ec lc B W hzz (hat W kk).2.2.2.2 ⟨by omega, by omega, fun s hs => by have := n3 s hs; omega⟩
        rw [hkC_toD hm, sd1, sd2] at hsz
        have HSZ := Lib.hid hsz
        have HAP := Lib.hid hap
        have hlcD : x.toD.ls.length ≤ lc := hlc
        clear ld hat hx hdr hap hsz p1 p2 p3 p4 da db hio hei hpl hm hlc
        generalize x.toD = d at *
        clear n1 n3
        have hlsM : d.ls.length ≤ 1048576 := by omega
        clear n2 hll2 hen sd1 sd2
        go_upto_region 10 with (first | (refine wpList_load rfl rfl rfl (by with_reducible exact LD.out) ?_) | (refine wpList_allocAgg rfl rfl (zero_hk _) ?_) | (refine wpList_storeBlk rfl rfl (vs := hkV d EA ec LA lc) rfl rfl (Blk.new _ _ _) rfl info_hunk (hkV_one d EA ec LA lc) ?_; intro w3 x3 kc zc))
        go_frame
        have k3 : Keep Nothing wr w3 := Keep.ofNew kc
        have L3 := Lib.hid (load_hkV x3)
        have HS3 := Lib.hid (HSZ.out w3 (k3.below (by omega) (fun _ _ h => h)) (by have := k3.size; omega))
        generalize hz3 : wr.heap.size = z3 at *
        go_upto_region 11 with (first | (refine wpList_load rfl rfl rfl (by with_reducible exact L3.out) ?_) | (go_at_call 37; refine HS3.out.mono ?_))
        rintro _ w4 ⟨rfl, k4⟩
        have x4 := x3.keep k4 (fun h => h)
        have hb4 : Below w.heap.size w w4 := hb.trans ((k3.trans k4).below (by omega) (fun _ _ h => h))
        have ho4 : Own w4 w.heap.size 9 1 A out.length cp (strL out) := ho.below (by rw [hz3]; exact (k3.trans k4).below (by omega) (fun _ _ h => h))
        have HK4 := Lib.hid (show ∀ W, Below B w4 W → Below B wr W from fun W kk => ((k3.trans k4).below (by omega) (fun _ _ h => h)).trans kk)
        have e0 : w4.cell? ⟨z3, 0, none⟩ = some (.int .i64 (d.a : Int)) := x4.cell 0
        have e1 : w4.cell? ⟨z3, 1, none⟩ = some (.int .i64 (d.b : Int)) := x4.cell 1
        have e2 : w4.cell? ⟨z3, 2, none⟩ = some (.slice EA d.eds.length ec) := x4.cell 2
        have e3 : w4.cell? ⟨z3, 3, none⟩ = some (.slice LA d.ls.length lc) := x4.cell 3
        clear kc zc x3 k3 k4 L3 HS3 LD HSZ ho hb
        go_upto_region 11 with fail
        by_cases q1 : d.a < p
        · have d1 : decide ((d.a : Int) < (p : Int)) = true := decide_eq_true (by omega)
          have hRR : R = .error 18 := by rw [← HAP.out, stepA_order q1]
          subst hRR
          go_wp2_with fail
          go_ret2
          exact ⟨hb4, rfl⟩
        have d1 : decide ((d.a : Int) < (p : Int)) = false := decide_eq_false (by omega)
        by_cases q2 : a.length < d.a
        · have d2 : decide ((a.length : Int) < (d.a : Int)) = true := decide_eq_true (by omega)
          have hRR : R = .error 28 := by rw [← HAP.out, stepA_bad q1 (fun h => by omega)]
          subst hRR
          go_wp2_with fail
          go_ret2
          exact ⟨hb4, rfl⟩
        have d2 : decide ((a.length : Int) < (d.a : Int)) = false := decide_eq_false (by omega)
        have ws : IntKind.i64.wrap ((a.length : Int) - (d.a : Int)) = (a.length : Int) - (d.a : Int) := IntWalk.i64_in _ (by omega)
        by_cases q3 : a.length - d.a < (oldL d.eds d.ls).length
        · have d3 : decide ((a.length : Int) - (d.a : Int) < ((oldL d.eds d.ls).length : Int)) = true := decide_eq_true (by omega)
          have hRR : R = .error 28 := by
            rw [← HAP.out, stepA_bad q1 (fun h => by
              rcases okA_len h.2.2 with q | q
              · rw [q] at q3; simp at q3
              · omega)]
          subst hRR
          go_wp2_with fail
          go_ret2
          exact ⟨hb4, rfl⟩
        have d3 : decide ((a.length : Int) - (d.a : Int) < ((oldL d.eds d.ls).length : Int)) = false := decide_eq_false (by omega)
        have wm : IntKind.i64.wrap ((d.a : Int) + ((out.length : Int) - (p : Int))) = (d.a : Int) + ((out.length : Int) - (p : Int)) := IntWalk.i64_in _ (by omega)
        by_cases q4 : d.b = out.length + (d.a - p)
        case neg =>
          have d4 : ((d.b : Int) != (d.a : Int) + ((out.length : Int) - (p : Int))) = true := by simp; omega
          have hRR : R = .error 28 := by rw [← HAP.out, stepA_bad q1 (fun h => q4 h.2.1)]
          subst hRR
          go_wp2_with fail
          go_ret2
          exact ⟨hb4, rfl⟩
        have d4 : ((d.b : Int) != (d.a : Int) + ((out.length : Int) - (p : Int))) = false := by simp; omega
        have Q4 := Lib.hid q4
        clear q4
        go_upto_region 15 with fail
        have hb4z := hb4.size
        have hsrc := ((HRA.out _ hb4).cut (k := p) (cap := ca) hp hca).front (k := d.a - p) (by omega)
        rw [Nat.mul_one, Nat.mul_one, show ((strL a).drop p).take (d.a - p) = strL ((a.drop p).take (d.a - p)) by simp [strL, List.map_take, List.map_drop]] at hsrc
        have hsl : ((a.drop p).take (d.a - p)).length = d.a - p := by rw [List.length_take, List.length_drop]; omega
        have HSL := Lib.hid hsl
        have s1 : (p : Int) ≤ (d.a : Int) := by omega
        have s2 : (d.a : Int) ≤ (ca : Int) := by omega
        have s3 : p ≤ d.a := by omega
        have s4 : d.a ≤ ca := by omega
        have s5 : ((d.a : Int) - (p : Int)).toNat = d.a - p := by omega
        have hq3 : d.a + (oldL d.eds d.ls).length ≤ a.length := by omega
        have X4 := Lib.hid x4
        have HB4 := Lib.hid hb4
        have HBAD := Lib.hid (show ¬ okA a d.a (oldL d.eds d.ls) → R = .error 28 from fun hn => by rw [← HAP.out, stepA_bad q1 (fun h => hn h.2.2)])
        have HGOOD := Lib.hid (show okA a d.a (oldL d.eds d.ls) → applyL a ((l.drop (k + 1)).map HkI.toD) (d.a + (oldL d.eds d.ls).length) (out ++ (a.drop p).take (d.a - p) ++ newL d.eds d.ls) = R from fun hy => by rw [← HAP.out, stepA_ok q1 (by omega) Q4.out hy])
        clear d1 d2 d3 d4 ws wm hsl x4 hb4 q3 HAP Q4
        rcases Nat.lt_or_ge p ca with hcl | hcl
        · rw [if_neg (by omega)] at hsrc
          have hcp : ¬ (ca = p) := by omega
          go_upto_region 16 with (at_builtin; refine wpList_append_sl rfl elemStr rfl rfl (n := out.length) (xs := strL out) ho4 rfl hsrc (strL_one _) (by unfold maxLen; omega) (by omega) hb4z ?_; intro A1 c1 w5 o5 k5)
          have o5 : Own w5 w.heap.size 9 1 A1 (out.length + (d.a - p)) c1 (strL (out ++ (a.drop p).take (d.a - p))) := by simpa [strL] using o5
          have x5 := k5.blk X4.out (by simp) (by decide)
          have HB5 := Lib.hid (HB4.out.trans (k5.below (Nat.le_refl _) hb4z (by simp)))
          have e05 : w5.cell? ⟨z3, 0, none⟩ = some (.int .i64 (d.a : Int)) := x5.cell 0
          have e25 : w5.cell? ⟨z3, 2, none⟩ = some (.slice EA d.eds.length ec) := x5.cell 2
          have e35 : w5.cell? ⟨z3, 3, none⟩ = some (.slice LA d.ls.length lc) := x5.cell 3
          have HX5 := Lib.hid (show ∀ W, Kept w.heap.size [9] [] w5 W → Reads W B 2 EA d.eds.length (edLs d.eds) ∧ Reads W B 1 LA d.ls.length (strL d.ls) ∧ Reads W B 1 Aa a.length (strL a) from fun W kk => by
            have kb := (k5.trans kk).below (B := w.heap.size) (Nat.le_refl _) hb4z (by simp)
            obtain ⟨r1, r2⟩ := HX.out W (HK4.out W (kb.mono hB))
            exact ⟨r1, r2, HRA.out W (HB4.out.trans kb)⟩)
          have r2 := (HX5.out w5 (Kept.refl _ _ _ _)).2.1
          have hz5 := HB5.out.size
          obtain ⟨OUT, hOUT⟩ : ∃ x, out ++ (a.drop p).take (d.a - p) ++ newL d.eds d.ls = x := ⟨_, rfl⟩
          have HOL := Lib.hid (show out.length + (d.a - p) = (out ++ (a.drop p).take (d.a - p)).length from by rw [List.length_append, HSL.out])
          have HOUT := Lib.hid hOUT
          have hOl := congrArg List.length hOUT
          rw [List.length_append, ← HOL.out] at hOl
          have HOB := Lib.hid (show OUT.length ≤ d.a + (k + 1) * 1048576 from by have := HOLK.out; rw [Nat.succ_mul]; omega)
          have hOM : OUT.length ≤ 2000000000000 := by omega
          rw [HOUT.out] at HGOOD
          clear hOUT k5 e0 e1 e2 e3 ho4 hsrc x5 hOl
          go_wp2_with fail
          clear e05 e25 e35
          go_loopw [6, 7, 13, 78] (fun s6 s7 s13 s78 wi => ∃ (j m p2 : Nat) (o2 : List (List UInt8)) (A2 : Option Addr) (c2 : Nat) (RA : Option Addr) (rc : Nat), j ≤ d.eds.length ∧ m + sumN (d.eds.drop j) = d.ls.length ∧ s6 = .slice A2 o2.length c2 ∧ s7 = .int .i64 (p2 : Nat) ∧ s13 = .slice RA (d.ls.length - m) rc ∧ s78 = .int .i64 (j : Nat) ∧ d.ls.length - m ≤ rc ∧ Reads wi B 1 RA (d.ls.length - m) (strL (d.ls.drop m)) ∧
            Own wi w.heap.size 9 1 A2 o2.length c2 (strL o2) ∧ Kept w.heap.size [9] [] w5 wi ∧ p2 + (oldL (d.eds.drop j) (d.ls.drop m)).length = d.a + (oldL d.eds d.ls).length ∧ (okA a d.a (oldL d.eds d.ls) ↔ okA a p2 (oldL (d.eds.drop j) (d.ls.drop m))) ∧ o2 ++ newL (d.eds.drop j) (d.ls.drop m) = OUT) (fun _ _ _ s78 _ => d.eds.length - (intOf s78).toNat)
          case atStart => exact ⟨0, 0, d.a, _, A1, c1, LA, lc, Nat.zero_le _, by simpa using okd.sum, by rw [HOL.out], rfl, rfl, rfl, hlcD, r2, by rw [← HOL.out]; exact o5, Kept.refl _ _ _ _, rfl, Iff.rfl, HOUT.out⟩
          case round =>
            obtain ⟨j, m, p2, o2, A2, c2, RA, rc, hj, hms, rfl, rfl, rfl, rfl, hrc, hrr, ho2, kw, hpo, hok, hnw⟩ := hrel
            clear o5 r2
            obtain ⟨q1r, _, q3r⟩ := HX5.out _ kw
            have hzr := kw.size
            have hon := congrArg List.length hnw
            rw [List.length_append] at hon
            by_cases hjl : j < d.eds.length
            · obtain ⟨e, hex⟩ : ∃ e, d.eds[j]? = some e := ⟨_, List.getElem?_eq_getElem hjl⟩
              have hdr : d.eds.drop j = e :: d.eds.drop (j + 1) := List.drop_eq_getElem?_toList_append.trans (by rw [hex]; rfl)
              rw [hdr] at hms hpo hok hnw
              have hms2 : m + (e.n + sumN (d.eds.drop (j + 1))) = d.ls.length := by simpa [sumN] using hms
              obtain ⟨hop2, hn0⟩ := okd.ops e (List.mem_of_getElem? hex)
              rw [oldL, List.drop_drop] at hpo hok
              rw [newL, List.drop_drop] at hnw
              obtain ⟨row, hrow⟩ : ∃ x, (d.ls.drop m).take e.n = x := ⟨_, rfl⟩
              have hrl : row.length = e.n := by rw [← hrow, List.length_take, List.length_drop]; omega
              rw [hrow] at hpo hok hnw
              have HROW := Lib.hid hrow
              have HPO := Lib.hid hpo
              have HOKI := Lib.hid hok
              have HNW := Lib.hid hnw
              have hml : m ≤ d.ls.length := by omega
              have hen : e.n ≤ d.ls.length - m := by omega
              obtain ⟨ge, oe, hEA, _, hce⟩ := q1r.at0 (by omega) (by omega)
              have HEA := Lib.hid hEA
              have L1 := Lib.hid (load_edit_at (w := wr) (fun jj u hu => hce jj u hu) hex)
              subst hEA
              have hd7 : d.eds.length ≤ 10000000 := okd.n1
              have hj0 : (0 : Int) ≤ (j : Int) := Int.natCast_nonneg _
              have hj1 : (j : Int) < (d.eds.length : Int) := by omega
              have HA3 := Lib.hid q3r
              clear hce hex hdr hms hrow hok hnw hon q1r q3r hpo
              go_upto_region 21 with (first | (refine wpList_load rfl rfl rfl (by with_reducible exact L1.out) ?_) | (refine wpList_allocAgg rfl rfl (zero_edit _) ?_) | (refine wpList_storeBlk rfl rfl (vs := edC e) rfl rfl (Blk.new _ _ _) rfl info_edit (edC_one e) ?_; intro w6 x6 kc zc))
              go_frame
              have k6 : Keep Nothing wr w6 := Keep.ofNew kc
              have ho6 := ho2.sameB (w' := w6) fun q hq => k6.block q (ho2.blockAt q hq).2.1 (fun h => h)
              have hrr6 := hrr.below (k6.below (B := B) (by omega) (fun _ _ h => h))
              have hra6 := HA3.out.below (k6.below (B := B) (by omega) (fun _ _ h => h))
              have kw6 : Kept w.heap.size [9] [] w5 w6 := kw.trans (Kept.ofKeep k6 (fun _ _ h => absurd h (fun h => h)))
              have hz6 : w.heap.size ≤ w6.heap.size := by have := k6.size; omega
              generalize hz7 : wr.heap.size = z7 at *
              have e0 : w6.cell? ⟨z7, 0, none⟩ = some (.int .i64 (e.op : Int)) := x6.cell 0
              have e1 : w6.cell? ⟨z7, 1, none⟩ = some (.int .i64 (e.n : Int)) := x6.cell 1
              have X6 := Lib.hid x6
              have hfr := hrr6.front (k := e.n) hen
              rw [← elemStr_row, HROW.out] at hfr
              have hcut := hrr6.cut (k := e.n) (cap := rc) hen hrc
              have hle : d.ls.length - m - e.n = d.ls.length - (m + e.n) := by omega
              rw [hle, show (strL (d.ls.drop m)).drop (e.n * 1) = strL (d.ls.drop (m + e.n)) by rw [Nat.mul_one, ← List.drop_drop]; simp [strL]] at hcut
              have HLE := Lib.hid hle
              have HCUT := Lib.hid hcut
              have KW6 := Lib.hid kw6
              have HMS := Lib.hid (show m + e.n + sumN (d.eds.drop (j + 1)) = d.ls.length by omega)
              have nn0 : (0 : Int) ≤ (e.n : Int) := Int.natCast_nonneg _
              have nn1 : (e.n : Int) ≤ ((d.ls.length - m : Nat) : Int) := by omega
              have nn2 : (e.n : Int) ≤ (rc : Int) := by omega
              have nn3 : e.n ≤ rc := by omega
              have h3 : e.op = 0 ∨ e.op = 1 ∨ e.op = 2 := by omega
              clear kc zc L1 k6 ho2 hrr kw x6 hle hcut kw6 hrr6
              rcases h3 with q0 | q0 | q0
              · have hb2 : ((e.op : Int) != 2) = true := by rw [q0]; rfl
                have hb1 : ((e.op : Int) != 1) = true := by rw [q0]; rfl
                have hpe : p2 + e.n ≤ a.length := by
                  have := HPO.out
                  rw [if_neg (by omega), List.length_append, hrl] at this
                  omega
                have hsa := (hra6.cut (k := p2) (cap := ca) (by omega) hca).front (k := e.n) (by omega)
                rw [if_neg (by omega), Nat.mul_one, Nat.mul_one, show ((strL a).drop p2).take e.n = strL ((a.drop p2).take e.n) by simp [strL, List.map_take, List.map_drop]] at hsa
                have hal2 : ((a.drop p2).take e.n).length = e.n := by rw [List.length_take, List.length_drop]; omega
                have hq := fun (mm : Nat) => Calls.quiet_of (eqStr_any ((a.drop p2).take e.n) row (Option.map (fun x => x.add p2) Aa) RA (ca - p2) rc B B (w6.drewN mm) (by rw [hal2]; exact hsa.drewN mm) (by rw [hrl]; exact hfr.drewN mm) (by rw [hal2]; omega) (by rw [hrl]; omega))
                rw [hal2, hrl] at hq
                have HSAME := Lib.hid (show decide ((a.drop p2).take e.n = row) = true ↔ okA a p2 row from by unfold okA; rw [hrl, decide_eq_true_eq])
                have HOKE := Lib.hid (show okA a d.a (oldL d.eds d.ls) ↔ okA a p2 row ∧ okA a (p2 + e.n) (oldL (d.eds.drop (j + 1)) (d.ls.drop (m + e.n))) from by
                  rw [HOKI.out, if_neg (by omega), okA_app, hrl])
                have HPO2 := Lib.hid (show p2 + e.n + (oldL (d.eds.drop (j + 1)) (d.ls.drop (m + e.n))).length = d.a + (oldL d.eds d.ls).length from by
                  have := HPO.out
                  rw [if_neg (by omega), List.length_append, hrl] at this
                  omega)
                generalize decide ((a.drop p2).take e.n = row) = same at *
                have Q1 := Lib.hid hq
                have wq : IntKind.i64.wrap ((p2 : Int) + (e.n : Int)) = (p2 : Int) + (e.n : Int) := IntWalk.i64_in _ (by omega)
                have t1 : (p2 : Int) ≤ (p2 : Int) + (e.n : Int) := by omega
                have t2 : (p2 : Int) + (e.n : Int) ≤ (ca : Int) := by omega
                have t3 : ((p2 : Int) + (e.n : Int)).toNat = p2 + e.n := by omega
                have t4 : p2 + e.n - p2 = e.n := by omega
                have t5 : ¬ (ca = p2) := by omega
                have t6 : (0 : Int) ≤ (p2 : Int) + (e.n : Int) := by omega
                have t7 : p2 + e.n ≤ ca := by omega
                have t8 : ((p2 : Int) + (e.n : Int) - (p2 : Int)).toNat = e.n := by omega
                have t9 : (0 : Int) ≤ (p2 : Int) := Int.natCast_nonneg _
                clear hq hsa hal2
                go_upto_region 22 with fail
                go_quiet ((go_at_call 38; with_reducible exact Q1.out _))
                cases same
                case false =>
                  have hRR := HBAD.out (fun h => by have := HSAME.out.2 (HOKE.out.1 h).1; cases this)
                  subst hRR
                  have HBE := Lib.hid (HB5.out.trans ((KW6.out.drewN nq).below (B := w.heap.size) (Nat.le_refl _) hz5 (by simp)))
                  go_wp2_with fail
                  go_ret2
                  exact ⟨HBE.out, rfl⟩
                case true =>
                  have HOK2 := Lib.hid (show okA a d.a (oldL d.eds d.ls) ↔ okA a (p2 + e.n) (oldL (d.eds.drop (j + 1)) (d.ls.drop (m + e.n))) from HOKE.out.trans ⟨fun h => h.2, fun h => ⟨HSAME.out.1 rfl, h⟩⟩)
                  have ho7 := ho6.drewN nq
                  have hfr7 := hfr.drewN nq
                  have hcut7 := HCUT.out.drewN nq
                  have KW7 := Lib.hid (KW6.out.drewN nq)
                  have e07 : (w6.drewN nq).cell? ⟨z7, 0, none⟩ = some (.int .i64 (e.op : Int)) := e0
                  have e17 : (w6.drewN nq).cell? ⟨z7, 1, none⟩ = some (.int .i64 (e.n : Int)) := e1
                  have hz7' : w.heap.size ≤ (w6.drewN nq).heap.size := hz6
                  have X7 := Lib.hid (show Blk (w6.drewN nq) z7 67 (edC e) from X6.out)
                  clear HSAME HOKE Q1 ho6 hfr e0 e1 HBAD HCUT
                  generalize w6.drewN nq = w7 at *
                  have HO7 := Lib.hid ho7
                  have hond : (o2 ++ row).length = o2.length + e.n := by rw [List.length_append, hrl]
                  have HN2 := Lib.hid (show (o2 ++ row) ++ newL (d.eds.drop (j + 1)) (d.ls.drop (m + e.n)) = OUT from by have := HNW.out; rw [if_neg (by omega)] at this; rw [List.append_assoc]; exact this)
                  have hl9 := congrArg List.length HN2.out
                  rw [List.length_append, hond] at hl9
                  clear ho7
                  go_upto_region 27 with (at_builtin; refine wpList_append_sl rfl elemStr rfl rfl (n := o2.length) (xs := strL o2) HO7.out rfl hfr7 (strL_one _) (by unfold maxLen; omega) (by omega) hz7' ?_; intro A9 c9 w9 o9 k9; have y9 := k9.blk X7.out (by simp) (by decide); have e19 : w9.cell? ⟨z7, 1, none⟩ = some (.int .i64 (e.n : Int)) := y9.cell 1; have O9 := Lib.hid o9; have KW9 := Lib.hid (KW7.out.trans k9); have HC9 := Lib.hid (hcut7.below (k9.below hB (by omega) (by simp))); clear o9 k9 y9)
                  have ho9 : Own w9 w.heap.size 9 1 A9 (o2 ++ row).length c9 (strL (o2 ++ row)) := by rw [hond]; simpa [strL] using O9.out
                  have hcut9 := HC9.out
                  have HLE' := HLE.out
                  by_cases hcap : rc = e.n
                  all_goals
                    simp only [hcap, if_true, if_false, Nat.mul_one] at hcut9
                    have HC10 := Lib.hid hcut9
                    clear hcut9
                    go_wp2_with fail
                    go_roundw
                    case rel => exact ⟨j + 1, m + e.n, p2 + e.n, o2 ++ row, _, _, _, _, by omega, HMS.out, by rw [hond], by go_num, by rw [← HLE.out], by go_num, by omega, HC10.out, ho9, KW9.out, HPO2.out, HOK2.out, HN2.out⟩
                    case measure => simp [intOf]; omega
              · have hb2 : ((e.op : Int) != 2) = true := by rw [q0]; rfl
                have hb1 : ((e.op : Int) != 1) = false := by rw [q0]; rfl
                have hpe : p2 + e.n ≤ a.length := by
                  have := HPO.out
                  rw [if_neg (by omega), List.length_append, hrl] at this
                  omega
                have hsa := (hra6.cut (k := p2) (cap := ca) (by omega) hca).front (k := e.n) (by omega)
                rw [if_neg (by omega), Nat.mul_one, Nat.mul_one, show ((strL a).drop p2).take e.n = strL ((a.drop p2).take e.n) by simp [strL, List.map_take, List.map_drop]] at hsa
                have hal2 : ((a.drop p2).take e.n).length = e.n := by rw [List.length_take, List.length_drop]; omega
                have hq := fun (mm : Nat) => Calls.quiet_of (eqStr_any ((a.drop p2).take e.n) row (Option.map (fun x => x.add p2) Aa) RA (ca - p2) rc B B (w6.drewN mm) (by rw [hal2]; exact hsa.drewN mm) (by rw [hrl]; exact hfr.drewN mm) (by rw [hal2]; omega) (by rw [hrl]; omega))
                rw [hal2, hrl] at hq
                have HSAME := Lib.hid (show decide ((a.drop p2).take e.n = row) = true ↔ okA a p2 row from by unfold okA; rw [hrl, decide_eq_true_eq])
                have HOKE := Lib.hid (show okA a d.a (oldL d.eds d.ls) ↔ okA a p2 row ∧ okA a (p2 + e.n) (oldL (d.eds.drop (j + 1)) (d.ls.drop (m + e.n))) from by
                  rw [HOKI.out, if_neg (by omega), okA_app, hrl])
                have HPO2 := Lib.hid (show p2 + e.n + (oldL (d.eds.drop (j + 1)) (d.ls.drop (m + e.n))).length = d.a + (oldL d.eds d.ls).length from by
                  have := HPO.out
                  rw [if_neg (by omega), List.length_append, hrl] at this
                  omega)
                generalize decide ((a.drop p2).take e.n = row) = same at *
                have Q1 := Lib.hid hq
                have wq : IntKind.i64.wrap ((p2 : Int) + (e.n : Int)) = (p2 : Int) + (e.n : Int) := IntWalk.i64_in _ (by omega)
                have t1 : (p2 : Int) ≤ (p2 : Int) + (e.n : Int) := by omega
                have t2 : (p2 : Int) + (e.n : Int) ≤ (ca : Int) := by omega
                have t3 : ((p2 : Int) + (e.n : Int)).toNat = p2 + e.n := by omega
                have t4 : p2 + e.n - p2 = e.n := by omega
                have t5 : ¬ (ca = p2) := by omega
                have t6 : (0 : Int) ≤ (p2 : Int) + (e.n : Int) := by omega
                have t7 : p2 + e.n ≤ ca := by omega
                have t8 : ((p2 : Int) + (e.n : Int) - (p2 : Int)).toNat = e.n := by omega
                have t9 : (0 : Int) ≤ (p2 : Int) := Int.natCast_nonneg _
                clear hq hsa hal2
                go_upto_region 22 with fail
                go_quiet ((go_at_call 38; with_reducible exact Q1.out _))
                cases same
                case false =>
                  have hRR := HBAD.out (fun h => by have := HSAME.out.2 (HOKE.out.1 h).1; cases this)
                  subst hRR
                  have HBE := Lib.hid (HB5.out.trans ((KW6.out.drewN nq).below (B := w.heap.size) (Nat.le_refl _) hz5 (by simp)))
                  go_wp2_with fail
                  go_ret2
                  exact ⟨HBE.out, rfl⟩
                case true =>
                  have HOK2 := Lib.hid (show okA a d.a (oldL d.eds d.ls) ↔ okA a (p2 + e.n) (oldL (d.eds.drop (j + 1)) (d.ls.drop (m + e.n))) from HOKE.out.trans ⟨fun h => h.2, fun h => ⟨HSAME.out.1 rfl, h⟩⟩)
                  have ho7 := ho6.drewN nq
                  have hfr7 := hfr.drewN nq
                  have hcut7 := HCUT.out.drewN nq
                  have KW7 := Lib.hid (KW6.out.drewN nq)
                  have e07 : (w6.drewN nq).cell? ⟨z7, 0, none⟩ = some (.int .i64 (e.op : Int)) := e0
                  have e17 : (w6.drewN nq).cell? ⟨z7, 1, none⟩ = some (.int .i64 (e.n : Int)) := e1
                  have hz7' : w.heap.size ≤ (w6.drewN nq).heap.size := hz6
                  have X7 := Lib.hid (show Blk (w6.drewN nq) z7 67 (edC e) from X6.out)
                  clear HSAME HOKE Q1 ho6 hfr e0 e1 HBAD HCUT
                  generalize w6.drewN nq = w7 at *
                  have HN2 := Lib.hid (show o2 ++ newL (d.eds.drop (j + 1)) (d.ls.drop (m + e.n)) = OUT from by have := HNW.out; rw [if_pos q0] at this; exact this)
                  have ho9 := ho7
                  have KW9 := KW7
                  have HC9 := Lib.hid hcut7
                  clear ho7 hcut7 hfr7
                  have hcut9 := HC9.out
                  have HLE' := HLE.out
                  by_cases hcap : rc = e.n
                  all_goals
                    simp only [hcap, if_true, if_false, Nat.mul_one] at hcut9
                    have HC10 := Lib.hid hcut9
                    clear hcut9
                    go_wp2_with fail
                    go_roundw
                    case rel => exact ⟨j + 1, m + e.n, p2 + e.n, o2, _, _, _, _, by omega, HMS.out, rfl, by go_num, by rw [← HLE.out], by go_num, by omega, HC10.out, ho9, KW9.out, HPO2.out, HOK2.out, HN2.out⟩
                    case measure => simp [intOf]; omega
              · have hb2 : ((e.op : Int) != 2) = false := by rw [q0]; rfl
                have hb1 : ((e.op : Int) != 1) = true := by rw [q0]; rfl
                have HPO2 := Lib.hid (show p2 + (oldL (d.eds.drop (j + 1)) (d.ls.drop (m + e.n))).length = d.a + (oldL d.eds d.ls).length from by have := HPO.out; rw [if_pos q0] at this; exact this)
                have HOK2 := Lib.hid (show okA a d.a (oldL d.eds d.ls) ↔ okA a p2 (oldL (d.eds.drop (j + 1)) (d.ls.drop (m + e.n))) from by rw [HOKI.out, if_pos q0]; rfl)
                have ho7 := ho6
                have hfr7 := hfr
                have hcut7 := HCUT.out
                have KW7 := KW6
                have X7 := X6
                have hz7' := hz6
                clear ho6 hfr HBAD HCUT
                have HO7 := Lib.hid ho7
                have hond : (o2 ++ row).length = o2.length + e.n := by rw [List.length_append, hrl]
                have HN2 := Lib.hid (show (o2 ++ row) ++ newL (d.eds.drop (j + 1)) (d.ls.drop (m + e.n)) = OUT from by have := HNW.out; rw [if_neg (by omega)] at this; rw [List.append_assoc]; exact this)
                have hl9 := congrArg List.length HN2.out
                rw [List.length_append, hond] at hl9
                clear ho7
                go_upto_region 27 with (at_builtin; refine wpList_append_sl rfl elemStr rfl rfl (n := o2.length) (xs := strL o2) HO7.out rfl hfr7 (strL_one _) (by unfold maxLen; omega) (by omega) hz7' ?_; intro A9 c9 w9 o9 k9; have y9 := k9.blk X7.out (by simp) (by decide); have e19 : w9.cell? ⟨z7, 1, none⟩ = some (.int .i64 (e.n : Int)) := y9.cell 1; have O9 := Lib.hid o9; have KW9 := Lib.hid (KW7.out.trans k9); have HC9 := Lib.hid (hcut7.below (k9.below hB (by omega) (by simp))); clear o9 k9 y9)
                have ho9 : Own w9 w.heap.size 9 1 A9 (o2 ++ row).length c9 (strL (o2 ++ row)) := by rw [hond]; simpa [strL] using O9.out
                have hcut9 := HC9.out
                have HLE' := HLE.out
                by_cases hcap : rc = e.n
                all_goals
                  simp only [hcap, if_true, if_false, Nat.mul_one] at hcut9
                  have HC10 := Lib.hid hcut9
                  clear hcut9
                  go_wp2_with fail
                  go_roundw
                  case rel => exact ⟨j + 1, m + e.n, p2, o2 ++ row, _, _, _, _, by omega, HMS.out, by rw [hond], by go_num, by rw [← HLE.out], by go_num, by omega, HC10.out, ho9, KW9.out, HPO2.out, HOK2.out, HN2.out⟩
                  case measure => simp [intOf]; omega
            · obtain rfl : j = d.eds.length := by omega
              have hdn : d.eds.drop d.eds.length = [] := by simp
              rw [hdn, oldL] at hpo hok
              rw [hdn, newL, List.append_nil] at hnw
              have hyes : okA a d.a (oldL d.eds d.ls) := hok.2 (okA_nil _ _)
              have hp2 : p2 = d.a + (oldL d.eds d.ls).length := by simpa using hpo
              have HF := Lib.hid (HGOOD.out hyes)
              rw [← hp2, ← hnw] at HF
              have HBE := Lib.hid (HB5.out.trans (kw.below (B := w.heap.size) (Nat.le_refl _) hz5 (by simp)))
              have w1 : IntKind.i64.wrap ((((newL d.eds d.ls).length : Nat) : Int) - (((oldL d.eds d.ls).length : Nat) : Int)) = ((newL d.eds d.ls).length : Int) - ((oldL d.eds d.ls).length : Int) := IntWalk.i64_in _ (by omega)
              have w2 : IntKind.i64.wrap ((out.length : Int) - (p : Int) + (((newL d.eds d.ls).length : Int) - ((oldL d.eds d.ls).length : Int))) = (out.length : Int) - (p : Int) + (((newL d.eds d.ls).length : Int) - ((oldL d.eds d.ls).length : Int)) := IntWalk.i64_in _ (by omega)
              have h8 : (out.length : Int) - (p : Int) + (((newL d.eds d.ls).length : Int) - ((oldL d.eds d.ls).length : Int)) = (o2.length : Int) - (p2 : Int) := by
                have h1 := congrArg List.length HOUT.out
                rw [List.length_append, ← HOL.out, ← hnw] at h1
                omega
              have H8 := Lib.hid h8
              have HBD := Lib.hid (show o2.length ≤ p2 + (k + 1) * 1048576 from by have := HOB.out; rw [hnw]; omega)
              have hp3 : p2 ≤ a.length := by omega
              have hdn2 := hdn
              clear hok hnw hpo hyes hp2 hrr hon h8 hdn hdn2
              go_wp2_with fail
              go_roundw
              case rel => exact ⟨k + 1, p2, o2, A2, c2, by omega, rfl, rfl, by rw [H8.out], by go_num, ho2, hp3, HBD.out, HF.out, HBE.out⟩
              case measure => simp [intOf]; omega
        · have hcp : ca = p := by omega
          subst hcp
          have h0 : d.a - ca = 0 := by omega
          rw [if_pos rfl, h0] at hsrc
          go_upto_region 16 with (at_builtin; refine wpList_append_sl rfl elemStr rfl rfl (n := out.length) (xs := strL out) ho4 rfl hsrc (strL_one _) (by unfold maxLen; omega) (by omega) hb4z ?_; intro A1 c1 w5 o5 k5)
          have o5 : Own w5 w.heap.size 9 1 A1 (out.length) c1 (strL (out ++ (a.drop ca).take (d.a - ca))) := by simpa [strL, h0] using o5
          have x5 := k5.blk X4.out (by simp) (by decide)
          have HB5 := Lib.hid (HB4.out.trans (k5.below (Nat.le_refl _) hb4z (by simp)))
          have e05 : w5.cell? ⟨z3, 0, none⟩ = some (.int .i64 (d.a : Int)) := x5.cell 0
          have e25 : w5.cell? ⟨z3, 2, none⟩ = some (.slice EA d.eds.length ec) := x5.cell 2
          have e35 : w5.cell? ⟨z3, 3, none⟩ = some (.slice LA d.ls.length lc) := x5.cell 3
          have HX5 := Lib.hid (show ∀ W, Kept w.heap.size [9] [] w5 W → Reads W B 2 EA d.eds.length (edLs d.eds) ∧ Reads W B 1 LA d.ls.length (strL d.ls) ∧ Reads W B 1 Aa a.length (strL a) from fun W kk => by
            have kb := (k5.trans kk).below (B := w.heap.size) (Nat.le_refl _) hb4z (by simp)
            obtain ⟨r1, r2⟩ := HX.out W (HK4.out W (kb.mono hB))
            exact ⟨r1, r2, HRA.out W (HB4.out.trans kb)⟩)
          have r2 := (HX5.out w5 (Kept.refl _ _ _ _)).2.1
          have hz5 := HB5.out.size
          obtain ⟨OUT, hOUT⟩ : ∃ x, out ++ (a.drop ca).take (d.a - ca) ++ newL d.eds d.ls = x := ⟨_, rfl⟩
          have HOL := Lib.hid (show out.length = (out ++ (a.drop ca).take (d.a - ca)).length from by rw [List.length_append, HSL.out]; omega)
          have HOUT := Lib.hid hOUT
          have hOl := congrArg List.length hOUT
          rw [List.length_append, ← HOL.out] at hOl
          have HOB := Lib.hid (show OUT.length ≤ d.a + (k + 1) * 1048576 from by have := HOLK.out; rw [Nat.succ_mul]; omega)
          have hOM : OUT.length ≤ 2000000000000 := by omega
          rw [HOUT.out] at HGOOD
          clear hOUT k5 e0 e1 e2 e3 ho4 hsrc x5 hOl
          go_wp2_with fail
          clear e05 e25 e35
          go_loopw [6, 7, 13, 78] (fun s6 s7 s13 s78 wi => ∃ (j m p2 : Nat) (o2 : List (List UInt8)) (A2 : Option Addr) (c2 : Nat) (RA : Option Addr) (rc : Nat), j ≤ d.eds.length ∧ m + sumN (d.eds.drop j) = d.ls.length ∧ s6 = .slice A2 o2.length c2 ∧ s7 = .int .i64 (p2 : Nat) ∧ s13 = .slice RA (d.ls.length - m) rc ∧ s78 = .int .i64 (j : Nat) ∧ d.ls.length - m ≤ rc ∧ Reads wi B 1 RA (d.ls.length - m) (strL (d.ls.drop m)) ∧
            Own wi w.heap.size 9 1 A2 o2.length c2 (strL o2) ∧ Kept w.heap.size [9] [] w5 wi ∧ p2 + (oldL (d.eds.drop j) (d.ls.drop m)).length = d.a + (oldL d.eds d.ls).length ∧ (okA a d.a (oldL d.eds d.ls) ↔ okA a p2 (oldL (d.eds.drop j) (d.ls.drop m))) ∧ o2 ++ newL (d.eds.drop j) (d.ls.drop m) = OUT) (fun _ _ _ s78 _ => d.eds.length - (intOf s78).toNat)
          case atStart => exact ⟨0, 0, d.a, _, A1, c1, LA, lc, Nat.zero_le _, by simpa using okd.sum, by rw [HOL.out], rfl, rfl, rfl, hlcD, r2, by rw [← HOL.out]; exact o5, Kept.refl _ _ _ _, rfl, Iff.rfl, HOUT.out⟩
          case round =>
            obtain ⟨j, m, p2, o2, A2, c2, RA, rc, hj, hms, rfl, rfl, rfl, rfl, hrc, hrr, ho2, kw, hpo, hok, hnw⟩ := hrel
            clear o5 r2
            obtain ⟨q1r, _, q3r⟩ := HX5.out _ kw
            have hzr := kw.size
            have hon := congrArg List.length hnw
            rw [List.length_append] at hon
            by_cases hjl : j < d.eds.length
            · obtain ⟨e, hex⟩ : ∃ e, d.eds[j]? = some e := ⟨_, List.getElem?_eq_getElem hjl⟩
              have hdr : d.eds.drop j = e :: d.eds.drop (j + 1) := List.drop_eq_getElem?_toList_append.trans (by rw [hex]; rfl)
              rw [hdr] at hms hpo hok hnw
              have hms2 : m + (e.n + sumN (d.eds.drop (j + 1))) = d.ls.length := by simpa [sumN] using hms
              obtain ⟨hop2, hn0⟩ := okd.ops e (List.mem_of_getElem? hex)
              rw [oldL, List.drop_drop] at hpo hok
              rw [newL, List.drop_drop] at hnw
              obtain ⟨row, hrow⟩ : ∃ x, (d.ls.drop m).take e.n = x := ⟨_, rfl⟩
              have hrl : row.length = e.n := by rw [← hrow, List.length_take, List.length_drop]; omega
              rw [hrow] at hpo hok hnw
              have HROW := Lib.hid hrow
              have HPO := Lib.hid hpo
              have HOKI := Lib.hid hok
              have HNW := Lib.hid hnw
              have hml : m ≤ d.ls.length := by omega
              have hen : e.n ≤ d.ls.length - m := by omega
              obtain ⟨ge, oe, hEA, _, hce⟩ := q1r.at0 (by omega) (by omega)
              have HEA := Lib.hid hEA
              have L1 := Lib.hid (load_edit_at (w := wr) (fun jj u hu => hce jj u hu) hex)
              subst hEA
              have hd7 : d.eds.length ≤ 10000000 := okd.n1
              have hj0 : (0 : Int) ≤ (j : Int) := Int.natCast_nonneg _
              have hj1 : (j : Int) < (d.eds.length : Int) := by omega
              have HA3 := Lib.hid q3r
              clear hce hex hdr hms hrow hok hnw hon q1r q3r hpo
              go_upto_region 21 with (first | (refine wpList_load rfl rfl rfl (by with_reducible exact L1.out) ?_) | (refine wpList_allocAgg rfl rfl (zero_edit _) ?_) | (refine wpList_storeBlk rfl rfl (vs := edC e) rfl rfl (Blk.new _ _ _) rfl info_edit (edC_one e) ?_; intro w6 x6 kc zc))
              go_frame
              have k6 : Keep Nothing wr w6 := Keep.ofNew kc
              have ho6 := ho2.sameB (w' := w6) fun q hq => k6.block q (ho2.blockAt q hq).2.1 (fun h => h)
              have hrr6 := hrr.below (k6.below (B := B) (by omega) (fun _ _ h => h))
              have hra6 := HA3.out.below (k6.below (B := B) (by omega) (fun _ _ h => h))
              have kw6 : Kept w.heap.size [9] [] w5 w6 := kw.trans (Kept.ofKeep k6 (fun _ _ h => absurd h (fun h => h)))
              have hz6 : w.heap.size ≤ w6.heap.size := by have := k6.size; omega
              generalize hz7 : wr.heap.size = z7 at *
              have e0 : w6.cell? ⟨z7, 0, none⟩ = some (.int .i64 (e.op : Int)) := x6.cell 0
              have e1 : w6.cell? ⟨z7, 1, none⟩ = some (.int .i64 (e.n : Int)) := x6.cell 1
              have X6 := Lib.hid x6
              have hfr := hrr6.front (k := e.n) hen
              rw [← elemStr_row, HROW.out] at hfr
              have hcut := hrr6.cut (k := e.n) (cap := rc) hen hrc
              have hle : d.ls.length - m - e.n = d.ls.length - (m + e.n) := by omega
              rw [hle, show (strL (d.ls.drop m)).drop (e.n * 1) = strL (d.ls.drop (m + e.n)) by rw [Nat.mul_one, ← List.drop_drop]; simp [strL]] at hcut
              have HLE := Lib.hid hle
              have HCUT := Lib.hid hcut
              have KW6 := Lib.hid kw6
              have HMS := Lib.hid (show m + e.n + sumN (d.eds.drop (j + 1)) = d.ls.length by omega)
              have nn0 : (0 : Int) ≤ (e.n : Int) := Int.natCast_nonneg _
              have nn1 : (e.n : Int) ≤ ((d.ls.length - m : Nat) : Int) := by omega
              have nn2 : (e.n : Int) ≤ (rc : Int) := by omega
              have nn3 : e.n ≤ rc := by omega
              have h3 : e.op = 0 ∨ e.op = 1 ∨ e.op = 2 := by omega
              clear kc zc L1 k6 ho2 hrr kw x6 hle hcut kw6 hrr6
              rcases h3 with q0 | q0 | q0
              · have hb2 : ((e.op : Int) != 2) = true := by rw [q0]; rfl
                have hb1 : ((e.op : Int) != 1) = true := by rw [q0]; rfl
                have hpe : p2 + e.n ≤ a.length := by
                  have := HPO.out
                  rw [if_neg (by omega), List.length_append, hrl] at this
                  omega
                have hsa := (hra6.cut (k := p2) (cap := ca) (by omega) hca).front (k := e.n) (by omega)
                rw [if_neg (by omega), Nat.mul_one, Nat.mul_one, show ((strL a).drop p2).take e.n = strL ((a.drop p2).take e.n) by simp [strL, List.map_take, List.map_drop]] at hsa
                have hal2 : ((a.drop p2).take e.n).length = e.n := by rw [List.length_take, List.length_drop]; omega
                have hq := fun (mm : Nat) => Calls.quiet_of (eqStr_any ((a.drop p2).take e.n) row (Option.map (fun x => x.add p2) Aa) RA (ca - p2) rc B B (w6.drewN mm) (by rw [hal2]; exact hsa.drewN mm) (by rw [hrl]; exact hfr.drewN mm) (by rw [hal2]; omega) (by rw [hrl]; omega))
                rw [hal2, hrl] at hq
                have HSAME := Lib.hid (show decide ((a.drop p2).take e.n = row) = true ↔ okA a p2 row from by unfold okA; rw [hrl, decide_eq_true_eq])
                have HOKE := Lib.hid (show okA a d.a (oldL d.eds d.ls) ↔ okA a p2 row ∧ okA a (p2 + e.n) (oldL (d.eds.drop (j + 1)) (d.ls.drop (m + e.n))) from by
                  rw [HOKI.out, if_neg (by omega), okA_app, hrl])
                have HPO2 := Lib.hid (show p2 + e.n + (oldL (d.eds.drop (j + 1)) (d.ls.drop (m + e.n))).length = d.a + (oldL d.eds d.ls).length from by
                  have := HPO.out
                  rw [if_neg (by omega), List.length_append, hrl] at this
                  omega)
                generalize decide ((a.drop p2).take e.n = row) = same at *
                have Q1 := Lib.hid hq
                have wq : IntKind.i64.wrap ((p2 : Int) + (e.n : Int)) = (p2 : Int) + (e.n : Int) := IntWalk.i64_in _ (by omega)
                have t1 : (p2 : Int) ≤ (p2 : Int) + (e.n : Int) := by omega
                have t2 : (p2 : Int) + (e.n : Int) ≤ (ca : Int) := by omega
                have t3 : ((p2 : Int) + (e.n : Int)).toNat = p2 + e.n := by omega
                have t4 : p2 + e.n - p2 = e.n := by omega
                have t5 : ¬ (ca = p2) := by omega
                have t6 : (0 : Int) ≤ (p2 : Int) + (e.n : Int) := by omega
                have t7 : p2 + e.n ≤ ca := by omega
                have t8 : ((p2 : Int) + (e.n : Int) - (p2 : Int)).toNat = e.n := by omega
                have t9 : (0 : Int) ≤ (p2 : Int) := Int.natCast_nonneg _
                clear hq hsa hal2
                go_upto_region 22 with fail
                go_quiet ((go_at_call 38; with_reducible exact Q1.out _))
                cases same
                case false =>
                  have hRR := HBAD.out (fun h => by have := HSAME.out.2 (HOKE.out.1 h).1; cases this)
                  subst hRR
                  have HBE := Lib.hid (HB5.out.trans ((KW6.out.drewN nq).below (B := w.heap.size) (Nat.le_refl _) hz5 (by simp)))
                  go_wp2_with fail
                  go_ret2
                  exact ⟨HBE.out, rfl⟩
                case true =>
                  have HOK2 := Lib.hid (show okA a d.a (oldL d.eds d.ls) ↔ okA a (p2 + e.n) (oldL (d.eds.drop (j + 1)) (d.ls.drop (m + e.n))) from HOKE.out.trans ⟨fun h => h.2, fun h => ⟨HSAME.out.1 rfl, h⟩⟩)
                  have ho7 := ho6.drewN nq
                  have hfr7 := hfr.drewN nq
                  have hcut7 := HCUT.out.drewN nq
                  have KW7 := Lib.hid (KW6.out.drewN nq)
                  have e07 : (w6.drewN nq).cell? ⟨z7, 0, none⟩ = some (.int .i64 (e.op : Int)) := e0
                  have e17 : (w6.drewN nq).cell? ⟨z7, 1, none⟩ = some (.int .i64 (e.n : Int)) := e1
                  have hz7' : w.heap.size ≤ (w6.drewN nq).heap.size := hz6
                  have X7 := Lib.hid (show Blk (w6.drewN nq) z7 67 (edC e) from X6.out)
                  clear HSAME HOKE Q1 ho6 hfr e0 e1 HBAD HCUT
                  generalize w6.drewN nq = w7 at *
                  have HO7 := Lib.hid ho7
                  have hond : (o2 ++ row).length = o2.length + e.n := by rw [List.length_append, hrl]
                  have HN2 := Lib.hid (show (o2 ++ row) ++ newL (d.eds.drop (j + 1)) (d.ls.drop (m + e.n)) = OUT from by have := HNW.out; rw [if_neg (by omega)] at this; rw [List.append_assoc]; exact this)
                  have hl9 := congrArg List.length HN2.out
                  rw [List.length_append, hond] at hl9
                  clear ho7
                  go_upto_region 27 with (at_builtin; refine wpList_append_sl rfl elemStr rfl rfl (n := o2.length) (xs := strL o2) HO7.out rfl hfr7 (strL_one _) (by unfold maxLen; omega) (by omega) hz7' ?_; intro A9 c9 w9 o9 k9; have y9 := k9.blk X7.out (by simp) (by decide); have e19 : w9.cell? ⟨z7, 1, none⟩ = some (.int .i64 (e.n : Int)) := y9.cell 1; have O9 := Lib.hid o9; have KW9 := Lib.hid (KW7.out.trans k9); have HC9 := Lib.hid (hcut7.below (k9.below hB (by omega) (by simp))); clear o9 k9 y9)
                  have ho9 : Own w9 w.heap.size 9 1 A9 (o2 ++ row).length c9 (strL (o2 ++ row)) := by rw [hond]; simpa [strL] using O9.out
                  have hcut9 := HC9.out
                  have HLE' := HLE.out
                  by_cases hcap : rc = e.n
                  all_goals
                    simp only [hcap, if_true, if_false, Nat.mul_one] at hcut9
                    have HC10 := Lib.hid hcut9
                    clear hcut9
                    go_wp2_with fail
                    go_roundw
                    case rel => exact ⟨j + 1, m + e.n, p2 + e.n, o2 ++ row, _, _, _, _, by omega, HMS.out, by rw [hond], by go_num, by rw [← HLE.out], by go_num, by omega, HC10.out, ho9, KW9.out, HPO2.out, HOK2.out, HN2.out⟩
                    case measure => simp [intOf]; omega
              · have hb2 : ((e.op : Int) != 2) = true := by rw [q0]; rfl
                have hb1 : ((e.op : Int) != 1) = false := by rw [q0]; rfl
                have hpe : p2 + e.n ≤ a.length := by
                  have := HPO.out
                  rw [if_neg (by omega), List.length_append, hrl] at this
                  omega
                have hsa := (hra6.cut (k := p2) (cap := ca) (by omega) hca).front (k := e.n) (by omega)
                rw [if_neg (by omega), Nat.mul_one, Nat.mul_one, show ((strL a).drop p2).take e.n = strL ((a.drop p2).take e.n) by simp [strL, List.map_take, List.map_drop]] at hsa
                have hal2 : ((a.drop p2).take e.n).length = e.n := by rw [List.length_take, List.length_drop]; omega
                have hq := fun (mm : Nat) => Calls.quiet_of (eqStr_any ((a.drop p2).take e.n) row (Option.map (fun x => x.add p2) Aa) RA (ca - p2) rc B B (w6.drewN mm) (by rw [hal2]; exact hsa.drewN mm) (by rw [hrl]; exact hfr.drewN mm) (by rw [hal2]; omega) (by rw [hrl]; omega))
                rw [hal2, hrl] at hq
                have HSAME := Lib.hid (show decide ((a.drop p2).take e.n = row) = true ↔ okA a p2 row from by unfold okA; rw [hrl, decide_eq_true_eq])
                have HOKE := Lib.hid (show okA a d.a (oldL d.eds d.ls) ↔ okA a p2 row ∧ okA a (p2 + e.n) (oldL (d.eds.drop (j + 1)) (d.ls.drop (m + e.n))) from by
                  rw [HOKI.out, if_neg (by omega), okA_app, hrl])
                have HPO2 := Lib.hid (show p2 + e.n + (oldL (d.eds.drop (j + 1)) (d.ls.drop (m + e.n))).length = d.a + (oldL d.eds d.ls).length from by
                  have := HPO.out
                  rw [if_neg (by omega), List.length_append, hrl] at this
                  omega)
                generalize decide ((a.drop p2).take e.n = row) = same at *
                have Q1 := Lib.hid hq
                have wq : IntKind.i64.wrap ((p2 : Int) + (e.n : Int)) = (p2 : Int) + (e.n : Int) := IntWalk.i64_in _ (by omega)
                have t1 : (p2 : Int) ≤ (p2 : Int) + (e.n : Int) := by omega
                have t2 : (p2 : Int) + (e.n : Int) ≤ (ca : Int) := by omega
                have t3 : ((p2 : Int) + (e.n : Int)).toNat = p2 + e.n := by omega
                have t4 : p2 + e.n - p2 = e.n := by omega
                have t5 : ¬ (ca = p2) := by omega
                have t6 : (0 : Int) ≤ (p2 : Int) + (e.n : Int) := by omega
                have t7 : p2 + e.n ≤ ca := by omega
                have t8 : ((p2 : Int) + (e.n : Int) - (p2 : Int)).toNat = e.n := by omega
                have t9 : (0 : Int) ≤ (p2 : Int) := Int.natCast_nonneg _
                clear hq hsa hal2
                go_upto_region 22 with fail
                go_quiet ((go_at_call 38; with_reducible exact Q1.out _))
                cases same
                case false =>
                  have hRR := HBAD.out (fun h => by have := HSAME.out.2 (HOKE.out.1 h).1; cases this)
                  subst hRR
                  have HBE := Lib.hid (HB5.out.trans ((KW6.out.drewN nq).below (B := w.heap.size) (Nat.le_refl _) hz5 (by simp)))
                  go_wp2_with fail
                  go_ret2
                  exact ⟨HBE.out, rfl⟩
                case true =>
                  have HOK2 := Lib.hid (show okA a d.a (oldL d.eds d.ls) ↔ okA a (p2 + e.n) (oldL (d.eds.drop (j + 1)) (d.ls.drop (m + e.n))) from HOKE.out.trans ⟨fun h => h.2, fun h => ⟨HSAME.out.1 rfl, h⟩⟩)
                  have ho7 := ho6.drewN nq
                  have hfr7 := hfr.drewN nq
                  have hcut7 := HCUT.out.drewN nq
                  have KW7 := Lib.hid (KW6.out.drewN nq)
                  have e07 : (w6.drewN nq).cell? ⟨z7, 0, none⟩ = some (.int .i64 (e.op : Int)) := e0
                  have e17 : (w6.drewN nq).cell? ⟨z7, 1, none⟩ = some (.int .i64 (e.n : Int)) := e1
                  have hz7' : w.heap.size ≤ (w6.drewN nq).heap.size := hz6
                  have X7 := Lib.hid (show Blk (w6.drewN nq) z7 67 (edC e) from X6.out)
                  clear HSAME HOKE Q1 ho6 hfr e0 e1 HBAD HCUT
                  generalize w6.drewN nq = w7 at *
                  have HN2 := Lib.hid (show o2 ++ newL (d.eds.drop (j + 1)) (d.ls.drop (m + e.n)) = OUT from by have := HNW.out; rw [if_pos q0] at this; exact this)
                  have ho9 := ho7
                  have KW9 := KW7
                  have HC9 := Lib.hid hcut7
                  clear ho7 hcut7 hfr7
                  have hcut9 := HC9.out
                  have HLE' := HLE.out
                  by_cases hcap : rc = e.n
                  all_goals
                    simp only [hcap, if_true, if_false, Nat.mul_one] at hcut9
                    have HC10 := Lib.hid hcut9
                    clear hcut9
                    go_wp2_with fail
                    go_roundw
                    case rel => exact ⟨j + 1, m + e.n, p2 + e.n, o2, _, _, _, _, by omega, HMS.out, rfl, by go_num, by rw [← HLE.out], by go_num, by omega, HC10.out, ho9, KW9.out, HPO2.out, HOK2.out, HN2.out⟩
                    case measure => simp [intOf]; omega
              · have hb2 : ((e.op : Int) != 2) = false := by rw [q0]; rfl
                have hb1 : ((e.op : Int) != 1) = true := by rw [q0]; rfl
                have HPO2 := Lib.hid (show p2 + (oldL (d.eds.drop (j + 1)) (d.ls.drop (m + e.n))).length = d.a + (oldL d.eds d.ls).length from by have := HPO.out; rw [if_pos q0] at this; exact this)
                have HOK2 := Lib.hid (show okA a d.a (oldL d.eds d.ls) ↔ okA a p2 (oldL (d.eds.drop (j + 1)) (d.ls.drop (m + e.n))) from by rw [HOKI.out, if_pos q0]; rfl)
                have ho7 := ho6
                have hfr7 := hfr
                have hcut7 := HCUT.out
                have KW7 := KW6
                have X7 := X6
                have hz7' := hz6
                clear ho6 hfr HBAD HCUT
                have HO7 := Lib.hid ho7
                have hond : (o2 ++ row).length = o2.length + e.n := by rw [List.length_append, hrl]
                have HN2 := Lib.hid (show (o2 ++ row) ++ newL (d.eds.drop (j + 1)) (d.ls.drop (m + e.n)) = OUT from by have := HNW.out; rw [if_neg (by omega)] at this; rw [List.append_assoc]; exact this)
                have hl9 := congrArg List.length HN2.out
                rw [List.length_append, hond] at hl9
                clear ho7
                go_upto_region 27 with (at_builtin; refine wpList_append_sl rfl elemStr rfl rfl (n := o2.length) (xs := strL o2) HO7.out rfl hfr7 (strL_one _) (by unfold maxLen; omega) (by omega) hz7' ?_; intro A9 c9 w9 o9 k9; have y9 := k9.blk X7.out (by simp) (by decide); have e19 : w9.cell? ⟨z7, 1, none⟩ = some (.int .i64 (e.n : Int)) := y9.cell 1; have O9 := Lib.hid o9; have KW9 := Lib.hid (KW7.out.trans k9); have HC9 := Lib.hid (hcut7.below (k9.below hB (by omega) (by simp))); clear o9 k9 y9)
                have ho9 : Own w9 w.heap.size 9 1 A9 (o2 ++ row).length c9 (strL (o2 ++ row)) := by rw [hond]; simpa [strL] using O9.out
                have hcut9 := HC9.out
                have HLE' := HLE.out
                by_cases hcap : rc = e.n
                all_goals
                  simp only [hcap, if_true, if_false, Nat.mul_one] at hcut9
                  have HC10 := Lib.hid hcut9
                  clear hcut9
                  go_wp2_with fail
                  go_roundw
                  case rel => exact ⟨j + 1, m + e.n, p2, o2 ++ row, _, _, _, _, by omega, HMS.out, by rw [hond], by go_num, by rw [← HLE.out], by go_num, by omega, HC10.out, ho9, KW9.out, HPO2.out, HOK2.out, HN2.out⟩
                  case measure => simp [intOf]; omega
            · obtain rfl : j = d.eds.length := by omega
              have hdn : d.eds.drop d.eds.length = [] := by simp
              rw [hdn, oldL] at hpo hok
              rw [hdn, newL, List.append_nil] at hnw
              have hyes : okA a d.a (oldL d.eds d.ls) := hok.2 (okA_nil _ _)
              have hp2 : p2 = d.a + (oldL d.eds d.ls).length := by simpa using hpo
              have HF := Lib.hid (HGOOD.out hyes)
              rw [← hp2, ← hnw] at HF
              have HBE := Lib.hid (HB5.out.trans (kw.below (B := w.heap.size) (Nat.le_refl _) hz5 (by simp)))
              have w1 : IntKind.i64.wrap ((((newL d.eds d.ls).length : Nat) : Int) - (((oldL d.eds d.ls).length : Nat) : Int)) = ((newL d.eds d.ls).length : Int) - ((oldL d.eds d.ls).length : Int) := IntWalk.i64_in _ (by omega)
              have w2 : IntKind.i64.wrap ((out.length : Int) - (ca : Int) + (((newL d.eds d.ls).length : Int) - ((oldL d.eds d.ls).length : Int))) = (out.length : Int) - (ca : Int) + (((newL d.eds d.ls).length : Int) - ((oldL d.eds d.ls).length : Int)) := IntWalk.i64_in _ (by omega)
              have h8 : (out.length : Int) - (ca : Int) + (((newL d.eds d.ls).length : Int) - ((oldL d.eds d.ls).length : Int)) = (o2.length : Int) - (p2 : Int) := by
                have h1 := congrArg List.length HOUT.out
                rw [List.length_append, ← HOL.out, ← hnw] at h1
                omega
              have H8 := Lib.hid h8
              have HBD := Lib.hid (show o2.length ≤ p2 + (k + 1) * 1048576 from by have := HOB.out; rw [hnw]; omega)
              have hp3 : p2 ≤ a.length := by omega
              have hdn2 := hdn
              clear hok hnw hpo hyes hp2 hrr hon h8 hdn hdn2
              go_wp2_with fail
              go_roundw
              case rel => exact ⟨k + 1, p2, o2, A2, c2, by omega, rfl, rfl, by rw [H8.out], by go_num, ho2, hp3, HBD.out, HF.out, HBE.out⟩
              case measure => simp [intOf]; omega
      · obtain rfl : k = l.length := by omega
        rw [List.drop_length, List.map_nil, applyL] at hap
        have hsrc := (HRA.out _ hb).cut (k := p) (cap := ca) hp hca
        rw [Nat.mul_one, show (strL a).drop p = strL (a.drop p) by simp [strL, List.map_drop]] at hsrc
        have hsl : (a.drop p).length = a.length - p := by rw [List.length_drop]
        have s1 : (p : Int) ≤ (a.length : Int) := by omega
        have s2 : (p : Int) ≤ (ca : Int) := by omega
        have HB := Lib.hid hb
        have hxx : ¬ (l.length < l.length) := Nat.lt_irrefl _
        subst hap
        clear hb
        by_cases hcp : ca = p
        · subst hcp
          have h0 : a.length - ca = 0 := by omega
          have hd0 : a.drop ca = [] := List.drop_of_length_le (by omega)
          rw [if_pos rfl, h0, hd0] at hsrc
          go_wp2_with (at_builtin; refine wpList_append_sl rfl elemStr rfl rfl (n := out.length) (xs := strL out) ho rfl hsrc (strL_one _) (by unfold maxLen; omega) (by omega) hz ?_; intro A5 c5 w5 o5 k5)
          go_ret2
          refine ⟨HB.out.trans (k5.below (Nat.le_refl _) hz (by simp)), A5, c5, ?_, ?_⟩
          · simp [h0]
          · rw [hd0, List.append_nil]; simpa [strL] using o5
        · rw [if_neg hcp] at hsrc
          go_wp2_with (at_builtin; refine wpList_append_sl rfl elemStr rfl rfl (n := out.length) (xs := strL out) ho rfl hsrc (strL_one _) (by unfold maxLen; omega) (by omega) hz ?_; intro A5 c5 w5 o5 k5)
          go_ret2
          refine ⟨HB.out.trans (k5.below (Nat.le_refl _) hz (by simp)), A5, c5, ?_, ?_⟩
          · simp
          · simpa [strL] using o5
end Go.Proofs.YtlcidbbpjlpmjaaDoor
