/-
  Contract of the reference's Apply. No statement of the seat is proved here.
-/
import Derived.Test.YtlcidbbpjlpmjaaDoorRn2
namespace Go.Proofs.YtlcidbbpjlpmjaaDoor
open Go.RowKit

theorem okA_cons {a : List (List UInt8)} {p : Nat} {x : List UInt8} {xs : List (List UInt8)} : okA a p (x :: xs) ↔ a[p]? = some x ∧ okA a (p + 1) xs := by
  rw [show x :: xs = [x] ++ xs from rfl, okA_app]
  have : okA a p [x] ↔ a[p]? = some x := by
    unfold okA
    rw [List.length_singleton]
    cases h : a[p]? with
    | none => rw [List.drop_of_length_le (List.getElem?_eq_none_iff.1 h)]; simp
    | some y =>
      obtain ⟨h1, h2⟩ := List.getElem?_eq_some_iff.1 h
      rw [List.drop_eq_getElem_cons h1, h2]
      simp
  rw [this]
  rfl
set_option maxHeartbeats 8000000 in
set_option maxRecDepth 100000 in
theorem rapply_any (a : List (List UInt8)) (Aa : Option Addr) (ca : Nat) (l : List HkI) (A0 : Option Addr) (c0 B : Nat) (w : World) (hB : B ≤ w.heap.size) (hr : Reads w B 1 Aa a.length (strL a)) (hca : a.length ≤ ca) (hal : a.length ≤ 4000) (hl : HII w B A0 l) (hll : l.length ≤ 1048576) (hls : ∀ h ∈ l, HkSmall 1048576 h) :
    Calls Tryd.prog 21 #[.slice Aa a.length ca, .slice A0 l.length c0] w (ApplyR (applyP a l) w) := by
  have HRA := Lib.hid (show ∀ W, Below w.heap.size w W → Reads W B 1 Aa a.length (strL a) from fun W k => hr.below (k.mono hB))
  have HRL := Lib.hid (show ∀ W, Below w.heap.size w W → HII W B A0 l from fun W k => hl.below (k.mono hB))
  have HLS := Lib.hid hls
  clear hr hl hls
  obtain ⟨R, hR⟩ : ∃ R, applyP a l = R := ⟨_, rfl⟩
  rw [hR]
  have HR0 := Lib.hid hR
  clear hR
  go_enter Tryd.func21, Tryd.ntmps21
  go_wp2_with fail
  go_loopw [6] (fun s6 wr => ∃ k : Nat, k ≤ l.length ∧ s6 = .int .i64 (k : Nat) ∧ (∀ (j : Nat) x, j < k → l[j]? = some x → okH x = true) ∧ Keep Nothing w wr) (fun s6 _ => l.length - (intOf s6).toNat)
  case atStart => exact ⟨0, Nat.zero_le _, rfl, fun j x hh => absurd hh (by omega), Keep.refl _ _⟩
  case round =>
    obtain ⟨k, hk, rfl, hok, kr⟩ := hrel
    have HOK := Lib.hid hok
    clear hok
    by_cases hlt : k < l.length
    · obtain ⟨h, hx⟩ : ∃ h, l[k]? = some h := ⟨_, List.getElem?_eq_getElem hlt⟩
      obtain ⟨n1, n2, n3⟩ := HLS.out h (List.mem_of_getElem? hx)
      obtain ⟨g1, o1, EA, ec, LA, lc, rfl, hg1, ld, hat, hec, hlc, hlm⟩ := (HRL.out _ kr.all).load hx
      have LD := Lib.hid ld
      have hi0 : (0 : Int) ≤ (k : Int) := Int.natCast_nonneg _
      have hi1 : (k : Int) < (l.length : Int) := by omega
      have hzk := kr.size
      have hro := (hat wr (Below.refl _ _)).2.2.2.2
      have HCN := Lib.hid (counts_any h EA LA ec lc B wr (by omega) hro.1 hro.2 (by omega) (by omega) (fun s hs => by have := n3 s hs; omega))
      have HX := Lib.hid hx
      clear ld hat hx hro n3
      cases hokh : okH h
      case false =>
        have hall : l.all okH = false := by rw [List.all_eq_false]; exact ⟨h, List.mem_of_getElem? HX.out, by simp [hokh]⟩
        have hRR : R = .error 1 := by rw [← HR0.out]; unfold applyP; rw [hall]; rfl
        have HRR := Lib.hid hRR
        clear hall hRR
        go_upto_region 5 with (first | (refine wpList_load rfl rfl rfl (by with_reducible exact LD.out) ?_) | (go_at_call 32; refine HCN.out.mono ?_; rintro _ w2 ⟨x, y, z, rfl, hxyz, k2⟩; rw [hokh]))
        go_wp2_with fail
        go_ret2
        rw [HRR.out]
        exact ⟨(kr.trans k2).all, rfl⟩
      case true =>
        have HOK2 := Lib.hid (show ∀ (j : Nat) x, j < k + 1 → l[j]? = some x → okH x = true from fun j x q1 q2 => by
          rcases Nat.lt_or_ge j k with q | q
          · exact HOK.out j x q q2
          · obtain rfl : j = k := by omega
            rw [HX.out] at q2
            injection q2 with q2
            rw [← q2]
            exact hokh)
        go_upto_region 5 with (first | (refine wpList_load rfl rfl rfl (by with_reducible exact LD.out) ?_) | (go_at_call 32; refine HCN.out.mono ?_; rintro _ w2 ⟨x, y, z, rfl, hxyz, k2⟩; rw [hokh]))
        go_wp2_with fail
        go_roundw
        case rel => exact ⟨k + 1, by omega, by go_num, HOK2.out, kr.trans k2⟩
        case measure => simp [intOf]; omega
    · obtain rfl : k = l.length := by omega
      have hall : l.all okH = true := by
        rw [List.all_eq_true]
        intro x hx
        obtain ⟨n, hn, rfl⟩ := List.mem_iff_getElem.1 hx
        exact HOK.out n _ hn (List.getElem?_eq_getElem hn)
      have HR1 := Lib.hid (show applyL a (l.map HkI.toD) 0 [] = R from by rw [← HR0.out]; unfold applyP; rw [if_pos hall])
      have HMA := Lib.hid (show ∀ h ∈ l, ∃ t, mayP h = some t from fun h hh => Option.isSome_iff_exists.1 (List.all_eq_true.1 hall h hh))
      have h40 : decide ((4000 : Int) < (a.length : Int)) = false := decide_eq_false (by omega)
      have h41 : (a.length : Int) ≤ 4000 := by omega
      have hxx : ¬ (l.length < l.length) := Nat.lt_irrefl _
      have hb1 := kr.all
      clear HOK hall kr
      go_wp2_with fail
      clear h40 hxx
      go_loopw [11, 12, 13] (fun s11 s12 s13 wi => ∃ (k p : Nat) (out : List (List UInt8)) (A : Option Addr) (cp : Nat), k ≤ l.length ∧ s11 = .slice A out.length cp ∧ s12 = .int .i64 (p : Nat) ∧ s13 = .int .i64 (k : Nat) ∧ Own wi w.heap.size 9 1 A out.length cp (strL out) ∧ p ≤ a.length ∧ Hid (out.length ≤ p + k * 1048576) ∧ applyL a ((l.drop k).map HkI.toD) p out = R ∧ Below w.heap.size w wi) (fun _ _ s13 _ => l.length - (intOf s13).toNat)
      case atStart => exact ⟨0, 0, [], none, 0, Nat.zero_le _, rfl, rfl, rfl, Own.nil _ _ _ _, Nat.zero_le _, Lib.hid (Nat.zero_le _), HR1.out, hb1⟩
      case round =>
        obtain ⟨k, p, out, A, cp, hk, rfl, rfl, rfl, ho, hp, HOLK, hap, hb⟩ := hrel
        have hz := hb.size
        have hob : out.length ≤ 1200000000000 := by
          have hkM : k * 1048576 ≤ 1048576 * 1048576 := Nat.mul_le_mul_right _ (by omega)
          have := HOLK.out
          omega
        by_cases hlt : k < l.length
        · obtain ⟨x, hx⟩ : ∃ x, l[k]? = some x := ⟨_, List.getElem?_eq_getElem hlt⟩
          obtain ⟨t, hm⟩ := HMA.out x (List.mem_of_getElem? hx)
          obtain ⟨n1, n2, n3⟩ := HLS.out x (List.mem_of_getElem? hx)
          obtain ⟨g, off, EA, ec, LA, lc, rfl, hg, ld, hat, _, hlc, _⟩ := (HRL.out _ hb).load hx
          have hdr : (l.drop k).map HkI.toD = x.toD :: (l.drop (k + 1)).map HkI.toD := by
            rw [List.drop_eq_getElem?_toList_append, hx]; rfl
          rw [hdr, applyL_step] at hap
          rw [hkC_toD hm] at ld
          have LD := Lib.hid ld
          have okd := okD_of hm (by omega) (by omega)
          have hio := toD_toI hm
          have hei : edLs x.toD.eds = edIs x.eds := by have := congrArg HkI.eds hio; exact edIs_toD this
          have hen : x.toD.eds.length = x.eds.length := by simp [HkI.toD]
          have hll2 : x.toD.ls.length = x.ls.length := rfl
          have hi0 : (0 : Int) ≤ (k : Int) := Int.natCast_nonneg _
          have hi1 : (k : Int) < (l.length : Int) := by omega
          have hpl := mayP_eds hm
          obtain ⟨p1, p2, p3, p4⟩ := places_le hpl.2.2.2.1
          have da : (x.toD.a : Int) = x.a := congrArg HkI.a hio
          have db : (x.toD.b : Int) = x.b := congrArg HkI.b hio
          have hda : x.toD.a ≤ 999999999 := by omega
          have hdb : x.toD.b ≤ 999999999 := by omega
          have hold := oldL_len x.toD.eds x.toD.ls
          have hnew := newL_len x.toD.eds x.toD.ls
          have HX := Lib.hid (show ∀ W, Below B wr W → Reads W B 2 EA x.toD.eds.length (edLs x.toD.eds) ∧ Reads W B 1 LA x.toD.ls.length (strL x.toD.ls) from fun W kk => by
            obtain ⟨_, _, _, _, r1, r2⟩ := hat W kk
            rw [hei, hen]
            exact ⟨r1, r2⟩)
          have HAP := Lib.hid hap
          have hlcD : x.toD.ls.length ≤ lc := hlc
          clear ld hat hx hdr hap p1 p2 p3 p4 da db hio hei hpl hm hlc
          generalize x.toD = d at *
          clear n1 n3
          have hlsM : d.ls.length ≤ 1048576 := by omega
          clear n2 hll2 hen
          go_upto_region 15 with (first | (refine wpList_load rfl rfl rfl (by with_reducible exact LD.out) ?_) | (refine wpList_allocAgg rfl rfl (zero_hk _) ?_) | (refine wpList_storeBlk rfl rfl (vs := hkV d EA ec LA lc) rfl rfl (Blk.new _ _ _) rfl info_hunk (hkV_one d EA ec LA lc) ?_; intro w4 x4 kc zc))
          go_frame
          have k4 : Keep Nothing wr w4 := Keep.ofNew kc
          generalize hz3 : wr.heap.size = z3 at *
          have hb4 : Below w.heap.size w w4 := hb.trans (k4.below (by omega) (fun _ _ h => h))
          have ho4 : Own w4 w.heap.size 9 1 A out.length cp (strL out) := ho.below (by rw [hz3]; exact k4.below (by omega) (fun _ _ h => h))
          have HK4 := Lib.hid (show ∀ W, Below B w4 W → Below B wr W from fun W kk => (k4.below (by omega) (fun _ _ h => h)).trans kk)
          have e0 : w4.cell? ⟨z3, 0, none⟩ = some (.int .i64 (d.a : Int)) := x4.cell 0
          have e1 : w4.cell? ⟨z3, 1, none⟩ = some (.int .i64 (d.b : Int)) := x4.cell 1
          have X4 := Lib.hid x4
          clear kc zc k4 LD ho hb x4
          by_cases q1 : d.a < p
          · have d1 : decide ((d.a : Int) < (p : Int)) = true := decide_eq_true (by omega)
            have hRR : R = .error 18 := by rw [← HAP.out, stepA_order q1]
            have HRR := Lib.hid hRR
            clear hRR
            go_wp2_with fail
            go_ret2
            rw [HRR.out]
            exact ⟨hb4, rfl⟩
          have d1 : decide ((d.a : Int) < (p : Int)) = false := decide_eq_false (by omega)
          by_cases q2 : a.length < d.a
          · have d2 : decide ((a.length : Int) < (d.a : Int)) = true := decide_eq_true (by omega)
            have hRR : R = .error 28 := by rw [← HAP.out, stepA_bad q1 (fun h => by omega)]
            have HRR := Lib.hid hRR
            clear hRR
            go_wp2_with fail
            go_ret2
            rw [HRR.out]
            exact ⟨hb4, rfl⟩
          have d2 : decide ((a.length : Int) < (d.a : Int)) = false := decide_eq_false (by omega)
          go_upto_region 19 with fail
          have hb4z := hb4.size
          have hsrc := ((HRA.out _ hb4).cut (k := p) (cap := ca) hp hca).front (k := d.a - p) (by omega)
          rw [Nat.mul_one, Nat.mul_one, show ((strL a).drop p).take (d.a - p) = strL ((a.drop p).take (d.a - p)) by simp [strL, List.map_take, List.map_drop]] at hsrc
          have hsl : ((a.drop p).take (d.a - p)).length = d.a - p := by rw [List.length_take, List.length_drop]; omega
          have HSL := Lib.hid hsl
          have s1 : (p : Int) ≤ (d.a : Int) := by omega
          have s2 : (d.a : Int) ≤ (ca : Int) := by omega
          have s3 : p ≤ d.a := by omega
          have s4 : d.a ≤ ca := by omega
          have s5 : ((d.a : Int) - (p : Int)).toNat = d.a - p := by omega
          have HB4 := Lib.hid hb4
          clear d1 d2 hsl hb4
          rcases Nat.lt_or_ge p ca with hcl | hcl
          · rw [if_neg (by omega)] at hsrc
            have hcp : ¬ (ca = p) := by omega
            go_upto_region 21 with (at_builtin; refine wpList_append_sl rfl elemStr rfl rfl (n := out.length) (xs := strL out) ho4 rfl hsrc (strL_one _) (by unfold maxLen; omega) (by omega) hb4z ?_; intro A1 c1 w5 o5 k5; have x5 := k5.blk X4.out (by simp) (by decide); have e05 : w5.cell? ⟨z3, 0, none⟩ = some (.int .i64 (d.a : Int)) := x5.cell 0)
            generalize Option.map (fun x : Addr => x.add p) Aa = PA at *
            have e15 : w5.cell? ⟨z3, 1, none⟩ = some (.int .i64 (d.b : Int)) := x5.cell 1
            have o5 : Own w5 w.heap.size 9 1 A1 (out.length + (d.a - p)) c1 (strL (out ++ (a.drop p).take (d.a - p))) := by simpa [strL] using o5
            have HB5 := Lib.hid (HB4.out.trans (k5.below (Nat.le_refl _) hb4z (by simp)))
            by_cases q4 : d.b = out.length + (d.a - p)
            case neg =>
              have d4 : ((d.b : Int) != ((out.length + (d.a - p) : Nat) : Int)) = true := by simp; omega
              have hRR : R = .error 28 := by rw [← HAP.out, stepA_bad q1 (fun h => q4 (by have := h.2.1; omega))]
              have HRR := Lib.hid hRR
              clear hRR
              go_wp2_with fail
              go_ret2
              rw [HRR.out]
              exact ⟨HB5.out, rfl⟩
            have d4 : ((d.b : Int) != ((out.length + (d.a - p) : Nat) : Int)) = false := by simp; omega
            have d4' := d4
            try simp only [Int.natCast_add] at d4'
            have HBAD := Lib.hid (show ¬ okA a d.a (oldL d.eds d.ls) → R = .error 28 from fun hn => by rw [← HAP.out, stepA_bad q1 (fun h => hn h.2.2)])
            have HGOOD := Lib.hid (show okA a d.a (oldL d.eds d.ls) → applyL a ((l.drop (k + 1)).map HkI.toD) (d.a + (oldL d.eds d.ls).length) (out ++ (a.drop p).take (d.a - p) ++ newL d.eds d.ls) = R from fun hy => by rw [← HAP.out, stepA_ok q1 (by omega) (by omega) hy])
            have HX5 := Lib.hid (show ∀ W, Kept w.heap.size [9] [] w5 W → W.cell? ⟨z3, 2, none⟩ = some (.slice EA d.eds.length ec) ∧ W.cell? ⟨z3, 3, none⟩ = some (.slice LA d.ls.length lc) ∧ Reads W B 2 EA d.eds.length (edLs d.eds) ∧ Reads W B 1 LA d.ls.length (strL d.ls) ∧ Reads W B 1 Aa a.length (strL a) from fun W kk => by
              have kb := (k5.trans kk).below (B := w.heap.size) (Nat.le_refl _) hb4z (by simp)
              obtain ⟨r1, r2⟩ := HX.out W (HK4.out W (kb.mono hB))
              have y5 := kk.blk x5 (by simp) (by decide)
              exact ⟨y5.cell 2, y5.cell 3, r1, r2, HRA.out W (HB4.out.trans kb)⟩)
            have hz5 := HB5.out.size
            obtain ⟨OUT, hOUT⟩ : ∃ x, out ++ (a.drop p).take (d.a - p) ++ newL d.eds d.ls = x := ⟨_, rfl⟩
            have HOL := Lib.hid (show out.length + (d.a - p) = (out ++ (a.drop p).take (d.a - p)).length from by rw [List.length_append, HSL.out])
            have HOUT := Lib.hid hOUT
            have hOl := congrArg List.length hOUT
            rw [List.length_append, ← HOL.out] at hOl
            have HOB := Lib.hid (show OUT.length ≤ d.a + (k + 1) * 1048576 from by have := HOLK.out; rw [Nat.succ_mul]; omega)
            have hOM : OUT.length ≤ 2000000000000 := by omega
            rw [HOUT.out] at HGOOD
            have Q4 := Lib.hid q4
            have ha5 : d.a ≤ a.length := by omega
            clear hOUT k5 e0 e1 ho4 hsrc x5 hOl q4 HAP
            go_wp2_with fail
            clear e05 e15 d4 d4'
            go_loopw [11, 12, 15, 16] (fun s11 s12 s15 s16 wi => ∃ (j m p2 : Nat) (o2 : List (List UInt8)) (A2 : Option Addr) (c2 : Nat), j ≤ d.eds.length ∧ m + sumN (d.eds.drop j) = d.ls.length ∧ s11 = .slice A2 o2.length c2 ∧ s12 = .int .i64 (p2 : Nat) ∧ s15 = .int .i64 (m : Nat) ∧ s16 = .int .i64 (j : Nat) ∧
              Own wi w.heap.size 9 1 A2 o2.length c2 (strL o2) ∧ Kept w.heap.size [9] [] w5 wi ∧ p2 ≤ a.length ∧ p2 + (oldL (d.eds.drop j) (d.ls.drop m)).length = d.a + (oldL d.eds d.ls).length ∧ (okA a d.a (oldL d.eds d.ls) ↔ okA a p2 (oldL (d.eds.drop j) (d.ls.drop m))) ∧ o2 ++ newL (d.eds.drop j) (d.ls.drop m) = OUT) (fun _ _ _ s16 _ => d.eds.length - (intOf s16).toNat)
            case atStart => exact ⟨0, 0, d.a, _, A1, c1, Nat.zero_le _, by simpa using okd.sum, by rw [HOL.out], rfl, rfl, rfl, by rw [← HOL.out]; exact o5, Kept.refl _ _ _ _, ha5, rfl, Iff.rfl, HOUT.out⟩
            case round =>
              obtain ⟨j, m, p2, o2, A2, c2, hj, hms, rfl, rfl, rfl, rfl, ho2, kw, hp2a, hpo, hok, hnw⟩ := hrel
              clear o5
              obtain ⟨c2r, c3r, q1r, _, _⟩ := HX5.out _ kw
              by_cases hjl : j < d.eds.length
              · obtain ⟨e, hex⟩ : ∃ e, d.eds[j]? = some e := ⟨_, List.getElem?_eq_getElem hjl⟩
                have hdr : d.eds.drop j = e :: d.eds.drop (j + 1) := List.drop_eq_getElem?_toList_append.trans (by rw [hex]; rfl)
                rw [hdr] at hms hpo hok hnw
                have hms2 : m + (e.n + sumN (d.eds.drop (j + 1))) = d.ls.length := by simpa [sumN] using hms
                obtain ⟨hop2, hn0⟩ := okd.ops e (List.mem_of_getElem? hex)
                rw [oldL, List.drop_drop] at hpo hok
                rw [newL, List.drop_drop] at hnw
                obtain ⟨row, hrow⟩ : ∃ x, (d.ls.drop m).take e.n = x := ⟨_, rfl⟩
                have hrl : row.length = e.n := by rw [← hrow, List.length_take, List.length_drop]; omega
                rw [hrow] at hpo hok hnw
                have HRW := Lib.hid (show ∀ (i : Nat) (s : List UInt8), row[i]? = some s → d.ls[m + i]? = some s from fun i s hs => by
                  rw [← hrow, List.getElem?_take] at hs
                  split at hs
                  · rwa [List.getElem?_drop] at hs
                  · cases hs)
                obtain ⟨ge, oe, hEA, _, _⟩ := q1r.at0 (by omega) (by omega)
                subst hEA
                have HED := Lib.hid (show ∀ W, Kept w.heap.size [9] [] w5 W → W.cell? ⟨z3, 2, none⟩ = some (.slice (some ⟨ge, oe, none⟩) d.eds.length ec) ∧ W.cell? ⟨z3, 3, none⟩ = some (.slice LA d.ls.length lc) ∧ W.cell? ⟨ge, oe + j * 2, none⟩ = some (.int .i64 (e.op : Int)) ∧ W.cell? ⟨ge, oe + j * 2 + 1, none⟩ = some (.int .i64 (e.n : Int)) from fun W q => by
                  obtain ⟨a1, a2, a3, _, _⟩ := HX5.out W q
                  refine ⟨a1, a2, a3.cellAt (edLs_at hex).1 (by omega), ?_⟩
                  have := a3.cellAt (edLs_at hex).2 (by omega)
                  rwa [← Nat.add_assoc] at this)
                have hd7 : d.eds.length ≤ 10000000 := okd.n1
                have hj0 : (0 : Int) ≤ (j : Int) := Int.natCast_nonneg _
                have hj1 : (j : Int) < (d.eds.length : Int) := by omega
                have HMS := Lib.hid (show m + e.n + sumN (d.eds.drop (j + 1)) = d.ls.length by omega)
                have hml : m + e.n ≤ d.ls.length := by omega
                have h3 : e.op = 0 ∨ e.op = 1 ∨ e.op = 2 := by omega
                generalize hOR : oldL (d.eds.drop (j + 1)) (d.ls.drop (m + e.n)) = OR at *
                generalize hNR : newL (d.eds.drop (j + 1)) (d.ls.drop (m + e.n)) = NR at *
                have HOR := Lib.hid hOR
                have HNR := Lib.hid hNR
                clear hex hdr hms hrow hOR hNR q1r hms2
                obtain ⟨fo, hfo⟩ : ∃ f : Nat → List (List UInt8), ∀ i, f i = if e.op = 2 then [] else row.drop i := ⟨_, fun _ => rfl⟩
                obtain ⟨fn, hfn⟩ : ∃ f : Nat → List (List UInt8), ∀ i, f i = if e.op = 1 then [] else row.drop i := ⟨_, fun _ => rfl⟩
                have HFO := Lib.hid hfo
                have HFN := Lib.hid hfn
                clear hfo hfn
                go_wp2_with fail
                clear c2r c3r
                go_loopw [11, 12, 15, 17] (fun s11 s12 s15 s17 wi => ∃ (i p3 : Nat) (o3 : List (List UInt8)) (A3 : Option Addr) (c3 : Nat), i ≤ e.n ∧ s11 = .slice A3 o3.length c3 ∧ s12 = .int .i64 (p3 : Nat) ∧ s15 = .int .i64 (m + i : Nat) ∧ s17 = .int .i64 (i : Nat) ∧
                  Own wi w.heap.size 9 1 A3 o3.length c3 (strL o3) ∧ Kept w.heap.size [9] [] w5 wi ∧ p3 ≤ a.length ∧ p3 + (fo i ++ OR).length = d.a + (oldL d.eds d.ls).length ∧ (okA a d.a (oldL d.eds d.ls) ↔ okA a p3 (fo i ++ OR)) ∧ o3 ++ (fn i ++ NR) = OUT) (fun _ _ _ s17 _ => e.n - (intOf s17).toNat)
                case atStart => exact ⟨0, p2, o2, A2, c2, Nat.zero_le _, rfl, rfl, rfl, rfl, ho2, kw, hp2a, by rw [HFO.out]; exact hpo, by rw [HFO.out]; exact hok, by rw [HFN.out]; exact hnw⟩
                case round =>
                  obtain ⟨i, p3, o3, A3, c3, hi, rfl, rfl, rfl, rfl, ho3, kw3, hp3, hpo3, hok3, hnw3⟩ := hrel
                  rw [HFO.out] at hpo3 hok3
                  rw [HFN.out] at hnw3
                  clear hpo hok hnw ho2 kw
                  obtain ⟨c2r, c3r, c4r, c5r⟩ := HED.out _ kw3
                  have hzr := kw3.size
                  by_cases hil : i < e.n
                  · obtain ⟨s, hs⟩ : ∃ s, row[i]? = some s := ⟨_, List.getElem?_eq_getElem (by omega)⟩
                    have hdi : row.drop i = s :: row.drop (i + 1) := List.drop_eq_getElem?_toList_append.trans (by rw [hs]; rfl)
                    have hls := HRW.out i s hs
                    rw [hdi] at hpo3 hok3 hnw3
                    obtain ⟨-, -, -, r2, r3⟩ := HX5.out _ kw3
                    obtain ⟨gl, ol, hLA, _, hcl⟩ := r2.at0 (by omega) (by omega)
                    have d9 := hcl _ _ (strL_at' hls)
                    unfold strC at d9
                    rw [hLA] at c3r
                    have R3 := Lib.hid r3
                    have hn0' : (0 : Int) ≤ ((m + i : Nat) : Int) := Int.natCast_nonneg _
                    have hn1' : ((m + i : Nat) : Int) < (d.ls.length : Int) := by omega
                    have hiI : (i : Int) < (e.n : Int) := by omega
                    have hon := congrArg List.length hnw3
                    have HNW := Lib.hid hnw3
                    have HPO := Lib.hid hpo3
                    have HOK3 := Lib.hid hok3
                    have HO3 := Lib.hid ho3
                    have HK3 := Lib.hid kw3
                    have hgz : w.heap.size ≤ wr.heap.size := by omega
                    clear hcl hs hls hdi r2 r3 hLA hnw3 hpo3 hok3 ho3 kw3
                    rcases h3 with q0 | q0 | q0
                    · have hb2 : ((e.op : Int) != 2) = true := by rw [q0]; rfl
                      have hb1 : ((e.op : Int) != 1) = true := by rw [q0]; rfl
                      have HBE := Lib.hid (HB5.out.trans (HK3.out.below (B := w.heap.size) (Nat.le_refl _) hz5 (by simp)))
                      have HOKC := Lib.hid (show okA a d.a (oldL d.eds d.ls) ↔ a[p3]? = some s ∧ okA a (p3 + 1) (row.drop (i + 1) ++ OR) from by rw [HOK3.out, if_neg (by omega), List.cons_append, okA_cons])
                      have HPO2 := Lib.hid (show p3 + 1 + ((if e.op = 2 then [] else row.drop (i + 1)) ++ OR).length = d.a + (oldL d.eds d.ls).length from by
                        have := HPO.out
                        rw [if_neg (by omega), List.cons_append, List.length_cons] at this
                        rw [if_neg (by omega)]
                        omega)
                      by_cases hpa : p3 < a.length
                      case neg =>
                        have g1 : decide ((a.length : Int) ≤ (p3 : Int)) = true := decide_eq_true (by omega)
                        have HRR := Lib.hid (HBAD.out (fun h => by
                          have := (List.getElem?_eq_some_iff.1 (HOKC.out.1 h).1).1
                          omega))
                        go_wp2_with fail
                        go_ret2
                        rw [HRR.out]
                        exact ⟨HBE.out, rfl⟩
                      have g1 : decide ((a.length : Int) ≤ (p3 : Int)) = false := decide_eq_false (by omega)
                      obtain ⟨y, hy⟩ : ∃ y, a[p3]? = some y := ⟨_, List.getElem?_eq_getElem hpa⟩
                      obtain ⟨ga, oa, hAa, _, hca'⟩ := R3.out.at0 (by omega) (by omega)
                      have d10 := hca' _ _ (strL_at' hy)
                      unfold strC at d10
                      have hpI0 : (0 : Int) ≤ (p3 : Int) := Int.natCast_nonneg _
                      have hpI1 : (p3 : Int) < (a.length : Int) := by omega
                      have HY := Lib.hid hy
                      clear hca' hy R3
                      subst hAa
                      by_cases hys : y = s
                      case neg =>
                        have g2 : (y != s) = true := by simpa using hys
                        have g3 : (y == s) = false := by simpa using hys
                        have HRR := Lib.hid (HBAD.out (fun h => by
                          have := (HOKC.out.1 h).1
                          rw [HY.out] at this
                          injection this with this
                          exact hys this))
                        go_wp2_with fail
                        go_ret2
                        rw [HRR.out]
                        exact ⟨HBE.out, rfl⟩
                      have HOK4 := Lib.hid (show okA a d.a (oldL d.eds d.ls) ↔ okA a (p3 + 1) ((if e.op = 2 then [] else row.drop (i + 1)) ++ OR) from by
                        rw [if_neg (by omega), HOKC.out]
                        exact ⟨fun h => h.2, fun h => ⟨by rw [HY.out, hys], h⟩⟩)
                      have hp4 : p3 + 1 ≤ a.length := by omega
                      have g2 : (y != s) = false := by simpa using hys
                      have g3 : (y == s) = true := by simpa using hys
                      have HYS := Lib.hid hys
                      clear hys
                      have HN2 := Lib.hid (show (o3 ++ [s]) ++ ((if e.op = 1 then [] else row.drop (i + 1)) ++ NR) = OUT from by
                        have := HNW.out
                        rw [if_neg (by omega)] at this ⊢
                        rw [← this]
                        simp)
                      have hl9 := congrArg List.length HN2.out
                      rw [List.length_append, List.length_append, List.length_singleton] at hl9
                      have hl10 : o3.length + 1 ≤ 2000000000000 := by omega
                      clear hon hl9
                      go_upto_region 37 with fail
                      go_wp2_with (at_builtin; refine wpList_append_sl rfl elemStr rfl rfl (n := o3.length) (xs := strL o3) (HO3.out.alloc _) rfl (Reads.of_blk (n := 1) (size := 1) (xs := strL [s]) (heap_alloc_new _ _) rfl rfl) (strL_one [s]) (by unfold maxLen; omega) (by omega) (by simp; omega) ?_; intro A9 c9 w9 o9 k9; have HO9 := Lib.hid o9; have HK9 := Lib.hid (HK3.out.trans (((Kept.refl _ _ _ _).alloc _).trans k9)); clear o9 k9)
                      have ho9 : Own w9 w.heap.size 9 1 A9 (o3 ++ [s]).length c9 (strL (o3 ++ [s])) := by rw [List.length_append, List.length_singleton]; simpa [strL] using HO9.out
                      go_roundw
                      case rel => exact ⟨i + 1, p3 + 1, o3 ++ [s], A9, c9, hil, by rw [List.length_append, List.length_singleton], by go_num, by go_num, by go_num, ho9, HK9.out, hp4, by rw [HFO.out]; exact HPO2.out, by rw [HFO.out]; exact HOK4.out, by rw [HFN.out]; exact HN2.out⟩
                      case measure => simp [intOf]; omega
                    · have hb2 : ((e.op : Int) != 2) = true := by rw [q0]; rfl
                      have hb1 : ((e.op : Int) != 1) = false := by rw [q0]; rfl
                      have HBE := Lib.hid (HB5.out.trans (HK3.out.below (B := w.heap.size) (Nat.le_refl _) hz5 (by simp)))
                      have HOKC := Lib.hid (show okA a d.a (oldL d.eds d.ls) ↔ a[p3]? = some s ∧ okA a (p3 + 1) (row.drop (i + 1) ++ OR) from by rw [HOK3.out, if_neg (by omega), List.cons_append, okA_cons])
                      have HPO2 := Lib.hid (show p3 + 1 + ((if e.op = 2 then [] else row.drop (i + 1)) ++ OR).length = d.a + (oldL d.eds d.ls).length from by
                        have := HPO.out
                        rw [if_neg (by omega), List.cons_append, List.length_cons] at this
                        rw [if_neg (by omega)]
                        omega)
                      by_cases hpa : p3 < a.length
                      case neg =>
                        have g1 : decide ((a.length : Int) ≤ (p3 : Int)) = true := decide_eq_true (by omega)
                        have HRR := Lib.hid (HBAD.out (fun h => by
                          have := (List.getElem?_eq_some_iff.1 (HOKC.out.1 h).1).1
                          omega))
                        go_wp2_with fail
                        go_ret2
                        rw [HRR.out]
                        exact ⟨HBE.out, rfl⟩
                      have g1 : decide ((a.length : Int) ≤ (p3 : Int)) = false := decide_eq_false (by omega)
                      obtain ⟨y, hy⟩ : ∃ y, a[p3]? = some y := ⟨_, List.getElem?_eq_getElem hpa⟩
                      obtain ⟨ga, oa, hAa, _, hca'⟩ := R3.out.at0 (by omega) (by omega)
                      have d10 := hca' _ _ (strL_at' hy)
                      unfold strC at d10
                      have hpI0 : (0 : Int) ≤ (p3 : Int) := Int.natCast_nonneg _
                      have hpI1 : (p3 : Int) < (a.length : Int) := by omega
                      have HY := Lib.hid hy
                      clear hca' hy R3
                      subst hAa
                      by_cases hys : y = s
                      case neg =>
                        have g2 : (y != s) = true := by simpa using hys
                        have g3 : (y == s) = false := by simpa using hys
                        have HRR := Lib.hid (HBAD.out (fun h => by
                          have := (HOKC.out.1 h).1
                          rw [HY.out] at this
                          injection this with this
                          exact hys this))
                        go_wp2_with fail
                        go_ret2
                        rw [HRR.out]
                        exact ⟨HBE.out, rfl⟩
                      have HOK4 := Lib.hid (show okA a d.a (oldL d.eds d.ls) ↔ okA a (p3 + 1) ((if e.op = 2 then [] else row.drop (i + 1)) ++ OR) from by
                        rw [if_neg (by omega), HOKC.out]
                        exact ⟨fun h => h.2, fun h => ⟨by rw [HY.out, hys], h⟩⟩)
                      have hp4 : p3 + 1 ≤ a.length := by omega
                      have g2 : (y != s) = false := by simpa using hys
                      have g3 : (y == s) = true := by simpa using hys
                      have HYS := Lib.hid hys
                      clear hys
                      have HN2 := Lib.hid (show o3 ++ ((if e.op = 1 then [] else row.drop (i + 1)) ++ NR) = OUT from by have := HNW.out; rw [if_pos q0] at this ⊢; exact this)
                      clear hon
                      go_wp2_with fail
                      go_roundw
                      case rel => exact ⟨i + 1, p3 + 1, o3, A3, c3, hil, rfl, by go_num, by go_num, by go_num, HO3.out, HK3.out, hp4, by rw [HFO.out]; exact HPO2.out, by rw [HFO.out]; exact HOK4.out, by rw [HFN.out]; exact HN2.out⟩
                      case measure => simp [intOf]; omega
                    · have hb2 : ((e.op : Int) != 2) = false := by rw [q0]; rfl
                      have hb1 : ((e.op : Int) != 1) = true := by rw [q0]; rfl
                      have HBE := Lib.hid (HB5.out.trans (HK3.out.below (B := w.heap.size) (Nat.le_refl _) hz5 (by simp)))
                      have HPO2 := Lib.hid (show p3 + ((if e.op = 2 then [] else row.drop (i + 1)) ++ OR).length = d.a + (oldL d.eds d.ls).length from by have := HPO.out; rw [if_pos q0] at this; rw [if_pos q0]; exact this)
                      have HOK4 := Lib.hid (show okA a d.a (oldL d.eds d.ls) ↔ okA a p3 ((if e.op = 2 then [] else row.drop (i + 1)) ++ OR) from by have := HOK3.out; rw [if_pos q0] at this; rw [if_pos q0]; exact this)
                      have hp4 := hp3
                      have HN2 := Lib.hid (show (o3 ++ [s]) ++ ((if e.op = 1 then [] else row.drop (i + 1)) ++ NR) = OUT from by
                        have := HNW.out
                        rw [if_neg (by omega)] at this ⊢
                        rw [← this]
                        simp)
                      have hl9 := congrArg List.length HN2.out
                      rw [List.length_append, List.length_append, List.length_singleton] at hl9
                      have hl10 : o3.length + 1 ≤ 2000000000000 := by omega
                      clear hon hl9
                      go_upto_region 37 with fail
                      go_wp2_with (at_builtin; refine wpList_append_sl rfl elemStr rfl rfl (n := o3.length) (xs := strL o3) (HO3.out.alloc _) rfl (Reads.of_blk (n := 1) (size := 1) (xs := strL [s]) (heap_alloc_new _ _) rfl rfl) (strL_one [s]) (by unfold maxLen; omega) (by omega) (by simp; omega) ?_; intro A9 c9 w9 o9 k9; have HO9 := Lib.hid o9; have HK9 := Lib.hid (HK3.out.trans (((Kept.refl _ _ _ _).alloc _).trans k9)); clear o9 k9)
                      have ho9 : Own w9 w.heap.size 9 1 A9 (o3 ++ [s]).length c9 (strL (o3 ++ [s])) := by rw [List.length_append, List.length_singleton]; simpa [strL] using HO9.out
                      go_roundw
                      case rel => exact ⟨i + 1, p3, o3 ++ [s], A9, c9, hil, by rw [List.length_append, List.length_singleton], by go_num, by go_num, by go_num, ho9, HK9.out, hp4, by rw [HFO.out]; exact HPO2.out, by rw [HFO.out]; exact HOK4.out, by rw [HFN.out]; exact HN2.out⟩
                      case measure => simp [intOf]; omega
                  · obtain rfl : i = e.n := by omega
                    have hdn : row.drop e.n = [] := List.drop_of_length_le (by omega)
                    rw [hdn, ite_self, List.nil_append] at hpo3 hok3 hnw3
                    have hiI : ¬ ((e.n : Int) < (e.n : Int)) := by omega
                    rw [← HOR.out] at hpo3 hok3
                    rw [← HNR.out] at hnw3
                    have HP := Lib.hid hpo3
                    have HO := Lib.hid hok3
                    have HN := Lib.hid hnw3
                    clear hpo3 hok3 hnw3 hdn
                    go_wp2_with fail
                    go_roundw
                    case rel => exact ⟨j + 1, m + e.n, p3, o3, A3, c3, hjl, HMS.out, rfl, rfl, rfl, by go_num, ho3, kw3, hp3, HP.out, HO.out, HN.out⟩
                    case measure => simp [intOf]; omega
              · obtain rfl : j = d.eds.length := by omega
                have hdn : d.eds.drop d.eds.length = [] := by simp
                rw [hdn, oldL] at hpo hok
                rw [hdn, newL, List.append_nil] at hnw
                have hyes : okA a d.a (oldL d.eds d.ls) := hok.2 (okA_nil _ _)
                have hp2 : p2 = d.a + (oldL d.eds d.ls).length := by simpa using hpo
                have HF := Lib.hid (HGOOD.out hyes)
                rw [← hp2, ← hnw] at HF
                have HBE := Lib.hid (HB5.out.trans (kw.below (B := w.heap.size) (Nat.le_refl _) hz5 (by simp)))
                have HBD := Lib.hid (show o2.length ≤ p2 + (k + 1) * 1048576 from by have := HOB.out; rw [hnw]; omega)
                have hxx : ¬ (d.eds.length < d.eds.length) := Nat.lt_irrefl _
                clear hok hnw hpo hyes hp2 hdn
                go_wp2_with fail
                go_roundw
                case rel => exact ⟨k + 1, p2, o2, A2, c2, by omega, rfl, rfl, by go_num, ho2, hp2a, HBD, HF.out, HBE.out⟩
                case measure => simp [intOf]; omega
          · have hcp : ca = p := by omega
            subst hcp
            have h0 : d.a - ca = 0 := by omega
            rw [if_pos rfl, h0] at hsrc
            go_upto_region 21 with (at_builtin; refine wpList_append_sl rfl elemStr rfl rfl (n := out.length) (xs := strL out) ho4 rfl hsrc (strL_one _) (by unfold maxLen; omega) (by omega) hb4z ?_; intro A1 c1 w5 o5 k5; have x5 := k5.blk X4.out (by simp) (by decide); have e05 : w5.cell? ⟨z3, 0, none⟩ = some (.int .i64 (d.a : Int)) := x5.cell 0)
            have e15 : w5.cell? ⟨z3, 1, none⟩ = some (.int .i64 (d.b : Int)) := x5.cell 1
            have o5 : Own w5 w.heap.size 9 1 A1 (out.length) c1 (strL (out ++ (a.drop ca).take (d.a - ca))) := by simpa [strL, h0] using o5
            have HB5 := Lib.hid (HB4.out.trans (k5.below (Nat.le_refl _) hb4z (by simp)))
            by_cases q4 : d.b = out.length
            case neg =>
              have d4 : ((d.b : Int) != ((out.length : Nat) : Int)) = true := by simp; omega
              have hRR : R = .error 28 := by rw [← HAP.out, stepA_bad q1 (fun h => q4 (by have := h.2.1; omega))]
              have HRR := Lib.hid hRR
              clear hRR
              go_wp2_with fail
              go_ret2
              rw [HRR.out]
              exact ⟨HB5.out, rfl⟩
            have d4 : ((d.b : Int) != ((out.length : Nat) : Int)) = false := by simp; omega
            have d4' := d4
            try simp only [Int.natCast_add] at d4'
            have HBAD := Lib.hid (show ¬ okA a d.a (oldL d.eds d.ls) → R = .error 28 from fun hn => by rw [← HAP.out, stepA_bad q1 (fun h => hn h.2.2)])
            have HGOOD := Lib.hid (show okA a d.a (oldL d.eds d.ls) → applyL a ((l.drop (k + 1)).map HkI.toD) (d.a + (oldL d.eds d.ls).length) (out ++ (a.drop ca).take (d.a - ca) ++ newL d.eds d.ls) = R from fun hy => by rw [← HAP.out, stepA_ok q1 (by omega) (by omega) hy])
            have HX5 := Lib.hid (show ∀ W, Kept w.heap.size [9] [] w5 W → W.cell? ⟨z3, 2, none⟩ = some (.slice EA d.eds.length ec) ∧ W.cell? ⟨z3, 3, none⟩ = some (.slice LA d.ls.length lc) ∧ Reads W B 2 EA d.eds.length (edLs d.eds) ∧ Reads W B 1 LA d.ls.length (strL d.ls) ∧ Reads W B 1 Aa a.length (strL a) from fun W kk => by
              have kb := (k5.trans kk).below (B := w.heap.size) (Nat.le_refl _) hb4z (by simp)
              obtain ⟨r1, r2⟩ := HX.out W (HK4.out W (kb.mono hB))
              have y5 := kk.blk x5 (by simp) (by decide)
              exact ⟨y5.cell 2, y5.cell 3, r1, r2, HRA.out W (HB4.out.trans kb)⟩)
            have hz5 := HB5.out.size
            obtain ⟨OUT, hOUT⟩ : ∃ x, out ++ (a.drop ca).take (d.a - ca) ++ newL d.eds d.ls = x := ⟨_, rfl⟩
            have HOL := Lib.hid (show out.length = (out ++ (a.drop ca).take (d.a - ca)).length from by rw [List.length_append, HSL.out]; omega)
            have HOUT := Lib.hid hOUT
            have hOl := congrArg List.length hOUT
            rw [List.length_append, ← HOL.out] at hOl
            have HOB := Lib.hid (show OUT.length ≤ d.a + (k + 1) * 1048576 from by have := HOLK.out; rw [Nat.succ_mul]; omega)
            have hOM : OUT.length ≤ 2000000000000 := by omega
            rw [HOUT.out] at HGOOD
            have Q4 := Lib.hid q4
            have ha5 : d.a ≤ a.length := by omega
            clear hOUT k5 e0 e1 ho4 hsrc x5 hOl q4 HAP
            go_wp2_with fail
            clear e05 e15 d4 d4'
            go_loopw [11, 12, 15, 16] (fun s11 s12 s15 s16 wi => ∃ (j m p2 : Nat) (o2 : List (List UInt8)) (A2 : Option Addr) (c2 : Nat), j ≤ d.eds.length ∧ m + sumN (d.eds.drop j) = d.ls.length ∧ s11 = .slice A2 o2.length c2 ∧ s12 = .int .i64 (p2 : Nat) ∧ s15 = .int .i64 (m : Nat) ∧ s16 = .int .i64 (j : Nat) ∧
              Own wi w.heap.size 9 1 A2 o2.length c2 (strL o2) ∧ Kept w.heap.size [9] [] w5 wi ∧ p2 ≤ a.length ∧ p2 + (oldL (d.eds.drop j) (d.ls.drop m)).length = d.a + (oldL d.eds d.ls).length ∧ (okA a d.a (oldL d.eds d.ls) ↔ okA a p2 (oldL (d.eds.drop j) (d.ls.drop m))) ∧ o2 ++ newL (d.eds.drop j) (d.ls.drop m) = OUT) (fun _ _ _ s16 _ => d.eds.length - (intOf s16).toNat)
            case atStart => exact ⟨0, 0, d.a, _, A1, c1, Nat.zero_le _, by simpa using okd.sum, by rw [HOL.out], rfl, rfl, rfl, by rw [← HOL.out]; exact o5, Kept.refl _ _ _ _, ha5, rfl, Iff.rfl, HOUT.out⟩
            case round =>
              obtain ⟨j, m, p2, o2, A2, c2, hj, hms, rfl, rfl, rfl, rfl, ho2, kw, hp2a, hpo, hok, hnw⟩ := hrel
              clear o5
              obtain ⟨c2r, c3r, q1r, _, _⟩ := HX5.out _ kw
              by_cases hjl : j < d.eds.length
              · obtain ⟨e, hex⟩ : ∃ e, d.eds[j]? = some e := ⟨_, List.getElem?_eq_getElem hjl⟩
                have hdr : d.eds.drop j = e :: d.eds.drop (j + 1) := List.drop_eq_getElem?_toList_append.trans (by rw [hex]; rfl)
                rw [hdr] at hms hpo hok hnw
                have hms2 : m + (e.n + sumN (d.eds.drop (j + 1))) = d.ls.length := by simpa [sumN] using hms
                obtain ⟨hop2, hn0⟩ := okd.ops e (List.mem_of_getElem? hex)
                rw [oldL, List.drop_drop] at hpo hok
                rw [newL, List.drop_drop] at hnw
                obtain ⟨row, hrow⟩ : ∃ x, (d.ls.drop m).take e.n = x := ⟨_, rfl⟩
                have hrl : row.length = e.n := by rw [← hrow, List.length_take, List.length_drop]; omega
                rw [hrow] at hpo hok hnw
                have HRW := Lib.hid (show ∀ (i : Nat) (s : List UInt8), row[i]? = some s → d.ls[m + i]? = some s from fun i s hs => by
                  rw [← hrow, List.getElem?_take] at hs
                  split at hs
                  · rwa [List.getElem?_drop] at hs
                  · cases hs)
                obtain ⟨ge, oe, hEA, _, _⟩ := q1r.at0 (by omega) (by omega)
                subst hEA
                have HED := Lib.hid (show ∀ W, Kept w.heap.size [9] [] w5 W → W.cell? ⟨z3, 2, none⟩ = some (.slice (some ⟨ge, oe, none⟩) d.eds.length ec) ∧ W.cell? ⟨z3, 3, none⟩ = some (.slice LA d.ls.length lc) ∧ W.cell? ⟨ge, oe + j * 2, none⟩ = some (.int .i64 (e.op : Int)) ∧ W.cell? ⟨ge, oe + j * 2 + 1, none⟩ = some (.int .i64 (e.n : Int)) from fun W q => by
                  obtain ⟨a1, a2, a3, _, _⟩ := HX5.out W q
                  refine ⟨a1, a2, a3.cellAt (edLs_at hex).1 (by omega), ?_⟩
                  have := a3.cellAt (edLs_at hex).2 (by omega)
                  rwa [← Nat.add_assoc] at this)
                have hd7 : d.eds.length ≤ 10000000 := okd.n1
                have hj0 : (0 : Int) ≤ (j : Int) := Int.natCast_nonneg _
                have hj1 : (j : Int) < (d.eds.length : Int) := by omega
                have HMS := Lib.hid (show m + e.n + sumN (d.eds.drop (j + 1)) = d.ls.length by omega)
                have hml : m + e.n ≤ d.ls.length := by omega
                have h3 : e.op = 0 ∨ e.op = 1 ∨ e.op = 2 := by omega
                generalize hOR : oldL (d.eds.drop (j + 1)) (d.ls.drop (m + e.n)) = OR at *
                generalize hNR : newL (d.eds.drop (j + 1)) (d.ls.drop (m + e.n)) = NR at *
                have HOR := Lib.hid hOR
                have HNR := Lib.hid hNR
                clear hex hdr hms hrow hOR hNR q1r hms2
                obtain ⟨fo, hfo⟩ : ∃ f : Nat → List (List UInt8), ∀ i, f i = if e.op = 2 then [] else row.drop i := ⟨_, fun _ => rfl⟩
                obtain ⟨fn, hfn⟩ : ∃ f : Nat → List (List UInt8), ∀ i, f i = if e.op = 1 then [] else row.drop i := ⟨_, fun _ => rfl⟩
                have HFO := Lib.hid hfo
                have HFN := Lib.hid hfn
                clear hfo hfn
                go_wp2_with fail
                clear c2r c3r
                go_loopw [11, 12, 15, 17] (fun s11 s12 s15 s17 wi => ∃ (i p3 : Nat) (o3 : List (List UInt8)) (A3 : Option Addr) (c3 : Nat), i ≤ e.n ∧ s11 = .slice A3 o3.length c3 ∧ s12 = .int .i64 (p3 : Nat) ∧ s15 = .int .i64 (m + i : Nat) ∧ s17 = .int .i64 (i : Nat) ∧
                  Own wi w.heap.size 9 1 A3 o3.length c3 (strL o3) ∧ Kept w.heap.size [9] [] w5 wi ∧ p3 ≤ a.length ∧ p3 + (fo i ++ OR).length = d.a + (oldL d.eds d.ls).length ∧ (okA a d.a (oldL d.eds d.ls) ↔ okA a p3 (fo i ++ OR)) ∧ o3 ++ (fn i ++ NR) = OUT) (fun _ _ _ s17 _ => e.n - (intOf s17).toNat)
                case atStart => exact ⟨0, p2, o2, A2, c2, Nat.zero_le _, rfl, rfl, rfl, rfl, ho2, kw, hp2a, by rw [HFO.out]; exact hpo, by rw [HFO.out]; exact hok, by rw [HFN.out]; exact hnw⟩
                case round =>
                  obtain ⟨i, p3, o3, A3, c3, hi, rfl, rfl, rfl, rfl, ho3, kw3, hp3, hpo3, hok3, hnw3⟩ := hrel
                  rw [HFO.out] at hpo3 hok3
                  rw [HFN.out] at hnw3
                  clear hpo hok hnw ho2 kw
                  obtain ⟨c2r, c3r, c4r, c5r⟩ := HED.out _ kw3
                  have hzr := kw3.size
                  by_cases hil : i < e.n
                  · obtain ⟨s, hs⟩ : ∃ s, row[i]? = some s := ⟨_, List.getElem?_eq_getElem (by omega)⟩
                    have hdi : row.drop i = s :: row.drop (i + 1) := List.drop_eq_getElem?_toList_append.trans (by rw [hs]; rfl)
                    have hls := HRW.out i s hs
                    rw [hdi] at hpo3 hok3 hnw3
                    obtain ⟨-, -, -, r2, r3⟩ := HX5.out _ kw3
                    obtain ⟨gl, ol, hLA, _, hcl⟩ := r2.at0 (by omega) (by omega)
                    have d9 := hcl _ _ (strL_at' hls)
                    unfold strC at d9
                    rw [hLA] at c3r
                    have R3 := Lib.hid r3
                    have hn0' : (0 : Int) ≤ ((m + i : Nat) : Int) := Int.natCast_nonneg _
                    have hn1' : ((m + i : Nat) : Int) < (d.ls.length : Int) := by omega
                    have hiI : (i : Int) < (e.n : Int) := by omega
                    have hon := congrArg List.length hnw3
                    have HNW := Lib.hid hnw3
                    have HPO := Lib.hid hpo3
                    have HOK3 := Lib.hid hok3
                    have HO3 := Lib.hid ho3
                    have HK3 := Lib.hid kw3
                    have hgz : w.heap.size ≤ wr.heap.size := by omega
                    clear hcl hs hls hdi r2 r3 hLA hnw3 hpo3 hok3 ho3 kw3
                    rcases h3 with q0 | q0 | q0
                    · have hb2 : ((e.op : Int) != 2) = true := by rw [q0]; rfl
                      have hb1 : ((e.op : Int) != 1) = true := by rw [q0]; rfl
                      have HBE := Lib.hid (HB5.out.trans (HK3.out.below (B := w.heap.size) (Nat.le_refl _) hz5 (by simp)))
                      have HOKC := Lib.hid (show okA a d.a (oldL d.eds d.ls) ↔ a[p3]? = some s ∧ okA a (p3 + 1) (row.drop (i + 1) ++ OR) from by rw [HOK3.out, if_neg (by omega), List.cons_append, okA_cons])
                      have HPO2 := Lib.hid (show p3 + 1 + ((if e.op = 2 then [] else row.drop (i + 1)) ++ OR).length = d.a + (oldL d.eds d.ls).length from by
                        have := HPO.out
                        rw [if_neg (by omega), List.cons_append, List.length_cons] at this
                        rw [if_neg (by omega)]
                        omega)
                      by_cases hpa : p3 < a.length
                      case neg =>
                        have g1 : decide ((a.length : Int) ≤ (p3 : Int)) = true := decide_eq_true (by omega)
                        have HRR := Lib.hid (HBAD.out (fun h => by
                          have := (List.getElem?_eq_some_iff.1 (HOKC.out.1 h).1).1
                          omega))
                        go_wp2_with fail
                        go_ret2
                        rw [HRR.out]
                        exact ⟨HBE.out, rfl⟩
                      have g1 : decide ((a.length : Int) ≤ (p3 : Int)) = false := decide_eq_false (by omega)
                      obtain ⟨y, hy⟩ : ∃ y, a[p3]? = some y := ⟨_, List.getElem?_eq_getElem hpa⟩
                      obtain ⟨ga, oa, hAa, _, hca'⟩ := R3.out.at0 (by omega) (by omega)
                      have d10 := hca' _ _ (strL_at' hy)
                      unfold strC at d10
                      have hpI0 : (0 : Int) ≤ (p3 : Int) := Int.natCast_nonneg _
                      have hpI1 : (p3 : Int) < (a.length : Int) := by omega
                      have HY := Lib.hid hy
                      clear hca' hy R3
                      subst hAa
                      by_cases hys : y = s
                      case neg =>
                        have g2 : (y != s) = true := by simpa using hys
                        have g3 : (y == s) = false := by simpa using hys
                        have HRR := Lib.hid (HBAD.out (fun h => by
                          have := (HOKC.out.1 h).1
                          rw [HY.out] at this
                          injection this with this
                          exact hys this))
                        go_wp2_with fail
                        go_ret2
                        rw [HRR.out]
                        exact ⟨HBE.out, rfl⟩
                      have HOK4 := Lib.hid (show okA a d.a (oldL d.eds d.ls) ↔ okA a (p3 + 1) ((if e.op = 2 then [] else row.drop (i + 1)) ++ OR) from by
                        rw [if_neg (by omega), HOKC.out]
                        exact ⟨fun h => h.2, fun h => ⟨by rw [HY.out, hys], h⟩⟩)
                      have hp4 : p3 + 1 ≤ a.length := by omega
                      have g2 : (y != s) = false := by simpa using hys
                      have g3 : (y == s) = true := by simpa using hys
                      have HYS := Lib.hid hys
                      clear hys
                      have HN2 := Lib.hid (show (o3 ++ [s]) ++ ((if e.op = 1 then [] else row.drop (i + 1)) ++ NR) = OUT from by
                        have := HNW.out
                        rw [if_neg (by omega)] at this ⊢
                        rw [← this]
                        simp)
                      have hl9 := congrArg List.length HN2.out
                      rw [List.length_append, List.length_append, List.length_singleton] at hl9
                      have hl10 : o3.length + 1 ≤ 2000000000000 := by omega
                      clear hon hl9
                      go_upto_region 37 with fail
                      go_wp2_with (at_builtin; refine wpList_append_sl rfl elemStr rfl rfl (n := o3.length) (xs := strL o3) (HO3.out.alloc _) rfl (Reads.of_blk (n := 1) (size := 1) (xs := strL [s]) (heap_alloc_new _ _) rfl rfl) (strL_one [s]) (by unfold maxLen; omega) (by omega) (by simp; omega) ?_; intro A9 c9 w9 o9 k9; have HO9 := Lib.hid o9; have HK9 := Lib.hid (HK3.out.trans (((Kept.refl _ _ _ _).alloc _).trans k9)); clear o9 k9)
                      have ho9 : Own w9 w.heap.size 9 1 A9 (o3 ++ [s]).length c9 (strL (o3 ++ [s])) := by rw [List.length_append, List.length_singleton]; simpa [strL] using HO9.out
                      go_roundw
                      case rel => exact ⟨i + 1, p3 + 1, o3 ++ [s], A9, c9, hil, by rw [List.length_append, List.length_singleton], by go_num, by go_num, by go_num, ho9, HK9.out, hp4, by rw [HFO.out]; exact HPO2.out, by rw [HFO.out]; exact HOK4.out, by rw [HFN.out]; exact HN2.out⟩
                      case measure => simp [intOf]; omega
                    · have hb2 : ((e.op : Int) != 2) = true := by rw [q0]; rfl
                      have hb1 : ((e.op : Int) != 1) = false := by rw [q0]; rfl
                      have HBE := Lib.hid (HB5.out.trans (HK3.out.below (B := w.heap.size) (Nat.le_refl _) hz5 (by simp)))
                      have HOKC := Lib.hid (show okA a d.a (oldL d.eds d.ls) ↔ a[p3]? = some s ∧ okA a (p3 + 1) (row.drop (i + 1) ++ OR) from by rw [HOK3.out, if_neg (by omega), List.cons_append, okA_cons])
                      have HPO2 := Lib.hid (show p3 + 1 + ((if e.op = 2 then [] else row.drop (i + 1)) ++ OR).length = d.a + (oldL d.eds d.ls).length from by
                        have := HPO.out
                        rw [if_neg (by omega), List.cons_append, List.length_cons] at this
                        rw [if_neg (by omega)]
                        omega)
                      by_cases hpa : p3 < a.length
                      case neg =>
                        have g1 : decide ((a.length : Int) ≤ (p3 : Int)) = true := decide_eq_true (by omega)
                        have HRR := Lib.hid (HBAD.out (fun h => by
                          have := (List.getElem?_eq_some_iff.1 (HOKC.out.1 h).1).1
                          omega))
                        go_wp2_with fail
                        go_ret2
                        rw [HRR.out]
                        exact ⟨HBE.out, rfl⟩
                      have g1 : decide ((a.length : Int) ≤ (p3 : Int)) = false := decide_eq_false (by omega)
                      obtain ⟨y, hy⟩ : ∃ y, a[p3]? = some y := ⟨_, List.getElem?_eq_getElem hpa⟩
                      obtain ⟨ga, oa, hAa, _, hca'⟩ := R3.out.at0 (by omega) (by omega)
                      have d10 := hca' _ _ (strL_at' hy)
                      unfold strC at d10
                      have hpI0 : (0 : Int) ≤ (p3 : Int) := Int.natCast_nonneg _
                      have hpI1 : (p3 : Int) < (a.length : Int) := by omega
                      have HY := Lib.hid hy
                      clear hca' hy R3
                      subst hAa
                      by_cases hys : y = s
                      case neg =>
                        have g2 : (y != s) = true := by simpa using hys
                        have g3 : (y == s) = false := by simpa using hys
                        have HRR := Lib.hid (HBAD.out (fun h => by
                          have := (HOKC.out.1 h).1
                          rw [HY.out] at this
                          injection this with this
                          exact hys this))
                        go_wp2_with fail
                        go_ret2
                        rw [HRR.out]
                        exact ⟨HBE.out, rfl⟩
                      have HOK4 := Lib.hid (show okA a d.a (oldL d.eds d.ls) ↔ okA a (p3 + 1) ((if e.op = 2 then [] else row.drop (i + 1)) ++ OR) from by
                        rw [if_neg (by omega), HOKC.out]
                        exact ⟨fun h => h.2, fun h => ⟨by rw [HY.out, hys], h⟩⟩)
                      have hp4 : p3 + 1 ≤ a.length := by omega
                      have g2 : (y != s) = false := by simpa using hys
                      have g3 : (y == s) = true := by simpa using hys
                      have HYS := Lib.hid hys
                      clear hys
                      have HN2 := Lib.hid (show o3 ++ ((if e.op = 1 then [] else row.drop (i + 1)) ++ NR) = OUT from by have := HNW.out; rw [if_pos q0] at this ⊢; exact this)
                      clear hon
                      go_wp2_with fail
                      go_roundw
                      case rel => exact ⟨i + 1, p3 + 1, o3, A3, c3, hil, rfl, by go_num, by go_num, by go_num, HO3.out, HK3.out, hp4, by rw [HFO.out]; exact HPO2.out, by rw [HFO.out]; exact HOK4.out, by rw [HFN.out]; exact HN2.out⟩
                      case measure => simp [intOf]; omega
                    · have hb2 : ((e.op : Int) != 2) = false := by rw [q0]; rfl
                      have hb1 : ((e.op : Int) != 1) = true := by rw [q0]; rfl
                      have HBE := Lib.hid (HB5.out.trans (HK3.out.below (B := w.heap.size) (Nat.le_refl _) hz5 (by simp)))
                      have HPO2 := Lib.hid (show p3 + ((if e.op = 2 then [] else row.drop (i + 1)) ++ OR).length = d.a + (oldL d.eds d.ls).length from by have := HPO.out; rw [if_pos q0] at this; rw [if_pos q0]; exact this)
                      have HOK4 := Lib.hid (show okA a d.a (oldL d.eds d.ls) ↔ okA a p3 ((if e.op = 2 then [] else row.drop (i + 1)) ++ OR) from by have := HOK3.out; rw [if_pos q0] at this; rw [if_pos q0]; exact this)
                      have hp4 := hp3
                      have HN2 := Lib.hid (show (o3 ++ [s]) ++ ((if e.op = 1 then [] else row.drop (i + 1)) ++ NR) = OUT from by
                        have := HNW.out
                        rw [if_neg (by omega)] at this ⊢
                        rw [← this]
                        simp)
                      have hl9 := congrArg List.length HN2.out
                      rw [List.length_append, List.length_append, List.length_singleton] at hl9
                      have hl10 : o3.length + 1 ≤ 2000000000000 := by omega
                      clear hon hl9
                      go_upto_region 37 with fail
                      go_wp2_with (at_builtin; refine wpList_append_sl rfl elemStr rfl rfl (n := o3.length) (xs := strL o3) (HO3.out.alloc _) rfl (Reads.of_blk (n := 1) (size := 1) (xs := strL [s]) (heap_alloc_new _ _) rfl rfl) (strL_one [s]) (by unfold maxLen; omega) (by omega) (by simp; omega) ?_; intro A9 c9 w9 o9 k9; have HO9 := Lib.hid o9; have HK9 := Lib.hid (HK3.out.trans (((Kept.refl _ _ _ _).alloc _).trans k9)); clear o9 k9)
                      have ho9 : Own w9 w.heap.size 9 1 A9 (o3 ++ [s]).length c9 (strL (o3 ++ [s])) := by rw [List.length_append, List.length_singleton]; simpa [strL] using HO9.out
                      go_roundw
                      case rel => exact ⟨i + 1, p3, o3 ++ [s], A9, c9, hil, by rw [List.length_append, List.length_singleton], by go_num, by go_num, by go_num, ho9, HK9.out, hp4, by rw [HFO.out]; exact HPO2.out, by rw [HFO.out]; exact HOK4.out, by rw [HFN.out]; exact HN2.out⟩
                      case measure => simp [intOf]; omega
                  · obtain rfl : i = e.n := by omega
                    have hdn : row.drop e.n = [] := List.drop_of_length_le (by omega)
                    rw [hdn, ite_self, List.nil_append] at hpo3 hok3 hnw3
                    have hiI : ¬ ((e.n : Int) < (e.n : Int)) := by omega
                    rw [← HOR.out] at hpo3 hok3
                    rw [← HNR.out] at hnw3
                    have HP := Lib.hid hpo3
                    have HO := Lib.hid hok3
                    have HN := Lib.hid hnw3
                    clear hpo3 hok3 hnw3 hdn
                    go_wp2_with fail
                    go_roundw
                    case rel => exact ⟨j + 1, m + e.n, p3, o3, A3, c3, hjl, HMS.out, rfl, rfl, rfl, by go_num, ho3, kw3, hp3, HP.out, HO.out, HN.out⟩
                    case measure => simp [intOf]; omega
              · obtain rfl : j = d.eds.length := by omega
                have hdn : d.eds.drop d.eds.length = [] := by simp
                rw [hdn, oldL] at hpo hok
                rw [hdn, newL, List.append_nil] at hnw
                have hyes : okA a d.a (oldL d.eds d.ls) := hok.2 (okA_nil _ _)
                have hp2 : p2 = d.a + (oldL d.eds d.ls).length := by simpa using hpo
                have HF := Lib.hid (HGOOD.out hyes)
                rw [← hp2, ← hnw] at HF
                have HBE := Lib.hid (HB5.out.trans (kw.below (B := w.heap.size) (Nat.le_refl _) hz5 (by simp)))
                have HBD := Lib.hid (show o2.length ≤ p2 + (k + 1) * 1048576 from by have := HOB.out; rw [hnw]; omega)
                have hxx : ¬ (d.eds.length < d.eds.length) := Nat.lt_irrefl _
                clear hok hnw hpo hyes hp2 hdn
                go_wp2_with fail
                go_roundw
                case rel => exact ⟨k + 1, p2, o2, A2, c2, by omega, rfl, rfl, by go_num, ho2, hp2a, HBD, HF.out, HBE.out⟩
                case measure => simp [intOf]; omega
        · obtain rfl : k = l.length := by omega
          rw [List.drop_length, List.map_nil, applyL] at hap
          have hsrc := (HRA.out _ hb).cut (k := p) (cap := ca) hp hca
          rw [Nat.mul_one, show (strL a).drop p = strL (a.drop p) by simp [strL, List.map_drop]] at hsrc
          have hsl : (a.drop p).length = a.length - p := by rw [List.length_drop]
          have s1 : (p : Int) ≤ (a.length : Int) := by omega
          have s2 : (p : Int) ≤ (ca : Int) := by omega
          have HB := Lib.hid hb
          have hxx : ¬ (l.length < l.length) := Nat.lt_irrefl _
          subst hap
          clear hb
          by_cases hcp : ca = p
          · subst hcp
            have h0 : a.length - ca = 0 := by omega
            have hd0 : a.drop ca = [] := List.drop_of_length_le (by omega)
            rw [if_pos rfl, h0, hd0] at hsrc
            go_wp2_with (at_builtin; refine wpList_append_sl rfl elemStr rfl rfl (n := out.length) (xs := strL out) ho rfl hsrc (strL_one _) (by unfold maxLen; omega) (by omega) hz ?_; intro A5 c5 w5 o5 k5)
            go_ret2
            refine ⟨HB.out.trans (k5.below (Nat.le_refl _) hz (by simp)), A5, c5, ?_, ?_⟩
            · simp [h0]
            · rw [hd0, List.append_nil]; simpa [strL] using o5
          · rw [if_neg hcp] at hsrc
            go_wp2_with (at_builtin; refine wpList_append_sl rfl elemStr rfl rfl (n := out.length) (xs := strL out) ho rfl hsrc (strL_one _) (by unfold maxLen; omega) (by omega) hz ?_; intro A5 c5 w5 o5 k5)
            go_ret2
            refine ⟨HB.out.trans (k5.below (Nat.le_refl _) hz (by simp)), A5, c5, ?_, ?_⟩
            · simp
            · simpa [strL] using o5
end Go.Proofs.YtlcidbbpjlpmjaaDoor
