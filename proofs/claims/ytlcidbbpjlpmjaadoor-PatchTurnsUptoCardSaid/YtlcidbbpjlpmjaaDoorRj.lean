/-
  Contract of the reference's Text. No statement of the seat is proved here.
-/
import Derived.Test.YtlcidbbpjlpmjaaDoorRi
import Derived.Test.YtlcidbbpjlpmjaaDoorTd
import Derived.Lib.ItoaMem
import Derived.Deep.DeepCutAuto
import Derived.Deep.CutBlock
namespace Go.Proofs.YtlcidbbpjlpmjaaDoor
open Go.RowKit

theorem HII.load {w : World} {B : Nat} {A : Option Addr} {hs : List HkI} (h : HII w B A hs) {k : Nat} {x : HkI} (hk : hs[k]? = some x) : ∃ g off EA ec LA lc, A = some ⟨g, off, none⟩ ∧ g < B ∧ (Instr.loadAt 38 (.pointer (some ⟨g, off + k * 4, none⟩))).run Tryd.prog w = .ok (.agg (hkC x EA ec LA lc)) w ∧
    (∀ W, Below B w W → W.cell? ⟨g, off + k * 4, none⟩ = some (.int .i64 x.a) ∧ W.cell? ⟨g, off + k * 4 + 1, none⟩ = some (.int .i64 x.b) ∧ W.cell? ⟨g, off + k * 4 + 2, none⟩ = some (.slice EA x.eds.length ec) ∧ W.cell? ⟨g, off + k * 4 + 3, none⟩ = some (.slice LA x.ls.length lc) ∧ RowsOK W B x EA LA) ∧ x.eds.length ≤ ec ∧ x.ls.length ≤ lc ∧ lc ≤ maxLen := by
  obtain ⟨g, off, EA, ec, LA, lc, e1, e2, e3, e4, e5, e6, e7, e8, e9, e10, e11⟩ := h.at_ hk
  exact ⟨g, off, EA, ec, LA, lc, e1, e2, load_hk_at e3 e4 e5 e6, fun W hb => ⟨(hb.cell e2).trans e3, (hb.cell e2).trans e4, (hb.cell e2).trans e5, (hb.cell e2).trans e6, e10.below hb, e11.below hb⟩, e7, e8, e9⟩
theorem Reads.cellAt {w : World} {B size n g off j : Nat} {xs : List Value} {u : Value} (h : Reads w B size (some ⟨g, off, none⟩) n xs) (hj : xs[j]? = some u) (hs : 0 < size) : w.cell? ⟨g, off + j, none⟩ = some u := by
  have hn : 0 < n := by
    have := (List.getElem?_eq_some_iff.1 hj).1
    rw [h.1] at this
    rcases Nat.eq_zero_or_pos n with q | q
    · rw [q] at this; omega
    · exact q
  obtain ⟨g', o', hA, _, hc⟩ := h.at0 hn hs
  injection hA with hA
  injection hA with h1 h2
  subst h1 h2
  exact hc j u hj
theorem byte_ne {s : List UInt8} {i : Nat} {x : UInt8} {c : Nat} (hc : c < 256) (hx : s[i]? = some x) {h : i < (⟨s.toArray⟩ : ByteArray).size} {b : Bool} (hb : ((((⟨s.toArray⟩ : ByteArray)[i]'h).toNat : Int) != (c : Int)) = b) : decide (x = UInt8.ofNat c) = !b := by
  rw [bne, Bool.not_eq_eq_eq_not] at hb
  exact byte_is hc hx hb
theorem last_feed {s : List UInt8} {x : UInt8} (hx : s[s.length - 1]? = some x) : Lib.hasSuffix s [10] = decide (x = 10) := by
  have h0 : s ≠ [] := by rintro rfl; simp at hx
  have h1 : s = s.dropLast ++ [x] := by
    rw [List.getLast?_eq_getElem?.symm] at hx
    obtain ⟨ys, rfl⟩ := List.getLast?_eq_some_iff.1 hx
    simp
  unfold Lib.hasSuffix
  rw [h1, Bool.eq_iff_iff, List.isSuffixOf_iff_suffix, decide_eq_true_eq]
  constructor
  · intro q
    obtain ⟨ys, hys⟩ := q
    have := congrArg List.getLast? hys
    simp at this
    exact this.symm
  · rintro rfl
    exact List.suffix_append _ _
set_option maxHeartbeats 4000000 in
set_option maxRecDepth 100000 in
theorem rtext_any (l : List HkI) (A : Option Addr) (cA B : Nat) (w : World) (hB : B ≤ w.heap.size) (hr : HII w B A l) (hl : l.length ≤ 9223372036854775807) (hls : ∀ h ∈ l, h.eds.length ≤ 1000000000 ∧ h.ls.length ≤ 1000000000 ∧ ∀ s ∈ h.ls, s.length ≤ 9223372036854775806) (hlen : (hksT l).length ≤ 9223372036854775800) :
    Calls Tryd.prog 17 #[.slice A l.length cA] w fun r w' => r = .returned (textR l) ∧ Keep Nothing w w' := by
  have HLS := Lib.hid hls
  have HR := Lib.hid (show ∀ W, Keep Nothing w W → HII W B A l from fun W k => hr.below (k.below hB (fun _ _ h => h)))
  clear hr hls
  have HTR := Lib.hid (show textR l = textR l from rfl)
  generalize hTX : textR l = TX at *
  have HTX := Lib.hid hTX
  clear hTX HTR
  go_enter Tryd.func17, Tryd.ntmps17
  go_wp2_with fail
  go_loopw [4, 5] (fun s4 s5 wr => ∃ (k : Nat) (T : List UInt8), k ≤ l.length ∧ s4 = .string ⟨T.toArray⟩ ∧ s5 = .int .i64 (k : Nat) ∧ T ++ hksT (l.drop k) = hksT l ∧ (∀ (j : Nat) x, j < k → l[j]? = some x → okH x = true) ∧ Keep Nothing w wr) (fun _ s5 _ => l.length - (intOf s5).toNat)
  case atStart => exact ⟨0, [], Nat.zero_le _, rfl, rfl, rfl, fun j x hh => absurd hh (by omega), Keep.refl _ _⟩
  case round =>
    obtain ⟨k, T, hk, rfl, rfl, hT, hok, kr⟩ := hrel
    have HOK := Lib.hid hok
    clear hok
    by_cases hlt : k < l.length
    · obtain ⟨h, hx⟩ : ∃ h, l[k]? = some h := ⟨_, List.getElem?_eq_getElem hlt⟩
      obtain ⟨hF1, hF2, hF3⟩ := HLS.out h (List.mem_of_getElem? hx)
      obtain ⟨g1, o1, EA, ec, LA, lc, rfl, hg1, ld, hat, hec, hlc, hlm⟩ := (HR.out _ kr).load hx
      have LD := Lib.hid ld
      have HAT := Lib.hid hat
      have hi0 : (0 : Int) ≤ (k : Int) := Int.natCast_nonneg _
      have hi1 : (k : Int) < (l.length : Int) := by omega
      have hzk := kr.size
      have hro := (hat wr (Below.refl _ _)).2.2.2.2
      have HCN := Lib.hid (counts_any h EA LA ec lc B wr (by omega) hro.1 hro.2 (by omega) (by omega) hF3)
      have HX := Lib.hid hx
      clear ld hat hx hro
      cases hokh : okH h
      case false =>
        have hall : l.all okH = false := by rw [List.all_eq_false]; exact ⟨h, List.mem_of_getElem? HX.out, by simp [hokh]⟩
        have hTX : TX = .tuple #[.string ⟨#[]⟩, .int .i64 1] := by rw [← HTX.out]; unfold textR; rw [hall]; rfl
        have HTX2 := Lib.hid hTX
        clear hall hTX
        go_upto_region 6 with (first | (refine wpList_load rfl rfl rfl (by with_reducible exact LD.out) ?_) | (go_at_call 32; refine HCN.out.mono ?_; rintro _ w2 ⟨x, y, z, rfl, hxyz, k2⟩; rw [hokh]))
        go_wp2_with fail
        go_ret2
        exact ⟨by rw [HTX2.out]; rfl, kr.trans k2⟩
      case true =>
        obtain ⟨t, hm⟩ := Option.isSome_iff_exists.1 (show (mayP h).isSome = true from hokh)
        have HM := Lib.hid hm
        go_upto_region 6 with (first | (refine wpList_load rfl rfl rfl (by with_reducible exact LD.out) ?_) | (go_at_call 32; refine HCN.out.mono ?_; rintro _ w2 ⟨x, y, z, rfl, hxyz, k2⟩; rw [hokh]; obtain ⟨rfl, rfl, rfl⟩ := hxyz t HM.out))
        go_upto_region 8 with fail
        rw [hksT_cons HX.out hm] at hT
        have hTL := congrArg List.length hT
        simp only [List.length_append] at hTL
        have HT := Lib.hid hT
        obtain ⟨hE, hall, _, hpl, hlin⟩ := mayP_eds hm
        obtain ⟨p1, p2, p3, p4⟩ := places_le hpl
        obtain ⟨na, hna⟩ : ∃ na : Nat, h.a = (na : Int) := ⟨h.a.toNat, by omega⟩
        obtain ⟨nb, hnb⟩ : ∃ nb : Nat, h.b = (nb : Int) := ⟨h.b.toNat, by omega⟩
        have hsum : t.k + t.d ≤ 1000000000 ∧ t.k + t.n ≤ 1000000000 := by unfold Cnt.all at hall; omega
        obtain ⟨hT0, hHT⟩ : ∃ x, headT h t = x := ⟨_, rfl⟩
        have hHU := hHT
        unfold headT at hHU
        rw [hHT] at hTL HT
        rw [hna, hnb, Lib.itoa_nonneg, Lib.itoa_nonneg, Lib.itoa_nonneg, Lib.itoa_nonneg] at hHU
        have kw := kr.trans k2
        have HCX := Lib.hid (show ∀ W, Keep Nothing w2 W → W.cell? ⟨g1, o1 + k * 4, none⟩ = some (.int .i64 (na : Int)) ∧ W.cell? ⟨g1, o1 + k * 4 + 1, none⟩ = some (.int .i64 (nb : Int)) from fun W kk => by
          obtain ⟨a1, a2, _⟩ := HAT.out W ((k2.trans kk).below (by omega) (fun _ _ h => h))
          rw [hna] at a1
          rw [hnb] at a2
          exact ⟨a1, a2⟩)
        have hwA : IntKind.i64.wrap ((t.k : Int) + (t.d : Int)) = ((t.k + t.d : Nat) : Int) := by rw [IntWalk.i64_in _ (by omega)]; omega
        have hwB : IntKind.i64.wrap ((t.k : Int) + (t.n : Int)) = ((t.k + t.n : Nat) : Int) := by rw [IntWalk.i64_in _ (by omega)]; omega
        generalize hA1 : t.k + t.d = sA at *
        generalize hB1 : t.k + t.n = sB at *
        have hhl := congrArg List.length hHU
        simp only [List.length_append, List.length_cons, List.length_nil] at hhl
        have n0 : ¬ (9223372036854775807 < T.length + 4) := by omega
        have n1 : ¬ (9223372036854775807 < T.length + 4 + (Lib.decDigits na).length) := by omega
        have n2 : ¬ (9223372036854775807 < T.length + 4 + (Lib.decDigits na).length + 1) := by omega
        have n3 : ¬ (9223372036854775807 < T.length + 4 + (Lib.decDigits na).length + 1 + (Lib.decDigits sA).length) := by omega
        have n4 : ¬ (9223372036854775807 < T.length + 4 + (Lib.decDigits na).length + 1 + (Lib.decDigits sA).length + 2) := by omega
        have n5 : ¬ (9223372036854775807 < T.length + 4 + (Lib.decDigits na).length + 1 + (Lib.decDigits sA).length + 2 + (Lib.decDigits nb).length) := by omega
        have n6 : ¬ (9223372036854775807 < T.length + 4 + (Lib.decDigits na).length + 1 + (Lib.decDigits sA).length + 2 + (Lib.decDigits nb).length + 1) := by omega
        have n7 : ¬ (9223372036854775807 < T.length + 4 + (Lib.decDigits na).length + 1 + (Lib.decDigits sA).length + 2 + (Lib.decDigits nb).length + 1 + (Lib.decDigits sB).length) := by omega
        have n8 : ¬ (9223372036854775807 < T.length + 4 + (Lib.decDigits na).length + 1 + (Lib.decDigits sA).length + 2 + (Lib.decDigits nb).length + 1 + (Lib.decDigits sB).length + 4) := by omega
        have HHU := Lib.hid hHU
        have HCAT := Lib.hid (show ({ data := T.toArray } ++ { data := #[64, 64, 32, 45] } ++ { data := (Lib.decDigits na).toArray } ++ { data := #[44] } ++ { data := (Lib.decDigits sA).toArray } ++ { data := #[32, 43] } ++ { data := (Lib.decDigits nb).toArray } ++ { data := #[44] } ++ { data := (Lib.decDigits sB).toArray } ++ { data := #[32, 64, 64, 10] } : ByteArray) = ⟨(T ++ hT0).toArray⟩ from by
          rw [← HHU.out]
          apply ByteArray.ext
          simp)
        have HI := Lib.hid (fun (n : Nat) (h1 : n ≤ 1000000000000000) W => decimal_any n h1 W)
        have HK2 := Lib.hid kw
        have HATK := Lib.hid (fun W (kk : Keep Nothing w2 W) => HAT.out W ((k2.trans kk).below (by omega) (fun _ _ h => h)))
        clear hHU hHT hT HCN LD hxyz k2 hA1 hB1 kw hm
        have kk : Keep Nothing w2 w2 := Keep.refl _ _
        obtain ⟨d0, d1⟩ := HCX.out _ kk
        go_cut [4, 5] from 4 to 61 (fun s4 s5 wx => s4 = .string ⟨(T ++ hT0).toArray⟩ ∧ s5 = .int .i64 (k : Nat) ∧ Keep Nothing w2 wx)
        case first =>
          go_region_law (first | (go_simp; go_at_call 33; refine (HI.out _ (by omega) _).mono ?_; rintro _ wn ⟨rfl, kn⟩; have kk := (by first | exact kk.trans kn | exact kk.trans (Keep.ofDrewN (n := 1) kn) : Keep Nothing w2 wn); obtain ⟨d0, d1⟩ := HCX.out _ kk))
          all_goals
            go_wp2_with fail
            go_meet
            exact ⟨by rw [HCAT.out], rfl, kk⟩
        case rest =>
          obtain ⟨rfl, rfl, kc⟩ := hcut
          clear n0 n1 n2 n3 n4 n5 n6 n7 n8 d0 d1 kk hwA hwB HCAT HI HHU hhl hna hnb p1 p2 p3 p4
          have HW := Lib.hid (show ∀ W, Keep Nothing wc W → Keep Nothing w W from fun W q => (HK2.out.trans kc).trans q)
          have HATW := Lib.hid (show ∀ W, Keep Nothing wc W → W.cell? ⟨g1, o1 + k * 4 + 2, none⟩ = some (.slice EA h.eds.length ec) ∧ W.cell? ⟨g1, o1 + k * 4 + 3, none⟩ = some (.slice LA h.ls.length lc) ∧ RowsOK W B h EA LA from fun W q => (HATK.out W (kc.trans q)).2.2)
          clear HATK HAT HCX kc
          generalize wc = w5 at *
          obtain ⟨c2, c3, _⟩ := HATW.out _ (Keep.refl _ _)
          have HT5 := HT.out
          rw [← List.append_assoc] at HT5
          have hT5l := congrArg List.length HT5
          generalize T ++ hT0 = T5 at *
          simp only [List.length_append] at hT5l
          have hT5b : T5.length + (bodyT h.eds h.ls).length ≤ 9223372036854775800 := by omega
          have HT5 := Lib.hid HT5
          clear hT5l hTL HT
          go_wp2_with fail
          clear c2 c3
          go_loopw [4, 10, 11] (fun s4 s10 s11 wi => ∃ (j : Nat) (c : Cnt) (T' : List UInt8), j ≤ h.eds.length ∧ s4 = .string ⟨T'.toArray⟩ ∧ s10 = .int .i64 (c.all : Nat) ∧ s11 = .int .i64 (j : Nat) ∧ Keep Nothing w5 wi ∧ edsP h.ls.length (prevOp h.eds j) c (h.eds.drop j) = some t ∧ c.all ≤ h.ls.length ∧ T' ++ bodyT (h.eds.drop j) (h.ls.drop c.all) = T5 ++ bodyT h.eds h.ls) (fun _ _ s11 _ => h.eds.length - (intOf s11).toNat)
          case atStart => exact ⟨0, cnt0, T5, Nat.zero_le _, rfl, rfl, rfl, Keep.refl _ _, hE, Nat.zero_le _, rfl⟩
          case round =>
            obtain ⟨j, c, T', hj, rfl, rfl, rfl, kj, hE6, hca, hT6⟩ := hrel
            obtain ⟨c2, c3, _⟩ := HATW.out _ kj
            by_cases hjl : j < h.eds.length
            · obtain ⟨e, hex⟩ : ∃ e, h.eds[j]? = some e := ⟨_, List.getElem?_eq_getElem hjl⟩
              rw [edsP_step hex] at hE6
              cases hb : badE h.ls.length (prevOp h.eds j) c e
              case true => rw [hb] at hE6; simp at hE6
              rw [hb, if_neg (by simp)] at hE6
              rw [bodyT_at _ hex] at hT6
              obtain ⟨b1, b2, b3, b4, _⟩ := badE_false hb
              obtain ⟨nn, hnn⟩ : ∃ nn : Nat, e.n = (nn : Int) := ⟨e.n.toNat, by omega⟩
              have hal : (addE c e).all = c.all + e.n.toNat := addE_all
              have hnt : e.n.toNat = nn := by omega
              rw [hnt] at hal hT6
              have HE6 := Lib.hid hE6
              have HAL := Lib.hid hal
              have h3 : e.op = 0 ∨ e.op = 1 ∨ e.op = 2 := by omega
              have hnl : nn ≤ h.ls.length - c.all := by omega
              obtain ⟨row, hrow⟩ : ∃ x, (h.ls.drop c.all).take nn = x := ⟨_, rfl⟩
              rw [hrow] at hT6
              have HRW := Lib.hid (show ∀ (m : Nat) (s : List UInt8), row[m]? = some s → h.ls[c.all + m]? = some s from fun m s hs => by
                rw [← hrow, List.getElem?_take] at hs
                split at hs
                · rwa [List.getElem?_drop] at hs
                · cases hs)
              have hrl : row.length = nn := by rw [← hrow, List.length_take, List.length_drop]; omega
              have hT6l := congrArg List.length hT6
              simp only [List.length_append] at hT6l
              have HT6 := Lib.hid hT6
              have hlT : T'.length + (linesT e.op row).length ≤ 9223372036854775800 := by omega
              obtain ⟨ge, oe, hEA, _, _⟩ := (HATW.out _ kj).2.2.1.at0 (by omega) (by omega)
              subst hEA
              have HED := Lib.hid (show ∀ W, Keep Nothing w5 W → W.cell? ⟨g1, o1 + k * 4 + 2, none⟩ = some (.slice (some ⟨ge, oe, none⟩) h.eds.length ec) ∧ W.cell? ⟨g1, o1 + k * 4 + 3, none⟩ = some (.slice LA h.ls.length lc) ∧ W.cell? ⟨ge, oe + j * 2, none⟩ = some (.int .i64 e.op) ∧ W.cell? ⟨ge, oe + j * 2 + 1, none⟩ = some (.int .i64 (nn : Int)) from fun W q => by
                obtain ⟨a1, a2, a3, a4⟩ := HATW.out W q
                refine ⟨a1, a2, a3.cellAt (edIs_at hex).1 (by omega), ?_⟩
                have := a3.cellAt (edIs_at hex).2 (by omega)
                rw [hnn] at this
                rwa [← Nat.add_assoc] at this)
              have hi2 : (0 : Int) ≤ (j : Int) := Int.natCast_nonneg _
              have hi3 : (j : Int) < (h.eds.length : Int) := by omega
              have HNL := Lib.hid hnl
              have HHB := Lib.hid hb
              clear hex hb hE6 hT6 hT6l hal hrow
              go_wp2_with fail
              clear c2 c3
              go_loopw [4, 10, 12] (fun s4 s10 s12 wi => ∃ (m : Nat) (T'' : List UInt8), m ≤ nn ∧ s4 = .string ⟨T''.toArray⟩ ∧ s10 = .int .i64 (c.all + m : Nat) ∧ s12 = .int .i64 (m : Nat) ∧ Keep Nothing w5 wi ∧ T'' ++ linesT e.op (row.drop m) = T' ++ linesT e.op row) (fun _ _ s12 _ => nn - (intOf s12).toNat)
              case atStart => exact ⟨0, T', Nat.zero_le _, rfl, rfl, rfl, kj, rfl⟩
              case round =>
                obtain ⟨m, T'', hm2, rfl, rfl, rfl, km, hT8⟩ := hrel
                obtain ⟨c2, c3, c4, c5⟩ := HED.out _ km
                by_cases hml : m < nn
                · obtain ⟨sl, hsl⟩ : ∃ s, row[m]? = some s := ⟨_, List.getElem?_eq_getElem (by omega)⟩
                  rw [linesT_at hsl] at hT8
                  have hs1 := HRW.out m sl hsl
                  have hs2 := List.mem_of_getElem? hs1
                  have hsn := hF3 sl hs2
                  have hlp : lineP sl = true := List.all_eq_true.1 hlin sl hs2
                  obtain ⟨gl, ol, hLA, _, hcl⟩ := (HATW.out _ km).2.2.2.at0 (by have := HNL.out; omega) (by omega)
                  have d9 := hcl _ _ (strL_at' hs1)
                  unfold strC at d9
                  have HLA := Lib.hid hLA
                  rw [hLA] at c3
                  have hT8l := congrArg List.length hT8
                  simp only [List.length_append, List.length_cons, List.length_nil] at hT8l
                  have HT8 := Lib.hid hT8
                  have hj0 : (0 : Int) ≤ ((c.all + m : Nat) : Int) := Int.natCast_nonneg _
                  have hj1 : ((c.all + m : Nat) : Int) < (h.ls.length : Int) := by have := HNL.out; omega
                  have hmI : (m : Int) < (nn : Int) := by omega
                  have hslp : 1 ≤ sl.length := by
                    cases sl with
                    | nil => simp [lineP_nil] at hlp
                    | cons x r => simp
                  clear hcl hsl hT8 hs1 hs2 hlp hLA
                  have hx0 : (⟨#[32, 45, 43]⟩ : ByteArray).extract 0 1 = ⟨#[32]⟩ := rfl
                  have hx1 : (⟨#[32, 45, 43]⟩ : ByteArray).extract 1 2 = ⟨#[45]⟩ := rfl
                  have hx2 : (⟨#[32, 45, 43]⟩ : ByteArray).extract 2 3 = ⟨#[43]⟩ := rfl
                  have hc1 : ¬ (9223372036854775807 < T''.length + 1) := by omega
                  have hc2 : ¬ (9223372036854775807 < T''.length + 1 + sl.length) := by omega
                  have hc3 : ¬ (9223372036854775807 < T''.length + 1 + sl.length + 3) := by omega
                  go_upto_region 18 with fail
                  have hwl : IntKind.i64.wrap ((sl.length : Int) - 1) = ((sl.length - 1 : Nat) : Int) := by rw [IntWalk.i64_in _ (by omega)]; omega
                  have hl0 : (0 : Int) ≤ ((sl.length - 1 : Nat) : Int) := Int.natCast_nonneg _
                  have hl1 : ((sl.length - 1 : Nat) : Int) < (sl.length : Int) := by omega
                  obtain ⟨xl, hxl⟩ : ∃ x, sl[sl.length - 1]? = some x := ⟨_, List.getElem?_eq_getElem (by omega)⟩
                  have HXL := Lib.hid hxl
                  clear hxl
                  rcases h3 with q | q | q
                  · have HSG := Lib.hid (show sgn e.op = 32 from by rw [q]; rfl)
                    rw [q] at c4
                    go_quiet (fail)
                    have KM := Lib.hid (km.drewN nq)
                    clear km c2 c3 c4 c5 d9
                    generalize wr.drewN nq = w9 at *
                    go_upto_region 19 with fail
                    go_wp2_with fail
                    · rename_i hc
                      have HLF := Lib.hid (last_feed HXL.out)
                      have h10 : decide (xl = (10 : UInt8)) = !true := byte_ne (c := 10) (by decide) HXL.out hc
                      have HEND := Lib.hid (show (T'' ++ [32] ++ sl ++ lacks) ++ linesT e.op (row.drop (m + 1)) = T' ++ linesT e.op row from by
                        rw [← HT8.out, HSG.out, show tailT sl = lacks by unfold tailT; rw [if_neg (by rw [HLF.out, h10]; simp)]]
                        simp)
                      go_roundw
                      case rel => exact ⟨m + 1, _, by omega, by first | (congr 1; done) | (congr 1; apply ByteArray.ext; simp [lacks]), by go_num, by go_num, KM.out, HEND.out⟩
                      case measure => simp [intOf]; omega
                    · rename_i hc
                      have HLF := Lib.hid (last_feed HXL.out)
                      have h10 : decide (xl = (10 : UInt8)) = !false := byte_ne (c := 10) (by decide) HXL.out hc
                      have HEND := Lib.hid (show (T'' ++ [32] ++ sl) ++ linesT e.op (row.drop (m + 1)) = T' ++ linesT e.op row from by
                        rw [← HT8.out, HSG.out, show tailT sl = [] by unfold tailT; rw [if_pos (by rw [HLF.out, h10]; simp)]]
                        simp)
                      go_roundw
                      case rel => exact ⟨m + 1, _, by omega, by first | (congr 1; done) | (congr 1; apply ByteArray.ext; simp), by go_num, by go_num, KM.out, HEND.out⟩
                      case measure => simp [intOf]; omega
                  · have HSG := Lib.hid (show sgn e.op = 45 from by rw [q]; rfl)
                    rw [q] at c4
                    go_quiet (fail)
                    have KM := Lib.hid (km.drewN nq)
                    clear km c2 c3 c4 c5 d9
                    generalize wr.drewN nq = w9 at *
                    go_upto_region 19 with fail
                    go_wp2_with fail
                    · rename_i hc
                      have HLF := Lib.hid (last_feed HXL.out)
                      have h10 : decide (xl = (10 : UInt8)) = !true := byte_ne (c := 10) (by decide) HXL.out hc
                      have HEND := Lib.hid (show (T'' ++ [45] ++ sl ++ lacks) ++ linesT e.op (row.drop (m + 1)) = T' ++ linesT e.op row from by
                        rw [← HT8.out, HSG.out, show tailT sl = lacks by unfold tailT; rw [if_neg (by rw [HLF.out, h10]; simp)]]
                        simp)
                      go_roundw
                      case rel => exact ⟨m + 1, _, by omega, by first | (congr 1; done) | (congr 1; apply ByteArray.ext; simp [lacks]), by go_num, by go_num, KM.out, HEND.out⟩
                      case measure => simp [intOf]; omega
                    · rename_i hc
                      have HLF := Lib.hid (last_feed HXL.out)
                      have h10 : decide (xl = (10 : UInt8)) = !false := byte_ne (c := 10) (by decide) HXL.out hc
                      have HEND := Lib.hid (show (T'' ++ [45] ++ sl) ++ linesT e.op (row.drop (m + 1)) = T' ++ linesT e.op row from by
                        rw [← HT8.out, HSG.out, show tailT sl = [] by unfold tailT; rw [if_pos (by rw [HLF.out, h10]; simp)]]
                        simp)
                      go_roundw
                      case rel => exact ⟨m + 1, _, by omega, by first | (congr 1; done) | (congr 1; apply ByteArray.ext; simp), by go_num, by go_num, KM.out, HEND.out⟩
                      case measure => simp [intOf]; omega
                  · have HSG := Lib.hid (show sgn e.op = 43 from by rw [q]; rfl)
                    rw [q] at c4
                    go_quiet (fail)
                    have KM := Lib.hid (km.drewN nq)
                    clear km c2 c3 c4 c5 d9
                    generalize wr.drewN nq = w9 at *
                    go_upto_region 19 with fail
                    go_wp2_with fail
                    · rename_i hc
                      have HLF := Lib.hid (last_feed HXL.out)
                      have h10 : decide (xl = (10 : UInt8)) = !true := byte_ne (c := 10) (by decide) HXL.out hc
                      have HEND := Lib.hid (show (T'' ++ [43] ++ sl ++ lacks) ++ linesT e.op (row.drop (m + 1)) = T' ++ linesT e.op row from by
                        rw [← HT8.out, HSG.out, show tailT sl = lacks by unfold tailT; rw [if_neg (by rw [HLF.out, h10]; simp)]]
                        simp)
                      go_roundw
                      case rel => exact ⟨m + 1, _, by omega, by first | (congr 1; done) | (congr 1; apply ByteArray.ext; simp [lacks]), by go_num, by go_num, KM.out, HEND.out⟩
                      case measure => simp [intOf]; omega
                    · rename_i hc
                      have HLF := Lib.hid (last_feed HXL.out)
                      have h10 : decide (xl = (10 : UInt8)) = !false := byte_ne (c := 10) (by decide) HXL.out hc
                      have HEND := Lib.hid (show (T'' ++ [43] ++ sl) ++ linesT e.op (row.drop (m + 1)) = T' ++ linesT e.op row from by
                        rw [← HT8.out, HSG.out, show tailT sl = [] by unfold tailT; rw [if_pos (by rw [HLF.out, h10]; simp)]]
                        simp)
                      go_roundw
                      case rel => exact ⟨m + 1, _, by omega, by first | (congr 1; done) | (congr 1; apply ByteArray.ext; simp), by go_num, by go_num, KM.out, HEND.out⟩
                      case measure => simp [intOf]; omega
                · obtain rfl : m = nn := by omega
                  have hT8' : T'' = T' ++ linesT e.op row := by
                    rw [← hT8, List.drop_of_length_le (by omega)]
                    simp [linesT]
                  have hmI : ¬ ((m : Int) < (m : Int)) := by omega
                  have HEQ := Lib.hid (show T'' ++ bodyT (h.eds.drop (j + 1)) (h.ls.drop (addE c e).all) = T5 ++ bodyT h.eds h.ls from by
                    rw [hT8', HAL.out, show List.drop (c.all + m) h.ls = List.drop m (List.drop c.all h.ls) from by rw [List.drop_drop], List.append_assoc]; exact HT6.out)
                  have hj' : j + 1 ≤ h.eds.length := by omega
                  have hca' : (addE c e).all ≤ h.ls.length := by have := HAL.out; have := HNL.out; omega
                  clear hT8 hT8'
                  go_wp2_with fail
                  go_roundw
                  case rel => exact ⟨j + 1, addE c e, T'', hj', rfl, by rw [HAL.out], by go_num, km, HE6.out, hca', HEQ.out⟩
                  case measure => simp [intOf]; omega
            · obtain rfl : j = h.eds.length := by omega
              rw [List.drop_length] at hT6
              have hT7 : T' = T5 ++ bodyT h.eds h.ls := by rw [← hT6]; simp [bodyT]
              have HEQ := Lib.hid (show T' ++ hksT (l.drop (k + 1)) = hksT l from by rw [hT7, List.append_assoc]; exact HT5.out)
              have hk' : k + 1 ≤ l.length := by omega
              have hxx : ¬ (h.eds.length < h.eds.length) := Nat.lt_irrefl _
              have HOK2 := Lib.hid (show ∀ (j : Nat) x, j < k + 1 → l[j]? = some x → okH x = true from fun j x q1 q2 => by
                rcases Nat.lt_or_ge j k with q | q
                · exact HOK.out j x q q2
                · obtain rfl : j = k := by omega
                  rw [HX.out] at q2
                  injection q2 with q2
                  rw [← q2]
                  exact hokh)
              have KW := Lib.hid (HW.out _ kj)
              clear hT6 hT7
              go_wp2_with fail
              go_roundw
              case rel => exact ⟨k + 1, T', hk', rfl, by go_num, HEQ.out, HOK2.out, KW.out⟩
              case measure => simp [intOf]; omega
    · obtain rfl : k = l.length := by omega
      have hall : l.all okH = true := by
        rw [List.all_eq_true]
        intro x hx
        obtain ⟨n, hn, rfl⟩ := List.mem_iff_getElem.1 hx
        exact HOK.out n _ hn (List.getElem?_eq_getElem hn)
      have hTX : TX = .tuple #[.string ⟨T.toArray⟩, .int .i64 0] := by
        rw [← HTX.out]
        unfold textR
        rw [hall, ← hT, List.drop_length]
        simp [hksT]
      have HTX2 := Lib.hid hTX
      have hxx : ¬ (l.length < l.length) := Nat.lt_irrefl _
      clear hall hTX hT
      go_wp2_with fail
      go_ret2
      exact ⟨by rw [HTX2.out]; rfl, kr⟩
end Go.Proofs.YtlcidbbpjlpmjaaDoor
