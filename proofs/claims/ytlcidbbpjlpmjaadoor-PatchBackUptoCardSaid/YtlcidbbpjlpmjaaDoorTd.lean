/-
  Contract of patch.Text. No statement of the seat is proved here.
-/
import Derived.Test.YtlcidbbpjlpmjaaDoorTc
import Derived.Deep.DeepCutAuto
import Derived.BigQuiet
namespace Go.Proofs.YtlcidbbpjlpmjaaDoor
open Go.RowKit

theorem zero_bld (w : World) : (zeroValue 82).run Tryd.prog w = .ok (.agg #[.pointer none, .slice none 0 0]) w := by kernel_rfl
theorem hksT_cons {l : List HkI} {k : Nat} {h : HkI} {t : Cnt} (hx : l[k]? = some h) (hm : mayP h = some t) : hksT (l.drop k) = headT h t ++ (bodyT h.eds h.ls ++ hksT (l.drop (k + 1))) := by
  obtain ⟨hlt, he⟩ := List.getElem?_eq_some_iff.1 hx
  rw [List.drop_eq_getElem_cons hlt, he]
  unfold hksT
  rw [List.flatMap_cons]
  unfold hkT
  rw [hm, List.append_assoc]
theorem places_le {h : HkI} (hp : placesP h = true) : 0 ≤ h.a ∧ h.a ≤ 999999999 ∧ 0 ≤ h.b ∧ h.b ≤ 999999999 := by
  have := places_true h hp
  omega
theorem linesT_at {op : Int} {l : List (List UInt8)} {m : Nat} {s : List UInt8} (h : l[m]? = some s) : linesT op (l.drop m) = [sgn op] ++ (s ++ (tailT s ++ linesT op (l.drop (m + 1)))) := by
  obtain ⟨hlt, he⟩ := List.getElem?_eq_some_iff.1 h
  rw [List.drop_eq_getElem_cons hlt, he]
  simp [linesT, lineT]
theorem bodyT_at {eds : List EdI} {j : Nat} {e : EdI} (ls : List (List UInt8)) (h : eds[j]? = some e) : bodyT (eds.drop j) ls = linesT e.op (ls.take e.n.toNat) ++ bodyT (eds.drop (j + 1)) (ls.drop e.n.toNat) := by
  obtain ⟨hlt, he⟩ := List.getElem?_eq_some_iff.1 h
  rw [List.drop_eq_getElem_cons hlt, he]
  rfl
theorem suffix_any (s : List UInt8) (w : World) (hs : s.length ≤ 9223372036854775807) : Calls Tryd.prog 42 #[.string ⟨s.toArray⟩, .string ⟨#[10]⟩] w fun e w' => e = .returned (.bool (Lib.hasSuffix s [10])) ∧ w' = w := by
  have := Tryd.strings_HasSuffix ⟨s.toArray⟩ ⟨#[10]⟩ w (by simpa [ByteArray.size] using hs)
  simpa using this
def textR (l : List HkI) : Value := if l.all okH = true then .tuple #[.string ⟨(hksT l).toArray⟩, .int .i64 0] else .tuple #[.string ⟨#[]⟩, .int .i64 1]
set_option maxHeartbeats 4000000 in
set_option maxRecDepth 100000 in
theorem text_any (l : List HkI) (A : Option Addr) (cA B : Nat) (w : World) (hB : B ≤ w.heap.size) (hr : HII w B A l) (hl : l.length ≤ 9223372036854775807) (hls : ∀ h ∈ l, Fits h) (hlen : (hksT l).length ≤ 140737488355328) (htab : Lib.TabIs Tryd.prog w "internal/strconv.uint64pow10" .u64 Lib.pow10Tab) :
    Calls Tryd.prog 25 #[.slice A l.length cA] w fun r w' => r = .returned (textR l) ∧ Below w.heap.size w w' := by
  have HA := Lib.hid (all_any l A cA B w hB hr hl hls)
  have HLS := Lib.hid hls
  have HR := Lib.hid (show ∀ W, Below w.heap.size w W → HII W B A l from fun W k => hr.below (k.mono hB))
  have HTAB := Lib.hid (show ∀ W, Below w.heap.size w W → Lib.TabIs Tryd.prog W "internal/strconv.uint64pow10" .u64 Lib.pow10Tab from fun W k => Lib.tabBelow_of_tabIs htab W k)
  have HTR := Lib.hid (show textR l = textR l from rfl)
  clear hr hls htab
  unfold textR at HTR ⊢
  cases hall : l.all okH
  case false =>
    rw [hall] at HA
    clear hall HR HTAB HTR HLS
    go_enter Tryd.func25, Tryd.ntmps25
    go_wp2_with (go_at_call 36; refine HA.out.mono ?_)
    rintro _ w1 ⟨rfl, k1⟩
    go_wp2_with fail
    go_ret2
    exact ⟨rfl, k1.all⟩
  case true =>
    rw [hall] at HA
    have HOK := Lib.hid (show ∀ h ∈ l, ∃ t, mayP h = some t from fun h hh => Option.isSome_iff_exists.1 (List.all_eq_true.1 hall h hh))
    clear hall HTR
    rw [if_pos rfl]
    go_enter Tryd.func25, Tryd.ntmps25
    go_wp2_with (go_at_call 36; refine HA.out.mono ?_)
    rintro _ w1 ⟨rfl, k1⟩
    have hz := k1.size
    have HBW := Lib.hid (show ∀ W, Below w1.heap.size w1 W → Below w.heap.size w W from fun W k => k1.all.trans (k.mono hz))
    clear k1
    go_upto_region 4 with (refine wpList_allocAgg rfl rfl (zero_bld _) ?_)
    have tb0 := TB.start w1
    generalize w1.alloc (.cells #[.pointer none, .slice none 0 0] 82) = w2 at *
    generalize w1.heap.size = z at *
    go_wp2_with fail
    go_loopw [19] (fun s19 wr => ∃ (k : Nat) (T : List UInt8), k ≤ l.length ∧ s19 = .int .i64 (k : Nat) ∧ TB w1 wr z T ∧ T ++ hksT (l.drop k) = hksT l) (fun s19 _ => l.length - (intOf s19).toNat)
    case atStart => exact ⟨0, [], Nat.zero_le _, rfl, tb0, rfl⟩
    case round =>
      obtain ⟨k, T, hk, rfl, tb, hT⟩ := hrel
      clear tb0
      by_cases hlt : k < l.length
      · obtain ⟨h, hx⟩ : ∃ h, l[k]? = some h := ⟨_, List.getElem?_eq_getElem hlt⟩
        obtain ⟨t, hm⟩ := HOK.out h (List.mem_of_getElem? hx)
        rw [hksT_cons hx hm] at hT
        have hTL := congrArg List.length hT
        simp only [List.length_append] at hTL
        have HT := Lib.hid hT
        have hF := HLS.out h (List.mem_of_getElem? hx)
        obtain ⟨g1, o1, EA, ec, LA, lc, rfl, _, a0, a1, a2, a3, _, hlc, _, a4, a5⟩ := (HR.out _ (HBW.out _ tb.below)).at_ hx
        have LD := Lib.hid (load_hk_at a0 a1 a2 a3)
        have hi0 : (0 : Int) ≤ (k : Int) := Int.natCast_nonneg _
        have hi1 : (k : Int) < (l.length : Int) := by omega
        have hzr := tb.lt
        clear a0 a1 a2 a3 hx hT
        go_upto_region 7 with (first | (refine wpList_load rfl rfl rfl LD.out ?_) | (refine wpList_allocAgg rfl rfl (zero_hk _) ?_) | (refine wpList_storeBlk rfl rfl (vs := hkC h EA ec LA lc) rfl rfl (Blk.new _ _ _) rfl info_hunk (hkC_one h EA ec LA lc) ?_; intro w3 x3 kc zc))
        go_frame
        have k3 : Keep Nothing wr w3 := Keep.ofNew kc
        have tb3 := tb.keep k3
        have HRO := Lib.hid (show ∀ W, Below z w1 W → RowsOK W B h EA LA from fun W kk => ⟨a4.keep fun p hp => (kk.cell (by omega)).trans (tb.below.cell (by omega)).symm, a5.keep fun p hp => (kk.cell (by omega)).trans (tb.below.cell (by omega)).symm⟩)
        clear a4 a5
        have L3 := Lib.hid (run_loadAt_blk (P := Tryd.prog) x3 0 (hkC h EA ec LA lc) Tryd.underlying38 rfl info_hunk (by simp [hkC]))
        have hz3 := k3.size
        have HSZ := sizes_any h t hm EA LA ec lc B w3 (by omega) (HRO.out w3 tb3.below) hF
        obtain ⟨hE, hall, _, hpl, _⟩ := mayP_eds hm
        have hfl := hF.2.1
        have hsum : t.k + t.d ≤ 9223372036854775807 ∧ t.k + t.n ≤ 9223372036854775807 := by unfold Cnt.all at hall; omega
        obtain ⟨hT0, hHT⟩ : ∃ x, headT h t = x := ⟨_, rfl⟩
        have hHU := hHT
        unfold headT at hHU
        rw [hHT] at hTL HT
        generalize hA1 : t.k + t.d = sA at *
        generalize hB1 : t.k + t.n = sB at *
        have HSZ := Lib.hid HSZ
        have hhl := congrArg List.length hHU
        simp only [List.length_append, List.length_cons, List.length_nil] at hhl
        have HHU := Lib.hid hHU
        clear hHU hHT
        generalize hz2 : wr.heap.size = z2 at *
        clear kc zc LD
        go_upto_region 8 with (first | (refine wpList_load rfl rfl rfl L3.out ?_) | (go_at_call 37; refine HSZ.out.mono ?_))
        rintro _ w4 ⟨rfl, k4⟩
        go_upto_region 8 with fail
        have x4 := x3.keep k4 (fun h => h)
        have tb4 := tb3.keep k4
        obtain ⟨p1, p2, p3, p4⟩ := places_le hpl
        have HI := Lib.hid (fun (n : Int) (h0 : 0 ≤ n) (h1 : n ≤ 9223372036854775807) W (hW : Keep Nothing w4 W) => itoa_any n h0 h1 W (HTAB.out W (HBW.out W (tb4.keep hW).below)))
        have HWS := Lib.hid (fun W (hW : Keep Nothing w4 W) => (tb4.keep hW).writeString hT0 (by omega))
        have HX := Lib.hid (show ∀ W, Keep Nothing w4 W → W.cell? ⟨z2, 0, none⟩ = some (.int .i64 h.a) ∧ W.cell? ⟨z2, 1, none⟩ = some (.int .i64 h.b) ∧ Blk W z2 38 (hkC h EA ec LA lc) from fun W kk => ⟨(x4.keep kk (fun h => h)).cell 0, (x4.keep kk (fun h => h)).cell 1, x4.keep kk (fun h => h)⟩)
        have HK4 := Lib.hid k4
        clear L3 HSZ k4 x3 tb3 tb
        have kk : Keep Nothing w4 w4 := Keep.refl _ _
        obtain ⟨d0, d1, _⟩ := HX.out _ kk
        have hs0 : (0 : Int) ≤ (sA : Int) ∧ (sA : Int) ≤ 9223372036854775807 := by omega
        have hs1 : (0 : Int) ≤ (sB : Int) ∧ (sB : Int) ≤ 9223372036854775807 := by omega
        have n1 : ¬ (9223372036854775807 < 4 + (Lib.itoa h.a).length) := by omega
        have n2 : ¬ (9223372036854775807 < 4 + (Lib.itoa h.a).length + 1) := by omega
        have n3 : ¬ (9223372036854775807 < 4 + (Lib.itoa h.a).length + 1 + (Lib.itoa (sA : Int)).length) := by omega
        have n4 : ¬ (9223372036854775807 < 4 + (Lib.itoa h.a).length + 1 + (Lib.itoa (sA : Int)).length + 2) := by omega
        have n5 : ¬ (9223372036854775807 < 4 + (Lib.itoa h.a).length + 1 + (Lib.itoa (sA : Int)).length + 2 + (Lib.itoa h.b).length) := by omega
        have n6 : ¬ (9223372036854775807 < 4 + (Lib.itoa h.a).length + 1 + (Lib.itoa (sA : Int)).length + 2 + (Lib.itoa h.b).length + 1) := by omega
        have n7 : ¬ (9223372036854775807 < 4 + (Lib.itoa h.a).length + 1 + (Lib.itoa (sA : Int)).length + 2 + (Lib.itoa h.b).length + 1 + (Lib.itoa (sB : Int)).length) := by omega
        have n8 : ¬ (9223372036854775807 < 4 + (Lib.itoa h.a).length + 1 + (Lib.itoa (sA : Int)).length + 2 + (Lib.itoa h.b).length + 1 + (Lib.itoa (sB : Int)).length + 4) := by omega
        have HCAT := Lib.hid (show ({ data := #[64, 64, 32, 45] } ++ { data := (Lib.itoa h.a).toArray } ++ { data := #[44] } ++ { data := (Lib.itoa (sA : Int)).toArray } ++ { data := #[32, 43] } ++ { data := (Lib.itoa h.b).toArray } ++ { data := #[44] } ++ { data := (Lib.itoa (sB : Int)).toArray } ++ { data := #[32, 64, 64, 10] } : ByteArray) = ⟨hT0.toArray⟩ from by
          rw [← HHU.out]
          apply ByteArray.ext
          simp)
        go_cut [] from 28 to 46 (fun wx => TB w1 wx z (T ++ hT0) ∧ Blk wx z2 38 (hkC h EA ec LA lc))
        case first =>
          go_region_law (first | (go_simp; go_at_call 40; refine (HI.out _ (by omega) (by omega) _ (by first | exact kk | exact kk.drew)).mono ?_; rintro _ wn ⟨rfl, kn⟩; have kk := (by first | exact kk.trans kn | exact kk.trans (Keep.ofDrewN (n := 1) kn) : Keep Nothing w4 wn); obtain ⟨d0, d1, _⟩ := HX.out _ kk) | (go_simp; go_at_call 39; rw [HCAT.out]; refine (HWS.out _ (by exact kk)).mono ?_; rintro _ wn ⟨rfl, tbn, okn⟩))
          all_goals
            obtain ⟨_, _, hbk⟩ := HX.out _ kk
            have x5 := hbk.others okn (by omega) (by decide)
            go_wp2_with fail
            go_meet
            exact ⟨tbn, x5⟩
        case rest =>
          obtain ⟨tb5, x5⟩ := hcut
          clear n1 n2 n3 n4 n5 n6 n7 n8 d0 d1 kk hs0 hs1 HCAT HI HWS HX HHU hhl hi0 hi1 x4 tb4 p1 p2 p3 p4 HSZ
          have c2 : wc.cell? ⟨z2, 2, none⟩ = some (.slice EA h.eds.length ec) := x5.cell 2
          have c3 : wc.cell? ⟨z2, 3, none⟩ = some (.slice LA h.ls.length lc) := x5.cell 3
          have HT5 := HT.out
          rw [← List.append_assoc] at HT5
          have hT5l := congrArg List.length HT5
          generalize T ++ hT0 = T5 at *
          simp only [List.length_append] at hT5l
          have hT5b : T5.length + (bodyT h.eds h.ls).length ≤ 140737488355328 := by omega
          have HT5 := Lib.hid HT5
          clear hT5l hTL
          have hel := hF.1
          generalize wc = w5 at *
          go_wp2_with fail
          go_loopw [9, 52] (fun s9 s52 wr => ∃ (j : Nat) (c : Cnt) (T' : List UInt8) (A9 : Option Addr) (c9 : Nat), j ≤ h.eds.length ∧ s9 = .slice A9 (h.ls.length - c.all) c9 ∧ s52 = .int .i64 (j : Nat) ∧ h.ls.length - c.all ≤ c9 ∧ c9 ≤ lc ∧ Reads wr z 1 A9 (h.ls.length - c.all) (strL (h.ls.drop c.all)) ∧ TB w1 wr z T' ∧ Blk wr z2 38 (hkC h EA ec LA lc) ∧ edsP h.ls.length (prevOp h.eds j) c (h.eds.drop j) = some t ∧ c.all ≤ h.ls.length ∧ T' ++ bodyT (h.eds.drop j) (h.ls.drop c.all) = T5 ++ bodyT h.eds h.ls) (fun _ s52 _ => h.eds.length - (intOf s52).toNat)
          case atStart => exact ⟨0, cnt0, T5, LA, lc, Nat.zero_le _, rfl, rfl, hlc, Nat.le_refl _, ((HRO.out _ tb5.below).2).more (by omega), tb5, x5, hE, Nat.zero_le _, rfl⟩
          case round =>
            obtain ⟨j, c, T', A9, c9, hj, rfl, rfl, hc9, hc9l, hrd, tb6, x6, hE6, hca, hT6⟩ := hrel
            clear c2 c3
            by_cases hjl : j < h.eds.length
            · obtain ⟨e, hex⟩ : ∃ e, h.eds[j]? = some e := ⟨_, List.getElem?_eq_getElem hjl⟩
              rw [edsP_step hex] at hE6
              cases hb : badE h.ls.length (prevOp h.eds j) c e
              case true => rw [hb] at hE6; simp at hE6
              rw [hb, if_neg (by simp)] at hE6
              rw [bodyT_at _ hex] at hT6
              obtain ⟨b1, b2, b3, b4, _⟩ := badE_false hb
              obtain ⟨nn, hnn⟩ : ∃ nn : Nat, e.n = (nn : Int) := ⟨e.n.toNat, by omega⟩
              have hal : (addE c e).all = c.all + e.n.toNat := addE_all
              have hnt : e.n.toNat = nn := by omega
              rw [hnt] at hal hT6
              have HE6 := Lib.hid hE6
              have HAL := Lib.hid hal
              have h3 : e.op = 0 ∨ e.op = 1 ∨ e.op = 2 := by omega
              have hnl : nn ≤ h.ls.length - c.all := by omega
              obtain ⟨row, hrow⟩ : ∃ x, (h.ls.drop c.all).take nn = x := ⟨_, rfl⟩
              rw [hrow] at hT6
              have HRW := Lib.hid (show ∀ (m : Nat) (s : List UInt8), row[m]? = some s → (strL (h.ls.drop c.all))[m]? = some (strC s) ∧ s ∈ h.ls from fun m s hs => by
                rw [← hrow, List.getElem?_take] at hs
                split at hs
                · exact ⟨strL_at' hs, List.mem_of_mem_drop (List.mem_of_getElem? hs)⟩
                · cases hs)
              have hrl : row.length = nn := by rw [← hrow, List.length_take, List.length_drop]; omega
              have hT6l := congrArg List.length hT6
              simp only [List.length_append] at hT6l
              have HT6 := Lib.hid hT6
              have hlT : T'.length + (linesT e.op row).length ≤ 140737488355328 := by omega
              have HRD := Lib.hid (show ∀ W, Below z w1 W → Reads W z 1 A9 (h.ls.length - c.all) (strL (h.ls.drop c.all)) from fun W kk => hrd.keep fun p hp => (kk.cell hp).trans (tb6.below.cell hp).symm)
              obtain ⟨ge, oe, rfl, _, hce⟩ := (HRO.out _ tb6.below).1.at0 (by omega) (by omega)
              have L6 := Lib.hid (load_edI_at (w := wr) (fun j u hj => hce j u hj) hex)
              have hi0 : (0 : Int) ≤ (j : Int) := Int.natCast_nonneg _
              have hi1 : (j : Int) < (h.eds.length : Int) := by omega
              have hz3 := tb6.lt
              have hz23 := x6.lt
              have HNL := Lib.hid hnl
              clear hce hex hb hE6 hT6 hT6l hal hrow hrd
              go_upto_region 13 with (first | (refine wpList_load rfl rfl rfl L6.out ?_) | (refine wpList_allocAgg rfl rfl (zero_edit _) ?_) | (refine wpList_storeBlk rfl rfl (vs := edIC e) rfl rfl (Blk.new _ _ _) rfl info_edit (edIC_one e) ?_; intro w7 x7 kc zc))
              go_frame
              have k7 : Keep Nothing wr w7 := Keep.ofNew kc
              have tb7 := tb6.keep k7
              have x67 := x6.keep k7 (fun h => h)
              generalize wr.heap.size = z3 at *
              clear kc zc L6
              have e1 : w7.cell? ⟨z3, 1, none⟩ = some (.int .i64 (nn : Int)) := by rw [← hnn]; exact x7.cell 1
              have nn0 : (0 : Int) ≤ (nn : Int) := Int.natCast_nonneg _
              have nn1 : (nn : Int) ≤ (c9 : Int) := by omega
              go_wp2_with fail
              go_loopw [61] (fun s61 wr => ∃ (m : Nat) (T'' : List UInt8), m ≤ nn ∧ s61 = .int .i64 (m : Nat) ∧ TB w1 wr z T'' ∧ Blk wr z2 38 (hkC h (some ⟨ge, oe, none⟩) ec LA lc) ∧ Blk wr z3 67 (edIC e) ∧ T'' ++ linesT e.op (row.drop m) = T' ++ linesT e.op row) (fun s61 _ => nn - (intOf s61).toNat)
              case atStart => exact ⟨0, T', Nat.zero_le _, rfl, tb7, x67, x7, rfl⟩
              case round =>
                obtain ⟨m, T'', hm2, rfl, tb8, x8, x8e, hT8⟩ := hrel
                clear e1 nn0 nn1 tb7 x67 x7 k7
                by_cases hml : m < nn
                · obtain ⟨sl, hsl⟩ : ∃ s, row[m]? = some s := ⟨_, List.getElem?_eq_getElem (by omega)⟩
                  rw [linesT_at hsl] at hT8
                  obtain ⟨hs1, hs2⟩ := HRW.out m sl hsl
                  have hsn := hF.2.2 sl hs2
                  obtain ⟨g9, o9, rfl, _, hc9c⟩ := (HRD.out _ tb8.below).at0 (by have := HNL.out; omega) (by omega)
                  have d9 := hc9c _ _ hs1
                  unfold strC at d9
                  have hT8l := congrArg List.length hT8
                  simp only [List.length_append, List.length_cons, List.length_nil] at hT8l
                  have HT8 := Lib.hid hT8
                  have e0 : wr.cell? ⟨z3, 0, none⟩ = some (.int .i64 e.op) := x8e.cell 0
                  have hi0 : (0 : Int) ≤ (m : Int) := Int.natCast_nonneg _
                  have hi1 : (m : Int) < (nn : Int) := by omega
                  clear hc9c hs1 hs2 hsl hT8
                  go_upto_region 16 with fail
                  go_cut [] from 65 to 68 (fun wx => TB w1 wx z (T'' ++ [sgn e.op]) ∧ Blk wx z2 38 (hkC h (some ⟨ge, oe, none⟩) ec LA lc) ∧ Blk wx z3 67 (edIC e))
                  case first =>
                    have hTl : T''.length + 1 ≤ 140737488355328 := by omega
                    have hz22 : z2 ≠ z := by omega
                    have hz33 : z3 ≠ z := by omega
                    clear d9
                    rcases h3 with q | q | q
                    · have HW := Lib.hid (tb8.writeByte 32 hTl)
                      rw [q] at e0
                      go_wp2_with (go_at_call 41; refine HW.out.mono ?_)
                      rintro _ w9 ⟨rfl, tb9, ok9⟩
                      go_wp2_with fail
                      go_meet
                      exact ⟨by rw [q]; exact tb9, x8.others ok9 hz22 (by decide), x8e.others ok9 hz33 (by decide)⟩
                    · have HW := Lib.hid (tb8.writeByte 45 hTl)
                      rw [q] at e0
                      go_wp2_with (go_at_call 41; refine HW.out.mono ?_)
                      rintro _ w9 ⟨rfl, tb9, ok9⟩
                      go_wp2_with fail
                      go_meet
                      exact ⟨by rw [q]; exact tb9, x8.others ok9 hz22 (by decide), x8e.others ok9 hz33 (by decide)⟩
                    · have HW := Lib.hid (tb8.writeByte 43 hTl)
                      rw [q] at e0
                      go_wp2_with (go_at_call 41; refine HW.out.mono ?_)
                      rintro _ w9 ⟨rfl, tb9, ok9⟩
                      go_wp2_with fail
                      go_meet
                      exact ⟨by rw [q]; exact tb9, x8.others ok9 hz22 (by decide), x8e.others ok9 hz33 (by decide)⟩
                  case rest =>
                    obtain ⟨tb9, x9, x9e⟩ := hcut
                    have hz22 : z2 ≠ z := by omega
                    have hz33 : z3 ≠ z := by omega
                    have hTl : (T'' ++ [sgn e.op]).length + (sl.length + (tailT sl).length) ≤ 140737488355328 := by rw [List.length_append, List.length_cons, List.length_nil]; omega
                    have HW := Lib.hid (tb9.writeString sl (by omega))
                    have HSX := Lib.hid (fun W => suffix_any sl W hsn)
                    clear e0 d9 tb8 x8 x8e
                    go_upto_region 18 with (go_at_call 39; refine HW.out.mono ?_)
                    rintro _ w10 ⟨rfl, tb10, ok10⟩
                    have x10 := x9.others ok10 hz22 (by decide)
                    have x10e := x9e.others ok10 hz33 (by decide)
                    clear ok10 x9 x9e tb9 HW
                    cases hsx : Lib.hasSuffix sl [10]
                    case true =>
                      have htl : tailT sl = [] := by unfold tailT; rw [if_pos hsx]
                      rw [hsx] at HSX
                      rw [htl] at HT8
                      go_wp2_with (go_at_call 42; refine (HSX.out _).mono ?_)
                      rintro _ _ ⟨rfl, rfl⟩
                      go_wp2_with fail
                      go_roundw
                      case rel => exact ⟨m + 1, _, by omega, by go_num, tb10, x10, x10e, by rw [← HT8.out]; simp⟩
                      case measure => simp [intOf]; omega
                    case false =>
                      have htl : tailT sl = lacks := by unfold tailT; rw [if_neg (by simp [hsx])]
                      rw [hsx] at HSX
                      rw [htl] at HT8 hTl
                      have HW2 := Lib.hid (tb10.writeString lacks (by rw [List.length_append]; omega))
                      go_wp2_with (go_at_call 42; refine (HSX.out _).mono ?_)
                      rintro _ _ ⟨rfl, rfl⟩
                      go_wp2_with (go_at_call 39; refine HW2.out.mono ?_)
                      rintro _ w11 ⟨rfl, tb11, ok11⟩
                      have x11 := x10.others ok11 hz22 (by decide)
                      have x11e := x10e.others ok11 hz33 (by decide)
                      go_wp2_with fail
                      go_roundw
                      case rel => exact ⟨m + 1, _, by omega, by go_num, tb11, x11, x11e, by rw [← HT8.out]; simp⟩
                      case measure => simp [intOf]; omega
                · obtain rfl : m = nn := by omega
                  have hT8' : T'' = T' ++ linesT e.op row := by
                    rw [← hT8, List.drop_of_length_le (by omega)]
                    simp [linesT]
                  have HT8 := Lib.hid hT8'
                  have e1 : wr.cell? ⟨z3, 1, none⟩ = some (.int .i64 (m : Int)) := by rw [← hnn]; exact x8e.cell 1
                  have nn0 : (0 : Int) ≤ (m : Int) := Int.natCast_nonneg _
                  have nn1 : (m : Int) ≤ ((h.ls.length - c.all : Nat) : Int) := by have := HNL.out; omega
                  have nn2 : (m : Int) ≤ (c9 : Int) := by have := HNL.out; omega
                  have hcut := (HRD.out _ tb8.below).cut (k := m) (cap := c9) HNL.out hc9
                  have hdr : (strL (h.ls.drop c.all)).drop (m * 1) = strL (h.ls.drop (addE c e).all) := by
                    rw [HAL.out, Nat.mul_one, ← List.drop_drop]
                    simp [strL]
                  have hle : h.ls.length - c.all - m = h.ls.length - (addE c e).all := by rw [HAL.out]; omega
                  rw [hdr, hle] at hcut
                  have HCUT := Lib.hid hcut
                  have HLE := Lib.hid hle
                  have hj' : j + 1 ≤ h.eds.length := by omega
                  have HEQ := Lib.hid (show T'' ++ bodyT (h.eds.drop (j + 1)) (h.ls.drop (addE c e).all) = T5 ++ bodyT h.eds h.ls from by
                    rw [hT8', HAL.out, show List.drop (c.all + m) h.ls = List.drop m (List.drop c.all h.ls) from by rw [List.drop_drop], List.append_assoc]; exact HT6.out)
                  clear hT8 hT8' hcut hdr hle
                  go_wp2_with fail
                  go_roundw
                  case rel =>
                    refine ⟨j + 1, addE c e, T'', _, _, hj', by rw [← HLE.out, Nat.mul_one], by go_num, ?_, ?_, HCUT.out, tb8, x8, HE6.out, ?_, HEQ.out⟩
                    · have := HLE.out; have := HNL.out; omega
                    · omega
                    · have := HAL.out; have := HNL.out; omega
                  case measure => simp [intOf]; omega
            · obtain rfl : j = h.eds.length := by omega
              rw [List.drop_length] at hT6
              have hT7 : T' = T5 ++ bodyT h.eds h.ls := by rw [← hT6]; simp [bodyT]
              have HEQ := Lib.hid (show T' ++ hksT (l.drop (k + 1)) = hksT l from by rw [hT7, List.append_assoc]; exact HT5.out)
              have hk' : k + 1 ≤ l.length := by omega
              clear hT6 hT7
              go_wp2_with fail
              go_roundw
              case rel => exact ⟨k + 1, T', hk', by go_num, tb6, HEQ.out⟩
              case measure => simp [intOf]; omega
      · obtain rfl : k = l.length := by omega
        rw [List.drop_length] at hT
        have hT7 : T = hksT l := by rw [← hT]; simp [hksT]
        subst hT7
        have HW := Lib.hid tb.string
        go_wp2_with (go_at_call 43; refine HW.out.mono ?_)
        rintro _ w9 ⟨rfl, b9⟩
        go_wp2_with fail
        go_ret2
        exact ⟨rfl, HBW.out _ b9⟩
end Go.Proofs.YtlcidbbpjlpmjaaDoor
