/-
  Contract of the law's again: bytes that can be parsed are encoded as the same bytes. No statement of the seat is proved here.
-/
import Derived.Test.YtppmolneklidfaaRt4
import Derived.Test.YtppmolneklidfaaSm6c
import Derived.Deep.DeepCutAuto
namespace Go.Proofs.Ytppmolneklidfaa
open Go.RowKit

theorem com_facts {d : ComD} {b : List UInt8} (h : encCommit d = (b, 0)) : ComOk d := by
  have h2 : (encCommit d).2 = 0 := by rw [h]
  rw [encCommit] at h2
  split at h2
  · exact (ecE_iff d).1 ‹_›
  · exact absurd h2 ‹_›
theorem obj_len {k : Int} {l b : List UInt8} (h : encObj 0 k l = (b, 0)) : l.length ≤ b.length := by
  rw [encObj, if_pos rfl] at h
  injection h with h _
  rw [← h]
  simp only [List.length_cons, List.length_append]
  omega
attribute [local go_sem ↓] cv_bs ld_tx
set_option maxHeartbeats 16000000 in
set_option maxRecDepth 100000 in
theorem again_any (b : List UInt8) (A : Option Addr) (c : Nat) (w : World) (hr : Reads w w.heap.size 1 A b.length (b.map bv)) (hl : b.length ≤ 1000000) (hc1 : b.length ≤ c) (hc2 : c ≤ maxLen) :
    Calls Try.prog 39 #[.slice A b.length c] w fun r w' => r = .returned (.bool true) ∧ Below w.heap.size w w' := by
  have HR := Lib.hid (show ∀ W, Below w.heap.size w W → Reads W W.heap.size 1 A b.length (b.map bv) from fun W k => (hr.below k).more k.size)
  have HC := Lib.hid (show ∀ W, Below w.heap.size w W → (CvBS (.slice A b.length c)).run Try.prog W = .ok (.string ⟨b.toArray⟩) W from fun W k => CvBS.run (hr.below k))
  have HL := Lib.hid hl
  have HC1 := Lib.hid hc1
  have HC2 := Lib.hid hc2
  clear hr hc1 hc2
  have kw := Below.refl w.heap.size w
  go_enter Try.func39, Try.ntmps39
  -- trees
  go_wp2_with fail
  refine (parseTree_any b A c _ (HR.out _ kw) HL.out HC1.out HC2.out).mono ?_
  rintro r w1 ⟨A1, c1, rfl, o1, b1⟩
  have z1 := b1.size
  have kb1 := kw.trans (b1.mono (by have := kw.size; omega))
  have HE := Lib.hid (show (parseTree b).2 = 0 → (parseTree b).1.length ≤ 512 ∧ encTree (parseTree b).1 = (b, 0) from fun h => ⟨(encTree_zero (by rw [tree_written h])).1, tree_written h⟩)
  generalize (parseTree b).2 = e at *
  generalize (parseTree b).1 = p at *
  go_upto_if 22 with fail
  go_cut [5, 6] (fun _ _ wx => Below w.heap.size w wx)
  case first =>
    by_cases he : e = 0
    · have hb : (e == 0) = true := beq_iff_eq.2 he
      have he' := HE.out he
      have hpl := he'.1
      have EC := Lib.hid (show ∀ W, Below w1.heap.size w1 W → Calls Try.prog 12 #[.slice A1 p.length c1] W (fun r w' => ∃ A c, r = .returned (.tuple #[.slice A b.length c, .int .i64 0]) ∧ Own w' W.heap.size 5 1 A b.length c (b.map bv) ∧ Below W.heap.size W w') from fun W k => by
        have h := encodeTree_any p A1 c1 W ((o1.reads.below k).more k.size) (by omega)
        unfold EncPost at h
        rw [he'.2] at h
        exact h
        )
      clear he he'
      go_wp2_with fail
      refine (EC.out _ (Below.refl _ _)).mono ?_
      rintro r w2 ⟨A2, c2, rfl, o2, b2⟩
      have k2 := kb1.trans (b2.mono (by have := kb1.size; omega))
      have C1 := HC.out _ k2
      have C2 := CvBS.run (c := c2) o2.reads
      go_wp2_with fail
      go_meet
      exact k2
    · have hb : (e == 0) = false := beq_eq_false_iff_ne.2 he
      clear he
      go_wp2_with fail
      go_meet
      exact kb1
  case rest =>
    clear kw b1 z1 kb1 o1
    have kw := hcut
    generalize wc = w0 at *
    clear hcut
    -- commits
    go_wp2_with fail
    refine (parseCommit_any b A c _ (HR.out _ kw) HL.out HC1.out HC2.out).mono ?_
    rintro r w1 ⟨A1, c1, rfl, o1, b1⟩
    have z1 := b1.size
    have kb1 := kw.trans (b1.mono (by have := kw.size; omega))
    have HE := Lib.hid (show (parseCommit b).2 = 0 → encCommit (parseCommit b).1 = (b, 0) from com_written)
    generalize (parseCommit b).2 = e at *
    generalize (parseCommit b).1 = d at *
    go_upto_region 7 with (first | (refine wpList_allocAgg rfl rfl (zero_com _) ?_) | (refine wpList_storeBlk rfl rfl (vs := comC d.tree (.slice A1 d.parents.length c1) d.author d.time d.msg) rfl rfl (Blk.new _ _ _) (by rw [comC_size, comC_size]) (by rw [comC_size]; exact info_com) (comL_one _ _ _ _ _ rfl) ?_; intro w3 x3 hkc hzc))
    have kN : Keep Nothing w1 w3 := Keep.ofNew hkc
    have kb2 := kb1.trans (kN.all.mono (by have := kb1.size; omega))
    clear hkc hzc
    generalize hx1 : w1.heap.size = x1 at *
    go_upto_if 43 with fail
    go_cut [8, 9] (fun _ _ wx => Below w.heap.size w wx)
    case first =>
      by_cases he : e = 0
      · have hb : (e == 0) = true := beq_iff_eq.2 he
        have he' := HE.out he
        have hok := com_facts he'
        have g1 := hok.few
        have g2 := hok.author
        have g3 := hok.msg
        have g4 := o1.cap_le.1
        have EC := Lib.hid (show ∀ W, Below w1.heap.size w1 W → Calls Try.prog 20 #[.agg (comC d.tree (.slice A1 d.parents.length c1) d.author d.time d.msg)] W (fun r w' => ∃ A c, r = .returned (.tuple #[.slice A b.length c, .int .i64 0]) ∧ Own w' W.heap.size 5 1 A b.length c (b.map bv) ∧ Below W.heap.size W w') from fun W k => by
          have h := encodeCommit_any d A1 c1 W ((o1.reads.below k).more k.size) (by omega) (by omega) (by omega) (by omega)
          unfold BytesPost at h
          rw [he'] at h
          exact h
          )
        clear he he'
        go_wp2_with (first | (refine wpList_load rfl rfl rfl (load_com x3) ?_))
        refine (EC.out _ (kN.all)).mono ?_
        rintro r w2 ⟨A2, c2, rfl, o2, b2⟩
        have k2 := kb2.trans (b2.mono (by have := kb2.size; omega))
        have C1 := HC.out _ k2
        have C2 := CvBS.run (c := c2) o2.reads
        go_wp2_with fail
        go_meet
        exact k2
      · have hb : (e == 0) = false := beq_eq_false_iff_ne.2 he
        clear he
        go_wp2_with fail
        go_meet
        exact kb2
    case rest =>
      clear kw b1 z1 kb1 o1 kb2 kN x3
      have kw := hcut
      generalize wc = v1 at *
      clear hcut
      -- transactions
      go_wp2_with fail
      refine (parseTx_any b A c _ (HR.out _ kw) HL.out HC1.out HC2.out).mono ?_
      rintro r w1 ⟨u, mv, tv, ev, hu, rfl, T1, b1⟩
      have z1 := b1.size
      have kb1 := kw.trans (b1.mono (by have := kw.size; omega))
      have HE := Lib.hid (show (parseTx b).2 = 0 → encTx u = (b, 0) ∧ encTxB u = b ∧ u.head.size ≤ 255 from fun h => read_written h hu)
      clear hu
      generalize (parseTx b).2 = e at *
      go_upto_region 12 with (first | (refine wpList_allocAgg rfl rfl (zero_tx _) ?_) | (refine wpList_storeBlk rfl rfl (vs := txC u mv tv ev) rfl rfl (Blk.new _ _ _) (by rw [txC_size, txC_size]) (by rw [txC_size]; exact info_tx) T1.one ?_; intro w3 x3 hkc hzc))
      have kN : Keep Nothing w1 w3 := Keep.ofNew hkc
      have kb2 := kb1.trans (kN.all.mono (by have := kb1.size; omega))
      clear hkc hzc
      generalize hx1 : w1.heap.size = x1 at *
      go_upto_if 64 with fail
      go_cut [11, 12] (fun _ _ wx => Below w.heap.size w wx)
      case first =>
        by_cases he : e = 0
        · have hb : (e == 0) = true := beq_iff_eq.2 he
          have he' := HE.out he
          have hhd := he'.2.2
          have EC := Lib.hid (show ∀ W, Below w1.heap.size w1 W → Calls Try.prog 31 #[.agg (txC u mv tv ev)] W (fun r w' => ∃ A c, r = .returned (.tuple #[.slice A b.length c, .int .i64 0]) ∧ Own w' W.heap.size 5 1 A b.length c (b.map bv) ∧ Below W.heap.size W w') from fun W k => by
            have h := encodeTx_any u _ _ _ W ((T1.in_.below k).more k.size) (by omega) (by rw [he'.2.1]; omega)
            unfold EncTxPost at h
            rw [he'.1] at h
            exact h
            )
          clear he he'
          go_wp2_with (first | (refine wpList_load rfl rfl rfl (LdTx.run' x3) ?_))
          refine (EC.out _ (kN.all)).mono ?_
          rintro r w2 ⟨A2, c2, rfl, o2, b2⟩
          have k2 := kb2.trans (b2.mono (by have := kb2.size; omega))
          have C1 := HC.out _ k2
          have C2 := CvBS.run (c := c2) o2.reads
          go_wp2_with fail
          go_meet
          exact k2
        · have hb : (e == 0) = false := beq_eq_false_iff_ne.2 he
          clear he
          go_wp2_with fail
          go_meet
          exact kb2
      case rest =>
        clear kw b1 z1 kb1 T1 kb2 kN x3
        have kw := hcut
        generalize wc = v2 at *
        clear hcut
        -- objects
        go_wp2_with fail
        refine (parseObj_any b A c _ (HR.out _ kw) HL.out HC1.out HC2.out).mono ?_
        rintro r w1 ⟨A1, c1, rfl, o1, b1⟩
        have z1 := b1.size
        have kb1 := kw.trans (b1.mono (by have := kw.size; omega))
        have HE := Lib.hid (show (parseObj b).2 = 0 → bodyE (parseObj b).1.1 (parseObj b).1.2 = 0 ∧ encObj 0 (parseObj b).1.1 (parseObj b).1.2 = (b, 0) from obj_written)
        generalize (parseObj b).2 = e at *
        generalize (parseObj b).1.2 = l at *
        generalize (parseObj b).1.1 = k at *
        go_upto_region 17 with (first | (refine wpList_storeBlk rfl rfl (vs := #[.int .i64 k, .slice A1 l.length c1]) rfl rfl (Blk.new w1 38 #[.int .i64 0, .slice none 0 0]) rfl info_obj obj_one2 ?_; intro w3 x3 hkc hzc))
        have kN : Keep Nothing w1 w3 := Keep.ofNew hkc
        have kb2 := kb1.trans (kN.all.mono (by have := kb1.size; omega))
        clear hkc hzc
        generalize hx1 : w1.heap.size = x1 at *
        go_upto_if 85 with fail
        go_cut [14, 15] (fun _ _ wx => Below w.heap.size w wx)
        case first =>
          by_cases he : e = 0
          · have hb : (e == 0) = true := beq_iff_eq.2 he
            have he' := HE.out he
            have hol := obj_len he'.2
            have g1 := o1.cap_le
            have EC := Lib.hid (show ∀ W, Below w1.heap.size w1 W → Calls Try.prog 19 #[.agg #[.int .i64 k, .slice A1 l.length c1]] W (fun r w' => ∃ A c, r = .returned (.tuple #[.slice A b.length c, .int .i64 0]) ∧ Own w' W.heap.size 5 1 A b.length c (b.map bv) ∧ Below W.heap.size W w') from fun W kW => by
              have h := encodeObj_any k l A1 c1 W ((o1.reads.below kW).more kW.size) (by omega) g1.1 g1.2
              unfold BytesPost at h
              rw [he'.1, he'.2] at h
              exact h
              )
            clear he he'
            go_wp2_with (first | (refine wpList_load rfl rfl rfl (load_obj x3) ?_))
            refine (EC.out _ (kN.all)).mono ?_
            rintro r w2 ⟨A2, c2, rfl, o2, b2⟩
            have k2 := kb2.trans (b2.mono (by have := kb2.size; omega))
            have C1 := HC.out _ k2
            have C2 := CvBS.run (c := c2) o2.reads
            go_wp2_with fail
            go_meet
            exact k2
          · have hb : (e == 0) = false := beq_eq_false_iff_ne.2 he
            clear he
            go_wp2_with fail
            go_meet
            exact kb2
        case rest =>
          generalize wc = w0'' at *
          go_wp2_with fail
          go_ret
          exact ⟨rfl, hcut⟩
end Go.Proofs.Ytppmolneklidfaa
