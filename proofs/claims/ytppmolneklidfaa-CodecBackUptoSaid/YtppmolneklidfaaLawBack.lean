/-
  CodecBack (second form): what was encoded is parsed as the same; bytes that can be parsed are encoded as the same bytes. Condition: the arguments' bulk is at most 1048576.
-/
import Derived.Test.YtppmolneklidfaaAgain
import Derived.Test.YtppmolneklidfaaSc2
import Derived.Test.YtppmolneklidfaaGrd
import Derived.Test.YtppmolneklidfaaFew
import Derived.Test.YtppmolneklidfaaKnown
import Derived.Test.YtppmolneklidfaaOpenCom
import Derived.Test.YtppmolneklidfaaTxl
import Derived.JoinedCond
import Derived.Deep.DeepCutAuto
namespace Go.Proofs.Ytppmolneklidfaa
open Go.ChangeShapes Go.WideShapes Go.ChangeAt Go.RowKit

theorem okFrom_len : ∀ (l : List Ent) {was : ByteArray} {first : Bool}, okFrom was first l → (l.flatMap entB).length ≤ l.length * 74
  | [], _, _, _ => Nat.le_refl _
  | x :: l, was, first, h => by
    have h1 := okFrom_len l h.2
    have h2 := name_le (entE_zero' h.1).2.2
    rw [← size_list] at h2
    have h3 : (entB x).length = 1 + 1 + x.name.size + 32 := by simp only [entB, List.length_append, be_len, x.id.2, ← size_list]; omega
    rw [List.flatMap_cons, List.length_append, List.length_cons]
    omega
theorem encTree_len {l : List Ent} (h : (encTree l).2 = 0) : (encTree l).1.length ≤ 50000 := by
  obtain ⟨h1, h2⟩ := encTree_zero h
  have := okFrom_len l h2
  rw [encTree_ok h1 h2]
  show (l.flatMap entB).length ≤ _
  omega
theorem idsB_len (l : List Id) : (idsB l).length = l.length * 32 := by
  induction l with
  | nil => rfl
  | cons x l ih => show (x.1 ++ idsB l).length = _; rw [List.length_append, ih, x.2, List.length_cons]; omega
theorem encCommit_okOf {c : ComD} (h : (encCommit c).2 = 0) : ComOk c := by
  rw [encCommit] at h
  split at h
  · exact (ecE_iff c).1 ‹_›
  · exact absurd h ‹_›
theorem encCommit_len {c : ComD} (h : (encCommit c).2 = 0) : (encCommit c).1.length ≤ 5000 := by
  have hok := encCommit_okOf h
  rw [encCommit_ok hok]
  obtain ⟨_, h2, _, h4, h5⟩ := hok
  show (comB c).length ≤ _
  simp only [comB, List.length_append, be_len, c.tree.2, idsB_len, ← size_list]
  omega
theorem encTx_zero {t : TxD} (h : (encTx t).2 = 0) : wrongE t = 0 := by
  rw [encTx] at h
  split at h
  · assumption
  · exact h
structure BackIn (w : World) (q : Nat) (l : List Ent) (Al : Option Addr) (d : ComD) (Ad : Option Addr) (cd : Nat) (t : TxD) (mv tv ev : Value) (b : List UInt8) (Ab : Option Addr) : Prop where
  ents : Reads w w.heap.size 34 Al l.length (entLs l)
  pars : Reads w w.heap.size 32 Ad d.parents.length (idLs d.parents)
  tx : TxIn w w.heap.size t mv tv ev
  bytes : Reads w w.heap.size 1 Ab b.length (b.map bv)
  com : Blk w q 45 (comC d.tree (.slice Ad d.parents.length cd) d.author d.time d.msg)
  box : Blk w (q + 1) 70 (txC t mv tv ev)
theorem BackIn.below {w w' : World} {q : Nat} {l : List Ent} {Al : Option Addr} {d : ComD} {Ad : Option Addr} {cd : Nat} {t : TxD} {mv tv ev : Value} {b : List UInt8} {Ab : Option Addr} (h : BackIn w q l Al d Ad cd t mv tv ev b Ab) (k : Below w.heap.size w w') : BackIn w' q l Al d Ad cd t mv tv ev b Ab :=
  ⟨(h.ents.below k).more k.size, (h.pars.below k).more k.size, (h.tx.below k).more k.size, (h.bytes.below k).more k.size, h.com.below k h.com.lt, h.box.below k h.box.lt⟩
attribute [local go_sem ↓] cv_bs ld_tx
set_option maxHeartbeats 16000000 in
set_option maxRecDepth 100000 in
theorem back_walk (l : List Ent) (d : ComD) (t : TxD) (b : List UInt8) (Al Ad Ab : Option Addr) (cl cd cb : Nat) (mv tv ev : Value) (w : World) (hl : Reads w w.heap.size 34 Al l.length (entLs l)) (hll : l.length ≤ maxLen)
    (hd : Reads w w.heap.size 32 Ad d.parents.length (idLs d.parents)) (hdc : d.parents.length ≤ cd) (hcd : cd ≤ maxLen) (hau : d.author.size ≤ maxLen) (hms : d.msg.size ≤ maxLen) (hti : -9223372036854775808 ≤ d.time ∧ d.time ≤ 9223372036854775807)
    (ht : TxIn w w.heap.size t mv tv ev) (hst : TxSmall 1048576 t) (hb : Reads w w.heap.size 1 Ab b.length (b.map bv)) (hbc : b.length ≤ cb) (hcb : cb ≤ maxLen) :
    Calls Try.prog 10 #[.slice Al l.length cl, .agg (comC d.tree (.slice Ad d.parents.length cd) d.author d.time d.msg), .agg (txC t mv tv ev), .slice Ab b.length cb] w (TruePost w) := by
  have hcd' := hcd
  have hcb' := hcb
  unfold maxLen at hll hcd' hau hms hcb'
  have q1 : Blk ((w.alloc (.cells (comC d.tree (.slice Ad d.parents.length cd) d.author d.time d.msg) 45)).alloc (.cells (txC t mv tv ev) 70)) w.heap.size 45 (comC d.tree (.slice Ad d.parents.length cd) d.author d.time d.msg) := (Blk.new _ _ _).alloc _
  have q2 : Blk ((w.alloc (.cells (comC d.tree (.slice Ad d.parents.length cd) d.author d.time d.msg) 45)).alloc (.cells (txC t mv tv ev) 70)) (w.heap.size + 1) 70 (txC t mv tv ev) := by
    have := Blk.new (w.alloc (.cells (comC d.tree (.slice Ad d.parents.length cd) d.author d.time d.msg) 45)) 70 (txC t mv tv ev)
    simpa using this
  have k0 : Below w.heap.size w ((w.alloc (.cells (comC d.tree (.slice Ad d.parents.length cd) d.author d.time d.msg) 45)).alloc (.cells (txC t mv tv ev) 70)) := (((Keep.refl Nothing _).alloc _).alloc _).all
  go_enter Try.func10, Try.ntmps10
  go_upto_region 1 with (first | (refine wpList_boxed rfl rfl (cs := comC d.tree (.slice Ad d.parents.length cd) d.author d.time d.msg) rfl ?_) | (refine wpList_boxed rfl rfl (cs := txC t mv tv ev) rfl ?_))
  generalize (w.alloc (.cells (comC d.tree (.slice Ad d.parents.length cd) d.author d.time d.msg) 45)).alloc (.cells (txC t mv tv ev) 70) = w0 at *
  have B0 : BackIn w0 w.heap.size l Al d Ad cd t mv tv ev b Ab := ⟨(hl.below k0).more k0.size, (hd.below k0).more k0.size, (ht.below k0).more k0.size, (hb.below k0).more k0.size, q1, q2⟩
  have HF := Lib.hid (show ∀ W : World, Below w.heap.size w W → TruePost w (.returned (.bool true)) W from fun W h => ⟨rfl, h⟩)
  have HEL := Lib.hid (encTxB_le hst)
  have hh : t.head.size ≤ 9000000 := by have := hst.head; omega
  have z0 := k0.size
  clear hl hd ht hb hst q1 q2
  generalize hq : w.heap.size = q at *
  clear hq
  go_wp2_with fail
  refine (known_any _).mono ?_
  rintro r w1 ⟨rfl, be1⟩
  have k1 : Below q w w1 := k0.trans (be1.mono z0)
  have B1 := B0.below be1
  clear B0 be1 k0
  have HB := Lib.hid B1
  have p1 := (B1.com.cell 32).trans comC_at.1
  have p2 := (B1.com.cell 33).trans comC_at.2.1
  have p4 := (B1.com.cell 35).trans comC_at.2.2.2
  have box1 := B1.box
  clear B1
  go_upto_region 3 with fail
  go_cut [47] (fun s47 wx => ∃ z, s47 = .bool z ∧ (z = false → l.length ≤ 700 ∧ d.parents.length ≤ 50 ∧ b.length ≤ 16384) ∧ Below w1.heap.size w1 wx)
  case first =>
    by_cases h1 : 700 < l.length
    · have d1 : decide ((700 : Int) < (l.length : Int)) = true := decide_eq_true (by omega)
      go_wp2_with fail
      go_meet
      exact ⟨true, rfl, fun h => (by cases h), Below.refl _ _⟩
    have d1 : decide ((700 : Int) < (l.length : Int)) = false := decide_eq_false (by omega)
    by_cases h2 : 50 < d.parents.length
    · have d2 : decide ((50 : Int) < (d.parents.length : Int)) = true := decide_eq_true (by omega)
      go_wp2_with fail
      go_meet
      exact ⟨true, rfl, fun h => (by cases h), Below.refl _ _⟩
    have d2 : decide ((50 : Int) < (d.parents.length : Int)) = false := decide_eq_false (by omega)
    obtain ⟨z, hz⟩ : ∃ z : Int, IntKind.i64.wrap ((d.author.size : Int) + (d.msg.size : Int)) = z := ⟨_, rfl⟩
    have hadd := fun W => add_int W (d.author.size : Int) (d.msg.size : Int)
    rw [hz] at hadd
    have HADD := Lib.hid hadd
    clear hz hadd
    by_cases h3 : (5000 : Int) < z
    · have d3 : decide ((5000 : Int) < z) = true := decide_eq_true h3
      go_wp2_with (first | (refine wpList_bin_g (o := ⟨some 35, _, _, _, _, _⟩) (by rfl) rfl rfl rfl (guard_add _ _ _ _ _) (HADD.out _) ?_))
      go_meet
      exact ⟨true, rfl, fun h => (by cases h), Below.refl _ _⟩
    have d3 : decide ((5000 : Int) < z) = false := decide_eq_false h3
    have FW := Lib.hid (few_any t mv tv ev w1 HB.out.tx)
    go_wp2_with (first | (refine wpList_bin_g (o := ⟨some 35, _, _, _, _, _⟩) (by rfl) rfl rfl rfl (guard_add _ _ _ _ _) (HADD.out _) ?_) | (refine wpList_loadG (o := ⟨some 39, _, _, _, _, _⟩) (by rfl) rfl rfl (LdTx.run' box1) ?_))
    refine FW.out.mono ?_
    rintro r w2 ⟨z2, rfl, kf⟩
    clear FW HADD d1 d2 d3 p1 p2 p4
    cases z2
    · go_wp2_with fail
      go_meet
      exact ⟨true, rfl, fun h => (by cases h), kf.all⟩
    · by_cases h4 : 16384 < b.length
      · have d4 : decide ((16384 : Int) < (b.length : Int)) = true := decide_eq_true (by omega)
        go_wp2_with fail
        go_meet
        exact ⟨true, rfl, fun h => (by cases h), kf.all⟩
      · have d4 : decide ((16384 : Int) < (b.length : Int)) = false := decide_eq_false (by omega)
        go_wp2_with fail
        go_meet
        exact ⟨false, rfl, fun _ => ⟨by omega, by omega, by omega⟩, kf.all⟩
  case rest =>
    obtain ⟨z, rfl, hz, b2⟩ := hcut
    generalize wc = w2 at *
    have k2 := k1.trans (b2.mono (by have := HB.out.com.lt; omega))
    have B2 := HB.out.below b2
    clear HB b2 k1 p1 p2 p4 box1
    cases z
    case true =>
      go_wp2_with fail
      go_ret
      exact HF.out _ k2
    case false =>
      obtain ⟨g1, g2, g3⟩ := hz rfl
      clear hz
      have HB := Lib.hid B2
      have hq2 : q + 1 < w2.heap.size := B2.box.lt
      clear B2
      -- trees
      go_wp2_with fail
      refine (encodeTree_any l Al cl w2 HB.out.ents (by omega)).mono ?_
      rintro r w3 ⟨A3, c3, rfl, o3, b3⟩
      have HE := Lib.hid (show (encTree l).2 = 0 → parseTree (encTree l).1 = (l, 0) ∧ (encTree l).1.length ≤ 50000 from fun h => ⟨tree_read h, encTree_len h⟩)
      generalize (encTree l).2 = e at *
      generalize (encTree l).1 = x at *
      go_upto_if 54 with fail
      go_cut [11, 12] (fun _ _ wx => Below w2.heap.size w2 wx)
      case first =>
        by_cases he : e = 0
        · have hb : (e == 0) = true := beq_iff_eq.2 he
          have he' := HE.out he
          have hxl := he'.2
          have oc := o3.cap_le
          have PC := Lib.hid (show Calls Try.prog 14 #[.slice A3 x.length c3] w3 (fun r w' => ∃ A c, r = .returned (.tuple #[.slice A l.length c, .int .i64 0]) ∧ Own w' w3.heap.size 87 34 A l.length c (entLs l) ∧ Below w3.heap.size w3 w') from by
            have h := parseTree_any x A3 c3 w3 o3.reads (by omega) oc.1 oc.2
            unfold ParPost at h
            rw [he'.1] at h
            exact h)
          clear he he'
          go_wp2_with fail
          refine PC.out.mono ?_
          rintro r w4 ⟨A4, c4, rfl, o4, b4⟩
          have b24 := b3.trans (b4.mono b3.size)
          have SE := Lib.hid (sameEntries_refl l A4 Al c4 cl _ w4 o4.reads (HB.out.below b24).ents (by omega))
          go_wp2_with fail
          refine SE.out.mono ?_
          rintro r w5 ⟨rfl, k5⟩
          go_wp2_with fail
          go_meet
          exact b24.trans (k5.all.mono b24.size)
        · have hb : (e == 0) = false := beq_eq_false_iff_ne.2 he
          clear he
          go_wp2_with fail
          go_meet
          exact b3
      case rest =>
        clear b3 o3 HE
        generalize wc = w3 at *
        have b3 := hcut
        clear hcut
        -- commits
        have HB3 := Lib.hid (HB.out.below b3)
        have lc := load_com HB3.out.com
        go_wp2_with (first | (refine wpList_load rfl rfl rfl lc ?_))
        refine (encodeCommit_any d Ad cd w3 HB3.out.pars (by omega) hdc (by omega) (by omega)).mono ?_
        rintro r w4 ⟨A4, c4, rfl, o4, b4⟩
        have b24 := b3.trans (b4.mono b3.size)
        have HE := Lib.hid (show (encCommit d).2 = 0 → parseCommit (encCommit d).1 = (d, 0) ∧ (encCommit d).1.length ≤ 5000 from fun h => ⟨com_read h hti, encCommit_len h⟩)
        clear lc HB3 b4
        generalize (encCommit d).2 = e at *
        generalize (encCommit d).1 = x at *
        go_upto_if 74 with fail
        go_cut [13, 14] (fun _ _ wx => Below w2.heap.size w2 wx)
        case first =>
          by_cases he : e = 0
          · have hb : (e == 0) = true := beq_iff_eq.2 he
            have he' := HE.out he
            have hxl := he'.2
            have oc := o4.cap_le
            have PC := Lib.hid (show Calls Try.prog 22 #[.slice A4 x.length c4] w4 (fun r w' => ∃ A c, r = .returned (.tuple #[.agg (comC d.tree (.slice A d.parents.length c) d.author d.time d.msg), .int .i64 0]) ∧ Own w' w4.heap.size 42 32 A d.parents.length c (idLs d.parents) ∧ Below w4.heap.size w4 w') from by
              have h := parseCommit_any x A4 c4 w4 o4.reads (by omega) oc.1 oc.2
              unfold ComPost at h
              rw [he'.1] at h
              exact h)
            clear he he'
            go_wp2_with fail
            refine PC.out.mono ?_
            rintro r w5 ⟨A5, c5, rfl, o5, b5⟩
            have b25 := b24.trans (b5.mono b24.size)
            go_upto_region 13 with (first | (refine wpList_allocAgg rfl rfl (zero_com _) ?_) | (refine wpList_storeBlk rfl rfl (vs := comC d.tree (.slice A5 d.parents.length c5) d.author d.time d.msg) rfl rfl (Blk.new _ _ _) (by rw [comC_size, comC_size]) (by rw [comC_size]; exact info_com) (comL_one _ _ _ _ _ rfl) ?_; intro w6 x6 hkc hzc))
            have kN : Keep Nothing w5 w6 := Keep.ofNew hkc
            have b26 := b25.trans (kN.all.mono b25.size)
            have o6 := o5.kept (b' := 0) (E := []) (G := []) (Kept.ofBelow kN.all) (by simp) (by simp)
            have HB6 := Lib.hid (HB.out.below b26)
            have com6 := HB6.out.com
            have SC := Lib.hid (sameCommit_refl d A5 Ad c5 cd w6 o6.reads HB6.out.pars (by omega))
            clear hkc hzc kN o5 b5 b25
            generalize w5.heap.size = h5 at *
            go_wp2_with (first | (refine wpList_load_g (o := ⟨some 83, _, _, _, _, _⟩) (by rfl) rfl rfl (load_com x6) ?_) | (refine wpList_load_g (o := ⟨some 84, _, _, _, _, _⟩) (by rfl) rfl rfl (load_com com6) ?_))
            refine SC.out.mono ?_
            rintro r w7 ⟨rfl, k7⟩
            go_wp2_with fail
            go_meet
            exact b26.trans (k7.all.mono b26.size)
          · have hb : (e == 0) = false := beq_eq_false_iff_ne.2 he
            clear he
            go_wp2_with fail
            go_meet
            exact b24
        case rest =>
          clear b24 o4 HE b3
          generalize wc = w4 at *
          have b3 := hcut
          clear hcut
          -- transactions
          have HB3 := Lib.hid (HB.out.below b3)
          have lt := LdTx.run' HB3.out.box
          go_wp2_with (first | (refine wpList_load rfl rfl rfl lt ?_))
          refine (encodeTx_any t mv tv ev w4 HB3.out.tx hh HEL.out).mono ?_
          rintro r w5 ⟨A5, c5, rfl, o5, b5⟩
          have b24 := b3.trans (b5.mono b3.size)
          have HE := Lib.hid (show (encTx t).2 = 0 → (encTx t).1 = encTxB t ∧ wrongE t = 0 from fun h => by have h0 := encTx_zero h; exact ⟨by rw [encTx, if_pos h0], h0⟩)
          clear lt HB3 b5
          generalize (encTx t).2 = e at *
          generalize (encTx t).1 = x at *
          go_upto_if 94 with fail
          go_cut [15, 16] (fun _ _ wx => Below w2.heap.size w2 wx)
          case first =>
            by_cases he : e = 0
            · have hb : (e == 0) = true := beq_iff_eq.2 he
              have he' := HE.out he
              have oc := o5.cap_le
              have PC := Lib.hid (show Calls Try.prog 33 #[.slice A5 x.length c5] w5 (fun r w' => ∃ u mv tv ev, sameTxP u t = true ∧ r = .returned (.tuple #[.agg (txC u mv tv ev), .int .i64 0]) ∧ TR w5.heap.size u mv tv ev w' ∧ Below w5.heap.size w5 w') from (parseTx_all x A5 c5 w5 o5.reads oc.1 oc.2).mono fun r w' ⟨u, m1, m2, m3, e1, e2, e3, e4⟩ => by
                rw [he'.1] at e1 e2
                have hh := written_read he'.2 e1
                rw [hh.1] at e2
                exact ⟨u, m1, m2, m3, hh.2, e2, e3, e4⟩)
              clear he he'
              go_wp2_with fail
              refine PC.out.mono ?_
              rintro r w6 ⟨u, um, ut, ue, hu, rfl, T6, b6⟩
              have b26 := b24.trans (b6.mono b24.size)
              go_upto_region 18 with (first | (refine wpList_allocAgg rfl rfl (zero_tx _) ?_) | (refine wpList_storeBlk rfl rfl (vs := txC u um ut ue) rfl rfl (Blk.new _ _ _) (by rw [txC_size, txC_size]) (by rw [txC_size]; exact info_tx) T6.one ?_; intro w7 x7 hkc hzc))
              have kN : Keep Nothing w6 w7 := Keep.ofNew hkc
              have b27 := b26.trans (kN.all.mono b26.size)
              have T7 := (T6.kept (b' := 0) (E := []) (G := []) (Kept.ofBelow kN.all) (by simp) (by simp)).in_
              have HB7 := Lib.hid (HB.out.below b27)
              have box7 := HB7.out.box
              have SC := Lib.hid (show Calls Try.prog 36 #[.agg (txC u um ut ue), .agg (txC t mv tv ev)] w7 (fun r w' => r = .returned (.bool true) ∧ Keep Nothing w7 w') from by
                have h := sameTx_any u t _ _ _ _ _ _ w7 T7 HB7.out.tx
                rw [hu] at h
                exact h)
              clear hkc hzc kN T6 b6 b26 hu T7
              generalize w6.heap.size = h6 at *
              go_wp2_with (first | (refine wpList_loadG (o := ⟨some 103, _, _, _, _, _⟩) (by rfl) rfl rfl (LdTx.run' x7) ?_) | (refine wpList_loadG (o := ⟨some 104, _, _, _, _, _⟩) (by rfl) rfl rfl (LdTx.run' box7) ?_))
              refine SC.out.mono ?_
              rintro r w8 ⟨rfl, k8⟩
              go_wp2_with fail
              go_meet
              exact b27.trans (k8.all.mono b27.size)
            · have hb : (e == 0) = false := beq_eq_false_iff_ne.2 he
              clear he
              go_wp2_with fail
              go_meet
              exact b24
          case rest =>
            clear b24 o5 HE b3
            generalize wc = w5 at *
            have b3 := hcut
            clear hcut
            go_wp2_with fail
            refine (again_any b Ab cb w5 (HB.out.below b3).bytes (by omega) hbc hcb).mono ?_
            rintro r w6 ⟨rfl, b6⟩
            go_wp2_with fail
            go_ret
            exact HF.out _ (k2.trans ((b3.trans (b6.mono b3.size)).mono (by omega)))
def zCom (H : Type) : DataW H := .agg [zId H, .nil, .lit (.string []), .lit (.int .i64 0), .lit (.string [])]
set_option maxRecDepth 100000 in
theorem codecBack_lifted (os : Os) (started : os.Started) (H : Type) (enc : TypeId × Value → H) (F : Stop.Interp) :
    ReturnsInHanded {} Try.checked os 10 .any ((Rows.OpenSpec.upto Rows.codecBackSpec).pre6 enc Try.prog Try.f10 Rows.codecBackUptoRow.domain false) (((Rows.OpenSpec.upto Rows.codecBackSpec).at F).post enc Try.prog Try.f10 false true false false) := by
  refine returnsInHanded_of_cond (C := Try.checked) (s := Rows.OpenSpec.upto Rows.codecBackSpec) (k := Rows.uptoSmall) rfl own started (by kernel_rfl) Try.func10
    (OpenSpec.witness (enc := enc) (C := Try.checked) (s := Rows.OpenSpec.upto Rows.codecBackSpec) (k := Rows.uptoSmall) rfl false ⟨#[], #[.slice none 0 0, .agg (comC noId nilS ByteArray.empty 0 ByteArray.empty), .agg (txC tx0 nilS nilS nilS), .slice none 0 0], []⟩ 8 (by kernel_rfl) (by kernel_rfl) (by kernel_rfl)
      (x := ([.nil, zCom H, zTx H, .nil], [], [])) (by kernel_rfl) rfl (by kernel_rfl)) ?_
  intro W base args ds gs before hval0 hW hcnd hk _
  have hval : ∀ (j : Nat) t v, Try.f10.params[j]? = some t → args[j]? = some v → Value.okWide Try.prog W .any base t v := hval0
  have hW' := hW
  obtain ⟨p, q, hA0, hV, rfl, hfz, hnd⟩ := hW
  have hA : DataW.TrodAll enc Try.prog W 0 (fun _ => true) true Try.f10.params.toList args.toList ds p := hA0
  rw [Try.params10] at hA hval
  obtain ⟨v0, vs0, d0, ds0, p0, q0, hargs, rfl, rfl, h0, r0⟩ := trodAll_cons hA
  obtain ⟨v1, vs1, d1, ds1, p1, q1, rfl, rfl, rfl, h1, r1⟩ := trodAll_cons r0
  obtain ⟨v2, vs2, d2, ds2, p2, q2, rfl, rfl, rfl, h2, r2⟩ := trodAll_cons r1
  obtain ⟨v3, vs3, d3, ds3, p3, q3, rfl, rfl, rfl, h3, r3⟩ := trodAll_cons r2
  obtain ⟨rfl, rfl, rfl⟩ := trodAll_nil r3
  obtain rfl : args = #[v0, v1, v2, v3] := by cases args; simp_all
  obtain ⟨rfl, rfl⟩ := trodVars_none hV
  have k0 := h0
  have lt0 : ∀ x ∈ p0, x.block < W.heap.size := by obtain ⟨m, hm⟩ := k0; exact DataW.trod_lt m _ _ _ hm
  have k1 := h1
  have lt1 : ∀ x ∈ p1, x.block < W.heap.size := by obtain ⟨m, hm⟩ := k1; exact DataW.trod_lt m _ _ _ hm
  have k2 := h2
  have lt2 : ∀ x ∈ p2, x.block < W.heap.size := by obtain ⟨m, hm⟩ := k2; exact DataW.trod_lt m _ _ _ hm
  have k3 := h3
  have lt3 : ∀ x ∈ p3, x.block < W.heap.size := by obtain ⟨m, hm⟩ := k3; exact DataW.trod_lt m _ _ _ hm
  have hbd := bulk_bound hk
  simp only [Rows.uptoBulkAll, List.cons_append, List.nil_append] at hbd
  obtain ⟨a0, len0, cap0, rfl⟩ := okWide_slice Try.underlying22 (hval 0 22 v0 rfl rfl)
  obtain ⟨l0, hl0, hr0, hc0, hm0, _⟩ := opened_ents h0
  subst hl0
  obtain ⟨cd1, a1, c1, rfl, hr1, hc1, hm1, hau1, hms1, hw1⟩ := opened_com (hval 1 45 v1 rfl rfl) h1
  have ht1 : -9223372036854775808 ≤ cd1.time ∧ cd1.time ≤ 9223372036854775807 := by simpa [Lit.wf, IntKind.min, IntKind.max, IntKind.signed, IntKind.bits] using hw1
  obtain ⟨t2, mv2, tv2, ev2, rfl, in2, sm2⟩ := opened_tx (N := 1048576) (hval 2 70 v2 rfl rfl) h2 (by omega)
  obtain ⟨a3, len3, cap3, rfl⟩ := okWide_slice Try.underlying23 (hval 3 23 v3 rfl rfl)
  obtain ⟨l3, hl3, hr3, hc3, hm3⟩ := opened_bytes h3
  subst hl3
  clear hA0 hval0
  refine (back_walk l0 cd1 t2 l3 a0 a1 a3 cap0 c1 cap3 mv2 tv2 ev2 W hr0 (Nat.le_trans hc0 hm0) hr1 hc1 hm1 hau1 hms1 ht1 in2 sm2 hr3 hc3 hm3).mono fun e W' ⟨he, bel⟩ => ?_
  subst he
  exact ⟨_, rfl, _, _, _, [], _, [], hW', trodAll_mk1 (shut_bool Try.underlying4 _), (trodAll_cons_mk (Below.trod laidOut (by kernel_rfl) (of_decide_eq_true (by kernel_rfl)) k0 bel lt0) (trodAll_cons_mk (Below.trod laidOut (by kernel_rfl) (of_decide_eq_true (by kernel_rfl)) k1 bel lt1) (trodAll_cons_mk (Below.trod laidOut (by kernel_rfl) (of_decide_eq_true (by kernel_rfl)) k2 bel lt2) (trodAll_cons_mk (Below.trod laidOut (by kernel_rfl) (of_decide_eq_true (by kernel_rfl)) k3 bel lt3) trodAll_mk0)))), rfl, bel.frame _, fun h => by cases h⟩

theorem codecBack_over : Rows.codecBackUptoRow.holds Try.pinned (Rows.OpenSpec.upto Rows.codecBackSpec) :=
  OpenClaim.holds_of_cond 10 Try.f10 rfl rfl rfl rfl rfl rfl rfl ⟨rfl, rfl, rfl, rfl, rfl⟩ rfl rfl rfl rfl rfl (by kernel_rfl) Try.func10 (by kernel_rfl)
    (of_decide_eq_true (by kernel_rfl)) (by unfold Func.isWrapper; first | (rw [if_pos (by decide +kernel)]; kernel_rfl) | (rw [if_neg (by decide +kernel)]; exact ⟨rfl, rfl⟩))
    (fun os started H enc _ F => codecBack_lifted os started H enc F)

theorem codecBack_holds : Rows.CodecBackUptoSaid := codecBack_over
#print axioms codecBack_holds
end Go.Proofs.Ytppmolneklidfaa
