/-
  Contract of slices.symMergeCmpFunc at pack's rows. No statement of the seat is proved here.
-/
import Derived.Test.YtmlmbkelpjmafaaGreatKd
import Derived.Deep.DeepCutAuto
namespace Go.Proofs.YtmlmbkelpjmafaaGreat
open Go.RowKit Go.Lib Go.Sort Go.Shelf
variable {α : Type} [Inhabited α] {enc : α → List Value} {d0 : Array α} {blk off : Nat} {w0 : World}
attribute [local go_sem ↓] ld_k st_k
set_option maxHeartbeats 8000000 in
set_option maxRecDepth 1000000 in
theorem symMerge_any (R : RowK enc 34 w0 blk off d0) {cf : α → α → Int} {g : Nat} {cb : Array Value} (eg : ∀ args w, (callFunc g args).run Tryz.prog w = .ok (.enter g args) w) (C : CmpLays Tryz.prog g cb enc 34 cf blk off d0.size w0) (htr : ∀ x y z, Lt9 cf x y → Lt9 cf y z → Lt9 cf x z) (cap : Nat) (hsz : d0.size < 1000000) :
    ∀ (sz a m b : Nat) (d : Array α) (w : World), d0.size = d.size → SWK enc 34 w0 blk off d w → b - a ≤ sz → a < m → m < b → b ≤ d.size → UpF (Lt9 cf) (AtF d) a m → UpF (Lt9 cf) (AtF d) m b → Tri9 cf (AtF d) a b →
    Calls Tryz.prog 56 #[.slice (some ⟨blk, off, none⟩) d.size cap, .int .i64 a, .int .i64 m, .int .i64 b, .func (.func g) #[] cb] w fun e w' => e = .returned (.tuple #[]) ∧ ∃ d' : Array α, d'.size = d.size ∧ Merged (Lt9 cf) (AtF d) (AtF d') a b ∧ SWK enc 34 w0 blk off d' w' := by
  intro sz
  induction sz with
  | zero => intro a m b d w _ _ h _ _; omega
  | succ sz ih =>
    intro a m b d w hs S hszb ham hmb hb hu hv ht
    by_cases h1 : m = a + 1
    · subst h1
      exact symm_one R eg C htr hs S cap a b hmb hb (by omega) hv ht
    by_cases h2 : b = m + 1
    · subst h2
      exact symm_last R eg C htr hs S cap a m (by omega) hb (by omega) hu ht
    have mixed : Tryz.prog.follows Departure.mixedOrders = true := by kernel_rfl
    have S0 : Aside (SWK enc 34 w0 blk off d w) := S
    have HU := Lib.hid hu
    have HV := Lib.hid hv
    have HT := Lib.hid ht
    have IH := Lib.hid ih
    have HTR := Lib.hid htr
    clear S hu hv ht ih htr
    have e9 : ¬ ((m : Int) - (a : Int)) = 1 := by omega
    have e8 : ((m : Int) - (a : Int) == 1) = false := beq_eq_false_iff_ne.2 e9
    have f9 : ¬ ((b : Int) - (m : Int)) = 1 := by omega
    have f8 : ((b : Int) - (m : Int) == 1) = false := beq_eq_false_iff_ne.2 f9
    obtain ⟨md, hmd⟩ : ∃ md : Nat, (a + b) / 2 = md := ⟨_, rfl⟩
    have e1 : ((a : Int) + (b : Int)) / 2 = (md : Int) := by omega
    have hmd1 : a < md := by omega
    have hmd2 : md < b := by omega
    have HMD := Lib.hid hmd
    obtain ⟨lo, hlo⟩ : ∃ lo : Nat, (if md < m then md + m - b else a) = lo := ⟨_, rfl⟩
    obtain ⟨hi, hhi⟩ : ∃ hi : Nat, (if md < m then md else m) = hi := ⟨_, rfl⟩
    have hlh : lo ≤ hi := by subst hlo hhi; split <;> omega
    have hal : a ≤ lo := by subst hlo; split <;> omega
    have hhm : hi ≤ md ∧ hi ≤ m := by subst hhi; split <;> omega
    have hln : md + m - b ≤ lo := by subst hlo; split <;> omega
    have HLO := Lib.hid hlo
    have HHI := Lib.hid hhi
    obtain ⟨hhm1, hhm2⟩ := hhm
    clear hlo hhi hmd
    go_enter Tryz.func56, Tryz.ntmps56
    go_upto_region 25 with fail
    go_upto_if 140 with fail
    go_cut [20, 21] (fun s20 s21 wx => s20 = .int .i64 lo ∧ s21 = .int .i64 hi ∧ w = wx)
    case first =>
      as_aux_lemma =>
       by_cases hq : md < m
       · have hqz : (md : Int) < (m : Int) := by omega
         have el : lo = md + m - b := HLO.out.symm.trans (if_pos hq)
         have eh : hi = md := HHI.out.symm.trans (if_pos hq)
         subst eh
         have elz : (hi : Int) + (m : Int) - (b : Int) = (lo : Int) := by omega
         clear el
         go_wp2_with fail
         go_meet
         exact ⟨rfl, rfl, rfl⟩
       · have hqz : ¬ (md : Int) < (m : Int) := by omega
         have el : lo = a := HLO.out.symm.trans (if_neg hq)
         have eh : hi = m := HHI.out.symm.trans (if_neg hq)
         subst el
         subst eh
         go_wp2_with fail
         go_meet
         exact ⟨rfl, rfl, rfl⟩
    rename_i hcut
    obtain ⟨rfl, rfl, rfl⟩ := hcut
    go_wp2_with fail
    go_loopg [20, 21] (hi - lo) (fun kx s20 s21 wr => ∃ (s r : Nat), s20 = .int .i64 s ∧ s21 = .int .i64 r ∧ lo ≤ s ∧ s ≤ r ∧ r ≤ hi ∧ r - s ≤ kx ∧ Aside (s = lo ∨ Lt9 cf (AtF d (s - 1)) (AtF d (md + m - s))) ∧ Aside (r = hi ∨ Lt9 cf (AtF d (md + m - r - 1)) (AtF d r)) ∧ Aside (SWK enc 34 w0 blk off d wr))
    case atStart => exact ⟨lo, hi, rfl, rfl, Nat.le_refl _, hlh, Nat.le_refl _, Nat.le_refl _, .inl rfl, .inl rfl, S0⟩
    case round =>
      clear S0
      obtain ⟨s, r, rfl, rfl, hls, hsr, hrh, hkx, HI, HJ, S1⟩ := hrel
      by_cases hlt : s < r
      · as_aux_lemma =>
         have hltz : (s : Int) < (r : Int) := by omega
         go_upto_region 35 with fail
         obtain ⟨c, hc⟩ : ∃ c : Nat, (s + r) / 2 = c := ⟨_, rfl⟩
         have ec1 : ((s : Int) + (r : Int)) / 2 = (c : Int) := by omega
         rw [ec1]
         have hc1 : s ≤ c := by omega
         have hc2 : c < r := by omega
         obtain ⟨y, hy⟩ : ∃ y : Nat, md + m - c - 1 = y := ⟨_, rfl⟩
         have ey : (md : Int) + (m : Int) - 1 - (c : Int) = (y : Int) := by omega
         have ew : IntKind.i64.wrap ((md : Int) + (m : Int) - 1 - (c : Int)) = (y : Int) := by rw [IntKind.wrap_i64]; omega
         have ew2 : IntKind.i64.wrap (y : Int) = (y : Int) := by rw [IntKind.wrap_i64]; omega
         have z1 : (c : Int) < (d.size : Int) := by omega
         have z3 : (0 : Int) ≤ (c : Int) := by omega
         have z4 : (0 : Int) ≤ (y : Int) := by omega
         have z2 : (y : Int) < (d.size : Int) := by omega
         have l1 := fun n os => ldk_run (S1.out.ld R (by omega) Tryz.prog c (by omega) n os)
         have l2 := fun n os => ldk_run (S1.out.ld R (by omega) Tryz.prog y (by omega) n os)
         have hcg := fun n os => S1.out.cmp C (by omega) d[y]! d[c]! n os
         clear ec1 hc
         by_cases hlv : cf d[y]! d[c]! < 0
         · have HLV := Lib.hid (show Lt9 cf (AtF d (md + m - c - 1)) (AtF d c) by rw [hy]; exact hlv)
           go_quiet_grown (first | (go_at_fn g; refine Calls.grown_of (hcg _ _)))
           have S2 : Aside (SWK enc 34 w0 blk off d (grow (wr.drewN nq) osq)) := S1.out.grown nq osq
           clear l1 l2 hcg S1
           generalize grow (wr.drewN nq) osq = w2 at S2 ⊢
           go_wp2_with fail
           go_roundg (c - s)
           case measure => omega
           case rel => exact ⟨s, c, rfl, rfl, hls, hc1, by omega, Nat.le_refl _, HI, .inr HLV.out, S2⟩
         · have HLV := Lib.hid (show Lt9 cf (AtF d (c + 1 - 1)) (AtF d (md + m - (c + 1))) by
             rw [show c + 1 - 1 = c by omega, show md + m - (c + 1) = y by omega]
             exact (HT.out c y (by omega) (by omega) (by omega) (by omega) (by omega)).resolve_right hlv)
           go_quiet_grown (first | (go_at_fn g; refine Calls.grown_of (hcg _ _)))
           have S2 : Aside (SWK enc 34 w0 blk off d (grow (wr.drewN nq) osq)) := S1.out.grown nq osq
           clear l1 l2 hcg S1
           generalize grow (wr.drewN nq) osq = w2 at S2 ⊢
           go_wp2_with fail
           go_roundg (r - (c + 1))
           case measure => omega
           case rel => exact ⟨c + 1, r, by go_num, rfl, by omega, by omega, hrh, Nat.le_refl _, .inr HLV.out, HJ, S2⟩
      · as_aux_lemma =>
         obtain rfl : s = r := by omega
         have HSY := Lib.hid (sym_cut HTR.out HMD.out.symm ham hmb HU.out HV.out (s := s) (by rw [HLO.out]; exact hls) (by rw [HHI.out]; exact hrh) (by rw [HLO.out]; exact HI.out) (by rw [HHI.out]; exact HJ.out))
         clear hlt hsr hkx HI HJ
         obtain ⟨en, hen⟩ : ∃ en : Nat, md + m - s = en := ⟨_, rfl⟩
         rw [hen] at HSY
         obtain ⟨⟨b1, b2, b3, b4, b5, b6⟩, u1', u2', u3', u4', hx', hp', ho'⟩ := HSY.out
         have U1 := Lib.hid u1'
         have U2 := Lib.hid u2'
         have U3 := Lib.hid u3'
         have U4 := Lib.hid u4'
         have HX := Lib.hid hx'
         have HP := Lib.hid hp'
         have HO := Lib.hid ho'
         have T1 := Lib.hid (tri_rot b1 b5 b6 b4 HT.out)
         clear HSY u1' u2' u3' u4' hx' hp' ho'
         have hez : (md : Int) + (m : Int) - (s : Int) = (en : Int) := by omega
         clear hen
         go_upto_region 39 with fail
         go_cut [185] (fun s185 wx => s185 = .bool (decide (s < m ∧ m < en)) ∧ wr = wx)
         case first =>
           as_aux_lemma =>
            by_cases q1 : s < m
            · have q1z : (s : Int) < (m : Int) := by omega
              by_cases q2 : m < en
              · have q2z : (m : Int) < (en : Int) := by omega
                go_wp2_with fail
                go_meet
                exact ⟨by simp [q1, q2], rfl⟩
              · have q2z : ¬ (m : Int) < (en : Int) := by omega
                go_wp2_with fail
                go_meet
                exact ⟨by simp [q2], rfl⟩
            · have q1z : ¬ (s : Int) < (m : Int) := by omega
              go_wp2_with fail
              go_meet
              exact ⟨by simp [q1], rfl⟩
         rename_i hcut
         obtain ⟨rfl, rfl⟩ := hcut
         go_upto_if 185 with fail
         go_cut [24] (fun s24 wx => s24 = .int .i64 en ∧ ∃ d1 : Array α, Hid (d1.size = d.size) ∧ Hid (AtF d1 = rotF (AtF d) s m en) ∧ Hid (SWK enc 34 w0 blk off d1 wx))
         case first =>
           as_aux_lemma =>
            by_cases q : s < m ∧ m < en
            · have qd : decide (s < m ∧ m < en) = true := decide_eq_true q
              have HC := Lib.hid (rotate_any R hs S1.out cap s m en (.func (.func g) #[] cb) q.1 q.2 (by omega) (by omega))
              rw [qd]
              clear q qd
              go_wp2_with (go_at_call 72; (with_reducible refine HC.out.mono ?_); rintro _ w2 ⟨rfl, d2, hd2, hf2, S2'⟩; have HD2 := Lib.hid hd2; have S2 := Lib.hid S2'; have HF2 := Lib.hid hf2; clear S2' hf2 hd2)
              go_meet
              exact ⟨rfl, d2, HD2, HF2, S2⟩
            · have qd : decide (s < m ∧ m < en) = false := decide_eq_false q
              rw [qd]
              clear qd
              go_wp2_with fail
              go_meet
              exact ⟨rfl, d, Lib.hid rfl, Lib.hid (rotF_none (AtF d) (by omega)).symm, Lib.hid S1.out⟩
         rename_i hcut
         obtain ⟨rfl, d1, HD1, HF1, S2⟩ := hcut
         clear S1 hez
         generalize wc = w2 at *
         go_upto_region 41 with fail
         go_cut [199] (fun s199 wx => s199 = .bool (decide (a < s ∧ s < md)) ∧ w2 = wx)
         case first =>
           as_aux_lemma =>
            by_cases q1 : a < s
            · have q1z : (a : Int) < (s : Int) := by omega
              by_cases q2 : s < md
              · have q2z : (s : Int) < (md : Int) := by omega
                go_wp2_with fail
                go_meet
                exact ⟨by simp [q1, q2], rfl⟩
              · have q2z : ¬ (s : Int) < (md : Int) := by omega
                go_wp2_with fail
                go_meet
                exact ⟨by simp [q2], rfl⟩
            · have q1z : ¬ (a : Int) < (s : Int) := by omega
              go_wp2_with fail
              go_meet
              exact ⟨by simp [q1], rfl⟩
         rename_i hcut
         obtain ⟨rfl, rfl⟩ := hcut
         go_upto_if 199 with fail
         go_cut [24] (fun s24 wx => s24 = .int .i64 en ∧ ∃ d2 : Array α, Hid (d2.size = d.size) ∧ Hid (Merged (Lt9 cf) (AtF d1) (AtF d2) a md) ∧ Hid (SWK enc 34 w0 blk off d2 wx))
         case first =>
           as_aux_lemma =>
            by_cases q : a < s ∧ s < md
            · have qd : decide (a < s ∧ s < md) = true := decide_eq_true q
              have HC := Lib.hid (IH.out a s md d1 w2 (by rw [hs, HD1.out]) S2.out (by omega) q.1 q.2 (by rw [HD1.out]; omega) (by rw [HF1.out]; exact U1.out) (by rw [HF1.out]; exact U2.out) (by rw [HF1.out]; exact T1.out.part (Nat.le_refl _) (by omega)))
              rw [HD1.out] at HC
              rw [qd]
              clear q qd
              go_wp2_with (go_at_call 56; (with_reducible refine HC.out.mono ?_); rintro _ w3 ⟨rfl, d2, hd2, hf2, S3'⟩; have HD2 := Lib.hid hd2; have S3 := Lib.hid S3'; have HF2 := Lib.hid hf2; clear S3' hf2 hd2)
              go_meet
              exact ⟨rfl, d2, HD2, HF2, S3⟩
            · have qd : decide (a < s ∧ s < md) = false := decide_eq_false q
              rw [qd]
              clear qd
              go_wp2_with fail
              go_meet
              refine ⟨rfl, d1, HD1, Lib.hid (Merged.refl ?_), S2⟩
              rw [HF1.out]
              rcases Nat.lt_or_ge a s with h5 | h5
              · obtain rfl : s = md := by omega
                exact U1.out
              · obtain rfl : a = s := by omega
                exact U2.out
         rename_i hcut
         obtain ⟨rfl, d2, HD2, HF2, S3⟩ := hcut
         clear S2
         generalize wc = w3 at *
         go_upto_region 43 with fail
         go_cut [213] (fun s213 wx => s213 = .bool (decide (md < en ∧ en < b)) ∧ w3 = wx)
         case first =>
           as_aux_lemma =>
            by_cases q1 : md < en
            · have q1z : (md : Int) < (en : Int) := by omega
              by_cases q2 : en < b
              · have q2z : (en : Int) < (b : Int) := by omega
                go_wp2_with fail
                go_meet
                exact ⟨by simp [q1, q2], rfl⟩
              · have q2z : ¬ (en : Int) < (b : Int) := by omega
                go_wp2_with fail
                go_meet
                exact ⟨by simp [q2], rfl⟩
            · have q1z : ¬ (md : Int) < (en : Int) := by omega
              go_wp2_with fail
              go_meet
              exact ⟨by simp [q1], rfl⟩
         rename_i hcut
         obtain ⟨rfl, rfl⟩ := hcut
         go_upto_if 213 with fail
         have HO2 := Lib.hid (fun t h1 h2 => (HF2.out.out t (.inr h1)).trans (congrFun HF1.out t) : ∀ t, md ≤ t → t < b → AtF d2 t = rotF (AtF d) s m en t)
         by_cases q : md < en ∧ en < b
         · have qd : decide (md < en ∧ en < b) = true := decide_eq_true q
           have HC := Lib.hid (IH.out md en b d2 w3 (by rw [hs, HD2.out]) S3.out (by omega) q.1 q.2 (by rw [HD2.out]; omega) (fun i j h1 h2 h3 => by rw [HO2.out i h1 (by omega), HO2.out j (by omega) (by omega)]; exact U3.out i j h1 h2 h3) (fun i j h1 h2 h3 => by rw [HO2.out i (by omega) (by omega), HO2.out j (by omega) h3]; exact U4.out i j h1 h2 h3) ((T1.out.part (by omega) (Nat.le_refl _)).congr HO2.out))
           rw [HD2.out] at HC
           rw [qd]
           clear q qd
           go_wp2_with (go_at_call 56; (with_reducible refine HC.out.mono ?_); rintro _ w4 ⟨rfl, d3, hd3, hf3, S4'⟩; have HD3 := Lib.hid hd3; have S4 := Lib.hid S4'; have HF3 := Lib.hid hf3; clear S4' hf3 hd3)
           go_end0
           exact ⟨rfl, d3, HD3.out, Merged.halves (Lt9 cf) (g := rotF (AtF d) s m en) (by omega) (by omega) HP.out HO.out HX.out (by rw [← HF1.out]; exact HF2.out) HF3.out, S4.out⟩
         · have qd : decide (md < en ∧ en < b) = false := decide_eq_false q
           rw [qd]
           clear qd
           go_wp2_with fail
           go_end0
           refine ⟨rfl, d2, HD2.out, Merged.halves (Lt9 cf) (g := rotF (AtF d) s m en) (by omega) (by omega) HP.out HO.out HX.out (by rw [← HF1.out]; exact HF2.out) (Merged.refl fun i j p1 p2 p3 => ?_), S3.out⟩
           rw [HO2.out i p1 (by omega), HO2.out j (by omega) p3]
           rcases Nat.lt_or_ge md en with h5 | h5
           · obtain rfl : en = b := by omega
             exact U3.out i j p1 p2 p3
           · obtain rfl : md = en := by omega
             exact U4.out i j p1 p2 p3
end Go.Proofs.YtmlmbkelpjmafaaGreat
