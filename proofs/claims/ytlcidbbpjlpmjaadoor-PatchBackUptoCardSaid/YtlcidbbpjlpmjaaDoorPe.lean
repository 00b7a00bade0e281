/-
  Contract of patch.Parse. No statement of the seat is proved here.
-/
import Derived.Test.YtlcidbbpjlpmjaaDoorPd
import Derived.Test.YtlcidbbpjlpmjaaDoorRm
import Derived.Test.YtlcidbbpjlpmjaaDoorPc
import Derived.Deep.DeepCutAuto
import Derived.Deep.CutBlock
namespace Go.Proofs.YtlcidbbpjlpmjaaDoor
open Go.RowKit

/-- One row taken, its parts told. -/
def stepRow (row rest : List UInt8) (out : List HkQ) : Option (List UInt8 × List HkQ) :=
  if Lib.hasPrefix row [64, 64, 32, 45] = true then
    match headP row with
    | none => none
    | some x => some (rest, out ++ [⟨x.1, x.2, [], []⟩])
  else match row with
    | [] => none
    | x :: r => match signOf x with
      | none => none
      | some op => if out.isEmpty = true then none
        else if Lib.hasPrefix rest [92, 10] = true then some (rest.drop 2, addQ out op r)
        else some (rest, addQ out op (r ++ [10]))
theorem stepQ_row (text : List UInt8) (out : List HkQ) : stepQ text out = stepRow (Lib.cut text [10]).1 (Lib.cut text [10]).2.1 out := rfl
def sumLs (out : List HkQ) : Nat := (out.map fun h => h.ls.length).sum
/-- Bounds on what has been read: k bytes are left. -/
structure OutB (N : Nat) (out : List HkQ) (k : Nat) : Prop where
  n : out.length + k ≤ N
  s : sumLs out + k ≤ N
  h : ∀ h ∈ out, h.eds.length ≤ h.ls.length ∧ ∀ l ∈ h.ls, l.length ≤ N + 1
  e : ∀ h ∈ out, ∀ e ∈ h.eds, e.n ≤ h.ls.length
theorem sumLs_mem {h : HkQ} : ∀ {out : List HkQ}, h ∈ out → h.ls.length ≤ sumLs out
  | x :: out, hm => by
    have e : sumLs (x :: out) = x.ls.length + sumLs out := by simp [sumLs]
    rcases List.mem_cons.1 hm with rfl | hm
    · omega
    · have := sumLs_mem hm
      omega
theorem OutB.push {N k k' : Nat} {out : List HkQ} (b : OutB N out k) (hk : k' < k) (x y : Int) : OutB N (out ++ [⟨x, y, [], []⟩]) k' := by
  have e : sumLs (out ++ [⟨x, y, [], []⟩]) = sumLs out := by simp [sumLs]
  refine ⟨by have := b.n; simp; omega, by have := b.s; rw [e]; omega, fun h hh => ?_, fun h hh => ?_⟩
  · rw [List.mem_append, List.mem_singleton] at hh
    rcases hh with hh | rfl
    · exact b.h h hh
    · simp
  · rw [List.mem_append, List.mem_singleton] at hh
    rcases hh with hh | rfl
    · exact b.e h hh
    · simp
theorem addP_n {op M : Nat} {l : List EdD} (h : ∀ e ∈ l, e.n ≤ M) : ∀ e ∈ addP l op, e.n ≤ M + 1 := by
  rcases List.eq_nil_or_concat l with rfl | ⟨r, f, rfl⟩
  · simp [addP]
  · rw [List.concat_eq_append] at h ⊢
    rw [addP_snoc]
    intro e he
    split at he
    · rw [List.mem_append, List.mem_singleton] at he
      rcases he with he | rfl
      · have := h e (by simp [he]); omega
      · have := h f (by simp); simp only; omega
    · rw [List.mem_append, List.mem_singleton] at he
      rcases he with he | rfl
      · have := h e he; omega
      · simp
theorem OutB.add {N k k' op : Nat} {ini : List HkQ} {h : HkQ} {l : List UInt8} (b : OutB N (ini ++ [h]) k) (hk : k' < k) (hl : l.length ≤ N + 1) : OutB N (addQ (ini ++ [h]) op l) k' := by
  rw [addQ_snoc]
  have e : sumLs (ini ++ [addLn h op l]) = sumLs (ini ++ [h]) + 1 := by simp [sumLs, addLn]; omega
  refine ⟨by have := b.n; simp at this ⊢; omega, by have := b.s; rw [e]; omega, fun x hx => ?_, fun x hx => ?_⟩
  · rw [List.mem_append, List.mem_singleton] at hx
    rcases hx with hx | rfl
    · exact b.h x (by simp [hx])
    · obtain ⟨b1, b2⟩ := b.h h (by simp)
      refine ⟨?_, fun y hy => ?_⟩
      · have := addP_len h.eds op
        simp only [addLn, List.length_append, List.length_singleton]
        omega
      · simp only [addLn, List.mem_append, List.mem_singleton] at hy
        rcases hy with hy | rfl
        · exact b2 y hy
        · exact hl
  · rw [List.mem_append, List.mem_singleton] at hx
    rcases hx with hx | rfl
    · exact b.e x (by simp [hx])
    · simp only [addLn, List.length_append, List.length_singleton]
      exact addP_n (b.e h (by simp))
theorem hksT_sum {N : Nat} (hN : N ≤ 1000000) : ∀ (out : List HkQ), (∀ h ∈ out, h.ls.length ≤ N ∧ ∀ l ∈ h.ls, l.length ≤ N + 1) → (hksT (out.map HkQ.toI)).length ≤ 200 * out.length + sumLs out * (N + 5)
  | [], _ => by simp [hksT, sumLs]
  | h :: out, hb => by
    have ih := hksT_sum hN out (fun x hx => hb x (by simp [hx]))
    obtain ⟨b1, b2⟩ := hb h (by simp)
    have h1 := hkT_len (N := N + 1) (h := h.toI) (by show h.ls.length ≤ N + 1; omega) (fun s hs => b2 s hs) (by omega)
    have e : hksT ((h :: out).map HkQ.toI) = hkT h.toI ++ hksT (out.map HkQ.toI) := by simp [hksT]
    have e2 : sumLs (h :: out) = h.ls.length + sumLs out := by simp [sumLs]
    have e3 : h.toI.ls.length = h.ls.length := rfl
    rw [e3] at h1
    have e4 : (h.ls.length + sumLs out) * (N + 5) = h.ls.length * (N + 1 + 4) + sumLs out * (N + 5) := by rw [Nat.add_mul]
    rw [e, e2, List.length_append, e4, List.length_cons]
    omega
theorem index_sign (c : UInt8) : Lib.indexByte [32, 45, 43] c = match signOf c with
    | some op => (op : Int)
    | none => -1 := by
  unfold signOf
  by_cases h1 : c = 32
  · subst h1; rfl
  · by_cases h2 : c = 45
    · subst h2; rfl
    · by_cases h3 : c = 43
      · subst h3; rfl
      · have e1 : ((32 : UInt8) == c) = false := by rw [beq_eq_false_iff_ne]; exact fun q => h1 q.symm
        have e2 : ((45 : UInt8) == c) = false := by rw [beq_eq_false_iff_ne]; exact fun q => h2 q.symm
        have e3 : ((43 : UInt8) == c) = false := by rw [beq_eq_false_iff_ne]; exact fun q => h3 q.symm
        rw [if_neg h1, if_neg h2, if_neg h3]
        simp [Lib.indexByte, e1, e2, e3]
theorem HS.belowS {w w' : World} {base : Nat} {A : Option Addr} {cp : Nat} {hs : List HkQ} (h : HS w base A cp hs) (hb : Below w.heap.size w w') : HS w' base A cp hs := h.keepN (Below.keep_ hb Nothing)
def strLen : Value → Nat
  | .string b => b.size
  | _ => 0
def ParseR (R : Option (List HkI)) (w : World) (r : Ending) (w' : World) : Prop := Below w.heap.size w w' ∧ match R with
  | none => r = .returned (.tuple #[.slice none 0 0, .int .i64 28])
  | some l => ∃ A cp, r = .returned (.tuple #[.slice A l.length cp, .int .i64 0]) ∧ HII w' w'.heap.size A l
set_option maxHeartbeats 2000000 in
set_option maxRecDepth 100000 in
theorem parse_any (s : List UInt8) (w : World) (hs : s.length ≤ 100000) (hv : VarsOK w) (htab : Lib.TabIs Tryd.prog w "internal/strconv.uint64pow10" .u64 Lib.pow10Tab) :
    Calls Tryd.prog 26 #[.string ⟨s.toArray⟩] w (ParseR (resQ (readQ s []) s) w) := by
  have HV := Lib.hid (show ∀ W, Below w.heap.size w W → VarsOK W from fun W k => hv.below k)
  have HTAB := Lib.hid (show ∀ W, Below w.heap.size w W → Lib.TabIs Tryd.prog W "internal/strconv.uint64pow10" .u64 Lib.pow10Tab from fun W k => Lib.tabBelow_of_tabIs htab W k)
  obtain ⟨R, hR⟩ : ∃ R, resQ (readQ s []) s = R := ⟨_, rfl⟩
  rw [hR]
  obtain ⟨RES, hRES⟩ : ∃ x, readQ s [] = x := ⟨_, rfl⟩
  rw [hRES] at hR
  have HR := Lib.hid hR
  have HPN := Lib.hid (show RES = none → ∀ W, Below w.heap.size w W → ParseR R w (.returned (.tuple #[.slice none 0 0, .int .i64 28])) W from fun q W k => by
    have : R = none := by rw [← HR.out, q]; rfl
    rw [this]
    exact ⟨k, rfl⟩)
  have HRES := Lib.hid hRES
  clear hv htab hR hRES
  go_enter Tryd.func26, Tryd.ntmps26
  go_wp2_with fail
  go_loopw [4, 5] (fun s4 s5 wr => ∃ (text : List UInt8) (out : List HkQ) (A : Option Addr) (cp : Nat), s4 = .slice A out.length cp ∧ s5 = .string ⟨text.toArray⟩ ∧ Hid (readQ text out = RES) ∧ HS wr w.heap.size A cp out ∧ Below w.heap.size w wr ∧ OutB s.length out text.length) (fun _ s5 _ => strLen s5)
  case atStart => exact ⟨s, [], none, 0, rfl, rfl, HRES, .inl ⟨rfl, rfl, rfl⟩, Below.refl _ _, ⟨by simp, by simp [sumLs], by simp, by simp⟩⟩
  case round =>
    obtain ⟨text, out, A, cp, rfl, rfl, HREAD, hh, hb, bnd⟩ := hrel
    have hz := hb.size
    have hN := bnd.n
    by_cases ht : text = []
    · subst ht
      have hfin : RES = some out := by rw [← HREAD.out, readQ_nil]
      have HR2 := Lib.hid (show R = if (out.map HkQ.toI).all okH = true ∧ hksT (out.map HkQ.toI) = s then some (out.map HkQ.toI) else none from by rw [← HR.out, hfin]; rfl)
      have hsm : ∀ h ∈ out, h.ls.length ≤ s.length := fun h hm => by have := sumLs_mem hm; have := bnd.s; omega
      have hks := hksT_sum (N := s.length) (by omega) out (fun h hm => ⟨hsm h hm, (bnd.h h hm).2⟩)
      have hks2 : sumLs out * (s.length + 5) ≤ 100000 * 100005 := Nat.mul_le_mul (by have := bnd.s; omega) (by omega)
      have hii := hh.reads
      have hml : (out.map HkQ.toI).length = out.length := by simp
      have HTX := Lib.hid (show Calls Tryd.prog 25 #[.slice A out.length cp] wr fun r w' => r = .returned (textR (out.map HkQ.toI)) ∧ Below wr.heap.size wr w' from by
        have := text_any (out.map HkQ.toI) A cp wr.heap.size wr (Nat.le_refl _) hii (by rw [hml]; omega) (fun h hm => by
          obtain ⟨x, hx, rfl⟩ := List.mem_map.1 hm
          have h1 := hsm x hx
          obtain ⟨h2, h3⟩ := bnd.h x hx
          have e1 : x.toI.eds.length = x.eds.length := by simp [HkQ.toI]
          have e2 : x.toI.ls = x.ls := rfl
          exact ⟨by rw [e1]; omega, by rw [e2]; omega, fun l hl => by have := h3 l hl; omega⟩) (by omega) (HTAB.out _ hb)
        rwa [hml] at this)
      have HII0 := Lib.hid hii
      have HML := Lib.hid hml
      clear hfin hsm hks hks2 hii hml hN bnd
      obtain ⟨L, hL⟩ : ∃ L, out.map HkQ.toI = L := ⟨_, rfl⟩
      rw [hL] at HR2 HTX HII0 HML
      clear hL
      cases hall : L.all okH
      case false =>
        have HTR := Lib.hid (show textR L = .tuple #[.string ⟨#[]⟩, .int .i64 1] from by unfold textR; simp [hall])
        have HRN := Lib.hid (show R = none from by rw [HR2.out, hall]; simp)
        rw [HTR.out] at HTX
        go_wp2_with (go_at_call 25; refine HTX.out.mono ?_)
        rintro _ w5 ⟨rfl, b5⟩
        have HB5 := Lib.hid (hb.trans (b5.mono hz))
        go_wp2_with fail
        go_ret2
        rw [HRN.out]
        exact ⟨HB5.out, rfl⟩
      case true =>
        have HTR := Lib.hid (show textR L = .tuple #[.string ⟨(hksT L).toArray⟩, .int .i64 0] from by unfold textR; simp [hall])
        rw [HTR.out] at HTX
        by_cases hts : hksT L = s
        · have HRN := Lib.hid (show R = some L from by rw [HR2.out, hall]; simp [hts])
          rw [hts] at HTX
          clear hts
          go_wp2_with (go_at_call 25; refine HTX.out.mono ?_)
          rintro _ w5 ⟨rfl, b5⟩
          have HB5 := Lib.hid (hb.trans (b5.mono hz))
          have HI5 := Lib.hid ((HII0.out.below b5).more b5.size)
          go_wp2_with fail
          go_ret2
          rw [HRN.out]
          exact ⟨HB5.out, _, _, by rw [HML.out]; rfl, HI5.out⟩
        · have HRN := Lib.hid (show R = none from by rw [HR2.out]; simp [hts])
          generalize hksT L = tx at *
          have g1 : (tx != s) = true := by simpa using hts
          have g2 : (tx == s) = false := by simpa using hts
          clear hts
          go_wp2_with (go_at_call 25; refine HTX.out.mono ?_)
          rintro _ w5 ⟨rfl, b5⟩
          have HB5 := Lib.hid (hb.trans (b5.mono hz))
          go_wp2_with fail
          go_ret2
          rw [HRN.out]
          exact ⟨HB5.out, rfl⟩
    · have hte : text.isEmpty = false := by simpa using ht
      obtain ⟨⟨row, rest, fd⟩, hcut⟩ : ∃ x, Lib.cut text [10] = x := ⟨_, rfl⟩
      have hrl := cut_rest_lt (c := 10) ht
      have hrw := (cut_row_le text [10]).1
      have HCUT := Lib.hid (cut_any text ⟨#[10]⟩ [10] rfl wr (by omega) (HV.out _ hb))
      have hstep := stepQ_row text out
      rw [hcut] at hrl hrw HCUT hstep
      simp only at hrl hrw HCUT hstep
      have HNO := Lib.hid (show stepRow row rest out = none → RES = none from fun q => by rw [← HREAD.out, readQ_none ht (hstep.trans q)])
      have HYES := Lib.hid (show ∀ x, stepRow row rest out = some x → readQ x.1 x.2 = RES from fun x q => by rw [← HREAD.out, readQ_some ht (hstep.trans q)])
      clear hcut hstep HREAD
      go_upto_region 5 with (go_at_call 44; refine HCUT.out.mono ?_)
      rintro _ _ ⟨rfl, n1, rfl⟩
      go_upto_region 6 with fail
      have b1 := bdrewH hb hz n1
      have hh1 : HS (wr.drewN n1) w.heap.size A cp out := hh.keepN ((Keep.refl _ _).drewN n1)
      have hz1 : w.heap.size ≤ (wr.drewN n1).heap.size := hz
      generalize wr.drewN n1 = w1 at *
      have HPX := Lib.hid (show ∀ W, Calls Tryd.prog 45 #[.string ⟨row.toArray⟩, .string ⟨#[64, 64, 32, 45]⟩] W fun e w' => e = .returned (.bool (Lib.hasPrefix row [64, 64, 32, 45])) ∧ w' = W from fun W => by
        have := Tryd.strings_HasPrefix ⟨row.toArray⟩ ⟨#[64, 64, 32, 45]⟩ W
        simpa using this)
      have hsr : stepRow row rest out = stepRow row rest out := rfl
      unfold stepRow at hsr
      clear hsr
      obtain ⟨px, hpx⟩ : ∃ b, Lib.hasPrefix row [64, 64, 32, 45] = b := ⟨_, rfl⟩
      rw [hpx] at HPX
      cases px
      case true =>
        have HH := Lib.hid (head_any row w1 (by omega) (HV.out _ b1))
        go_upto_region 7 with (go_at_call 45; refine (HPX.out _).mono ?_)
        rintro _ _ ⟨rfl, rfl⟩
        go_upto_region 8 with (go_at_call 46; refine HH.out.mono ?_)
        rintro _ w2 ⟨a, b, ok, rfl, b2, hp⟩
        have hz12 := b2.size
        go_upto_region 8 with (first | (refine wpList_allocAgg rfl rfl (zero_hk _) ?_) | (refine wpList_storeBlk rfl rfl (vs := #[.int .i64 a, .int .i64 b, .slice none 0 0, .slice none 0 0]) rfl rfl (Blk.new _ _ _) rfl info_hunk (hkn_one a b) ?_; intro w3 x3 kc zc))
        try go_frame
        have k3 := Keep.ofNew (S := Nothing) kc
        have b3 : Below w.heap.size w w3 := b1.trans ((b2.trans (k3.all.mono hz12)).mono hz1)
        have L3 := Lib.hid (run_loadAt_blk (P := Tryd.prog) x3 0 #[.int .i64 a, .int .i64 b, .slice none 0 0, .slice none 0 0] Tryd.underlying38 rfl info_hunk (by simp))
        cases ok
        case false =>
          have HE := Lib.hid (HPN.out (HNO.out (by unfold stepRow; rw [hpx, if_pos rfl, hp]; rfl)) w3 b3)
          go_wp2_with fail
          go_ret2
          exact HE.out
        case true =>
          have HY := Lib.hid (HYES.out (rest, out ++ [⟨a, b, [], []⟩]) (by unfold stepRow; rw [hpx, if_pos rfl, hp]; rfl))
          have hz3 := b3.size
          have hh3 : HS w3 w.heap.size A cp out := (hh1.belowS b2).keepN k3
          obtain ⟨tv, u1, u2, u3⟩ := hh3.flat
          have HT := Lib.hid u3
          have HB3 := Lib.hid b3
          have hol : out.length ≤ 100000 := by omega
          have HBN := Lib.hid (bnd.push hrl a b)
          clear u3 hh1 hh3 hh hp bnd kc zc x3 k3 b2 b3
          go_wp2_with (first | (refine wpList_load rfl rfl rfl (by with_reducible exact L3.out) ?_) | (refine wpList_buildSlice1 rfl elemHunk rfl zero_hk rfl rfl (by omega) rfl ?_) | (at_builtin; refine wpList_append_sl rfl elemHunk rfl rfl (n := out.length) (u2.alloc _) rfl (Reads.of_blk (n := 1) (xs := hkQ (newQ a b) (.slice none 0 0) (.slice none 0 0)) (heap_alloc_new _ _) rfl rfl) (hkn_one a b) (by unfold maxLen; omega) (by omega) (by simp; omega) ?_; intro A5 c5 w5 o5 k5; have HS5 := Lib.hid (HS.pushNew (i := a) (j := b) hz3 u1 HT.out (((Kept.refl _ _ _ _).alloc _).trans k5) o5); have HB5 := Lib.hid (HB3.out.trans ((((Kept.refl _ _ _ _).alloc _).trans k5).below (Nat.le_refl _) hz3 (by simp))); clear o5 k5))
          go_roundw
          case rel => exact ⟨rest, out ++ [⟨a, b, [], []⟩], A5, c5, by rw [List.length_append, List.length_singleton], rfl, HY, HS5.out, HB5.out, HBN.out⟩
          case measure => show rest.toArray.size < text.toArray.size; simpa using hrl
      case false =>
        go_upto_region 12 with (go_at_call 45; refine (HPX.out _).mono ?_)
        rintro _ w1 ⟨rfl, rfl⟩
        go_upto_region 12 with fail
        cases row with
        | nil =>
          have HE := Lib.hid (HPN.out (HNO.out (by unfold stepRow; rw [hpx]; rfl)) w1 b1)
          go_wp2_with fail
          go_ret2
          exact HE.out
        | cons c r =>
          have HIX := Lib.hid (show ∀ W, Calls Tryd.prog 47 #[.string ⟨#[32, 45, 43]⟩, .int .u8 (c.toNat : Int)] W fun e w' => e = .returned (.int .i64 (match signOf c with
            | some op => (op : Int)
            | none => -1)) ∧ w' = W from fun W => by
            have := Tryd.strings_IndexByte ⟨#[32, 45, 43]⟩ (c.toNat : Int) W
            rw [Int.toNat_natCast, show c.toNat.toUInt8 = c by simp] at this
            rw [← index_sign]
            exact this)
          cases hsg : signOf c with
          | none =>
            rw [hsg] at HIX
            have HE := Lib.hid (HPN.out (HNO.out (by unfold stepRow; rw [hpx]; simp [hsg])) w1 b1)
            clear hsg
            go_wp2_with (go_at_call 47; refine (HIX.out _).mono ?_; rintro _ w1 ⟨rfl, rfl⟩)
            go_wp2_with fail
            go_ret2
            exact HE.out
          | some op =>
            rw [hsg] at HIX
            have hop : op ≤ 2 := by
              unfold signOf at hsg
              split at hsg
              · injection hsg with hsg; omega
              · split at hsg
                · injection hsg with hsg; omega
                · split at hsg
                  · injection hsg with hsg; omega
                  · cases hsg
            have HSG := Lib.hid hsg
            have dop : decide ((op : Int) < 0) = false := decide_eq_false (by omega)
            clear hsg
            rcases hh1 with ⟨rfl, rfl, rfl⟩ | ⟨ini, tv, h, EA, ec, LA, lc, bk, rfl, hl⟩
            · have HE := Lib.hid (HPN.out (HNO.out (by unfold stepRow; rw [hpx]; simp [HSG.out])) w1 b1)
              go_wp2_with (go_at_call 47; refine (HIX.out _).mono ?_; rintro _ w1 ⟨rfl, rfl⟩)
              go_wp2_with fail
              go_ret2
              exact HE.out
            · obtain ⟨g, rfl, hg⟩ := hl.adr
              have HROW := Lib.hid (show stepRow (c :: r) rest (ini ++ [h]) = if Lib.hasPrefix rest [92, 10] = true then some (rest.drop 2, addQ (ini ++ [h]) op r) else some (rest, addQ (ini ++ [h]) op (r ++ [10])) from by
                unfold stepRow
                rw [hpx]
                simp [HSG.out])
              have HPY := Lib.hid (show ∀ W, Calls Tryd.prog 45 #[.string ⟨rest.toArray⟩, .string ⟨#[92, 10]⟩] W fun e w' => e = .returned (.bool (Lib.hasPrefix rest [92, 10])) ∧ w' = W from fun W => by
                have := Tryd.strings_HasPrefix ⟨rest.toArray⟩ ⟨#[92, 10]⟩ W
                simpa using this)
              have hrl2 : r.length + 1 ≤ text.length := by simpa using hrw
              have hx1 : (⟨(c :: r).toArray⟩ : ByteArray).extract 1 (r.length + 1) = ⟨r.toArray⟩ := by
                apply ByteArray.ext
                rw [ByteArray.data_extract]
                apply Array.ext'
                rw [Array.toList_extract, List.extract_eq_take_drop]
                simp
              have hx2 : (⟨#[10, 92, 10]⟩ : ByteArray).extract 1 3 = ⟨#[92, 10]⟩ := rfl
              have hx3 : (⟨rest.toArray⟩ : ByteArray).extract 2 rest.length = ⟨(rest.drop 2).toArray⟩ := by
                apply ByteArray.ext
                rw [ByteArray.data_extract]
                apply Array.ext'
                rw [Array.toList_extract, List.extract_eq_take_drop]
                show (rest.drop 2).take (rest.length - 2) = rest.drop 2
                exact List.take_of_length_le (by simp)
              have hcl : ¬ (9223372036854775807 < r.length + 1) := by omega
              have HL := Lib.hid hl
              have HB1 := Lib.hid b1
              have HBND := Lib.hid bnd
              have hnn : ((ini.length : Int) + 1 == 0) = false := by rw [beq_eq_false_iff_ne]; omega
              obtain ⟨py, hpy⟩ : ∃ b, Lib.hasPrefix rest [92, 10] = b := ⟨_, rfl⟩
              rw [hpy] at HPY HROW
              have hp2 : py = true → 2 ≤ rest.length := fun q => by
                rw [q] at hpy
                unfold Lib.hasPrefix at hpy
                have := (List.isPrefixOf_iff_prefix.1 hpy).length_le
                simpa using this
              clear hl b1 bnd hpy hh hb
              go_upto_region 14 with (go_at_call 47; refine (HIX.out _).mono ?_; rintro _ w1 ⟨rfl, rfl⟩)
              go_upto_region 17 with fail
              go_upto_if 57 with (go_at_call 45; refine (HPY.out _).mono ?_; rintro _ w1 ⟨rfl, rfl⟩)
              go_cut [5, 11, 12, 15, 16, 17] from 5 to 61 (fun s5 s11 s12 s15 s16 s17 wx => ∃ (nt ln : List UInt8) (n : Nat), s15 = undef ∧ s16 = undef ∧ s17 = .string ⟨s.toArray⟩ ∧ s5 = .string ⟨nt.toArray⟩ ∧ s11 = .int .i64 (op : Nat) ∧ s12 = .string ⟨ln.toArray⟩ ∧ Hid (stepRow (c :: r) rest (ini ++ [h]) = some (nt, addQ (ini ++ [h]) op ln)) ∧ nt.length < text.length ∧ ln.length ≤ s.length + 1 ∧ w1.drewN n = wx)
              case first =>
                cases py
                case true =>
                  have h2r := hp2 rfl
                  go_upto_region 18 with fail
                  go_quiet (fail)
                  go_wp2_with fail
                  go_meet
                  exact ⟨rest.drop 2, r, nq, rfl, rfl, rfl, rfl, rfl, rfl, Lib.hid (by rw [HROW.out]; rfl), by rw [List.length_drop]; omega, by omega, rfl⟩
                case false =>
                  go_wp2_with fail
                  go_meet
                  exact ⟨rest, r ++ [10], 0, rfl, rfl, rfl, rfl, rfl, by congr 1, Lib.hid (by rw [HROW.out]; rfl), hrl, by simp; omega, rfl⟩
              case rest =>
                obtain ⟨nt, ln, n2, rfl, rfl, rfl, rfl, rfl, rfl, HST, hnt, hln, rfl⟩ := hcut
                have HL2 := Lib.hid (HL.out.keepN ((Keep.refl _ _).drewN n2))
                have HB2 := Lib.hid (bdrewH HB1.out hz1 n2)
                have hz2 : w.heap.size ≤ (w1.drewN n2).heap.size := hz1
                have HY := Lib.hid (HYES.out _ HST.out)
                have HBN := Lib.hid (HBND.out.add (op := op) hnt hln)
                obtain ⟨he1, he2⟩ := HBND.out.h h (by simp)
                have hls := sumLs_mem (h := h) (out := ini ++ [h]) (by simp)
                have hlb : h.ls.length ≤ 100000 := by have := HBND.out.s; omega
                have heb : h.eds.length ≤ 100000 := by omega
                have hib : ini.length ≤ 100000 := by have := HBND.out.n; simp at this; omega
                have HEN := Lib.hid (HBND.out.e h (by simp))
                clear HPY HROW HIX hx1 hx2 hx3 hcl HST hp2 he1 he2 hls HL HB1 HBND HYES HNO hrl hrw hrl2 dop hnn
                generalize w1.drewN n2 = w2 at *
                obtain ⟨f2c, -⟩ := HL2.out.at_ 2 (by omega) _ rfl
                rcases List.eq_nil_or_concat h.eds with hed | ⟨es, ⟨o, k⟩, hed⟩
                · have hel : h.eds.length = 0 := by rw [hed]; rfl
                  have HAP := Lib.hid (show addP h.eds op = h.eds ++ [⟨op, 1⟩] from by rw [hed]; rfl)
                  have dn : decide ((0 : Int) < (h.eds.length : Int)) = false := decide_eq_false (by omega)
                  have dN : decide (0 < h.eds.length) = false := decide_eq_false (by omega)
                  clear hed hel
                  have HQE := Lib.hid (fun A1 c1 w1 o1 k1 => (HL2.out.keepN ((Keep.refl _ _).alloc (.cells #[.int .i64 (op : Int), .int .i64 1] 67))).eds (A1 := A1) (c1 := c1) (w1 := w1) (e := ⟨op, 1⟩) k1 o1)
                  have HHI2 := Lib.hid HL2.out.hi
                  go_upto_region 23 with fail
                  go_upto_region 24 with (at_builtin; refine wpList_append_sl rfl elemEdit rfl rfl (n := h.eds.length) (xs := edLs h.eds) (HL2.out.oe.alloc _) rfl (Reads.of_blk (n := 1) (xs := edL ⟨op, 1⟩) (heap_alloc_new _ _) rfl rfl) (edL_one ⟨op, 1⟩) (by unfold maxLen; omega) (by omega) (by have := HHI2.out; simp; omega) ?_; intro A6 c6 w6 o6 k6; obtain ⟨g1, g2, g3, g4⟩ := HQE.out A6 c6 w6 (by rw [edLs_snoc]; exact o6) k6; have HL3 := Lib.hid g3; have HB3 := Lib.hid ((HB2.out.alloc hz2 _).trans (g4.below (Nat.le_refl _) (by simp; omega) (by simp))); clear o6 k6 g3 g4 f2c)
                  clear g1 g2
                  generalize w6.setCell ⟨g, ini.length * 4 + 2, none⟩ (.slice A6 (h.eds.length + 1) c6) = w3 at *
                  obtain ⟨f1, f2⟩ := HL3.out.at_ 3 (by omega) _ rfl
                  have hz3 := HB3.out.size
                  have HLN := Lib.hid (fun A1 c1 w1 o1 k1 => (HL3.out.keepN ((Keep.refl _ _).alloc (.cells #[.string ⟨ln.toArray⟩] 9))).lns (A1 := A1) (c1 := c1) (w1 := w1) (l := [ln]) k1 o1)
                  have HHI := Lib.hid HL3.out.hi
                  clear f2
                  go_wp2_with (at_builtin; refine wpList_append_sl rfl elemStr rfl rfl (n := h.ls.length) (xs := strL h.ls) (HL3.out.ol.alloc _) rfl (Reads.of_blk (n := 1) (size := 1) (xs := strL [ln]) (heap_alloc_new _ _) rfl rfl) (strL_one [ln]) (by unfold maxLen; omega) (by omega) (by have := HHI.out; simp; omega) ?_; intro A7 c7 w7 o7 k7; obtain ⟨g1, g2, g3, g4⟩ := HLN.out A7 c7 w7 o7 k7; have HL7 := Lib.hid g3; have HB7 := Lib.hid ((HB3.out.alloc hz3 _).trans (g4.below (Nat.le_refl _) (by simp; omega) (by simp))); clear o7 k7 g3 g4 f1)
                  go_roundw
                  case rel => exact ⟨nt, addQ (ini ++ [h]) op ln, some ⟨g, 0, none⟩, cp, by rw [addQ_snoc]; simp, rfl, HY, .inr ⟨ini, tv, addLn h op ln, _, _, _, _, bk, addQ_snoc _ _ _ _, by have := HL7.out; simpa [addLn, HAP.out] using this⟩, HB7.out, HBN.out⟩
                  case measure => show nt.toArray.size < text.toArray.size; simpa using hnt
                · rw [List.concat_eq_append] at hed
                  obtain ⟨xa, xb, xe, xl⟩ := h
                  simp only at hed
                  subst hed
                  obtain ⟨ge, hEA, _⟩ := HL2.out.oe.adrn (by simp)
                  subst hEA
                  have f2d : w2.cell? ⟨g, ini.length * 4 + 2, none⟩ = some (.slice (some ⟨ge, 0, none⟩) (es.length + 1) ec) := by simpa using f2c
                  obtain ⟨i1, i2, fo, fk, fz⟩ := HL2.out.inc
                  have hkb : k ≤ xl.length := HEN.out ⟨o, k⟩ (by simp)
                  have hlb : xl.length ≤ 100000 := hlb
                  have heb : es.length + 1 ≤ 100000 := by simpa using heb
                  have hn0 : (0 : Int) < (es.length : Int) + 1 := by omega
                  clear f2c
                  by_cases hoo : o = op
                  · subst hoo
                    have HAP := Lib.hid (show addP (es ++ [⟨o, k⟩]) o = es ++ [⟨o, k + 1⟩] from by rw [addP_snoc, if_pos rfl])
                    have ek : ((k + 1 : Nat) : Int) = (k : Int) + 1 := by omega
                    rw [ek] at i1 i2
                    have HL3 := Lib.hid i1
                    have HB3 := Lib.hid (HB2.out.trans (i2.below (Nat.le_refl _) hz2 (by simp)))
                    clear i1 i2 ek
                    go_upto_region 22 with fail
                    go_upto_region 24 with fail
                    clear fo fk fz f2d
                    generalize w2.setCell ⟨ge, es.length * 2 + 1, none⟩ (.int .i64 ((k : Int) + 1)) = w3 at *
                    obtain ⟨f1, -⟩ := HL3.out.at_ 3 (by omega) _ rfl
                    have f1 : w3.cell? ⟨g, ini.length * 4 + 3, none⟩ = some (.slice LA xl.length lc) := f1
                    have hz3 := HB3.out.size
                    have HLN := Lib.hid (fun A1 c1 w1 o1 k1 => (HL3.out.keepN ((Keep.refl _ _).alloc (.cells #[.string ⟨ln.toArray⟩] 9))).lns (A1 := A1) (c1 := c1) (w1 := w1) (l := [ln]) k1 o1)
                    have HHI := Lib.hid HL3.out.hi
                    go_wp2_with (at_builtin; refine wpList_append_sl rfl elemStr rfl rfl (n := xl.length) (xs := strL xl) (HL3.out.ol.alloc _) rfl (Reads.of_blk (n := 1) (size := 1) (xs := strL [ln]) (heap_alloc_new _ _) rfl rfl) (strL_one [ln]) (by unfold maxLen; omega) (by omega) (by have := HHI.out; simp; omega) ?_; intro A7 c7 w7 o7 k7; obtain ⟨g1, g2, g3, g4⟩ := HLN.out A7 c7 w7 o7 k7; have g1 : w7.cell? ⟨g, ini.length * 4 + 3, none⟩ = some (.slice LA xl.length lc) := g1; have HL7 := Lib.hid g3; have HB7 := Lib.hid ((HB3.out.alloc hz3 _).trans (g4.below (Nat.le_refl _) (by simp; omega) (by simp))); clear o7 k7 g3 g4 f1)
                    go_roundw
                    case rel => exact ⟨nt, addQ (ini ++ [⟨xa, xb, es ++ [⟨o, k⟩], xl⟩]) o ln, some ⟨g, 0, none⟩, cp, by rw [addQ_snoc]; simp, rfl, HY, .inr ⟨ini, tv, addLn ⟨xa, xb, es ++ [⟨o, k⟩], xl⟩ o ln, _, _, _, _, bk, addQ_snoc _ _ _ _, by have := HL7.out; simpa [addLn, HAP.out] using this⟩, HB7.out, HBN.out⟩
                    case measure => show nt.toArray.size < text.toArray.size; simpa using hnt
                  · have HAP := Lib.hid (show addP (es ++ [⟨o, k⟩]) op = es ++ [⟨o, k⟩] ++ [⟨op, 1⟩] from by rw [addP_snoc, if_neg hoo])
                    have hob : ((o : Int) == (op : Int)) = false := by rw [beq_eq_false_iff_ne]; omega
                    have hoc : ¬ ((o : Int) = (op : Int)) := by omega
                    clear i1 i2 fz
                    have HQE := Lib.hid (show ∀ A1 c1 w1, Own w1 bk 67 2 A1 (es.length + 1 + 1) c1 (edLs (es ++ [⟨o, k⟩]) ++ edL ⟨op, 1⟩) → Kept bk [67] [] (w2.alloc (.cells #[.int .i64 (op : Int), .int .i64 1] 67)) w1 →
                        w1.cell? ⟨g, ini.length * 4 + 2, none⟩ = some (.slice (some ⟨ge, 0, none⟩) (es.length + 1) ec) ∧ w1.frozen? ⟨g, ini.length * 4 + 2, none⟩ = false ∧ HQ (w1.setCell ⟨g, ini.length * 4 + 2, none⟩ (.slice A1 (es.length + 1 + 1) c1)) w.heap.size bk (some ⟨g, 0, none⟩) cp ini tv ⟨xa, xb, es ++ [⟨o, k⟩] ++ [⟨op, 1⟩], xl⟩ A1 c1 LA lc ∧
                        Kept w.heap.size E3 [] (w2.alloc (.cells #[.int .i64 (op : Int), .int .i64 1] 67)) (w1.setCell ⟨g, ini.length * 4 + 2, none⟩ (.slice A1 (es.length + 1 + 1) c1)) from fun A1 c1 w1 o1 k1 => by
                      have hL : (⟨xa, xb, es ++ [⟨o, k⟩], xl⟩ : HkQ).eds.length = es.length + 1 := by simp
                      have := (HL2.out.keepN ((Keep.refl _ _).alloc (.cells #[.int .i64 (op : Int), .int .i64 1] 67))).eds (A1 := A1) (c1 := c1) (w1 := w1) (e := ⟨op, 1⟩) k1 (by rw [hL]; show Own w1 bk 67 2 A1 (es.length + 1 + 1) c1 (edLs ((es ++ [⟨o, k⟩]) ++ [⟨op, 1⟩])); rw [edLs_snoc]; exact o1)
                      rw [hL] at this
                      exact this)
                    have HHI2 := Lib.hid HL2.out.hi
                    have HOE := Lib.hid (show ∀ W, W = w2.alloc (.cells #[.int .i64 (op : Int), .int .i64 1] 67) → Own W bk 67 2 (some ⟨ge, 0, none⟩) (es.length + 1) ec (edLs (es ++ [⟨o, k⟩])) from fun W hW => by have := HL2.out.oe.alloc (.cells #[.int .i64 (op : Int), .int .i64 1] 67); rw [hW]; simpa using this)
                    go_upto_region 23 with fail
                    go_upto_region 24 with (at_builtin; refine wpList_append_sl rfl elemEdit rfl rfl (n := es.length + 1) (xs := edLs (es ++ [⟨o, k⟩])) (HOE.out _ rfl) rfl (Reads.of_blk (n := 1) (xs := edL ⟨op, 1⟩) (heap_alloc_new _ _) rfl rfl) (edL_one ⟨op, 1⟩) (by unfold maxLen; omega) (by omega) (by have := HHI2.out; first | (simp; omega) | simp) ?_; intro A6 c6 w6 o6 k6; obtain ⟨g1, g2, g3, g4⟩ := HQE.out A6 c6 w6 o6 k6; have HL3 := Lib.hid g3; have HB3 := Lib.hid ((HB2.out.alloc hz2 _).trans (g4.below (Nat.le_refl _) (by first | (simp; omega) | simp) (by simp))); clear o6 k6 g3 g4 f2d fo fk)
                    clear g1 g2
                    generalize w6.setCell ⟨g, ini.length * 4 + 2, none⟩ (.slice A6 (es.length + 1 + 1) c6) = w3 at *
                    obtain ⟨f1, -⟩ := HL3.out.at_ 3 (by omega) _ rfl
                    have f1 : w3.cell? ⟨g, ini.length * 4 + 3, none⟩ = some (.slice LA xl.length lc) := f1
                    have hz3 := HB3.out.size
                    have HLN := Lib.hid (fun A1 c1 w1 o1 k1 => (HL3.out.keepN ((Keep.refl _ _).alloc (.cells #[.string ⟨ln.toArray⟩] 9))).lns (A1 := A1) (c1 := c1) (w1 := w1) (l := [ln]) k1 o1)
                    have HHI := Lib.hid HL3.out.hi
                    go_wp2_with (at_builtin; refine wpList_append_sl rfl elemStr rfl rfl (n := xl.length) (xs := strL xl) (HL3.out.ol.alloc _) rfl (Reads.of_blk (n := 1) (size := 1) (xs := strL [ln]) (heap_alloc_new _ _) rfl rfl) (strL_one [ln]) (by unfold maxLen; omega) (by omega) (by have := HHI.out; simp; omega) ?_; intro A7 c7 w7 o7 k7; obtain ⟨g1, g2, g3, g4⟩ := HLN.out A7 c7 w7 o7 k7; have g1 : w7.cell? ⟨g, ini.length * 4 + 3, none⟩ = some (.slice LA xl.length lc) := g1; have HL7 := Lib.hid g3; have HB7 := Lib.hid ((HB3.out.alloc hz3 _).trans (g4.below (Nat.le_refl _) (by simp; omega) (by simp))); clear o7 k7 g3 g4 f1)
                    go_roundw
                    case rel => exact ⟨nt, addQ (ini ++ [⟨xa, xb, es ++ [⟨o, k⟩], xl⟩]) op ln, some ⟨g, 0, none⟩, cp, by rw [addQ_snoc]; simp, rfl, HY, .inr ⟨ini, tv, addLn ⟨xa, xb, es ++ [⟨o, k⟩], xl⟩ op ln, _, _, _, _, bk, addQ_snoc _ _ _ _, by have := HL7.out; simpa [addLn, HAP.out] using this⟩, HB7.out, HBN.out⟩
                    case measure => show nt.toArray.size < text.toArray.size; simpa using hnt
end Go.Proofs.YtlcidbbpjlpmjaaDoor
