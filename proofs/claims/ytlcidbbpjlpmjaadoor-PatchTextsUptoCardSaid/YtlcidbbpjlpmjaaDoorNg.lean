/-
  Contract of the law's good. No statement of the seat is proved here.
-/
import Derived.Test.YtlcidbbpjlpmjaaDoorRj
namespace Go.Proofs.YtlcidbbpjlpmjaaDoor
open Go.RowKit

def strip (s : List UInt8) : List UInt8 := s.filter (fun x => x != 10)
def goodLine (last : Bool) (s : List UInt8) : List UInt8 := if last = false ∨ s.getLast? = some 10 ∨ strip s = [] then strip s ++ [10] else strip s
def goodP : List (List UInt8) → List (List UInt8)
  | [] => []
  | s :: l => goodLine l.isEmpty s :: goodP l
theorem goodP_len : ∀ l : List (List UInt8), (goodP l).length = l.length
  | [] => rfl
  | s :: l => by rw [goodP, List.length_cons, List.length_cons, goodP_len l]
theorem strip_len (s : List UInt8) : (strip s).length ≤ s.length := List.length_filter_le _ _
theorem goodLine_len (b : Bool) (s : List UInt8) : (goodLine b s).length ≤ s.length + 1 := by
  have := strip_len s
  unfold goodLine
  split
  · simp; omega
  · omega
theorem goodP_small {N : Nat} : ∀ l : List (List UInt8), (∀ s ∈ l, s.length ≤ N) → ∀ s ∈ goodP l, s.length ≤ N + 1
  | [], _ => by simp [goodP]
  | t :: l, h => by
    intro s hs
    rw [goodP] at hs
    rcases List.mem_cons.1 hs with rfl | hs
    · have h1 := goodLine_len l.isEmpty t
      have h2 := h t (by simp)
      omega
    · exact goodP_small l (fun s hs => h s (by simp [hs])) s hs
theorem ext1 {s : List UInt8} {i : Nat} {x : UInt8} (h : s[i]? = some x) : (⟨s.toArray⟩ : ByteArray).extract i (i + 1) = ⟨#[x]⟩ := by
  obtain ⟨h1, h2⟩ := List.getElem?_eq_some_iff.1 h
  apply ByteArray.ext
  rw [ByteArray.data_extract]
  apply Array.ext'
  rw [Array.toList_extract, List.extract_eq_take_drop, show i + 1 - i = 1 by omega, List.take_one, List.head?_drop]
  show s[i]?.toList = _
  rw [h]
  rfl
set_option maxHeartbeats 4000000 in
set_option maxRecDepth 100000 in
theorem good_any (l : List (List UInt8)) (A : Option Addr) (c B : Nat) (w : World) (hB : B ≤ w.heap.size) (hr : Reads w B 1 A l.length (strL l)) (hl : l.length ≤ 1048576) (hls : ∀ s ∈ l, s.length ≤ 1048576) :
    Calls Tryd.prog 23 #[.slice A l.length c] w fun r w' => ∃ A' c', r = .returned (.slice A' (goodP l).length c') ∧ Own w' w.heap.size 9 1 A' (goodP l).length c' (strL (goodP l)) ∧ Below w.heap.size w w' := by
  have HR := Lib.hid (show ∀ W, Below w.heap.size w W → Reads W B 1 A l.length (strL l) from fun W k => hr.below (k.mono hB))
  have HLS := Lib.hid hls
  clear hr hls
  obtain ⟨G, hG⟩ : ∃ G, goodP l = G := ⟨_, rfl⟩
  have hGl : G.length = l.length := by rw [← hG, goodP_len]
  have HG := Lib.hid hG
  rw [hG]
  clear hG
  go_enter Tryd.func23, Tryd.ntmps23
  go_wp2_with fail
  go_loopw [3, 4] (fun s3 s4 wr => ∃ (k : Nat) (out : List (List UInt8)) (A3 : Option Addr) (c3 : Nat), k ≤ l.length ∧ s3 = .slice A3 out.length c3 ∧ s4 = .int .i64 (k : Nat) ∧ out.length = k ∧ out ++ goodP (l.drop k) = G ∧ Own wr w.heap.size 9 1 A3 out.length c3 (strL out) ∧ Below w.heap.size w wr) (fun _ s4 _ => l.length - (intOf s4).toNat)
  case atStart => exact ⟨0, [], none, 0, Nat.zero_le _, rfl, rfl, rfl, HG.out, Own.nil _ _ _ _, Below.refl _ _⟩
  case round =>
    obtain ⟨k, out, A3, c3, hk, rfl, rfl, hol, hg, ho, hb⟩ := hrel
    have hz := hb.size
    by_cases hlt : k < l.length
    · obtain ⟨s, hs⟩ : ∃ s, l[k]? = some s := ⟨_, List.getElem?_eq_getElem hlt⟩
      have hsl := HLS.out s (List.mem_of_getElem? hs)
      obtain ⟨g1, o1, rfl, _, hc⟩ := (HR.out _ hb).at0 (by omega) (by omega)
      have d9 := hc _ _ (strL_at' hs)
      unfold strC at d9
      have hdr : l.drop k = s :: l.drop (k + 1) := List.drop_eq_getElem?_toList_append.trans (by rw [hs]; rfl)
      rw [hdr, goodP] at hg
      have hemp : (l.drop (k + 1)).isEmpty = decide (l.length ≤ k + 1) := by
        rw [Bool.eq_iff_iff, List.isEmpty_iff, List.drop_eq_nil_iff, decide_eq_true_eq]
      rw [hemp] at hg
      have HGG := Lib.hid hg
      have hi0 : (0 : Int) ≤ (k : Int) := Int.natCast_nonneg _
      have hi1 : (k : Int) < (l.length : Int) := by omega
      clear hc hs hdr hemp hg
      go_wp2_with fail
      go_loopw [5, 6] (fun s5 s6 wi => ∃ (j : Nat) (T : List UInt8), j ≤ s.length ∧ s5 = .string ⟨T.toArray⟩ ∧ s6 = .int .i64 (j : Nat) ∧ T ++ strip (s.drop j) = strip s ∧ wi = wr) (fun _ s6 _ => s.length - (intOf s6).toNat)
      case atStart => exact ⟨0, [], Nat.zero_le _, rfl, rfl, rfl, rfl⟩
      case round =>
        obtain ⟨j, T, hj, rfl, rfl, hT, rfl⟩ := hrel
        by_cases hjl : j < s.length
        · obtain ⟨x, hx⟩ : ∃ x, s[j]? = some x := ⟨_, List.getElem?_eq_getElem hjl⟩
          have hdx : s.drop j = x :: s.drop (j + 1) := List.drop_eq_getElem?_toList_append.trans (by rw [hx]; rfl)
          rw [hdx, show strip (x :: s.drop (j + 1)) = (if (x != 10) = true then [x] else []) ++ strip (s.drop (j + 1)) by unfold strip; rw [List.filter_cons]; split <;> simp] at hT
          have HX := Lib.hid hx
          have hj0 : (0 : Int) ≤ (j : Int) := Int.natCast_nonneg _
          have hj1 : (j : Int) < (s.length : Int) := by omega
          have hx1 := ext1 hx
          have HX1 := Lib.hid hx1
          have hTl := congrArg List.length hT
          have hsp := strip_len s
          rw [List.length_append] at hTl
          have hTb : T.length + 1 ≤ 9223372036854775807 := by omega
          have HT := Lib.hid hT
          clear hx hdx hT hx1 hTl hsp
          go_wp2_with fail
          · rename_i hc
            have h10 : decide (x = (10 : UInt8)) = !true := byte_ne (c := 10) (by decide) HX.out hc
            have HT2 := Lib.hid (show (T ++ [x]) ++ strip (s.drop (j + 1)) = strip s from by
              have := HT.out
              rw [if_pos (by simpa using h10)] at this
              simpa using this)
            go_roundw
            case rel => exact ⟨j + 1, T ++ [x], hjl, by rw [HX1.out]; congr 1, by go_num, HT2.out, by first | rfl | trivial⟩
            case measure => simp [intOf]; omega
          · rename_i hc
            have h10 : decide (x = (10 : UInt8)) = !false := byte_ne (c := 10) (by decide) HX.out hc
            have HT2 := Lib.hid (show T ++ strip (s.drop (j + 1)) = strip s from by
              have := HT.out
              rw [if_neg (by simpa using h10)] at this
              simpa using this)
            go_roundw
            case rel => exact ⟨j + 1, T, hjl, rfl, by go_num, HT2.out, by first | rfl | trivial⟩
            case measure => simp [intOf]; omega
        · obtain rfl : j = s.length := by omega
          rw [List.drop_length, show strip [] = [] from rfl, List.append_nil] at hT
          subst hT
          have hsp := strip_len s
          have hxx : ¬ (s.length < s.length) := Nat.lt_irrefl _
          go_upto_region 11 with fail
          have HO := Lib.hid ho
          have HB := Lib.hid hb
          have wk : IntKind.i64.wrap ((k : Int) + 1) = (k : Int) + 1 := IntWalk.i64_in _ (by omega)
          have HLAST := Lib.hid (show ∀ t, goodLine (decide (l.length ≤ k + 1)) s = t → (out ++ [t]) ++ goodP (l.drop (k + 1)) = G from fun t ht => by rw [← ht, ← HGG.out]; simp)
          clear ho hb HGG
          by_cases qA : k + 1 < l.length
          · have dA : decide ((k : Int) + 1 < (l.length : Int)) = true := decide_eq_true (by omega)
            have HG1 := Lib.hid (show goodLine (decide (l.length ≤ k + 1)) s = strip s ++ [10] from by unfold goodLine; rw [if_pos (.inl (decide_eq_false (by omega)))])
            go_quiet (fail)
            have HO2 := Lib.hid (HO.out.drewN nq)
            have HB2 := Lib.hid (HB.out.trans (((Keep.refl Nothing wr).drewN nq).all.mono hz))
            have hz2 := HB2.out.size
            clear HO HB d9
            generalize wr.drewN nq = w9 at *
            go_wp2_with (at_builtin; refine wpList_append_sl rfl elemStr rfl rfl (n := out.length) (xs := strL out) (HO2.out.alloc _) rfl (Reads.of_blk (n := 1) (size := 1) (xs := strL [strip s ++ [10]]) (heap_alloc_new _ _) (by simp [strL, strC]; try (apply ByteArray.ext; simp)) rfl) (strL_one [strip s ++ [10]]) (by unfold maxLen; omega) (by omega) (by simp; omega) ?_; intro A9 c9 w9' o9 k9; have HO9 := Lib.hid o9; have HB9 := Lib.hid (HB2.out.trans ((((Kept.refl _ _ _ _).alloc _).trans k9).below (Nat.le_refl _) hz2 (by simp))); clear o9 k9)
            go_roundw
            case rel => exact ⟨k + 1, out ++ [strip s ++ [10]], A9, c9, hlt, by rw [List.length_append, List.length_singleton, hol], by go_num, by rw [List.length_append, List.length_singleton, hol], HLAST.out _ HG1.out, by rw [List.length_append, List.length_singleton]; simpa [strL] using HO9.out, HB9.out⟩
            case measure => simp [intOf]; omega
          have dA : decide ((k : Int) + 1 < (l.length : Int)) = false := decide_eq_false (by omega)
          by_cases qD : s.length = 0
          · have hs0 : s = [] := List.eq_nil_of_length_eq_zero qD
            subst hs0
            have dD : decide ((0 : Int) < ((([] : List UInt8).length : Nat) : Int)) = false := rfl
            have dE : (strip ([] : List UInt8)).isEmpty = true := rfl
            have HG1 := Lib.hid (show goodLine (decide (l.length ≤ k + 1)) [] = strip [] ++ [10] from by unfold goodLine; rw [if_pos (.inr (.inr rfl))])
            go_quiet (fail)
            have HO2 := Lib.hid (HO.out.drewN nq)
            have HB2 := Lib.hid (HB.out.trans (((Keep.refl Nothing wr).drewN nq).all.mono hz))
            have hz2 := HB2.out.size
            clear HO HB d9
            generalize wr.drewN nq = w9 at *
            go_wp2_with (at_builtin; refine wpList_append_sl rfl elemStr rfl rfl (n := out.length) (xs := strL out) (HO2.out.alloc _) rfl (Reads.of_blk (n := 1) (size := 1) (xs := strL [strip [] ++ [10]]) (heap_alloc_new _ _) (by simp [strL, strC]; try (apply ByteArray.ext; simp)) rfl) (strL_one [strip [] ++ [10]]) (by unfold maxLen; omega) (by omega) (by simp; omega) ?_; intro A9 c9 w9' o9 k9; have HO9 := Lib.hid o9; have HB9 := Lib.hid (HB2.out.trans ((((Kept.refl _ _ _ _).alloc _).trans k9).below (Nat.le_refl _) hz2 (by simp))); clear o9 k9)
            go_roundw
            case rel => exact ⟨k + 1, out ++ [strip [] ++ [10]], A9, c9, hlt, by rw [List.length_append, List.length_singleton, hol], by go_num, by rw [List.length_append, List.length_singleton, hol], HLAST.out _ HG1.out, by rw [List.length_append, List.length_singleton]; simpa [strL] using HO9.out, HB9.out⟩
            case measure => simp [intOf]; omega
          have dD : decide ((0 : Int) < (s.length : Int)) = true := decide_eq_true (by omega)
          have dN : decide (0 < s.length) = true := decide_eq_true (by omega)
          have hN : 0 < s.length := by omega
          have hwl : IntKind.i64.wrap ((s.length : Int) - 1) = ((s.length - 1 : Nat) : Int) := by rw [IntWalk.i64_in _ (by omega)]; omega
          have hl0 : (0 : Int) ≤ ((s.length - 1 : Nat) : Int) := Int.natCast_nonneg _
          have hl1 : ((s.length - 1 : Nat) : Int) < (s.length : Int) := by omega
          have hlb : s.length - 1 < (⟨s.toArray⟩ : ByteArray).size := by show s.length - 1 < s.toArray.size; simp; omega
          obtain ⟨xl, hxl⟩ : ∃ x, s[s.length - 1]? = some x := ⟨_, List.getElem?_eq_getElem (by omega)⟩
          have hgl : s.getLast? = some xl := by rw [List.getLast?_eq_getElem?]; exact hxl
          have hba := byte_at hxl hlb
          have HBA := Lib.hid hba
          have HXL := Lib.hid hgl
          clear hxl hgl hba
          by_cases qB : xl = 10
          · have dB : ((((⟨s.toArray⟩ : ByteArray)[s.length - 1]'hlb).toNat : Int) == 10) = true := by rw [HBA.out, qB]; rfl
            have HG1 := Lib.hid (show goodLine (decide (l.length ≤ k + 1)) s = strip s ++ [10] from by unfold goodLine; rw [if_pos (.inr (.inl (by rw [HXL.out, qB])))])
            clear qB
            go_quiet (fail)
            have HO2 := Lib.hid (HO.out.drewN nq)
            have HB2 := Lib.hid (HB.out.trans (((Keep.refl Nothing wr).drewN nq).all.mono hz))
            have hz2 := HB2.out.size
            clear HO HB d9
            generalize wr.drewN nq = w9 at *
            go_wp2_with (at_builtin; refine wpList_append_sl rfl elemStr rfl rfl (n := out.length) (xs := strL out) (HO2.out.alloc _) rfl (Reads.of_blk (n := 1) (size := 1) (xs := strL [strip s ++ [10]]) (heap_alloc_new _ _) (by simp [strL, strC]; try (apply ByteArray.ext; simp)) rfl) (strL_one [strip s ++ [10]]) (by unfold maxLen; omega) (by omega) (by simp; omega) ?_; intro A9 c9 w9' o9 k9; have HO9 := Lib.hid o9; have HB9 := Lib.hid (HB2.out.trans ((((Kept.refl _ _ _ _).alloc _).trans k9).below (Nat.le_refl _) hz2 (by simp))); clear o9 k9)
            go_roundw
            case rel => exact ⟨k + 1, out ++ [strip s ++ [10]], A9, c9, hlt, by rw [List.length_append, List.length_singleton, hol], by go_num, by rw [List.length_append, List.length_singleton, hol], HLAST.out _ HG1.out, by rw [List.length_append, List.length_singleton]; simpa [strL] using HO9.out, HB9.out⟩
            case measure => simp [intOf]; omega
          have dB : ((((⟨s.toArray⟩ : ByteArray)[s.length - 1]'hlb).toNat : Int) == 10) = false := by
            rw [HBA.out, beq_eq_false_iff_ne]
            intro q
            exact qB (UInt8.toNat_inj.1 (by have : (10 : UInt8).toNat = 10 := rfl; omega))
          have QB := Lib.hid qB
          clear qB
          by_cases qE : strip s = []
          · have dE : (strip s).isEmpty = true := by rw [qE]; rfl
            have HG1 := Lib.hid (show goodLine (decide (l.length ≤ k + 1)) s = strip s ++ [10] from by unfold goodLine; rw [if_pos (.inr (.inr qE))])
            clear qE
            go_quiet (fail)
            have HO2 := Lib.hid (HO.out.drewN nq)
            have HB2 := Lib.hid (HB.out.trans (((Keep.refl Nothing wr).drewN nq).all.mono hz))
            have hz2 := HB2.out.size
            clear HO HB d9
            generalize wr.drewN nq = w9 at *
            go_wp2_with (at_builtin; refine wpList_append_sl rfl elemStr rfl rfl (n := out.length) (xs := strL out) (HO2.out.alloc _) rfl (Reads.of_blk (n := 1) (size := 1) (xs := strL [strip s ++ [10]]) (heap_alloc_new _ _) (by simp [strL, strC]; try (apply ByteArray.ext; simp)) rfl) (strL_one [strip s ++ [10]]) (by unfold maxLen; omega) (by omega) (by simp; omega) ?_; intro A9 c9 w9' o9 k9; have HO9 := Lib.hid o9; have HB9 := Lib.hid (HB2.out.trans ((((Kept.refl _ _ _ _).alloc _).trans k9).below (Nat.le_refl _) hz2 (by simp))); clear o9 k9)
            go_roundw
            case rel => exact ⟨k + 1, out ++ [strip s ++ [10]], A9, c9, hlt, by rw [List.length_append, List.length_singleton, hol], by go_num, by rw [List.length_append, List.length_singleton, hol], HLAST.out _ HG1.out, by rw [List.length_append, List.length_singleton]; simpa [strL] using HO9.out, HB9.out⟩
            case measure => simp [intOf]; omega
          · have dE : (strip s).isEmpty = false := by
              cases hq : strip s with
              | nil => exact absurd hq qE
              | cons x y => rfl
            have HG1 := Lib.hid (show goodLine (decide (l.length ≤ k + 1)) s = strip s from by
              unfold goodLine
              rw [if_neg]
              rintro (q | q | q)
              · exact absurd (of_decide_eq_false q) (by omega)
              · rw [HXL.out] at q
                injection q with q
                exact QB.out q
              · exact qE q)
            clear qE
            go_quiet (fail)
            have HO2 := Lib.hid (HO.out.drewN nq)
            have HB2 := Lib.hid (HB.out.trans (((Keep.refl Nothing wr).drewN nq).all.mono hz))
            have hz2 := HB2.out.size
            clear HO HB d9
            generalize wr.drewN nq = w9 at *
            go_wp2_with (at_builtin; refine wpList_append_sl rfl elemStr rfl rfl (n := out.length) (xs := strL out) (HO2.out.alloc _) rfl (Reads.of_blk (n := 1) (size := 1) (xs := strL [strip s]) (heap_alloc_new _ _) (by simp [strL, strC]; try (apply ByteArray.ext; simp)) rfl) (strL_one [strip s]) (by unfold maxLen; omega) (by omega) (by simp; omega) ?_; intro A9 c9 w9' o9 k9; have HO9 := Lib.hid o9; have HB9 := Lib.hid (HB2.out.trans ((((Kept.refl _ _ _ _).alloc _).trans k9).below (Nat.le_refl _) hz2 (by simp))); clear o9 k9)
            go_roundw
            case rel => exact ⟨k + 1, out ++ [strip s], A9, c9, hlt, by rw [List.length_append, List.length_singleton, hol], by go_num, by rw [List.length_append, List.length_singleton, hol], HLAST.out _ HG1.out, by rw [List.length_append, List.length_singleton]; simpa [strL] using HO9.out, HB9.out⟩
            case measure => simp [intOf]; omega
    · obtain rfl : k = l.length := by omega
      rw [List.drop_length, goodP, List.append_nil] at hg
      subst hg
      go_wp2_with fail
      go_ret
      exact ⟨_, _, rfl, ho, hb⟩
end Go.Proofs.YtlcidbbpjlpmjaaDoor
