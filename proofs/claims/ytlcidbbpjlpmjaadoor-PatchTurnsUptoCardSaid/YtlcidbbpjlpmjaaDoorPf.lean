/-
  Contracts of the reference's Split, starts, number. No statement of the seat is proved here.
-/
import Derived.Test.YtlcidbbpjlpmjaaDoorPc
import Derived.Test.YtlcidbbpjlpmjaaDoorNg
namespace Go.Proofs.YtlcidbbpjlpmjaaDoor
open Go.RowKit

theorem hasPrefix_take {x p : List UInt8} : Lib.hasPrefix x p = (x.take p.length == p) := by
  unfold Lib.hasPrefix
  rw [Bool.eq_iff_iff, List.isPrefixOf_iff_prefix, beq_iff_eq, List.prefix_iff_eq_take]
  exact ⟨fun q => q.symm, fun q => q.symm⟩
theorem hasPrefix_short {x p : List UInt8} (h : x.length < p.length) : Lib.hasPrefix x p = false := by
  unfold Lib.hasPrefix
  rw [Bool.eq_false_iff]
  intro q
  have := (List.isPrefixOf_iff_prefix.1 q).length_le
  omega
theorem ext_take (x : List UInt8) (n : Nat) : (⟨x.toArray⟩ : ByteArray).extract 0 n = ⟨(x.take n).toArray⟩ := by
  apply ByteArray.ext
  rw [ByteArray.data_extract]
  apply Array.ext'
  rw [Array.toList_extract, List.extract_eq_take_drop]
  simp
set_option maxRecDepth 100000 in
theorem starts_any (x : List UInt8) (w : World) (hx : x.length ≤ 1000000) :
    Calls Tryd.prog 49 #[.string ⟨x.toArray⟩, .int .i64 0, .string ⟨#[64, 64, 32, 45]⟩] w fun r w' => r = .returned (.bool (Lib.hasPrefix x [64, 64, 32, 45])) ∧ w' = w := by
  by_cases h4 : 4 ≤ x.length
  · have hp := hasPrefix_take (x := x) (p := [64, 64, 32, 45])
    have d4 : decide ((4 : Int) ≤ (x.length : Int)) = true := decide_eq_true (by omega)
    have d5 : (4 : Int) ≤ (x.length : Int) := by omega
    have hE := ext_take x 4
    have HP := Lib.hid hp
    clear hp
    go_enter Tryd.func49, Tryd.ntmps49
    go_wp2_with fail
    go_ret
    exact ⟨by rw [HP.out]; simp, rfl⟩
  · have hp := hasPrefix_short (x := x) (p := [64, 64, 32, 45]) (by simpa using h4)
    have d4 : decide ((4 : Int) ≤ (x.length : Int)) = false := decide_eq_false (by omega)
    have d5 : ¬ ((4 : Int) ≤ (x.length : Int)) := by omega
    have HP := Lib.hid hp
    clear hp
    go_enter Tryd.func49, Tryd.ntmps49
    go_wp2_with fail
    go_ret
    exact ⟨by rw [HP.out]; rfl, rfl⟩
theorem decV_snoc (d : List UInt8) (c : UInt8) : decV (d ++ [c]) = 10 * decV d + (c.toNat - 48) := by simp [decV, List.foldl_append]
theorem decV_lt : ∀ (k : Nat) (d : List UInt8), d.length ≤ k → (∀ x ∈ d, isDig x = true) → decV d < 10 ^ k
  | 0, d, h, _ => by
    have : d = [] := List.eq_nil_of_length_eq_zero (by omega)
    subst this
    simp [decV]
  | k + 1, d, h, hd => by
    rcases List.eq_nil_or_concat d with rfl | ⟨d', c, rfl⟩
    · simp [decV]; exact Nat.pos_of_ne_zero (by simp)
    · rw [List.concat_eq_append] at h hd ⊢
      have h1 := decV_lt k d' (by simpa using h) (fun x hx => hd x (by simp [hx]))
      have hc := hd c (by simp)
      simp only [isDig, Bool.and_eq_true, decide_eq_true_eq] at hc
      rw [decV_snoc, Nat.pow_succ]
      omega
theorem run_stop {x : List UInt8} {at_ k : Nat} (hk : k ≤ 10) (ha : at_ + k ≤ x.length) (hd : ∀ c ∈ (x.drop at_).take k, isDig c = true) (hs : k = 10 ∨ at_ + k = x.length ∨ ∃ c, x[at_ + k]? = some c ∧ isDig c = false) : digRun x at_ = (x.drop at_).take k := by
  unfold digRun
  have hl : ((x.drop at_).take k).length = k := by rw [List.length_take, List.length_drop]; omega
  have hq0 : at_ + k = x.length → (x.drop at_).drop k = [] := fun q => by rw [List.drop_drop, q, List.drop_length]
  have hqc : ∀ c, x[at_ + k]? = some c → (x.drop at_).drop k = c :: (x.drop at_).drop (k + 1) := fun c hc => by
    rw [List.drop_drop, List.drop_drop]
    have := List.drop_eq_getElem?_toList_append (l := x) (i := at_ + k)
    rw [hc] at this
    exact this
  have hsp : x.drop at_ = (x.drop at_).take k ++ (x.drop at_).drop k := (List.take_append_drop _ _).symm
  generalize (x.drop at_).take k = p at *
  generalize (x.drop at_).drop k = q at *
  rw [hsp]
  rcases hs with rfl | hs | ⟨c, hc, hcd⟩
  · rw [List.takeWhile_append_of_pos hd, List.take_left' hl]
  · rw [hq0 hs, List.append_nil]
    have hall : p.takeWhile isDig = p := by
      have := List.takeWhile_append_of_pos (l₂ := []) hd
      simpa using this
    rw [hall, List.take_of_length_le (by omega)]
  · rw [hqc c hc, takeWhile_stop hd hcd]
    exact List.take_of_length_le (by omega)
set_option maxHeartbeats 2000000 in
set_option maxRecDepth 100000 in
theorem number_any (x : List UInt8) (at_ : Nat) (w : World) (hx : x.length ≤ 1000000) (ha : at_ ≤ x.length) :
    Calls Tryd.prog 50 #[.string ⟨x.toArray⟩, .int .i64 (at_ : Int)] w fun r w' => r = .returned (.tuple #[.int .i64 (numR x at_).1, .int .i64 ((numR x at_).2 : Int)]) ∧ w' = w := by
  obtain ⟨R, hR⟩ : ∃ R, numR x at_ = R := ⟨_, rfl⟩
  rw [hR]
  have HR := Lib.hid hR
  clear hR
  go_enter Tryd.func50, Tryd.ntmps50
  go_wp2_with fail
  go_loopw [6, 7] (fun s6 s7 wr => ∃ (k : Nat) (n : Nat), s6 = .int .i64 (n : Nat) ∧ s7 = .int .i64 (at_ + k : Nat) ∧ k ≤ 10 ∧ at_ + k ≤ x.length ∧ Hid (n = decV ((x.drop at_).take k)) ∧ Hid (∀ c ∈ (x.drop at_).take k, isDig c = true) ∧ wr = w) (fun _ s7 _ => x.length - (intOf s7).toNat)
  case atStart => exact ⟨0, 0, rfl, rfl, by omega, ha, Lib.hid rfl, Lib.hid (by simp), rfl⟩
  case round =>
    obtain ⟨k, n, rfl, rfl, hk, hal, HN, HD, rfl⟩ := hrel
    have hlt := decV_lt k ((x.drop at_).take k) (by rw [List.length_take]; omega) HD.out
    rw [← HN.out] at hlt
    have hn10 : n < 10 ^ 10 := Nat.lt_of_lt_of_le hlt (Nat.pow_le_pow_right (by omega) hk)
    have hi0 : (0 : Int) ≤ (at_ : Int) + (k : Int) := by omega
    have hw1 : IntKind.i64.wrap ((at_ : Int) + (k : Int) - (at_ : Int)) = (k : Int) := by rw [IntWalk.i64_in _ (by omega)]; omega
    have hkA : (at_ : Int) + (k : Int) - (at_ : Int) = (k : Int) := by omega
    have HE := Lib.hid (show (k = 10 ∨ at_ + k = x.length ∨ ∃ c, x[at_ + k]? = some c ∧ isDig c = false) → (k = 0 → R = (-1, at_)) ∧ (k ≠ 0 → R = ((n : Int), at_ + k)) from fun st => by
      have hrun := run_stop hk hal HD.out st
      have hl : ((x.drop at_).take k).length = k := by rw [List.length_take, List.length_drop]; omega
      have hr := HR.out
      unfold numR at hr
      rw [hrun, hl, ← HN.out] at hr
      refine ⟨fun h0 => ?_, fun h0 => ?_⟩
      · have : (x.drop at_).take k = [] := List.eq_nil_of_length_eq_zero (by omega)
        rw [this] at hr
        exact hr.symm
      · rw [if_neg (by rw [List.isEmpty_iff]; intro q; rw [q] at hl; simp at hl; omega)] at hr
        exact hr.symm)
    by_cases hlt2 : at_ + k < x.length
    · obtain ⟨c, hc⟩ : ∃ c, x[at_ + k]? = some c := ⟨_, List.getElem?_eq_getElem hlt2⟩
      have hi1 : (at_ : Int) + (k : Int) < (x.length : Int) := by omega
      have hib : at_ + k < (⟨x.toArray⟩ : ByteArray).size := by show at_ + k < x.toArray.size; simpa using hlt2
      have hba := byte_at hc hib
      have HC := Lib.hid hc
      have HND := Lib.hid (show ∀ q : (c.toNat : Int) < 48 ∨ 57 < (c.toNat : Int), isDig c = false from fun q => by
        unfold isDig
        rcases q with q | q
        · rw [decide_eq_false (by omega), Bool.false_and]
        · rw [decide_eq_false (p := c.toNat ≤ 57) (by omega), Bool.and_false])
      clear hc
      go_upto_region 4 with fail
      · rename_i h1 h2 h3
        have hm : n < 1000000000000 := by omega
        have hk9 : k < 10 := by omega
        have HTK := Lib.hid (show (x.drop at_).take (k + 1) = (x.drop at_).take k ++ [c] from by rw [List.take_add_one, List.getElem?_drop, HC.out]; rfl)
        have HN1 := Lib.hid (show 10 * n + (c.toNat - 48) = decV ((x.drop at_).take (k + 1)) from by rw [HTK.out, decV_snoc, HN.out])
        have HD1 := Lib.hid (show ∀ c' ∈ (x.drop at_).take (k + 1), isDig c' = true from by
          rw [HTK.out]
          intro c' hc'
          rw [List.mem_append, List.mem_singleton] at hc'
          rcases hc' with hc' | rfl
          · exact HD.out c' hc'
          · unfold isDig
            rw [decide_eq_true (by omega), decide_eq_true (by omega)]
            rfl)
        go_wp2_with fail
        go_roundw
        case rel => exact ⟨k + 1, 10 * n + (c.toNat - 48), by congr 1; omega, by go_num, by omega, by omega, HN1, HD1, by first | rfl | trivial⟩
        case measure => simp [intOf]; omega
      all_goals
        go_ret2
        first
          | (have hk0 : k = 0 := by rename_i h1 h2; simp at h1 h2; omega
             have hE := (HE.out (by first | (exact .inl (by omega)) | (exact .inr (.inr ⟨c, HC.out, HND.out (by omega)⟩)))).1 hk0
             exact ⟨by rw [hE]; rfl, rfl⟩)
          | (have hk0 : k ≠ 0 := by rename_i h1 h2; simp at h1 h2; omega
             have hE := (HE.out (by first | (exact .inl (by omega)) | (exact .inr (.inr ⟨c, HC.out, HND.out (by omega)⟩)))).2 hk0
             exact ⟨by rw [hE]; rfl, rfl⟩)
    · have hi1 : ¬ ((at_ : Int) + (k : Int) < (x.length : Int)) := by omega
      have hend : at_ + k = x.length := by omega
      have hE0 := HE.out (.inr (.inl hend))
      have HE0 := Lib.hid hE0
      clear hE0 hend
      go_wp2_with fail
      all_goals
        go_ret2
        first
          | (have hk0 : k = 0 := by rename_i h1; simp at h1; omega
             exact ⟨by rw [HE0.out.1 hk0]; rfl, rfl⟩)
          | (have hk0 : k ≠ 0 := by rename_i h1; simp at h1; omega
             exact ⟨by rw [HE0.out.2 hk0]; rfl, rfl⟩)
theorem cur_next {b : List UInt8} {f i : Nat} {x : UInt8} (hf : f ≤ i) (hx : b[i]? = some x) : (b.drop f).take (i + 1 - f) = (b.drop f).take (i - f) ++ [x] := by
  rw [show i + 1 - f = i - f + 1 by omega, List.take_add_one, List.getElem?_drop, show f + (i - f) = i by omega, hx]
  rfl
set_option maxHeartbeats 2000000 in
set_option maxRecDepth 100000 in
theorem split_any (b : List UInt8) (A : Option Addr) (c B : Nat) (w : World) (hB : B ≤ w.heap.size) (hr : Reads w B 1 A b.length (b.map byteV)) (hbl : b.length ≤ 1000000) (hbc : b.length ≤ c) :
    Calls Tryd.prog 48 #[.slice A b.length c] w fun r w' => ∃ A' c', r = .returned (.slice A' (splitL b).length c') ∧ Own w' w.heap.size 9 1 A' (splitL b).length c' (strL (splitL b)) ∧ Below w.heap.size w w' := by
  have HR := Lib.hid (show ∀ W, Below w.heap.size w W → Reads W B 1 A b.length (b.map byteV) from fun W k => hr.below (k.mono hB))
  clear hr
  obtain ⟨L, hL⟩ : ∃ L, splitL b = L := ⟨_, rfl⟩
  rw [hL]
  have HL := Lib.hid hL
  clear hL
  go_enter Tryd.func48, Tryd.ntmps48
  go_wp2_with fail
  go_loopw [3, 4, 5] (fun s3 s4 s5 wr => ∃ (i f : Nat) (out : List (List UInt8)) (A3 : Option Addr) (c3 : Nat), s3 = .slice A3 out.length c3 ∧ s4 = .int .i64 (f : Nat) ∧ s5 = .int .i64 (i : Nat) ∧ f ≤ i ∧ i ≤ b.length ∧ out.length ≤ i ∧ Hid (out ++ splitFrom ((b.drop f).take (i - f)) (b.drop i) = L) ∧ Own wr w.heap.size 9 1 A3 out.length c3 (strL out) ∧ Below w.heap.size w wr) (fun _ _ s5 _ => b.length - (intOf s5).toNat)
  case atStart => exact ⟨0, 0, [], none, 0, rfl, rfl, rfl, Nat.le_refl _, Nat.zero_le _, Nat.le_refl _, Lib.hid (by rw [← HL.out]; rfl), Own.nil _ _ _ _, Below.refl _ _⟩
  case round =>
    obtain ⟨i, f, out, A3, c3, rfl, rfl, rfl, hfi, hib, hoi, HO, ho, hb⟩ := hrel
    have hz := hb.size
    have hi0 : (0 : Int) ≤ (i : Int) := Int.natCast_nonneg _
    by_cases hlt : i < b.length
    · obtain ⟨x, hx⟩ : ∃ x, b[i]? = some x := ⟨_, List.getElem?_eq_getElem hlt⟩
      have hi1 : (i : Int) < (b.length : Int) := by omega
      obtain ⟨g, o, rfl, _, hcl⟩ := (HR.out _ hb).at0 (by omega) (by omega)
      have d1 : wr.cell? ⟨g, o + i, none⟩ = some (.int .u8 (x.toNat : Int)) := hcl i (byteV x) (by rw [List.getElem?_map, hx]; rfl)
      have hdr : b.drop i = x :: b.drop (i + 1) := List.drop_eq_getElem?_toList_append.trans (by rw [hx]; rfl)
      have hcn := cur_next hfi hx
      have HO1 := HO.out
      rw [hdr, splitFrom] at HO1
      have HO2 := Lib.hid HO1
      have hsrc := ((HR.out _ hb).cut (k := f) (cap := c) (by omega) hbc).front (k := i + 1 - f) (by omega)
      rw [Nat.mul_one, Nat.mul_one, if_neg (by omega), show ((b.map byteV).drop f).take (i + 1 - f) = ((b.drop f).take (i + 1 - f)).map byteV by rw [List.map_take, List.map_drop], hcn] at hsrc
      have HS := Lib.hid (show Reads wr B 1 (some ⟨g, o + f, none⟩) (i + 1 - f) (((b.drop f).take (i - f) ++ [x]).map byteV) from by have q := hsrc; rw [Option.map_some, add_at] at q; exact q)
      have HCN := Lib.hid hcn
      clear hcl hdr hcn HO1 hsrc HO hx
      by_cases hx10 : x = 10
      · subst hx10
        have e10 : (((10 : UInt8).toNat : Int) == 10) = true := rfl
        have s1 : (f : Int) ≤ (i : Int) + 1 := by omega
        have s2 : (i : Int) + 1 ≤ (c : Int) := by omega
        have s3 : f ≤ i + 1 := by omega
        have s4 : i + 1 ≤ c := by omega
        have s5 : ((i : Int) + 1 - (f : Int)).toNat = i + 1 - f := by omega
        have hcp : ¬ (c = f) := by omega
        have HN := Lib.hid (show (out ++ [(b.drop f).take (i - f) ++ [10]]) ++ splitFrom ((b.drop (i + 1)).take (i + 1 - (i + 1))) (b.drop (i + 1)) = L from by
          have := HO2.out
          rw [if_pos rfl] at this
          rw [← this]
          simp)
        generalize (b.drop f).take (i - f) ++ [10] = row at *
        clear HO2
        have O3 := Lib.hid ho
        have HB := Lib.hid hb
        clear ho hb
        go_wp2_with (first | (refine wpList_convStr rfl rfl Tryd.underlying53 Tryd.underlying5 Tryd.underlying9 (l := row) rfl HS.out ?_) | (at_builtin; refine wpList_append_sl rfl elemStr rfl rfl (n := out.length) (xs := strL out) (O3.out.alloc _) rfl (Reads.of_blk (n := 1) (size := 1) (xs := strL [row]) (heap_alloc_new _ _) rfl rfl) (strL_one [row]) (by unfold maxLen; omega) (by omega) (by simp; omega) ?_; intro A5 c5 w5 o5 k5; have O5 := Lib.hid o5; have HB5 := Lib.hid (HB.out.trans ((((Kept.refl _ _ _ _).alloc _).trans k5).below (Nat.le_refl _) hz (by simp))); clear o5 k5))
        go_roundw
        case rel => exact ⟨i + 1, i + 1, out ++ [row], A5, c5, by rw [List.length_append, List.length_singleton], by go_num, by go_num, Nat.le_refl _, hlt, by simp; omega, HN, by rw [List.length_append, List.length_singleton]; simpa [strL] using O5.out, HB5.out⟩
        case measure => simp [intOf]; omega
      · have e10 : ((x.toNat : Int) == 10) = false := by
          rw [beq_eq_false_iff_ne]
          intro q
          exact hx10 (UInt8.toNat_inj.1 (by have : (10 : UInt8).toNat = 10 := rfl; omega))
        have HN := Lib.hid (show out ++ splitFrom ((b.drop f).take (i + 1 - f)) (b.drop (i + 1)) = L from by
          have := HO2.out
          rw [if_neg hx10] at this
          rw [HCN.out]
          exact this)
        clear HO2 HCN HS hx10
        go_wp2_with fail
        go_roundw
        case rel => exact ⟨i + 1, f, out, A3, c3, rfl, rfl, by go_num, by omega, hlt, by omega, HN, ho, hb⟩
        case measure => simp [intOf]; omega
    · obtain rfl : i = b.length := by omega
      have hxx : ¬ (b.length < b.length) := Nat.lt_irrefl _
      have HO1 := HO.out
      rw [List.drop_length, splitFrom, List.take_of_length_le (by rw [List.length_drop]; exact Nat.le_refl _)] at HO1
      by_cases hfl : f < b.length
      · have hne : b.drop f ≠ [] := by
          intro q
          have := congrArg List.length q
          simp at this
          omega
        rw [if_neg hne] at HO1
        have hfI : (f : Int) < (b.length : Int) := by omega
        obtain ⟨g, o, rfl, _, _⟩ := (HR.out _ hb).at0 (by omega) (by omega)
        have hsrc := (HR.out _ hb).cut (k := f) (cap := c) (by omega) hbc
        rw [Nat.mul_one, if_neg (by omega), show (b.map byteV).drop f = (b.drop f).map byteV by rw [List.map_drop]] at hsrc
        have HS := Lib.hid (show Reads wr B 1 (some ⟨g, o + f, none⟩) (b.length - f) ((b.drop f).map byteV) from by have q := hsrc; rw [Option.map_some, add_at] at q; exact q)
        have s1 : (f : Int) ≤ (b.length : Int) := by omega
        have s2 : (f : Int) ≤ (c : Int) := by omega
        have hcp : ¬ (c = f) := by omega
        have s5 : ((b.length : Int) - (f : Int)).toNat = b.length - f := by omega
        generalize b.drop f = row at *
        have O3 := Lib.hid ho
        have HB := Lib.hid hb
        have HF := Lib.hid HO1
        clear ho hb HO1 hsrc hne HO
        go_wp2_with (first | (refine wpList_convStr rfl rfl Tryd.underlying53 Tryd.underlying5 Tryd.underlying9 (l := row) rfl HS.out ?_) | (at_builtin; refine wpList_append_sl rfl elemStr rfl rfl (n := out.length) (xs := strL out) (O3.out.alloc _) rfl (Reads.of_blk (n := 1) (size := 1) (xs := strL [row]) (heap_alloc_new _ _) rfl rfl) (strL_one [row]) (by unfold maxLen; omega) (by omega) (by simp; omega) ?_; intro A5 c5 w5 o5 k5; have O5 := Lib.hid o5; have HB5 := Lib.hid (HB.out.trans ((((Kept.refl _ _ _ _).alloc _).trans k5).below (Nat.le_refl _) hz (by simp))); clear o5 k5))
        go_ret
        exact ⟨A5, c5, by rw [← HF.out, List.length_append, List.length_singleton]; rfl, by rw [← HF.out, List.length_append, List.length_singleton]; simpa [strL] using O5.out, HB5.out⟩
      · have hne : b.drop f = [] := List.drop_of_length_le (by omega)
        rw [if_pos hne, List.append_nil] at HO1
        have hfI : ¬ ((f : Int) < (b.length : Int)) := by omega
        have HF := Lib.hid HO1
        clear HO1 hne HO
        go_wp2_with fail
        go_ret
        exact ⟨A3, c3, by rw [← HF.out]; rfl, by rw [← HF.out]; exact ho, hb⟩
end Go.Proofs.YtlcidbbpjlpmjaaDoor
