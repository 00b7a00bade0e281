/-
  The law walk of TreeMany, its trees. No statement of the seat is proved here.
-/
import Derived.Test.YtbaapjlmpmpocaaGreatDoorDl
import Derived.Test.YtbaapjlmpmpocaaGreatDoorDT35
import Derived.Test.YtbaapjlmpmpocaaGreatDoorDT17
import Derived.Test.YtbaapjlmpmpocaaGreatDoorDT25
import Derived.Test.YtbaapjlmpmpocaaGreatDoorDT20
import Derived.Test.YtbaapjlmpmpocaaGreatDoorDj
namespace Go.Proofs.YtbaapjlmpmpocaaGreatDoor
/-- The law's paths: in one directory, or in several. -/
def manyW (i : Nat) : Pth := [UInt8.ofNat (97 + i / 100), UInt8.ofNat (48 + i / 10 % 10), UInt8.ofNat (48 + i % 10)]
def manyN (i : Nat) : Pth := [UInt8.ofNat (97 + i / 100), 47, UInt8.ofNat (48 + i / 10 % 10), UInt8.ofNat (48 + i % 10)]
def manyP (wide : Bool) (i : Nat) : Pth := if wide then manyW i else manyN i
def manyL (wide : Bool) (n : Nat) : List FileD := (List.range n).map fun i => ⟨manyP wide i, 1, []⟩
theorem manyL_len (wide : Bool) (n : Nat) : (manyL wide n).length = n := by unfold manyL; rw [List.length_map, List.length_range]
theorem manyL_next (wide : Bool) (n : Nat) : manyL wide (n + 1) = manyL wide n ++ [⟨manyP wide n, 1, []⟩] := by unfold manyL; rw [List.range_succ, List.map_append]; rfl
def manyOk (wide : Bool) (i : Nat) : Bool := decide (fileE ⟨manyP wide i, 1, []⟩ = 0) && Op.bytesLess (manyP wide i) (manyP wide (i + 1)) && (manyP wide i).length == (if wide then 3 else 4) &&
  (if wide then dirsP (manyP wide i) == [] && parN (manyP wide i) == [] && lastN (manyP wide i) == manyP wide i else dirsP (manyP wide i) == [[UInt8.ofNat (97 + i / 100)]] && lastN [UInt8.ofNat (97 + i / 100)] == [UInt8.ofNat (97 + i / 100)] && lastN (manyP wide i) == [UInt8.ofNat (48 + i / 10 % 10), UInt8.ofNat (48 + i % 10)])
theorem many_w : (List.range 1004).all (manyOk true) = true := by decide +kernel
theorem many_n : (List.range 1004).all (manyOk false) = true := by decide +kernel
structure ManyAt (wide : Bool) (i : Nat) : Prop where
  file : fileE ⟨manyP wide i, 1, []⟩ = 0
  lt : manyP wide i < manyP wide (i + 1)
  len : (manyP wide i).length = if wide then 3 else 4
  wid : wide = true → dirsP (manyP wide i) = [] ∧ parN (manyP wide i) = [] ∧ lastN (manyP wide i) = manyP wide i
  nar : wide = false → dirsP (manyP wide i) = [[UInt8.ofNat (97 + i / 100)]] ∧ lastN [UInt8.ofNat (97 + i / 100)] = [UInt8.ofNat (97 + i / 100)] ∧ lastN (manyP wide i) = [UInt8.ofNat (48 + i / 10 % 10), UInt8.ofNat (48 + i % 10)]
theorem many_at (wide : Bool) {i : Nat} (hi : i < 1004) : ManyAt wide i := by
  have h : manyOk wide i = true := by
    cases wide with
    | true => exact List.all_eq_true.1 many_w i (List.mem_range.2 hi)
    | false => exact List.all_eq_true.1 many_n i (List.mem_range.2 hi)
  unfold manyOk at h
  simp only [Bool.and_eq_true, decide_eq_true_eq, beq_iff_eq] at h
  obtain ⟨⟨⟨h1, h2⟩, h3⟩, h4⟩ := h
  refine ⟨h1, of_decide_eq_true (by rw [← bytesLess_eq]; exact h2), h3, fun q => ?_, fun q => ?_⟩
  · subst q
    rw [if_pos rfl] at h4
    simp only [Bool.and_eq_true, beq_iff_eq] at h4
    exact ⟨h4.1.1, h4.1.2, h4.2⟩
  · subst q
    rw [if_neg (by decide)] at h4
    simp only [Bool.and_eq_true, beq_iff_eq] at h4
    exact ⟨h4.1.1, h4.1.2, h4.2⟩
theorem many_lt (wide : Bool) {i : Nat} : ∀ {j : Nat}, i < j → j < 1004 → manyP wide i < manyP wide j
  | 0, h, _ => by omega
  | j + 1, h, hj => by
    rcases Nat.lt_or_ge i j with q | q
    · exact pth_trans (many_lt wide q (by omega)) (many_at wide (i := j) (by omega)).lt
    · obtain rfl : i = j := by omega
      exact (many_at wide (i := i) (by omega)).lt
theorem many_rise (wide : Bool) {n : Nat} (hn : n ≤ 1004) : RiseP ((manyL wide n).map (·.p)) := by
  unfold RiseP manyL
  rw [List.map_map, List.pairwise_map]
  exact List.Pairwise.imp_of_mem (fun {i j} _ hj h => many_lt wide h (by have := List.mem_range.1 hj; omega)) (List.pairwise_lt_range)
theorem many_mem {wide : Bool} {n : Nat} {f : FileD} (h : f ∈ manyL wide n) : ∃ i, i < n ∧ f = ⟨manyP wide i, 1, []⟩ := by
  obtain ⟨i, hi, rfl⟩ := List.mem_map.1 h
  exact ⟨i, List.mem_range.1 hi, rfl⟩
theorem many_tree (wide : Bool) {n : Nat} (hn : n ≤ 1004) : TreeOk (manyL wide n) := by
  refine ⟨fun f hf => ?_, many_rise wide hn, fun f hf g hg q => ?_⟩
  · obtain ⟨i, hi, rfl⟩ := many_mem hf
    exact (many_at wide (by omega)).file
  · obtain ⟨i, hi, rfl⟩ := many_mem hf
    obtain ⟨j, hj, rfl⟩ := many_mem hg
    have h1 := many_at wide (i := i) (by omega)
    have h2 := (many_at wide (i := j) (by omega)).len
    simp only at q
    cases wide with
    | true => rw [(h1.wid rfl).1] at q; cases q
    | false =>
      rw [(h1.nar rfl).1, List.mem_singleton] at q
      rw [q] at h2
      simp at h2
theorem nodup_le : ∀ (l m : List Pth), l.Nodup → (∀ x ∈ l, x ∈ m) → l.length ≤ m.length
  | [], _, _, _ => Nat.zero_le _
  | x :: l, m, h, hs => by
    rw [List.nodup_cons] at h
    have hx := hs x (List.mem_cons_self ..)
    have h1 := nodup_le l (m.erase x) h.2 (fun y hy => (List.mem_erase_of_ne (by rintro rfl; exact h.1 hy)).2 (hs y (List.mem_cons_of_mem _ hy)))
    rw [List.length_erase_of_mem hx] at h1
    have := List.length_pos_of_mem hx
    rw [List.length_cons]
    omega
theorem mem_names {l : List FileD} {d x : Pth} (h : x ∈ namesOf (entsP l) d) : ∃ f ∈ l, ∃ e ∈ dirsP f.p ++ [f.p], x = lastN e := by
  unfold namesOf at h
  rw [mem_keysP] at h
  obtain ⟨y, hy, rfl⟩ := List.mem_map.1 h
  unfold entsP at hy
  obtain ⟨f, hf, h2⟩ := List.mem_flatMap.1 (List.mem_filter.1 hy).1
  obtain ⟨e, he, rfl⟩ := List.mem_map.1 h2
  exact ⟨f, hf, e, he, rfl⟩
theorem names_le {l : List FileD} {U : List Pth} (h : ∀ f ∈ l, ∀ e ∈ dirsP f.p ++ [f.p], lastN e ∈ U) (d : Pth) : (namesOf (entsP l) d).length ≤ U.length := by
  refine nodup_le _ _ (rise_nodup (keysP_rise _)) fun x hx => ?_
  obtain ⟨f, hf, e, he, rfl⟩ := mem_names hx
  exact h f hf e he
theorem crowd_le {l : List FileD} {U : List Pth} (h : ∀ f ∈ l, ∀ e ∈ dirsP f.p ++ [f.p], lastN e ∈ U) (hU : U.length ≤ 512) : crowdP l = false := by
  unfold crowdP
  rw [List.any_eq_false]
  intro e _ q
  simp only [decide_eq_true_eq] at q
  have := names_le h e.1
  omega
theorem crowd_wide {n : Nat} (hn : n ≤ 512) : crowdP (manyL true n) = false := by
  refine crowd_le (U := (List.range n).map (manyP true)) (fun f hf e he => ?_) (by rw [List.length_map, List.length_range]; exact hn)
  obtain ⟨i, hi, rfl⟩ := many_mem hf
  have h := (many_at true (i := i) (by omega)).wid rfl
  simp only [h.1, List.nil_append, List.mem_singleton] at he
  subst he
  rw [h.2.2]
  exact List.mem_map.2 ⟨i, List.mem_range.2 hi, rfl⟩
theorem crowd_narrow {n : Nat} (hn : n ≤ 1000) : crowdP (manyL false n) = false := by
  refine crowd_le (U := (List.range 11).map (fun c => [UInt8.ofNat (97 + c)]) ++ (List.range 100).map (fun k => [UInt8.ofNat (48 + k / 10), UInt8.ofNat (48 + k % 10)])) (fun f hf e he => ?_) (by rw [List.length_append, List.length_map, List.length_map, List.length_range, List.length_range]; decide)
  obtain ⟨i, hi, rfl⟩ := many_mem hf
  have h := (many_at false (i := i) (by omega)).nar rfl
  simp only [h.1, List.cons_append, List.nil_append, List.mem_cons, List.not_mem_nil, or_false] at he
  rw [List.mem_append]
  rcases he with rfl | rfl
  · rw [h.2.1]
    exact .inl (List.mem_map.2 ⟨i / 100, List.mem_range.2 (by omega), rfl⟩)
  · rw [h.2.2]
    refine .inr (List.mem_map.2 ⟨i % 100, List.mem_range.2 (by omega), ?_⟩)
    rw [show i % 100 / 10 = i / 10 % 10 by omega, show i % 100 % 10 = i % 10 by omega]
theorem ents_wide {n : Nat} (hn : n ≤ 1004) {i : Nat} (hi : i < n) : ([], manyP true i) ∈ entsP (manyL true n) := by
  have h := (many_at true (i := i) (by omega)).wid rfl
  unfold entsP
  refine List.mem_flatMap.2 ⟨⟨manyP true i, 1, []⟩, List.mem_map.2 ⟨i, List.mem_range.2 hi, rfl⟩, List.mem_map.2 ⟨manyP true i, by simp, ?_⟩⟩
  rw [h.2.1, h.2.2]
theorem crowd_over {n : Nat} (hn : n ≤ 1004) (h5 : 512 < n) : crowdP (manyL true n) = true := by
  unfold crowdP
  rw [List.any_eq_true]
  refine ⟨_, ents_wide hn (i := 0) (by omega), ?_⟩
  simp only [decide_eq_true_eq]
  have h1 := nodup_le ((manyL true n).map (·.p)) (namesOf (entsP (manyL true n)) []) (rise_nodup (many_rise true hn)) fun x hx => by
    obtain ⟨f, hf, rfl⟩ := List.mem_map.1 hx
    obtain ⟨i, hi, rfl⟩ := many_mem hf
    unfold namesOf
    rw [mem_keysP]
    exact List.mem_map.2 ⟨([], manyP true i), List.mem_filter.2 ⟨ents_wide hn hi, by simp⟩, rfl⟩
  rw [List.length_map, manyL_len] at h1
  omega
theorem many_check (wide : Bool) {n : Nat} (hn : n ≤ 1004) : checkT (manyL wide n) = if n ≤ (if wide then 512 else 1000) then 0 else 4 := by
  have ht := many_tree wide hn
  cases wide with
  | true =>
    rw [if_pos (show true = true from rfl)]
    by_cases h : n ≤ 512
    · rw [if_pos h]
      exact checkT_of ht (by rw [manyL_len]; omega) (crowd_wide h)
    · rw [if_neg h]
      have h0 := (checkL_ok (manyL true n) [] List.Pairwise.nil).2 ⟨ht.file, ht.rise, ht.apart⟩
      unfold checkT
      rw [h0, crowd_over hn (by omega)]
      simp
  | false =>
    rw [if_neg (show ¬ false = true by decide)]
    by_cases h : n ≤ 1000
    · rw [if_pos h]
      exact checkT_of ht (by rw [manyL_len]; omega) (crowd_narrow h)
    · rw [if_neg h]
      unfold checkT
      rw [if_pos (by rw [manyL_len]; omega)]
/-- A path of k + 1 names. -/
def deepP : Nat → Pth
  | 0 => [120]
  | k + 1 => deepP k ++ [47, 120]
theorem deep_all : (List.range 12).all (fun k => checkT [⟨deepP k, 3, []⟩] == (if k < 8 then 0 else 7) && (deepP k).length == 2 * k + 1) = true := by decide +kernel
theorem deep_at {k : Nat} (h : k < 12) : checkT [⟨deepP k, 3, []⟩] = (if k < 8 then 0 else 7) ∧ (deepP k).length = 2 * k + 1 := by
  have := List.all_eq_true.1 deep_all k (List.mem_range.2 h)
  simpa only [Bool.and_eq_true, beq_iff_eq] using this
open Go.RowKit Go.Maps

def SlU (n : Nat) (ps : Array (Nat × Value)) : Sem Value := Instr.buildSlice 25 n ps
theorem sl_u (n : Nat) (ps : Array (Nat × Value)) : Instr.buildSlice 25 n ps = SlU n ps := rfl
theorem slu3 (a b c : Int) (W : World) : (SlU 3 #[(0, .int .u8 a), (1, .int .u8 b), (2, .int .u8 c)]).run Tryz.prog W = .ok (.slice (some ⟨W.heap.size, 0, none⟩) 3 3) (W.alloc (.cells #[.int .u8 a, .int .u8 b, .int .u8 c] 5)) := by kernel_rfl
theorem conv_three {W : World} {g : Nat} {b c d : UInt8} (hb : Blk W g 5 #[byteV b, byteV c, byteV d]) : (convert 25 9 (.slice (some ⟨g, 0, none⟩) 3 3)).run Tryz.prog W = .ok (.string ⟨#[b, c, d]⟩) W := by
  rw [run_convert_bytes_string _ 25 9 5 (some ⟨g, 0, none⟩) 3 3 Tryz.underlying25 Tryz.underlying5 Tryz.underlying9, run_str_of (l := [b, c, d]) (Reads.of_blk (n := 3) (size := 1) (xs := [byteV b, byteV c, byteV d]) hb rfl rfl)]
theorem bdf2 (s : ByteArray) (k : Int) (w : World) : (BdFl #[(0, .string s), (1, .int .i64 k)]).run Tryz.prog w = .ok (.agg #[.string s, .int .i64 k, .slice none 0 0]) w := by kernel_rfl
theorem bv_at {k : Nat} (h : k < 256) : byteV (UInt8.ofNat k) = .int .u8 (k : Int) := by
  unfold byteV
  rw [UInt8.toNat_ofNat', Nat.mod_eq_of_lt (by omega)]
theorem many_cells {i : Nat} (h : i < 1004) : #[byteV (UInt8.ofNat (97 + i / 100)), byteV (UInt8.ofNat (48 + i / 10 % 10)), byteV (UInt8.ofNat (48 + i % 10))] = #[Value.int .u8 (97 + (i : Int) / 100), .int .u8 (48 + (i : Int) / 10 % 10), .int .u8 (48 + (i : Int) % 10)] := by
  rw [bv_at (by omega), bv_at (by omega), bv_at (by omega)]
  congr
theorem many_file {w : World} {B : Nat} (p : Pth) (k : Int) : DataR w B ⟨p, k, []⟩ (.slice none 0 0) := ⟨none, 0, rfl, Nat.le_refl _, by decide, Reads.none_⟩
theorem slf3 (a b c : Value) (W : World) : (SlFl 1 #[(0, .agg #[a, b, c])]).run Tryz.prog W = .ok (.slice (some ⟨W.heap.size, 0, none⟩) 1 1) (W.alloc (.cells #[a, b, c] 27)) :=
  run_buildSlice1 elemFile zero_file rfl rfl (by omega) W
attribute [local go_sem] run_eql_strC run_neq_strC eqGuard_strC neGuard_strC slu3 slf3 bdf2
attribute [local go_sem ↓] sl_u sl_fl bd_fl
set_option maxHeartbeats 16000000 in
set_option maxRecDepth 100000 in
theorem many_law (f0 f2 : Int) (wide : Bool) (w : World) (hv : VarM w) : Calls Tryz.prog 3 #[.int .i64 f0, .bool wide, .int .i64 f2] w fun e w' => e = .returned (.bool true) ∧ Below w.heap.size w w' := by
  obtain ⟨z, hz⟩ : ∃ z, w.heap.size = z := ⟨_, rfl⟩
  have HK := Lib.hid (known15_any w hv)
  have HV := Lib.hid (fun W (k : Below w.heap.size w W) => hv.below k hv.pos)
  rw [hz] at HK HV
  rw [hz]
  clear hv
  have HZ := Lib.hid hz
  clear hz
  obtain ⟨N1, hN1⟩ : ∃ N1 : Nat, (508 : Int) + f0 % 8 = (N1 : Int) := ⟨((508 : Int) + f0 % 8).toNat, by omega⟩
  have hn1 : 508 ≤ N1 ∧ N1 ≤ 515 := by omega
  obtain ⟨N2, hN2⟩ : ∃ N2 : Nat, (996 : Int) + (N1 : Int) % 8 = (N2 : Int) := ⟨((996 : Int) + (N1 : Int) % 8).toNat, by omega⟩
  have hn2 : 996 ≤ N2 ∧ N2 ≤ 1003 := by omega
  obtain ⟨D, hD⟩ : ∃ D : Nat, (1 : Int) + f2 % 12 = (D : Int) := ⟨((1 : Int) + f2 % 12).toNat, by omega⟩
  have hd1 : 1 ≤ D ∧ D ≤ 12 := by omega
  have e1 : IntKind.i64.wrap ((508 : Int) + f0 % 8) = (N1 : Int) := by rw [hN1]; exact IntWalk.i64_in _ (by omega)
  have e2 : IntKind.i64.wrap ((996 : Int) + (N1 : Int) % 8) = (N2 : Int) := by rw [hN2]; exact IntWalk.i64_in _ (by omega)
  have e3 : IntKind.i64.wrap ((1 : Int) + f2 % 12) = (D : Int) := by rw [hD]; exact IntWalk.i64_in _ (by omega)
  have HW1 := Lib.hid (fun W => within15_any f0 8 W (by omega) (by omega))
  have HW2 := Lib.hid (fun W => within15_any (N1 : Int) 8 W (by omega) (by omega))
  have HW3 := Lib.hid (fun W => within15_any f2 12 W (by omega) (by omega))
  generalize f0 % 8 = m0 at *
  generalize (N1 : Int) % 8 = m1 at *
  generalize f2 % 12 = m2 at *
  go_enter Tryz.func3, Tryz.ntmps3
  go_upto_region 4 with (first
    | (go_at_call 5; (with_reducible refine HK.out.mono ?_); rintro _ w1 ⟨rfl, hb1⟩; have HB1 := Lib.hid hb1; clear hb1)
    | (go_at_call 6; (with_reducible refine (HW1.out w1).mono ?_); rintro _ w2 ⟨rfl, rfl⟩))
  go_upto_if 24 with fail
  go_cut [0] (fun s0 wx => ∃ n : Nat, s0 = .int .i64 (n : Nat) ∧ 508 ≤ n ∧ n ≤ 1003 ∧ (wide = true → n ≤ 515) ∧ (wide = false → 996 ≤ n) ∧ Hid (Below z w wx))
  case first =>
    cases wide with
    | true =>
      go_wp2_with fail
      go_meet
      exact ⟨N1, rfl, by omega, by omega, fun _ => by omega, (fun h => by cases h), HB1⟩
    | false =>
      go_wp2_with (go_at_call 6; (with_reducible refine (HW2.out w1).mono ?_); rintro _ w2 ⟨rfl, rfl⟩)
      go_meet
      exact ⟨N2, rfl, by omega, by omega, (fun h => by cases h), fun _ => by omega, HB1⟩
  case rest =>
    obtain ⟨n, rfl, hn3, hn4, hn5, hn6, HB⟩ := hcut
    clear HB1 HW1 HW2 e1 e2 hn1 hn2 hN1 hN2 hD
    generalize wc = w3 at *
    go_wp2_with fail
    go_loopw [7, 8] (fun s7 s8 wx => ∃ (i : Nat) (A : Option Addr) (c : Nat), s7 = .slice A i c ∧ s8 = .int .i64 (i : Nat) ∧ i ≤ n ∧ Hid (FO wx z z A c (manyL wide i)) ∧ Hid (Below z w wx)) (fun _ s8 _ => n - (intOf s8).toNat)
    case atStart => exact ⟨0, none, 0, rfl, rfl, Nat.zero_le _, Lib.hid (FO.nil_ _ _ _), HB⟩
    case round =>
      obtain ⟨i, A, c, rfl, rfl, hi, HM, HW⟩ := hrel
      have hzw : z ≤ wr.heap.size := HZ.out ▸ HW.out.size
      by_cases hlt : i < n
      ·
        have i1 : (i : Int) < (n : Int) := by omega
        obtain ⟨tv, ht1, ho, ht3⟩ := HM.out
        rw [manyL_len] at ho
        have HT := Lib.hid (And.intro ht1 ht3)
        have HO := Lib.hid ho
        clear ht1 ht3 ho
        have cv := conv_three (W := wr.alloc (.cells #[byteV (UInt8.ofNat (97 + i / 100)), byteV (UInt8.ofNat (48 + i / 10 % 10)), byteV (UInt8.ofNat (48 + i % 10))] 5)) (g := wr.heap.size) (Blk.new wr 5 _)
        rw [many_cells (by omega)] at cv
        obtain ⟨b0, hb0⟩ : ∃ b, UInt8.ofNat (97 + i / 100) = b := ⟨_, rfl⟩
        obtain ⟨b1, hb1⟩ : ∃ b, UInt8.ofNat (48 + i / 10 % 10) = b := ⟨_, rfl⟩
        obtain ⟨b2, hb2⟩ : ∃ b, UInt8.ofNat (48 + i % 10) = b := ⟨_, rfl⟩
        have HP := Lib.hid (show manyP wide i = if wide then [b0, b1, b2] else [b0, 47, b1, b2] from by rw [← hb0, ← hb1, ← hb2]; rfl)
        rw [hb0, hb1, hb2] at cv
        clear hb0 hb1 hb2
        have hb5 : Below z wr (wr.alloc (.cells #[.int .u8 (97 + (i : Int) / 100), .int .u8 (48 + (i : Int) / 10 % 10), .int .u8 (48 + (i : Int) % 10)] 5)) := (Below.refl z wr).alloc hzw _
        have HB5 := Lib.hid hb5
        have HO5 := Lib.hid (HO.out.alloc (.cells #[.int .u8 (97 + (i : Int) / 100), .int .u8 (48 + (i : Int) / 10 % 10), .int .u8 (48 + (i : Int) % 10)] 5))
        have hz5 : z ≤ (wr.alloc (.cells #[.int .u8 (97 + (i : Int) / 100), .int .u8 (48 + (i : Int) / 10 % 10), .int .u8 (48 + (i : Int) % 10)] 5)).heap.size := by simp; omega
        clear hb5 HO
        go_upto_region 11 with fail
        clear cv
        generalize wr.alloc (.cells #[.int .u8 (97 + (i : Int) / 100), .int .u8 (48 + (i : Int) / 10 % 10), .int .u8 (48 + (i : Int) % 10)] 5) = w5 at *
        cases wide with
        | true =>
          have HPP := Lib.hid (show manyP true i = [b0, b1, b2] from HP.out)
          go_wp2_with (at_builtin; refine wpList_append_slf rfl elemFile rfl rfl (n := i) (xs := filesL (manyL true i) tv) (HO5.out.alloc _) (m := 1) (by omega) rfl (Reads.of_blk (n := 1) (size := 3) (xs := [.string ⟨#[b0, b1, b2]⟩, .int .i64 1, .slice none 0 0]) (heap_alloc_new _ _) rfl rfl) (fileC_one ⟨[b0, b1, b2], 1, []⟩ none 0) (by unfold maxLen; omega) (by omega) (by simp; omega) ?_; intro A4 c4 w4 o4 k4 _; have HO4 := Lib.hid o4; have HK4 := Lib.hid k4; clear o4 k4)
          have hb4 : Below z wr w4 := HB5.out.trans (((Below.refl z w5).alloc hz5 _).trans (HK4.out.below (Nat.le_refl _) (by simp; omega) (by simp)))
          go_roundw
          case rel => exact ⟨i + 1, A4, c4, rfl, by go_num, hlt, Lib.hid (by rw [manyL_next, HPP.out]; exact FO.snoc HT.out.1 HT.out.2 (many_file _ _) (by rw [manyL_len]; exact HO4.out) hb4), Lib.hid (HW.out.trans hb4)⟩
          case measure => simp [intOf]; omega
        | false =>
          go_upto_region 12 with fail
          refine wp_region_still_tail 6 (by kernel_rfl) (by kernel_rfl) ?_; simp only [List.take_succ_cons, List.take_zero, List.drop_succ_cons, List.drop_zero]; repeat (first | ((with_reducible refine wpStill_step (fun K hK => ?_)); go_simp; with_reducible refine hK _ ?_; clear hK K) | ((with_reducible refine wpStill_skip ?_ ?_); (focus rfl)))
          have hpn : ({ data := #[b0, b1, b2] } : ByteArray).extract 0 1 ++ { data := #[47] } ++ ({ data := #[b0, b1, b2] } : ByteArray).extract 1 3 = ⟨#[b0, 47, b1, b2]⟩ := by rfl
          rw [hpn]
          (with_reducible refine wpStill_nil ?_); change wpList _ _ _ _ _ w5.drew
          have hb6 : Below z w5 w5.drew := (Below.refl z w5).drew
          have HB6 := Lib.hid (HB5.out.trans hb6)
          have HO6 := Lib.hid (show Own w5.drew z 27 3 A i c (filesL (manyL false i) tv) from HO5.out.drew)
          have hz6 : z ≤ w5.drew.heap.size := hz5
          clear hb6 hpn HB5 HO5 hz5
          generalize w5.drew = w6 at *
          have HPP := Lib.hid (show manyP false i = [b0, 47, b1, b2] from HP.out)
          go_wp2_with (at_builtin; refine wpList_append_slf rfl elemFile rfl rfl (n := i) (xs := filesL (manyL false i) tv) (HO6.out.alloc _) (m := 1) (by omega) rfl (Reads.of_blk (n := 1) (size := 3) (xs := [.string ⟨#[b0, 47, b1, b2]⟩, .int .i64 1, .slice none 0 0]) (heap_alloc_new _ _) rfl rfl) (fileC_one ⟨[b0, 47, b1, b2], 1, []⟩ none 0) (by unfold maxLen; omega) (by omega) (by simp; omega) ?_; intro A4 c4 w4 o4 k4 _; have HO4 := Lib.hid o4; have HK4 := Lib.hid k4; clear o4 k4)
          have hb4 : Below z wr w4 := HB6.out.trans (((Below.refl z w6).alloc hz6 _).trans (HK4.out.below (Nat.le_refl _) (by simp; omega) (by simp)))
          go_roundw
          case rel => exact ⟨i + 1, A4, c4, rfl, by go_num, hlt, Lib.hid (by rw [manyL_next, HPP.out]; exact FO.snoc HT.out.1 HT.out.2 (many_file _ _) (by rw [manyL_len]; exact HO4.out) hb4), Lib.hid (HW.out.trans hb4)⟩
          case measure => simp [intOf]; omega
      · obtain rfl : i = n := by omega
        have hlt2 : ¬ (i : Int) < (i : Int) := by omega
        have HOB := Lib.hid (fun W (kW : Below wr.heap.size wr W) => objects_any (manyL wide i) A c wr.heap.size W kW.size ((HM.out.fi hzw).below kW) (HV.out W (HW.out.trans (kW.mono hzw))) (fun f hf => by
          obtain ⟨j, hj, rfl⟩ := many_mem hf
          have := (many_at wide (i := j) (by omega)).len
          simp only
          rw [this]
          split <;> decide))
        unfold ObjPost at HOB
        have hck := many_check wide (n := i) (by omega)
        obtain ⟨E, hE⟩ : ∃ E : Nat, checkT (manyL wide i) = E := ⟨_, rfl⟩
        rw [hE] at HOB hck
        rw [manyL_len] at HOB
        have HCK := Lib.hid hck
        clear hlt HM hck hE
        go_upto_region 15 with (first
          | (go_at_call 7; (with_reducible refine (HOB.out wr (Below.refl _ _)).mono ?_); rintro _ w4 ⟨O, m4, oc, id4, rfl, hb4, _⟩; have HB4 := Lib.hid (HW.out.trans (hb4.mono hzw)); clear hb4)
          | (refine wpList_allocAgg rfl rfl (zero_noId _) ?_)
          | (refine wpList_storeBlk rfl rfl (vs := idC id4) rfl rfl (Blk.new _ _ _) (by rw [idC_size, idC_size]) (by rw [idC_size]; exact info42) (idL_one _) ?_; intro w5 hx5 hk5 hz5; have HK5 := Lib.hid (show Keep Nothing w4 w5 from Keep.ofNew hk5); clear hx5 hk5 hz5))
        have hz4 : z ≤ w4.heap.size := HZ.out ▸ HB4.out.size
        have HB5 := Lib.hid (show Below z w w5 from HB4.out.trans (HK5.out.below hz4 (fun _ _ q => q.elim)))
        clear HOB HB4 HK5 hz4 HW hzw HB HK
        go_upto_region 16 with (go_at_call 6; (with_reducible refine (HW3.out w5).mono ?_); rintro _ w6 ⟨rfl, rfl⟩)
        clear HW3 e3
        go_wp2_with fail
        go_loopw [14, 15] (fun s14 s15 wx => ∃ k : Nat, s14 = .string ⟨(deepP k).toArray⟩ ∧ s15 = .int .i64 ((k + 1 : Nat) : Int) ∧ k < D ∧ Hid (wx = w5)) (fun _ s15 _ => D - (intOf s15).toNat)
        case atStart => exact ⟨0, rfl, rfl, by omega, Lib.hid rfl⟩
        case round =>
          obtain ⟨k, rfl, rfl, hk, HWW⟩ := hrel
          have hww := HWW.out
          clear HWW
          subst hww
          have hdl := (deep_at (k := k) (by omega)).2
          by_cases hlt : k + 1 < D
          ·
            have k1 : (k : Int) + 1 < (D : Int) := by omega
            have hsz : ({ data := (deepP k).toArray } : ByteArray).size = 2 * k + 1 := by
              show (deepP k).toArray.size = _
              simp [hdl]
            go_wp2_with fail
            go_roundw
            case rel => exact ⟨k + 1, by first | rfl | (simp [deepP]), by go_num, hlt, by first | exact Lib.hid rfl | exact Lib.hid trivial⟩
            case measure => simp [intOf]; omega
          ·
            obtain rfl : D = k + 1 := by omega
            have k1 : ¬ (k : Int) + 1 < ((k + 1 : Nat) : Int) := by omega
            have hb7 : Below z wr (wr.alloc (.cells #[.string ⟨(deepP k).toArray⟩, .int .i64 3, .slice none 0 0] 27)) := (Below.refl z wr).alloc (HZ.out ▸ HB5.out.size) _
            have hfi : FI (wr.alloc (.cells #[.string ⟨(deepP k).toArray⟩, .int .i64 3, .slice none 0 0] 27)) (wr.alloc (.cells #[.string ⟨(deepP k).toArray⟩, .int .i64 3, .slice none 0 0] 27)).heap.size (some ⟨wr.heap.size, 0, none⟩) [⟨deepP k, 3, []⟩] :=
              fi_one (B := 0) (f := ⟨deepP k, 3, []⟩) (D := none) (d := 0) (Blk.new wr 27 _) Reads.none_ (Nat.zero_le _) (Nat.le_refl _) (by decide)
            have hcc : Calls Tryz.prog 8 #[.slice (some ⟨wr.heap.size, 0, none⟩) 1 1] (wr.alloc (.cells #[.string ⟨(deepP k).toArray⟩, .int .i64 3, .slice none 0 0] 27)) (CheckPost [⟨deepP k, 3, []⟩] (wr.alloc (.cells #[.string ⟨(deepP k).toArray⟩, .int .i64 3, .slice none 0 0] 27))) := check_any [⟨deepP k, 3, []⟩] (some ⟨wr.heap.size, 0, none⟩) 1 _ (wr.alloc (.cells #[.string ⟨(deepP k).toArray⟩, .int .i64 3, .slice none 0 0] 27)) (Nat.le_refl _) hfi (HV.out _ (HB5.out.trans hb7)) (fun f hf => by rw [List.mem_singleton] at hf; subst hf; simp only; omega)
            unfold CheckPost at hcc
            rw [(deep_at (k := k) (by omega)).1] at hcc
            have HCC := Lib.hid hcc
            have HB7 := Lib.hid (HB5.out.trans hb7)
            have hz7 : z ≤ (wr.alloc (.cells #[.string ⟨(deepP k).toArray⟩, .int .i64 3, .slice none 0 0] 27)).heap.size := hb7.size |> Nat.le_trans (HZ.out ▸ HB5.out.size)
            have HZ7 := Lib.hid hz7
            clear hcc hb7 hfi hz7 hdl
            go_upto_region 22 with (go_at_call 8; (with_reducible refine HCC.out.mono ?_); rintro _ w8 ⟨rfl, hb8⟩; have HB8 := Lib.hid (HB7.out.trans (hb8.mono HZ7.out)); clear hb8)
            clear HCC HB7 HZ7
            have hE := HCK.out
            clear HCK
            cases wide with
            | true =>
              rw [if_pos (show true = true from rfl)] at hE
              by_cases h5 : i ≤ 512
              · rw [if_pos h5] at hE
                subst hE
                by_cases h8 : k < 8
                · rw [if_pos h8]
                  go_wp2_with fail
                  go_ret
                  exact ⟨rfl, HB8.out⟩
                · rw [if_neg h8]
                  go_wp2_with fail
                  go_ret
                  exact ⟨rfl, HB8.out⟩
              · rw [if_neg h5] at hE
                subst hE
                have dd : decide ((i : Int) ≤ 512) = false := decide_eq_false (by omega)
                by_cases h8 : k < 8
                · rw [if_pos h8]
                  go_wp2_with fail
                  go_ret
                  exact ⟨by first | rfl | (show Ending.returned (Value.bool (!decide ((i : Int) ≤ 512))) = _; rw [dd]; rfl), HB8.out⟩
                · rw [if_neg h8]
                  go_wp2_with fail
                  go_ret
                  exact ⟨by first | rfl | (show Ending.returned (Value.bool (!decide ((i : Int) ≤ 512))) = _; rw [dd]; rfl), HB8.out⟩
            | false =>
              rw [if_neg (show ¬ false = true by decide)] at hE
              by_cases h5 : i ≤ 1000
              · rw [if_pos h5] at hE
                subst hE
                by_cases h8 : k < 8
                · rw [if_pos h8]
                  go_wp2_with fail
                  go_ret
                  exact ⟨rfl, HB8.out⟩
                · rw [if_neg h8]
                  go_wp2_with fail
                  go_ret
                  exact ⟨rfl, HB8.out⟩
              · rw [if_neg h5] at hE
                subst hE
                have dd : decide ((i : Int) ≤ 1000) = false := decide_eq_false (by omega)
                by_cases h8 : k < 8
                · rw [if_pos h8]
                  go_wp2_with fail
                  go_ret
                  exact ⟨by first | rfl | (show Ending.returned (Value.bool (!decide ((i : Int) ≤ 1000))) = _; rw [dd]; rfl), HB8.out⟩
                · rw [if_neg h8]
                  go_wp2_with fail
                  go_ret
                  exact ⟨by first | rfl | (show Ending.returned (Value.bool (!decide ((i : Int) ≤ 1000))) = _; rw [dd]; rfl), HB8.out⟩
end Go.Proofs.YtbaapjlmpmpocaaGreatDoor
