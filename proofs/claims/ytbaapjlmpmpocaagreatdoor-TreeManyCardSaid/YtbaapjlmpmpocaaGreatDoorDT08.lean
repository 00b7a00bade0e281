/- Contract of codec.EncodeTree. No statement of the seat is proved here. -/
import Derived.Test.YtbaapjlmpmpocaaGreatDoorDT07
import Derived.BigQuiet
import Derived.Deep.QuietTactic
import Derived.Test.YtbaapjlmpmpocaaGreatDoorShelf
import Derived.Lib.OthersKept
import Derived.Laws.RangeAny
import Derived.Deep.LoopGhost
import Derived.Test.YtbaapjlmpmpocaaGreatDoorDT03
namespace Go.Proofs.YtbaapjlmpmpocaaGreatDoor
open Go.RowKit
def slz : ByteArray := ⟨#[47, 0]⟩
theorem slz_list : slz.data.toList = [47, 0] := rfl
theorem decode_skip (s : ByteArray) (pos : Nat) (h : pos < s.size) (ha : 128 ≤ (s[pos]'h).toNat) :
    pos + (Utf8.decode s pos).2 ≤ s.size ∧ ∀ j (hj : j < s.size), pos ≤ j → j < pos + (Utf8.decode s pos).2 → 128 ≤ (s[j]'hj).toNat := by
 have hn : ¬ (s[pos]'h).toNat < 128 := by omega
 have hg : ∀ k (hk : k < s.size), s.get! k = s[k]'hk := fun k hk => get_at s k hk
 have key : ∀ k, (decide (pos + k < s.size) && (s.get! (pos + k)).toNat / 64 == 2) = true → pos + k < s.size ∧ ∀ hk : pos + k < s.size, 128 ≤ (s[pos + k]'hk).toNat := by
  intro k hk
  simp only [Bool.and_eq_true, decide_eq_true_eq, beq_iff_eq] at hk
  refine ⟨hk.1, fun hlt => ?_⟩
  rw [← hg _ hlt]
  omega
 have pin : ∀ j (hj : j < s.size) k (hk : pos + k < s.size), j = pos + k → (∀ hk : pos + k < s.size, 128 ≤ (s[pos + k]'hk).toNat) → 128 ≤ (s[j]'hj).toNat := by
  intro j hj k hk e q
  subst e
  exact q hk
 have one : pos + 1 ≤ s.size ∧ ∀ j (hj : j < s.size), pos ≤ j → j < pos + 1 → 128 ≤ (s[j]'hj).toNat := by
  refine ⟨by omega, fun j hj h1 h2 => ?_⟩
  obtain rfl : j = pos := by omega
  exact ha
 simp only [Utf8.decode, get_at s pos h, hn, if_false]
 split
 · rename_i hc
   simp only [Bool.and_eq_true] at hc
   obtain ⟨a1, b1⟩ := key 1 (by simpa using hc.2)
   split
   · refine ⟨by simp; omega, fun j hj h1 h2 => ?_⟩
     simp at h2
     rcases Nat.lt_or_ge j (pos + 1) with q | q
     · exact one.2 j hj h1 q
     · exact pin j hj 1 a1 (by omega) b1
   · exact one
 · split
   · rename_i hc
     simp only [Bool.and_eq_true] at hc
     obtain ⟨a1, b1⟩ := key 1 (by simpa using hc.1.2)
     obtain ⟨a2, b2⟩ := key 2 (by simpa using hc.2)
     split
     · refine ⟨by simp; omega, fun j hj h1 h2 => ?_⟩
       simp at h2
       rcases Nat.lt_or_ge j (pos + 1) with q | q
       · exact one.2 j hj h1 q
       · rcases Nat.lt_or_ge j (pos + 2) with q2 | q2
         · exact pin j hj 1 a1 (by omega) b1
         · exact pin j hj 2 a2 (by omega) b2
     · exact one
   · split
     · rename_i hc
       simp only [Bool.and_eq_true] at hc
       obtain ⟨a1, b1⟩ := key 1 (by simpa using hc.1.1.2)
       obtain ⟨a2, b2⟩ := key 2 (by simpa using hc.1.2)
       obtain ⟨a3, b3⟩ := key 3 (by simpa using hc.2)
       split
       · refine ⟨by simp; omega, fun j hj h1 h2 => ?_⟩
         simp at h2
         rcases Nat.lt_or_ge j (pos + 1) with q | q
         · exact one.2 j hj h1 q
         · rcases Nat.lt_or_ge j (pos + 2) with q2 | q2
           · exact pin j hj 1 a1 (by omega) b1
           · rcases Nat.lt_or_ge j (pos + 3) with q3 | q3
             · exact pin j hj 2 a2 (by omega) b2
             · exact pin j hj 3 a3 (by omega) b3
       · exact one
     · exact one
theorem encode_two (r : Nat) (h : 128 ≤ r) (h2 : r < 2048) : ∃ a b : UInt8, Utf8.encode (r : Int) = ⟨#[a, b]⟩ ∧ 128 ≤ b.toNat := by
 have hv : Utf8.valid (r : Int) = true := by simp [Utf8.valid]; omega
 refine ⟨UInt8.ofNat (0xC0 + r / 64), UInt8.ofNat (0x80 + r % 64), ?_, ?_⟩
 · simp only [Utf8.encode, hv, if_true, Int.toNat_natCast]
   rw [if_neg (by omega), if_pos (by omega)]
 · simp
   omega
theorem encode_more (r : Nat) (h : 2048 ≤ r) : 3 ≤ (Utf8.encode (r : Int)).size := by
 simp only [Utf8.encode, Int.toNat_natCast]
 by_cases hv : Utf8.valid (r : Int) = true
 · rw [if_pos hv, if_neg (by omega), if_neg (by omega)]
   split <;> simp [ByteArray.size]
 · rw [if_neg hv]
   decide
def MinusOne (w : World) (e : Ending) (w' : World) : Prop := e = .returned (.int .i64 (-1)) ∧ Below w.heap.size w w'
set_option maxHeartbeats 1000000 in
set_option maxRecDepth 100000 in
theorem idxRune_err (w : World) : Calls Tryz.prog 129 #[.string slz, .int .i32 65533] w (MinusOne w) := by
 go_enter Tryz.func129, Tryz.ntmps129
 go_wp2_with fail
 go_loopg [5, 6] 2 (fun g _ _ wx => ∃ i : Nat, i + g = 2 ∧ wx = w.iter slz i)
 case atStart => exact ⟨0, by omega, rfl⟩
 case round =>
  obtain ⟨i, hig, rfl⟩ := hrel
  rcases gk with _ | _ | _ | gk
  · obtain rfl : i = 2 := by omega
    have hnx := fun ty => run_next_end (P := Tryz.prog) w slz 2 ty (by decide)
    go_wp2
    go_ret
    exact ⟨rfl, (Below.refl _ _).alloc (Nat.le_refl _) _⟩
  · obtain rfl : i = 1 := by omega
    have hnx := fun ty => run_next_ascii (P := Tryz.prog) w slz 1 ty (by decide) (by decide)
    have hx : slz[1] = 0 := rfl
    go_wp2
    go_roundg 0
    case measure => omega
    case rel => exact ⟨2, by omega, rfl⟩
  · obtain rfl : i = 0 := by omega
    have hnx := fun ty => run_next_ascii (P := Tryz.prog) w slz 0 ty (by decide) (by decide)
    have hx : slz[0] = 47 := rfl
    go_wp2
    go_roundg 1
    case measure => omega
    case rel => exact ⟨1, by omega, rfl⟩
  · omega
set_option maxHeartbeats 1000000 in
set_option maxRecDepth 100000 in
theorem idxRune_bad (r : Int) (hr : 128 ≤ r) (hne : (r == 65533) = false) (hv : Lib.validRune r = false) (w : World) : Calls Tryz.prog 129 #[.string slz, .int .i32 r] w (MinusOne w) := by
 have h0 : 0 ≤ r := by omega
 have hsl : slz.size = 2 := rfl
 have HV := Lib.hid hv
 clear hv
 go_enter Tryz.func129, Tryz.ntmps129
 go_wp2_with (go_at_call 146; refine (Tryz.utf8_ValidRune _ _).mono ?_; rintro e w' ⟨rfl, hw⟩; rw [hw, HV.out])
 go_ret
 exact ⟨rfl, Below.refl _ _⟩
theorem quiet_add_same {P : Program} {f : FuncId} {args : Array Value} {w : World} {a n : Nat} {v : Value}
    (h : Calls P f args (w.drewN (a + n)) fun e w' => e = .returned v ∧ w' = w.drewN (a + n)) :
    Calls P f args (w.drewN (a + n)) fun e w'' => e = .returned v ∧ ∃ m, w'' = w.drewN (a + m) :=
 h.mono fun _ _ ⟨he, hm⟩ => ⟨he, n, hm⟩
theorem idxByte_end (c : Int) (w : World) : Calls Tryz.prog 145 #[.string (slz.extract 2 2), .int .u8 c] w fun e w' => e = .returned (.int .i64 (-1)) ∧ w' = w := by
 refine (Tryz.strings_IndexByte (slz.extract 2 2) c w).mono ?_
 rintro e w' ⟨rfl, hw⟩
 exact ⟨rfl, hw⟩
set_option maxHeartbeats 1000000 in
set_option maxRecDepth 100000 in
theorem idxRune_two (r : Int) (a b : UInt8) (hr : 128 ≤ r) (hne : (r == 65533) = false) (hv : Lib.validRune r = true) (he : Utf8.encode r = ⟨#[a, b]⟩) (hb : 128 ≤ b.toNat) (w : World) : Calls Tryz.prog 129 #[.string slz, .int .i32 r] w (MinusOne w) := by
 have h0 : 0 ≤ r := by omega
 have hsl : slz.size = 2 := rfl
 have e1 : slz[1].toNat = 0 := rfl
 have e2 : ((⟨#[a, b]⟩ : ByteArray)[1]'(by show 1 < 2; decide)).toNat = b.toNat := rfl
 have e3 : ((0 : Int) != (b.toNat : Int)) = true := by rw [bne_iff_ne]; omega
 have HV := Lib.hid hv
 clear hv
 go_enter Tryz.func129, Tryz.ntmps129
 go_wp2_with (go_at_call 146; refine (Tryz.utf8_ValidRune _ _).mono ?_; rintro e w' ⟨rfl, hw⟩; rw [hw, HV.out])
 go_step3
 go_wp2_with fail
 refine wp_loop_rounds 1 ?_
 rw [rounds_succ]
 go_wp2_with fail
 go_step3
 go_wp2_with fail
 go_quiet (fail)
 go_wp2_with fail
 go_quiet ((go_at_call 145; exact quiet_add_same (idxByte_end _ _)))
 go_wp2_with fail
 rw [Exit.noGoto_ret]
 go_ret
 exact ⟨rfl, (Keep.refl Nothing w).drewN _ |>.all⟩
set_option maxHeartbeats 1000000 in
set_option maxRecDepth 100000 in
theorem idxRune_more (r : Int) (hr : 128 ≤ r) (hne : (r == 65533) = false) (hv : Lib.validRune r = true) (he : 3 ≤ (Utf8.encode r).size) (he2 : (Utf8.encode r).size ≤ 4) (w : World) : Calls Tryz.prog 129 #[.string slz, .int .i32 r] w (MinusOne w) := by
 have h0 : 0 ≤ r := by omega
 have hsl : slz.size = 2 := rfl
 have HV := Lib.hid hv
 clear hv
 go_enter Tryz.func129, Tryz.ntmps129
 go_wp2_with (go_at_call 146; refine (Tryz.utf8_ValidRune _ _).mono ?_; rintro e w' ⟨rfl, hw⟩; rw [hw, HV.out])
 go_step3
 go_wp2_with fail
 refine wp_loop_rounds 1 ?_
 rw [rounds_succ]
 go_wp2_with fail
 rw [Exit.noGoto_ret]
 go_ret
 exact ⟨rfl, Below.refl _ _⟩
theorem idxRune_hi (r : Nat) (hr : 128 ≤ r) (w : World) : Calls Tryz.prog 129 #[.string slz, .int .i32 r] w (MinusOne w) := by
 by_cases h1 : r = 65533
 · subst h1
   exact idxRune_err w
 · have hne : ((r : Int) == 65533) = false := beq_eq_false_iff_ne.2 (by omega)
   cases hv : Lib.validRune (r : Int) with
   | false => exact idxRune_bad r (by omega) hne hv w
   | true =>
    by_cases h2 : r < 2048
    · obtain ⟨a, b, he, hb⟩ := encode_two r hr h2
      exact idxRune_two r a b (by omega) hne hv he hb w
    · exact idxRune_more r (by omega) hne hv (encode_more r (by omega)) (encode_size_le _) w
def anySlz (l : List UInt8) : Bool := l.any fun x => x == 47 || x == 0
def SlzFree (s : ByteArray) (i : Nat) : Prop := ∀ j (hj : j < s.size), j < i → s[j].toNat ≠ 47 ∧ s[j].toNat ≠ 0
theorem mem_list (s : ByteArray) (x : UInt8) : x ∈ s.data.toList ↔ ∃ j, ∃ hj : j < s.size, s[j] = x := by
 rw [List.mem_iff_getElem]
 constructor
 · rintro ⟨j, hj, h⟩
   exact ⟨j, by simpa using hj, h⟩
 · rintro ⟨j, hj, h⟩
   exact ⟨j, by simpa using hj, h⟩
theorem anySlz_true {s : ByteArray} {i : Nat} (hi : i < s.size) (h : s[i].toNat = 47 ∨ s[i].toNat = 0) : anySlz s.data.toList = true := by
 unfold anySlz
 rw [List.any_eq_true]
 refine ⟨s[i], (mem_list s _).2 ⟨i, hi, rfl⟩, ?_⟩
 rcases h with h | h
 · have : s[i] = 47 := UInt8.toNat_inj.1 h
   simp [this]
 · have : s[i] = 0 := UInt8.toNat_inj.1 h
   simp [this]
theorem anySlz_false {s : ByteArray} (h : SlzFree s s.size) : anySlz s.data.toList = false := by
 unfold anySlz
 rw [List.any_eq_false]
 intro x hx
 obtain ⟨j, hj, rfl⟩ := (mem_list s x).1 hx
 obtain ⟨h1, h2⟩ := h j hj hj
 simp only [Bool.or_eq_true, beq_iff_eq, not_or]
 exact ⟨fun q => h1 (by rw [q]; rfl), fun q => h2 (by rw [q]; rfl)⟩
def AnyPost (s : ByteArray) (w : World) (e : Ending) (w' : World) : Prop := ∃ n : Int, e = .returned (.int .i64 n) ∧ decide (0 ≤ n) = anySlz s.data.toList ∧ Below w.heap.size w w'
theorem idxRune_lo (x : Nat) (n : Int) (hx : x < 128) (hn : n = if x = 47 then 0 else if x = 0 then 1 else -1) (w : World) : Calls Tryz.prog 129 #[.string slz, .int .i32 x] w fun e w' => e = .returned (.int .i64 n) ∧ w' = w := by
 refine (Tryz.strings_IndexRune_ascii slz x w (by omega) (by omega)).mono ?_
 rintro e w' ⟨rfl, hw⟩
 refine ⟨?_, hw⟩
 have h : ∀ x : Fin 128, Lib.indexByte [47, 0] (UInt8.ofNat x.1) = if x.1 = 47 then 0 else if x.1 = 0 then 1 else -1 := by decide
 rw [hn, slz_list]
 congr 2
 exact h ⟨x, hx⟩
theorem SlzFree.more {s : ByteArray} {i k : Nat} (h : SlzFree s i) (hk : ∀ j (hj : j < s.size), i ≤ j → j < i + k → s[j].toNat ≠ 47 ∧ s[j].toNat ≠ 0) : SlzFree s (i + k) := by
 intro j hj hlt
 rcases Nat.lt_or_ge j i with q | q
 · exact h j hj q
 · exact hk j hj q hlt
set_option maxHeartbeats 1000000 in
theorem idxAny_short (s : ByteArray) (h8 : s.size ≤ 8) (w : World) : Calls Tryz.prog 100 #[.string s, .string slz] w (AnyPost s w) := by
 have hemp : slz.toList.isEmpty = false := by rw [Lib.toList_data]; rfl
 have hsl : slz.size = 2 := rfl
 have h8z : decide ((8 : Int) < (s.size : Int)) = false := decide_eq_false (by omega)
 go_enter Tryz.func100, Tryz.ntmps100
 go_wp2_with (go_at_call 130; refine (Tryz.strings_shouldUseASCIISet _ _).mono ?_; rintro e w' ⟨rfl, hw⟩; rw [hw, h8z])
 go_loopg [9, 10] s.size (fun g _ _ wx => ∃ i : Nat, i + g = s.size ∧ Below w.heap.size w wx ∧ wx.heap[w.heap.size]? = some (.stringIter s i) ∧ SlzFree s i)
 case atStart => exact ⟨0, by omega, (Below.refl _ _).alloc (Nat.le_refl _) _, World.iter_heap w s 0, fun _ _ h => absurd h (Nat.not_lt_zero _)⟩
 case round =>
  obtain ⟨i, hig, hbe, hit, hno⟩ := hrel
  have hsz : w.heap.size < wr.heap.size := (Array.getElem?_eq_some_iff.1 hit).1
  have HI := Lib.hid hit
  have HN := Lib.hid hno
  clear hit hno
  cases gk with
  | zero =>
   obtain rfl : i = s.size := by omega
   have hnx := fun ty => Lib.run_next_end_at (P := Tryz.prog) wr w.heap.size s s.size ty HI.out (by omega)
   go_wp2
   go_ret
   exact ⟨-1, rfl, by rw [anySlz_false HN.out]; rfl, hbe⟩
  | succ g =>
   have hi : i < s.size := by omega
   have hnx := fun ty => Lib.run_next_any_at (P := Tryz.prog) wr w.heap.size s i ty HI.out hi
   have hb2 : Below w.heap.size w (wr.iterAt w.heap.size s (i + (Utf8.decode s i).2)) := Lib.below_iterAt hbe (Nat.le_refl _) _ _
   have hh2 := Lib.iterAt_heap wr w.heap.size s i (i + (Utf8.decode s i).2) HI.out
   have hz2 := Lib.iterAt_size wr w.heap.size s (i + (Utf8.decode s i).2)
   generalize wr.iterAt w.heap.size s (i + (Utf8.decode s i).2) = w2 at *
   by_cases hx : s[i].toNat < 128
   · have hd := decode_ascii s i hi hx
     rw [hd] at hnx
     rw [hd] at hh2
     obtain ⟨x, hxx⟩ : ∃ x : Nat, s[i].toNat = x := ⟨_, rfl⟩
     rw [hxx] at hnx hx
     have HX := Lib.hid hxx
     have H2 := Lib.hid hh2
     clear hd hxx hh2 hz2
     by_cases hq : x = 47 ∨ x = 0
     · obtain ⟨n, hn, hn0⟩ : ∃ n : Int, n = (if x = 47 then 0 else if x = 0 then 1 else -1) ∧ 0 ≤ n := by
        refine ⟨_, rfl, ?_⟩
        rcases hq with rfl | rfl <;> decide
       have HQ := Lib.hid hq
       have HNN := Lib.hid hn
       clear hq hn
       go_wp2_with (go_at_call 129; refine (idxRune_lo x n hx HNN.out _).mono ?_; rintro e w' ⟨rfl, hw⟩; rw [hw])
       go_ret
       refine ⟨i, rfl, ?_, hb2⟩
       rw [anySlz_true hi (by rw [HX.out]; exact HQ.out)]
       simp
     · obtain ⟨n, hn, hn0⟩ : ∃ n : Int, n = (if x = 47 then 0 else if x = 0 then 1 else -1) ∧ n < 0 := by
        refine ⟨_, rfl, ?_⟩
        rw [if_neg (by omega), if_neg (by omega)]; decide
       have HQ := Lib.hid hq
       have HNN := Lib.hid hn
       clear hq hn
       go_wp2_with (go_at_call 129; refine (idxRune_lo x n hx HNN.out _).mono ?_; rintro e w' ⟨rfl, hw⟩; rw [hw])
       go_roundg g
       case measure => omega
       case rel =>
        refine ⟨i + 1, by omega, hb2, H2.out, HN.out.more fun j hj h1 h2 => ?_⟩
        obtain rfl : j = i := by omega
        have := HQ.out
        rw [HX.out]
        omega
   · have hs := decode_skip s i hi (by omega)
     have hd := decode_high s i hi (by omega)
     generalize (Utf8.decode s i).1 = r at *
     generalize (Utf8.decode s i).2 = k at *
     obtain ⟨hs1, hs2⟩ := hs
     obtain ⟨hd1, hd2⟩ := hd
     have H2 := Lib.hid hh2
     have HS := Lib.hid hs2
     clear hh2 hz2 hs2
     go_wp2_with (go_at_call 129; refine (idxRune_hi r hd1 _).mono ?_; rintro e w3 ⟨rfl, hb3⟩)
     go_roundg (s.size - (i + k))
     case measure => omega
     case rel =>
      refine ⟨i + k, by omega, hb2.trans (hb3.mono hb2.size), ?_, HN.out.more fun j hj h1 h2 => ?_⟩
      · rw [hb3.block _ (Array.getElem?_eq_some_iff.1 H2.out).1]; exact H2.out
      · have := HS.out j hj h1 h2; omega
theorem indexAny_slz : ∀ l : List UInt8, decide (0 ≤ Lib.indexAny l [47, 0]) = anySlz l
 | [] => rfl
 | b :: l => by
  have ih := indexAny_slz l
  have hge := Lib.indexAny_ge [47, 0] l
  unfold Lib.indexAny anySlz
  unfold anySlz at ih
  rw [List.any_cons, ← ih]
  by_cases hb : (List.contains [47, 0] b) = true
  · rw [if_pos hb]
    have : (b == 47 || b == 0) = true := by simpa using hb
    rw [this]
    simp
  · rw [if_neg hb]
    have : (b == 47 || b == 0) = false := by simpa using hb
    rw [this, Bool.false_or]
    split
    · rename_i h
      have : Lib.indexAny l [47, 0] = -1 := by simpa using h
      rw [this]
    · rename_i h
      have : Lib.indexAny l [47, 0] ≠ -1 := by simpa using h
      simp only [decide_eq_decide]
      omega
set_option maxHeartbeats 1000000 in
theorem containsAny (s : ByteArray) (h : s.size < 4294967281) (w : World) : Calls Tryz.prog 67 #[.string s, .string slz] w fun e w' => e = .returned (.bool (anySlz s.data.toList)) ∧ Below w.heap.size w w' := by
 have hall : Calls Tryz.prog 100 #[.string s, .string slz] w (AnyPost s w) := by
  by_cases h8 : s.size ≤ 8
  · exact idxAny_short s h8 w
  · refine (Tryz.strings_IndexAny_long (fun w => by kernel_rfl) s slz w (by decide) (by omega) h (by decide) (by rw [slz_list]; intro j b; match j with | 0 => simp; rintro rfl; decide | 1 => simp; rintro rfl; decide | j + 2 => simp)).mono ?_
    rintro e w' ⟨rfl, hw⟩
    exact ⟨_, rfl, by rw [slz_list]; exact indexAny_slz _, by rw [hw]; exact ((Below.refl _ _).alloc (Nat.le_refl _) _).alloc (by simp) _⟩
 have H := Lib.hid hall
 clear hall
 go_enter Tryz.func67, Tryz.ntmps67
 go_wp2_with fail
 refine H.out.mono ?_
 rintro e w' ⟨n, rfl, hn, hb⟩
 have HN := Lib.hid hn
 clear hn
 go_wp2
 go_ret
 exact ⟨by rw [← HN.out]; rfl, hb⟩
def nameOk (l : List UInt8) : Bool := !l.isEmpty && (decide (l.length ≤ 40) && (l != [46] && (l != [46, 46] && !anySlz l)))
def NamePost (s : ByteArray) (w : World) (e : Ending) (w' : World) : Prop := e = .returned (.bool (nameOk s.data.toList)) ∧ Below w.heap.size w w'
theorem NamePost.of {s : ByteArray} {w w' : World} {b : Bool} {e : Ending} (he : e = .returned (.bool b)) (h : nameOk s.data.toList = b) (hb : Below w.heap.size w w') : NamePost s w e w' := ⟨by rw [h]; exact he, hb⟩
theorem nameOk_of {s : ByteArray} (h1 : 1 ≤ s.size) (h2 : s.size ≤ 40) (h3 : (s.toList == [46]) = false) (h4 : (s.toList == [46, 46]) = false) : nameOk s.data.toList = !anySlz s.data.toList := by
 rw [Lib.toList_data] at h3 h4
 have hl : s.data.toList.length = s.size := (Lib.size_eq s).symm
 have he : s.data.toList.isEmpty = false := by
  cases h : s.data.toList with
  | nil => rw [h, List.length_nil] at hl; omega
  | cons _ _ => rfl
 unfold nameOk
 rw [he, hl, bne, bne, h3, h4]
 simp [h2]
theorem nameOk_not {s : ByteArray} (h : s.size < 1 ∨ 40 < s.size ∨ (s.toList == [46]) = true ∨ (s.toList == [46, 46]) = true) : nameOk s.data.toList = false := by
 rw [Lib.toList_data] at h
 have hl : s.data.toList.length = s.size := (Lib.size_eq s).symm
 unfold nameOk
 rw [hl, bne, bne]
 rcases h with h | h | h | h
 · have : s.data.toList = [] := List.eq_nil_of_length_eq_zero (by omega)
   simp [this]
 · simp [Nat.not_le.2 h]
 · rw [h]; simp
 · rw [h]; simp
set_option maxHeartbeats 1000000 in
theorem name_any (s : ByteArray) (w : World) : Calls Tryz.prog 45 #[.string s] w (NamePost s w) := by
 by_cases h1 : s.size < 1
 · have e0 : s.toList = [] := by rw [Lib.toList_data]; exact List.eq_nil_of_length_eq_zero (by rw [← Lib.size_eq]; omega)
   have hr := nameOk_not (s := s) (.inl h1)
   have HR := Lib.hid hr
   clear hr
   go_enter Tryz.func45, Tryz.ntmps45
   go_wp2_with fail
   go_ret
   exact NamePost.of rfl HR.out (Below.refl _ _)
 · have e0 : s.toList.isEmpty = false := by
    rw [Lib.toList_data]
    cases h : s.data.toList with
    | nil => have := Lib.size_eq s; rw [h, List.length_nil] at this; omega
    | cons _ _ => rfl
   by_cases h2 : 40 < s.size
   · have e2 : decide ((s.size : Int) ≤ 40) = false := decide_eq_false (by omega)
     have hr := nameOk_not (s := s) (.inr (.inl h2))
     have HR := Lib.hid hr
     clear hr
     go_enter Tryz.func45, Tryz.ntmps45
     go_wp2_with fail
     go_ret
     exact NamePost.of rfl HR.out (Below.refl _ _)
   · have e2 : decide ((s.size : Int) ≤ 40) = true := decide_eq_true (by omega)
     cases h3 : s.toList == [46] with
     | true =>
      have hr := nameOk_not (s := s) (.inr (.inr (.inl h3)))
      have HR := Lib.hid hr
      clear hr
      go_enter Tryz.func45, Tryz.ntmps45
      go_wp2_with fail
      go_ret
      exact NamePost.of rfl HR.out (Below.refl _ _)
     | false =>
      cases h4 : s.toList == [46, 46] with
      | true =>
       have hr := nameOk_not (s := s) (.inr (.inr (.inr h4)))
       have HR := Lib.hid hr
       clear hr
       go_enter Tryz.func45, Tryz.ntmps45
       go_wp2_with fail
       go_ret
       exact NamePost.of rfl HR.out (Below.refl _ _)
      | false =>
       have hr := nameOk_of (s := s) (by omega) (by omega) h3 h4
       have HR := Lib.hid hr
       clear hr
       go_enter Tryz.func45, Tryz.ntmps45
       go_wp2_with (go_at_call 67; refine (containsAny s (by omega) _).mono ?_; rintro e w' ⟨rfl, hb⟩)
       go_ret
       exact NamePost.of rfl HR.out hb
set_option maxHeartbeats 1000000 in
theorem rname_any (s : ByteArray) (w : World) : Calls Tryz.prog 68 #[.string s] w (NamePost s w) := by
 by_cases h1 : s.size < 1
 · have e1 : decide ((s.size : Int) < 1) = true := decide_eq_true (by omega)
   have hr := nameOk_not (s := s) (.inl h1)
   have HR := Lib.hid hr
   clear hr
   go_enter Tryz.func68, Tryz.ntmps68
   go_wp2_with fail
   go_ret
   exact NamePost.of rfl HR.out (Below.refl _ _)
 · have e1 : decide ((s.size : Int) < 1) = false := decide_eq_false (by omega)
   by_cases h2 : 40 < s.size
   · have e2 : decide ((40 : Int) < (s.size : Int)) = true := decide_eq_true (by omega)
     have hr := nameOk_not (s := s) (.inr (.inl h2))
     have HR := Lib.hid hr
     clear hr
     go_enter Tryz.func68, Tryz.ntmps68
     go_wp2_with fail
     go_ret
     exact NamePost.of rfl HR.out (Below.refl _ _)
   · have e2 : decide ((40 : Int) < (s.size : Int)) = false := decide_eq_false (by omega)
     cases h3 : s.toList == [46] with
     | true =>
      have hr := nameOk_not (s := s) (.inr (.inr (.inl h3)))
      have HR := Lib.hid hr
      clear hr
      go_enter Tryz.func68, Tryz.ntmps68
      go_wp2_with fail
      go_ret
      exact NamePost.of rfl HR.out (Below.refl _ _)
     | false =>
      cases h4 : s.toList == [46, 46] with
      | true =>
       have hr := nameOk_not (s := s) (.inr (.inr (.inr h4)))
       have HR := Lib.hid hr
       clear hr
       go_enter Tryz.func68, Tryz.ntmps68
       go_wp2_with fail
       go_ret
       exact NamePost.of rfl HR.out (Below.refl _ _)
      | false =>
       have hr := nameOk_of (s := s) (by omega) (by omega) h3 h4
       have HR := Lib.hid hr
       clear hr
       go_enter Tryz.func68, Tryz.ntmps68
       go_wp2_with fail
       go_loop [3] (fun i => ∃ k : Nat, k ≤ s.size ∧ i = .int .i64 k ∧ SlzFree s k) (fun i => s.size - (intOf i).toNat)
       case atStart => exact ⟨0, Nat.zero_le _, rfl, fun _ _ h => absurd h (Nat.not_lt_zero _)⟩
       case round =>
        obtain ⟨k, hk, rfl, hno⟩ := hrel
        have HN := Lib.hid hno
        clear hno
        by_cases hlt : k < s.size
        · by_cases q1 : s[k].toNat = 47
          · have f1 : ((s[k].toNat : Int) == 47) = true := by rw [q1]; rfl
            have ha := anySlz_true hlt (.inl q1)
            have HA := Lib.hid ha
            clear ha q1
            go_wp2
            go_ret
            exact NamePost.of rfl (by rw [HR.out, HA.out]; rfl) (Below.refl _ _)
          · have f1 : ((s[k].toNat : Int) == 47) = false := beq_eq_false_iff_ne.2 (by omega)
            by_cases q2 : s[k].toNat = 0
            · have f2 : ((s[k].toNat : Int) == 0) = true := by rw [q2]; rfl
              have ha := anySlz_true hlt (.inr q2)
              have HA := Lib.hid ha
              clear ha q2
              go_wp2
              go_ret
              exact NamePost.of rfl (by rw [HR.out, HA.out]; rfl) (Below.refl _ _)
            · have f2 : ((s[k].toNat : Int) == 0) = false := beq_eq_false_iff_ne.2 (by omega)
              go_wp2
              go_round
              case rel =>
               refine ⟨k + 1, by omega, by go_num, HN.out.more fun j hj h1 h2 => ?_⟩
               obtain rfl : j = k := by omega
               exact ⟨q1, q2⟩
              case measure => simp [intOf]; omega
        · obtain rfl : k = s.size := by omega
          go_wp2
          go_ret
          exact NamePost.of rfl (by rw [HR.out, anySlz_false HN.out]; rfl) (Below.refl _ _)
end Go.Proofs.YtbaapjlmpmpocaaGreatDoor
namespace Go.Proofs.YtbaapjlmpmpocaaGreatDoor
open Go.RowKit
structure EntC9 where
 name : ByteArray
 kind : Int
 id : Id
def entL (x : EntC9) : List Value := .string x.name :: .int .i64 x.kind :: idL x.id
def entC (x : EntC9) : Array Value := (entL x).toArray
def entV (x : EntC9) : Value := .agg (entC x)
theorem entL_len (x : EntC9) : (entL x).length = 34 := by simp [entL, idL_len]
theorem entC_size (x : EntC9) : (entC x).size = 34 := by simp [entC, entL_len]
theorem entC_id (x : EntC9) : idC x.id = (entC x).extract 2 (2 + (idC x.id).size) := by
 apply Array.ext'
 simp [entC, entL, idC, idL_len, List.take_of_length_le]
theorem info_ent : (Tryz.prog.info? 79).map (·.size) = some 34 := by kernel_rfl
def above (a b : ByteArray) : Bool := !Op.bytesLess a.toList b.toList && !(a.toList == b.toList)
def kindOk (k : Int) : Bool := decide (1 ≤ k) && decide (k ≤ 4)
def entE (e0 : Int) (x : EntC9) (was : ByteArray) (first : Bool) : Int :=
 note (note (note (note e0 (kindOk x.kind) 3) (nameOk x.name.data.toList) 7) (!isNone x.id) 1) (first || above x.name was) 18
theorem load_ent_id {w : World} {q : Nat} {x : EntC9} (h : Blk w q 79 (entC x)) : (Instr.loadAt 30 (.pointer (some ⟨q, 2, none⟩))).run Tryz.prog w = .ok (idV x.id) w :=
 run_loadAt_blk (P := Tryz.prog) h 2 (idC x.id) Tryz.underlying30 rfl (by rw [idC_size]; exact info42) (entC_id x)
theorem load_ent {w : World} {q : Nat} {t : TypeId} {x : EntC9} (h : Blk w q t (entC x)) : (Instr.loadAt 79 (.pointer (some ⟨q, 0, none⟩))).run Tryz.prog w = .ok (entV x) w :=
 run_loadAt_blk (P := Tryz.prog) h 0 (entC x) Tryz.underlying79 rfl (by rw [entC_size]; exact info_ent) (by simp)
def EntPost (g : Nat) (t : TypeId) (b p : Value) (e : Int) (w : World) (r : Ending) (w' : World) : Prop := r = .returned (.tuple #[]) ∧ Blk w' g t #[b, p, .int .i64 e] ∧ Keep (Only g) w w'
set_option maxHeartbeats 2000000 in
theorem entry_any (g : Nat) (t : TypeId) (b p : Value) (e0 : Int) (x : EntC9) (was : ByteArray) (first : Bool) (w : World) (hb : Blk w g t #[b, p, .int .i64 e0]) :
    Calls Tryz.prog 58 #[.pointer (some ⟨g, 0, none⟩), entV x, .string was, .bool first] w (EntPost g t b p (entE e0 x was first) w) := by
 have lg := hb.lt
 obtain ⟨k0, hk0⟩ : ∃ k : Bool, kindOk x.kind = k := ⟨_, rfl⟩
 have hb1 := hb.alloc (.cells (entC x) 79)
 have hq1 : Blk (w.alloc (.cells (entC x) 79)) w.heap.size 79 (entC x) := Blk.new _ _ _
 have hk1 : Keep (Only g) w (w.alloc (.cells (entC x) 79)) := (Keep.refl _ _).alloc _
 have hne : w.heap.size ≠ g := by omega
 unfold entE
 rw [hk0]
 by_cases h1 : 1 ≤ x.kind
 all_goals by_cases h2 : x.kind ≤ 4
 all_goals try (exfalso; omega)
 all_goals cases first
 all_goals
  simp only [kindOk, h1, h2, decide_true, decide_false, Bool.and_true, Bool.and_false, Bool.and_self] at hk0
  subst hk0
  try have d1 := decide_eq_false h1
  try have d2 := decide_eq_false h2
  go_enter Tryz.func58, Tryz.ntmps58
  go_wp2_with (first | (refine wpList_boxed rfl rfl (cs := entC x) rfl ?_; generalize w.alloc (.cells (entC x) 79) = w1 at *; generalize w.heap.size = q at *; have a1 := hq1.cell 1; have a2 := hq1.cell 0; simp [entC, entL] at a1 a2))
  refine (must_any g t b p e0 3 _ _ hb1).mono ?_
  rintro r w2 ⟨rfl, hb2, hkk2⟩
  have hq2 := hq1.keep hkk2 hne
  have hk2 := hk1.trans hkk2
  have b2 := hq2.cell 0
  simp [entC, entL] at b2
  clear hkk2 hk1 hq1 hb1 a1 a2
  go_wp2_with fail
  refine (name_any x.name _).mono ?_
  rintro r w3 ⟨rfl, hbe3⟩
  have hb3 := hb2.below hbe3 hb2.lt
  have hq3 := hq2.below hbe3 hq2.lt
  have hk3 := hk2.trans (Below.keep_ hbe3 _)
  clear hbe3 hk2 hq2 hb2 b2
  go_wp2_with fail
  refine (must_any g t b p _ 7 _ _ hb3).mono ?_
  rintro r w4 ⟨rfl, hb4, hkk4⟩
  have hq4 := hq3.keep hkk4 hne
  have hk4 := hk3.trans hkk4
  clear hkk4 hk3 hq3 hb3
  go_wp2_with (first | (refine wpList_load rfl rfl rfl (load_ent_id hq4) ?_))
  refine (none_any x.id _).mono ?_
  rintro r w5 ⟨rfl, hkk5⟩
  have hb5 := hb4.keep hkk5 (fun q => q)
  have hq5 := hq4.keep hkk5 (fun q => q)
  have hk5 := hk4.trans (hkk5.mono (fun _ _ q => q.elim))
  clear hkk5 hk4 hq4 hb4
  go_wp2_with fail
  refine (must_any g t b p _ 1 _ _ hb5).mono ?_
  rintro r w6 ⟨rfl, hb6, hkk6⟩
  have hq6 := hq5.keep hkk6 hne
  have hk6 := hk5.trans hkk6
  clear hkk6 hk5 hq5 hb5
  have b6 := hq6.cell 0
  simp [entC, entL] at b6
  go_wp2_with fail
  refine (must_any g t b p _ 18 _ _ hb6).mono ?_
  rintro r w7 ⟨rfl, hb7, hkk7⟩
  have hk7 := hk6.trans hkk7
  go_wp2_with fail
  go_end0
  refine ⟨rfl, ?_, hk7⟩
  first | exact hb7 | (simp only [Bool.false_or, above]; exact hb7)
end Go.Proofs.YtbaapjlmpmpocaaGreatDoor
namespace Go.Proofs.YtbaapjlmpmpocaaGreatDoor
open Go.RowKit
def entB (x : EntC9) : List UInt8 := be 1 x.kind.toNat ++ (be 1 x.name.size ++ x.name.data.toList) ++ x.id.1
def encGo : Int → ByteArray → Bool → List UInt8 → List EntC9 → List UInt8 × Int
 | e, _, _, bs, [] => (bs, e)
 | e, was, first, bs, x :: l => if entE e x was first = 0 then encGo 0 x.name false (bs ++ entB x) l else (bs, entE e x was first)
def encTree (l : List EntC9) : List UInt8 × Int :=
 let r := encGo (note 0 (decide ((l.length : Int) ≤ 512)) 4) ByteArray.empty true [] l
 (doneL r.1 r.2, r.2)
def entLs (l : List EntC9) : List Value := l.flatMap entL
theorem entLs_len (l : List EntC9) : (entLs l).length = l.length * 34 := by
 induction l with
 | nil => rfl
 | cons x l ih => simp only [entLs, List.flatMap_cons, List.length_append, entL_len, List.length_cons] at *; omega
theorem entLs_at (l : List EntC9) (k j : Nat) (x : EntC9) (hk : l[k]? = some x) (u : Value) (hj : (entL x)[j]? = some u) : (entLs l)[k * 34 + j]? = some u := by
 induction l generalizing k with
 | nil => simp at hk
 | cons y l ih =>
  have hj' : j < 34 := by
   rcases Nat.lt_or_ge j 34 with q | q
   · exact q
   · rw [List.getElem?_eq_none (by rw [entL_len]; exact q)] at hj; cases hj
  cases k with
  | zero =>
   simp only [List.getElem?_cons_zero, Option.some.injEq] at hk
   subst hk
   simp only [entLs, List.flatMap_cons, Nat.zero_mul, Nat.zero_add]
   rw [List.getElem?_append_left (by rw [entL_len]; exact hj')]
   exact hj
  | succ k =>
   simp only [List.getElem?_cons_succ] at hk
   have := ih k hk
   simp only [entLs, List.flatMap_cons]
   rw [List.getElem?_append_right (by rw [entL_len]; omega), entL_len]
   rw [show (k + 1) * 34 + j - 34 = k * 34 + j by omega]
   exact this
theorem entL_one (x : EntC9) : ∀ v ∈ (entC x).toList, v.oneCell' = true := by
 intro v hv
 simp only [entC, entL, List.mem_cons] at hv
 rcases hv with rfl | rfl | hv
 · rfl
 · rfl
 · exact idL_one _ v hv
theorem load_ent_at {w : World} {l : List EntC9} {k : Nat} {x : EntC9} {ad : Addr} (hc : ∀ j u, (entLs l)[j]? = some u → w.cell? (ad.add j) = some u) (hk : l[k]? = some x) :
    (Instr.loadAt 79 (.pointer (some (ad.add (k * 34))))).run Tryz.prog w = .ok (entV x) w :=
 run_loadAt_cells (P := Tryz.prog) w _ (entC x) Tryz.underlying79 rfl (by rw [entC_size]; exact info_ent) (fun j v hj => by rw [add_of_add]; exact hc _ _ (entLs_at l k j x hk v hj))
def EncPost (l : List EntC9) (w : World) (r : Ending) (w' : World) : Prop := ∃ A c, r = .returned (.tuple #[.slice A (encTree l).1.length c, .int .i64 (encTree l).2]) ∧ Own w' w.heap.size 5 1 A (encTree l).1.length c ((encTree l).1.map bv) ∧ Below w.heap.size w w'
theorem note_zero {e0 e : Int} {is : Bool} (he : e ≠ 0) : note e0 is e = 0 ↔ e0 = 0 ∧ is = true := by
 unfold note
 split
 · split <;> simp_all
 · simp_all
theorem entE_zero {e0 : Int} {x : EntC9} {was : ByteArray} {first : Bool} (h : entE e0 x was first = 0) : e0 = 0 ∧ kindOk x.kind = true ∧ nameOk x.name.data.toList = true ∧ isNone x.id = false ∧ (first || above x.name was) = true := by
 unfold entE at h
 rw [note_zero (by decide), note_zero (by decide), note_zero (by decide), note_zero (by decide)] at h
 obtain ⟨⟨⟨⟨h0, h1⟩, h2⟩, h3⟩, h4⟩ := h
 exact ⟨h0, h1, h2, by simpa using h3, h4⟩
theorem nameOk_le {l : List UInt8} (h : nameOk l = true) : l.length ≤ 40 := by
 unfold nameOk at h
 simp only [Bool.and_eq_true, decide_eq_true_eq] at h
 exact h.2.1
theorem kindOk_le {k : Int} (h : kindOk k = true) : 1 ≤ k ∧ k ≤ 4 := by
 unfold kindOk at h
 simpa using h
theorem enc_end {l : List EntC9} {w w4 w5 : World} {q : Nat} {bs : List UInt8} {e2 : Int} {A : Option Addr} {c : Nat} (hq : w.heap.size = q)
    (henc : encGo (note 0 (decide ((l.length : Int) ≤ 512)) 4) ByteArray.empty true [] l = (bs, e2)) (ho : Own w5 q 5 1 A (doneL bs e2).length c ((doneL bs e2).map bv)) (hk4 : Kept q [5] [] w w4) (hk5 : Keep Nothing w4 w5) :
    EncPost l w (.returned (.tuple #[.slice A (doneL bs e2).length c, .int .i64 e2])) w5 := by
 have h : encTree l = (doneL bs e2, e2) := by unfold encTree; rw [henc]
 subst hq
 refine ⟨A, c, by rw [h], by rw [h]; exact ho, ?_⟩
 exact (hk4.lift (Kept.ofKeep (base := w.heap.size) (E := []) (G := []) hk5 (by unfold Nothing; simp)) (Nat.le_refl _) (by simp) (by simp)).all
set_option maxHeartbeats 4000000 in
set_option maxRecDepth 100000 in
theorem encodeTree_any (l : List EntC9) (A : Option Addr) (c : Nat) (w : World) (hr : Reads w w.heap.size 34 A l.length (entLs l)) (hl : l.length ≤ 1000000) :
    Calls Tryz.prog 37 #[.slice A l.length c] w (EncPost l w) := by
 have hbz : Blk (w.alloc (.cells #[.slice none 0 0, .int .i64 0, .int .i64 0] 103)) w.heap.size 103 #[.slice none 0 0, .int .i64 0, .int .i64 0] := Blk.new _ _ _
 go_enter Tryz.func37, Tryz.ntmps37
 go_wp2_with fail
 have hk0 : Kept w.heap.size [5] [] w (w.alloc (.cells #[.slice none 0 0, .int .i64 0, .int .i64 0] 103)) := (Kept.refl _ _ _ _).alloc _
 refine (must_any w.heap.size _ _ _ 0 4 _ _ hbz).mono ?_
 rintro r w1 ⟨rfl, hb1, hkk1⟩
 have hk1 : Kept w.heap.size [5] [] w w1 := hk0.lift (Kept.ofKeep (base := w.heap.size) (E := []) (G := [w.heap.size]) hkk1 (by unfold Only; simp)) (Nat.le_refl _) (by simp) (by simp)
 have hw1 : Wt w1 w.heap.size w.heap.size [] (note 0 (decide ((l.length : Int) ≤ 512)) 4) := ⟨none, 0, hb1, Own.nil _ _ _ _, Nat.le_refl _⟩
 clear hkk1 hk0 hbz hb1
 generalize hq : w.heap.size = q at *
 have HQ := Lib.hid hq
 have hqle : q ≤ w.heap.size := by omega
 clear hq
 go_wp2_with fail
 go_loopw [5, 19] (fun was i wr => ∃ k bs e ws, k ≤ l.length ∧ i = .int .i64 k ∧ was = .string ws ∧ encGo e ws ((k : Int) == 0) bs (l.drop k) = encGo (note 0 (decide ((l.length : Int) ≤ 512)) 4) ByteArray.empty true [] l ∧ Wt wr q q bs e ∧ Kept q [5] [] w wr ∧ bs.length ≤ k * 74) (fun _ i _ => l.length - (intOf i).toNat)
 case atStart => exact ⟨0, [], _, ByteArray.empty, Nat.zero_le _, rfl, rfl, rfl, hw1, hk1, Nat.zero_le _⟩
 case round =>
  obtain ⟨k, bs, e, ws, hk, rfl, rfl, henc, hwt, hkp, hbl⟩ := hrel
  have HE := Lib.hid henc
  clear henc
  have hz := hkp.size
  by_cases hlt : k < l.length
  · obtain ⟨x, hx⟩ : ∃ x, l[k]? = some x := ⟨_, List.getElem?_eq_getElem hlt⟩
    have hdr : l.drop k = x :: l.drop (k + 1) := by rw [List.drop_eq_getElem_cons hlt]; congr 1; rw [List.getElem?_eq_getElem hlt] at hx; simpa using hx
    obtain ⟨ad, hA, hadB, hcells⟩ := hr.2 (by omega)
    have hrw := hr.below (hkp.below (B := q) (Nat.le_refl _) (by rw [HQ.out]; exact Nat.le_refl _) (by simp))
    subst hA
    have HX := Lib.hid hx
    have HD := Lib.hid hdr
    have HC := Lib.hid (show ∀ j u, (entLs l)[j]? = some u → wr.cell? (ad.add j) = some u from fun j u hj => by obtain ⟨ad', e', _, hc⟩ := hrw.2 (by omega); injection e' with e'; subst e'; exact hc j u hj)
    clear hx hdr hcells hrw
    go_wp2_with (first | (refine wpList_load rfl rfl rfl (load_ent_at HC.out HX.out) ?_) | (refine wpList_storeBlk rfl rfl (vs := entC x) rfl rfl (Blk.new _ _ _) (by rw [entC_size]; rfl) (by rw [entC_size]; exact info_ent) (entL_one x) ?_; intro w2 hx2 hkk2 hz2))
    go_frame
    have hkk := Keep.ofNew (S := Nothing) hkk2
    obtain ⟨A2, c2, hb, ho, hbg⟩ := hwt
    have hb2 := hb.keep hkk (fun q => q)
    have hne : wr.heap.size ≠ q := by have := hb.lt; omega
    have hk2 : Kept q [5] [] w w2 := hkp.lift (Kept.ofKeep (base := q) (E := []) (G := []) hkk (by unfold Nothing; simp)) (Nat.le_refl _) (by simp) (by simp)
    generalize wr.heap.size = p at *
    refine wp_region_still_tail 7 (by kernel_rfl) (by kernel_rfl) ?_
    simp only [List.take_succ_cons, List.take_zero, List.drop_succ_cons, List.drop_zero]
    still_step
    still_step
    still_step
    refine still_load rfl rfl rfl (load_ent hx2.drew) ?_
    go_frame
    still_step
    still_step
    still_step
    refine wpStill_nil ?_
    change wpList _ _ _ _ _ w2.drew
    have hb2' := hb2.drew
    have hx2' := hx2.drew
    have ho2' : Own w2.drew q 5 1 A2 bs.length c2 (bs.map bv) := (ho.kept (b' := q) (E := []) (G := []) (Kept.ofKeep hkk (by unfold Nothing; simp)) (by simp) (by simp)).drew
    have hk2' := hk2.drew
    generalize w2.drew = w3 at *
    clear hb2 hx2 hk2 hkk hb ho hkk2 hz2 hkp HC
    go_wp2_with fail
    refine (entry_any q _ _ _ e x ws _ _ hb2').mono ?_
    rintro r w4 ⟨rfl, hb4, hkk4⟩
    have hx4 := hx2'.keep hkk4 hne
    have hkq4 : Kept q [] [q] w3 w4 := Kept.ofKeep hkk4 (by unfold Only; simp)
    have ho4 := ho2'.kept hkq4 (by simp) (by intro g hg; simp at hg; subst hg; exact ⟨_, _, hb2', by decide⟩)
    have hk4 := hk2'.lift hkq4 (Nat.le_refl _) (by simp) (by simp [HQ.out])
    have HE2 := Lib.hid (show encGo e ws ((k : Int) == 0) bs (l.drop k) = _ from by rw [HD.out])
    obtain ⟨e2, he2⟩ : ∃ e2, entE e x ws ((k : Int) == 0) = e2 := ⟨_, rfl⟩
    rw [he2] at hb4
    clear hkk4 hkq4 ho2' hk2' hx2' hb2'
    by_cases h0 : e2 = 0
    · subst h0
      obtain ⟨name, kind, id⟩ := x
      obtain ⟨_, z1, z2, _, _⟩ := entE_zero he2
      have z3 := nameOk_le z2
      rw [← Lib.size_eq] at z3
      obtain ⟨z4, z5⟩ := kindOk_le z1
      obtain ⟨kn, hkn⟩ := Int.eq_ofNat_of_zero_le (show 0 ≤ kind by simp at z4; omega)
      simp only at z4 z5 z3
      subst hkn
      have HG := HE2.out
      simp only [encGo, he2, if_true] at HG
      rw [HE.out] at HG
      have HG2 := Lib.hid HG
      have d2 := hb4.cell 2
      have x1 := hx4.cell 1
      simp [entC, entL] at d2 x1
      have hz4 := hk4.size
      have lq := hb4.lt
      clear z1 z2 he2 HG HE2 HE
      go_wp2_with fail
      refine (wnumber_any 1 kn (by omega) q q bs 0 _ ⟨_, _, hb4, ho4, Nat.le_refl _⟩ (by omega) (by omega)).mono ?_
      rintro r w5 ⟨rfl, hw5, hk5⟩
      have hx5 := hk5.blk hx4 (by simp; exact hne) (by decide)
      have hk5' := hk4.lift hk5 (Nat.le_refl _) (by simp) (by simp [HQ.out])
      have x5 := hx5.cell 0
      simp [entC, entL] at x5
      have hz5 := hk5'.size
      clear hk5 hx4 hk4 d2 x1 hb4 ho4 hz4
      go_wp2_with fail
      refine (wtext_any 1 name (by omega) q q _ 0 _ hw5 (by simp [be_len]; omega) (by omega)).mono ?_
      rintro r w6 ⟨rfl, hw6, hk6⟩
      have hx6 := hk6.blk hx5 (by simp; exact hne) (by decide)
      have hk6' := hk5'.lift hk6 (Nat.le_refl _) (by simp) (by simp [HQ.out])
      have hz6 := hk6'.size
      clear hk6 hx5 hk5' x5 hw5 hz5
      go_wp2_with (first | (refine wpList_load rfl rfl rfl (load_ent_id hx6) ?_))
      refine (wid_any id q q _ 0 _ hw6 (by simp only [List.length_append, be_len, ← Lib.size_eq]; omega) (by omega)).mono ?_
      rintro r w7 ⟨rfl, hw7, hk7⟩
      have hx7 := hk7.blk hx6 (by simp; exact hne) (by decide)
      have hk7' := hk6'.lift hk7 (Nat.le_refl _) (by simp) (by simp [HQ.out])
      have x7 := hx7.cell 0
      simp [entC, entL] at x7
      clear hk7 hx6 hk6' hw6 hz6
      go_wp2_with fail
      go_roundw
      case rel =>
       refine ⟨k + 1, _, 0, name, by omega, by go_num, rfl, ?_, hw7, hk7', ?_⟩
       · rw [HG2.out]
         simp only [entB, Int.toNat_natCast, List.append_assoc]
         rw [show (((k + 1 : Nat) : Int) == 0) = false from beq_eq_false_iff_ne.2 (by omega)]
       · simp only [List.length_append, be_len, ← Lib.size_eq, id.2]; omega
      case measure => simp [intOf]; omega
    · have h01 : (e2 != 0) = true := by simpa using h0
      have d2 := hb4.cell 2
      simp at d2
      have HG := HE2.out
      simp only [encGo, he2, if_neg h0] at HG
      rw [HE.out] at HG
      have HG2 := Lib.hid HG
      clear he2 HG HE2 HE
      go_wp2_with fail
      refine (wdone_any q q bs e2 _ ⟨_, _, hb4, ho4, Nat.le_refl _⟩).mono ?_
      rintro r w5 ⟨A5, c5, rfl, ho5, hk5⟩
      go_wp2_with fail
      go_ret2
      exact enc_end HQ.out HG2.out ho5 hk4 hk5
  · have hk' : k = l.length := by omega
    have HG := HE.out
    rw [hk', List.drop_length] at HG
    have HG2 := Lib.hid (show _ = (bs, e) from HG.symm)
    clear HG HE hk'
    go_wp2_with fail
    refine (wdone_any q q bs e _ hwt).mono ?_
    rintro r w5 ⟨A5, c5, rfl, ho5, hk5⟩
    go_wp2_with fail
    go_ret2
    exact enc_end HQ.out HG2.out ho5 hkp hk5
end Go.Proofs.YtbaapjlmpmpocaaGreatDoor
