/- Contract of codec.Name (and of strings.IndexRune, IndexAny, ContainsAny at the two bytes that it asks for). No statement of the seat is proved here. -/
import Derived.Test.YtmlmbkelpjmafaaGreatPT01
import Derived.Test.YtmlmbkelpjmafaaGreatShelf
import Derived.Lib.OthersKept
import Derived.Laws.RangeAny
import Derived.Deep.LoopGhost
namespace Go.Proofs.YtmlmbkelpjmafaaGreat
open Go.RowKit
def slz : ByteArray := ⟨#[47, 0]⟩
theorem slz_list : slz.data.toList = [47, 0] := rfl
theorem decode_skip (s : ByteArray) (pos : Nat) (h : pos < s.size) (ha : 128 ≤ (s[pos]'h).toNat) :
    pos + (Utf8.decode s pos).2 ≤ s.size ∧ ∀ j (hj : j < s.size), pos ≤ j → j < pos + (Utf8.decode s pos).2 → 128 ≤ (s[j]'hj).toNat := by
 have hn : ¬ (s[pos]'h).toNat < 128 := by omega
 have hg : ∀ k (hk : k < s.size), s.get! k = s[k]'hk := fun k hk => get_at s k hk
 have key : ∀ k, (decide (pos + k < s.size) && (s.get! (pos + k)).toNat / 64 == 2) = true → pos + k < s.size ∧ ∀ hk : pos + k < s.size, 128 ≤ (s[pos + k]'hk).toNat := by
  intro k hk
  simp only [Bool.and_eq_true, decide_eq_true_eq, beq_iff_eq] at hk
  refine ⟨hk.1, fun hlt => ?_⟩
  rw [← hg _ hlt]
  omega
 have pin : ∀ j (hj : j < s.size) k (hk : pos + k < s.size), j = pos + k → (∀ hk : pos + k < s.size, 128 ≤ (s[pos + k]'hk).toNat) → 128 ≤ (s[j]'hj).toNat := by
  intro j hj k hk e q
  subst e
  exact q hk
 have one : pos + 1 ≤ s.size ∧ ∀ j (hj : j < s.size), pos ≤ j → j < pos + 1 → 128 ≤ (s[j]'hj).toNat := by
  refine ⟨by omega, fun j hj h1 h2 => ?_⟩
  obtain rfl : j = pos := by omega
  exact ha
 simp only [Utf8.decode, get_at s pos h, hn, if_false]
 split
 · rename_i hc
   simp only [Bool.and_eq_true] at hc
   obtain ⟨a1, b1⟩ := key 1 (by simpa using hc.2)
   split
   · refine ⟨by simp; omega, fun j hj h1 h2 => ?_⟩
     simp at h2
     rcases Nat.lt_or_ge j (pos + 1) with q | q
     · exact one.2 j hj h1 q
     · exact pin j hj 1 a1 (by omega) b1
   · exact one
 · split
   · rename_i hc
     simp only [Bool.and_eq_true] at hc
     obtain ⟨a1, b1⟩ := key 1 (by simpa using hc.1.2)
     obtain ⟨a2, b2⟩ := key 2 (by simpa using hc.2)
     split
     · refine ⟨by simp; omega, fun j hj h1 h2 => ?_⟩
       simp at h2
       rcases Nat.lt_or_ge j (pos + 1) with q | q
       · exact one.2 j hj h1 q
       · rcases Nat.lt_or_ge j (pos + 2) with q2 | q2
         · exact pin j hj 1 a1 (by omega) b1
         · exact pin j hj 2 a2 (by omega) b2
     · exact one
   · split
     · rename_i hc
       simp only [Bool.and_eq_true] at hc
       obtain ⟨a1, b1⟩ := key 1 (by simpa using hc.1.1.2)
       obtain ⟨a2, b2⟩ := key 2 (by simpa using hc.1.2)
       obtain ⟨a3, b3⟩ := key 3 (by simpa using hc.2)
       split
       · refine ⟨by simp; omega, fun j hj h1 h2 => ?_⟩
         simp at h2
         rcases Nat.lt_or_ge j (pos + 1) with q | q
         · exact one.2 j hj h1 q
         · rcases Nat.lt_or_ge j (pos + 2) with q2 | q2
           · exact pin j hj 1 a1 (by omega) b1
           · rcases Nat.lt_or_ge j (pos + 3) with q3 | q3
             · exact pin j hj 2 a2 (by omega) b2
             · exact pin j hj 3 a3 (by omega) b3
       · exact one
     · exact one
theorem encode_two (r : Nat) (h : 128 ≤ r) (h2 : r < 2048) : ∃ a b : UInt8, Utf8.encode (r : Int) = ⟨#[a, b]⟩ ∧ 128 ≤ b.toNat := by
 have hv : Utf8.valid (r : Int) = true := by simp [Utf8.valid]; omega
 refine ⟨UInt8.ofNat (0xC0 + r / 64), UInt8.ofNat (0x80 + r % 64), ?_, ?_⟩
 · simp only [Utf8.encode, hv, if_true, Int.toNat_natCast]
   rw [if_neg (by omega), if_pos (by omega)]
 · simp
   omega
theorem encode_more (r : Nat) (h : 2048 ≤ r) : 3 ≤ (Utf8.encode (r : Int)).size := by
 simp only [Utf8.encode, Int.toNat_natCast]
 by_cases hv : Utf8.valid (r : Int) = true
 · rw [if_pos hv, if_neg (by omega), if_neg (by omega)]
   split <;> simp [ByteArray.size]
 · rw [if_neg hv]
   decide
def MinusOne (w : World) (e : Ending) (w' : World) : Prop := e = .returned (.int .i64 (-1)) ∧ Below w.heap.size w w'
set_option maxHeartbeats 1000000 in
set_option maxRecDepth 100000 in
theorem idxRune_err (w : World) : Calls Tryz.prog 114 #[.string slz, .int .i32 65533] w (MinusOne w) := by
 go_enter Tryz.func114, Tryz.ntmps114
 go_wp2_with fail
 go_loopg [5, 6] 2 (fun g _ _ wx => ∃ i : Nat, i + g = 2 ∧ wx = w.iter slz i)
 case atStart => exact ⟨0, by omega, rfl⟩
 case round =>
  obtain ⟨i, hig, rfl⟩ := hrel
  rcases gk with _ | _ | _ | gk
  · obtain rfl : i = 2 := by omega
    have hnx := fun ty => run_next_end (P := Tryz.prog) w slz 2 ty (by decide)
    go_wp2
    go_ret
    exact ⟨rfl, (Below.refl _ _).alloc (Nat.le_refl _) _⟩
  · obtain rfl : i = 1 := by omega
    have hnx := fun ty => run_next_ascii (P := Tryz.prog) w slz 1 ty (by decide) (by decide)
    have hx : slz[1] = 0 := rfl
    go_wp2
    go_roundg 0
    case measure => omega
    case rel => exact ⟨2, by omega, rfl⟩
  · obtain rfl : i = 0 := by omega
    have hnx := fun ty => run_next_ascii (P := Tryz.prog) w slz 0 ty (by decide) (by decide)
    have hx : slz[0] = 47 := rfl
    go_wp2
    go_roundg 1
    case measure => omega
    case rel => exact ⟨1, by omega, rfl⟩
  · omega
set_option maxHeartbeats 1000000 in
set_option maxRecDepth 100000 in
theorem idxRune_bad (r : Int) (hr : 128 ≤ r) (hne : (r == 65533) = false) (hv : Lib.validRune r = false) (w : World) : Calls Tryz.prog 114 #[.string slz, .int .i32 r] w (MinusOne w) := by
 have h0 : 0 ≤ r := by omega
 have hsl : slz.size = 2 := rfl
 have HV := Lib.hid hv
 clear hv
 go_enter Tryz.func114, Tryz.ntmps114
 go_wp2_with (go_at_call 119; refine (Tryz.utf8_ValidRune _ _).mono ?_; rintro e w' ⟨rfl, hw⟩; rw [hw, HV.out])
 go_ret
 exact ⟨rfl, Below.refl _ _⟩
theorem quiet_add_same {P : Program} {f : FuncId} {args : Array Value} {w : World} {a n : Nat} {v : Value}
    (h : Calls P f args (w.drewN (a + n)) fun e w' => e = .returned v ∧ w' = w.drewN (a + n)) :
    Calls P f args (w.drewN (a + n)) fun e w'' => e = .returned v ∧ ∃ m, w'' = w.drewN (a + m) :=
 h.mono fun _ _ ⟨he, hm⟩ => ⟨he, n, hm⟩
theorem idxByte_end (c : Int) (w : World) : Calls Tryz.prog 118 #[.string (slz.extract 2 2), .int .u8 c] w fun e w' => e = .returned (.int .i64 (-1)) ∧ w' = w := by
 refine (Tryz.strings_IndexByte (slz.extract 2 2) c w).mono ?_
 rintro e w' ⟨rfl, hw⟩
 exact ⟨rfl, hw⟩
set_option maxHeartbeats 1000000 in
set_option maxRecDepth 100000 in
theorem idxRune_two (r : Int) (a b : UInt8) (hr : 128 ≤ r) (hne : (r == 65533) = false) (hv : Lib.validRune r = true) (he : Utf8.encode r = ⟨#[a, b]⟩) (hb : 128 ≤ b.toNat) (w : World) : Calls Tryz.prog 114 #[.string slz, .int .i32 r] w (MinusOne w) := by
 have h0 : 0 ≤ r := by omega
 have hsl : slz.size = 2 := rfl
 have e1 : slz[1].toNat = 0 := rfl
 have e2 : ((⟨#[a, b]⟩ : ByteArray)[1]'(by show 1 < 2; decide)).toNat = b.toNat := rfl
 have e3 : ((0 : Int) != (b.toNat : Int)) = true := by rw [bne_iff_ne]; omega
 have HV := Lib.hid hv
 clear hv
 go_enter Tryz.func114, Tryz.ntmps114
 go_wp2_with (go_at_call 119; refine (Tryz.utf8_ValidRune _ _).mono ?_; rintro e w' ⟨rfl, hw⟩; rw [hw, HV.out])
 go_step3
 go_wp2_with fail
 refine wp_loop_rounds 1 ?_
 rw [rounds_succ]
 go_wp2_with fail
 go_step3
 go_wp2_with fail
 go_quiet (fail)
 go_wp2_with fail
 go_quiet ((go_at_call 118; exact quiet_add_same (idxByte_end _ _)))
 go_wp2_with fail
 rw [Exit.noGoto_ret]
 go_ret
 exact ⟨rfl, (Keep.refl Nothing w).drewN _ |>.all⟩
set_option maxHeartbeats 1000000 in
set_option maxRecDepth 100000 in
theorem idxRune_more (r : Int) (hr : 128 ≤ r) (hne : (r == 65533) = false) (hv : Lib.validRune r = true) (he : 3 ≤ (Utf8.encode r).size) (he2 : (Utf8.encode r).size ≤ 4) (w : World) : Calls Tryz.prog 114 #[.string slz, .int .i32 r] w (MinusOne w) := by
 have h0 : 0 ≤ r := by omega
 have hsl : slz.size = 2 := rfl
 have HV := Lib.hid hv
 clear hv
 go_enter Tryz.func114, Tryz.ntmps114
 go_wp2_with (go_at_call 119; refine (Tryz.utf8_ValidRune _ _).mono ?_; rintro e w' ⟨rfl, hw⟩; rw [hw, HV.out])
 go_step3
 go_wp2_with fail
 refine wp_loop_rounds 1 ?_
 rw [rounds_succ]
 go_wp2_with fail
 rw [Exit.noGoto_ret]
 go_ret
 exact ⟨rfl, Below.refl _ _⟩
theorem idxRune_hi (r : Nat) (hr : 128 ≤ r) (w : World) : Calls Tryz.prog 114 #[.string slz, .int .i32 r] w (MinusOne w) := by
 by_cases h1 : r = 65533
 · subst h1
   exact idxRune_err w
 · have hne : ((r : Int) == 65533) = false := beq_eq_false_iff_ne.2 (by omega)
   cases hv : Lib.validRune (r : Int) with
   | false => exact idxRune_bad r (by omega) hne hv w
   | true =>
    by_cases h2 : r < 2048
    · obtain ⟨a, b, he, hb⟩ := encode_two r hr h2
      exact idxRune_two r a b (by omega) hne hv he hb w
    · exact idxRune_more r (by omega) hne hv (encode_more r (by omega)) (encode_size_le _) w
def anySlz (l : List UInt8) : Bool := l.any fun x => x == 47 || x == 0
def SlzFree (s : ByteArray) (i : Nat) : Prop := ∀ j (hj : j < s.size), j < i → s[j].toNat ≠ 47 ∧ s[j].toNat ≠ 0
theorem mem_list (s : ByteArray) (x : UInt8) : x ∈ s.data.toList ↔ ∃ j, ∃ hj : j < s.size, s[j] = x := by
 rw [List.mem_iff_getElem]
 constructor
 · rintro ⟨j, hj, h⟩
   exact ⟨j, by simpa using hj, h⟩
 · rintro ⟨j, hj, h⟩
   exact ⟨j, by simpa using hj, h⟩
theorem anySlz_true {s : ByteArray} {i : Nat} (hi : i < s.size) (h : s[i].toNat = 47 ∨ s[i].toNat = 0) : anySlz s.data.toList = true := by
 unfold anySlz
 rw [List.any_eq_true]
 refine ⟨s[i], (mem_list s _).2 ⟨i, hi, rfl⟩, ?_⟩
 rcases h with h | h
 · have : s[i] = 47 := UInt8.toNat_inj.1 h
   simp [this]
 · have : s[i] = 0 := UInt8.toNat_inj.1 h
   simp [this]
theorem anySlz_false {s : ByteArray} (h : SlzFree s s.size) : anySlz s.data.toList = false := by
 unfold anySlz
 rw [List.any_eq_false]
 intro x hx
 obtain ⟨j, hj, rfl⟩ := (mem_list s x).1 hx
 obtain ⟨h1, h2⟩ := h j hj hj
 simp only [Bool.or_eq_true, beq_iff_eq, not_or]
 exact ⟨fun q => h1 (by rw [q]; rfl), fun q => h2 (by rw [q]; rfl)⟩
def AnyPost (s : ByteArray) (w : World) (e : Ending) (w' : World) : Prop := ∃ n : Int, e = .returned (.int .i64 n) ∧ decide (0 ≤ n) = anySlz s.data.toList ∧ Below w.heap.size w w'
theorem idxRune_lo (x : Nat) (n : Int) (hx : x < 128) (hn : n = if x = 47 then 0 else if x = 0 then 1 else -1) (w : World) : Calls Tryz.prog 114 #[.string slz, .int .i32 x] w fun e w' => e = .returned (.int .i64 n) ∧ w' = w := by
 refine (Tryz.strings_IndexRune_ascii slz x w (by omega) (by omega)).mono ?_
 rintro e w' ⟨rfl, hw⟩
 refine ⟨?_, hw⟩
 have h : ∀ x : Fin 128, Lib.indexByte [47, 0] (UInt8.ofNat x.1) = if x.1 = 47 then 0 else if x.1 = 0 then 1 else -1 := by decide
 rw [hn, slz_list]
 congr 2
 exact h ⟨x, hx⟩
theorem SlzFree.more {s : ByteArray} {i k : Nat} (h : SlzFree s i) (hk : ∀ j (hj : j < s.size), i ≤ j → j < i + k → s[j].toNat ≠ 47 ∧ s[j].toNat ≠ 0) : SlzFree s (i + k) := by
 intro j hj hlt
 rcases Nat.lt_or_ge j i with q | q
 · exact h j hj q
 · exact hk j hj q hlt
set_option maxHeartbeats 1000000 in
theorem idxAny_short (s : ByteArray) (h8 : s.size ≤ 8) (w : World) : Calls Tryz.prog 113 #[.string s, .string slz] w (AnyPost s w) := by
 have hemp : slz.toList.isEmpty = false := by rw [Lib.toList_data]; rfl
 have hsl : slz.size = 2 := rfl
 have h8z : decide ((8 : Int) < (s.size : Int)) = false := decide_eq_false (by omega)
 go_enter Tryz.func113, Tryz.ntmps113
 go_wp2_with (go_at_call 115; refine (Tryz.strings_shouldUseASCIISet _ _).mono ?_; rintro e w' ⟨rfl, hw⟩; rw [hw, h8z])
 go_loopg [9, 10] s.size (fun g _ _ wx => ∃ i : Nat, i + g = s.size ∧ Below w.heap.size w wx ∧ wx.heap[w.heap.size]? = some (.stringIter s i) ∧ SlzFree s i)
 case atStart => exact ⟨0, by omega, (Below.refl _ _).alloc (Nat.le_refl _) _, World.iter_heap w s 0, fun _ _ h => absurd h (Nat.not_lt_zero _)⟩
 case round =>
  obtain ⟨i, hig, hbe, hit, hno⟩ := hrel
  have hsz : w.heap.size < wr.heap.size := (Array.getElem?_eq_some_iff.1 hit).1
  have HI := Lib.hid hit
  have HN := Lib.hid hno
  clear hit hno
  cases gk with
  | zero =>
   obtain rfl : i = s.size := by omega
   have hnx := fun ty => Lib.run_next_end_at (P := Tryz.prog) wr w.heap.size s s.size ty HI.out (by omega)
   go_wp2
   go_ret
   exact ⟨-1, rfl, by rw [anySlz_false HN.out]; rfl, hbe⟩
  | succ g =>
   have hi : i < s.size := by omega
   have hnx := fun ty => Lib.run_next_any_at (P := Tryz.prog) wr w.heap.size s i ty HI.out hi
   have hb2 : Below w.heap.size w (wr.iterAt w.heap.size s (i + (Utf8.decode s i).2)) := Lib.below_iterAt hbe (Nat.le_refl _) _ _
   have hh2 := Lib.iterAt_heap wr w.heap.size s i (i + (Utf8.decode s i).2) HI.out
   have hz2 := Lib.iterAt_size wr w.heap.size s (i + (Utf8.decode s i).2)
   generalize wr.iterAt w.heap.size s (i + (Utf8.decode s i).2) = w2 at *
   by_cases hx : s[i].toNat < 128
   · have hd := decode_ascii s i hi hx
     rw [hd] at hnx
     rw [hd] at hh2
     obtain ⟨x, hxx⟩ : ∃ x : Nat, s[i].toNat = x := ⟨_, rfl⟩
     rw [hxx] at hnx hx
     have HX := Lib.hid hxx
     have H2 := Lib.hid hh2
     clear hd hxx hh2 hz2
     by_cases hq : x = 47 ∨ x = 0
     · obtain ⟨n, hn, hn0⟩ : ∃ n : Int, n = (if x = 47 then 0 else if x = 0 then 1 else -1) ∧ 0 ≤ n := by
        refine ⟨_, rfl, ?_⟩
        rcases hq with rfl | rfl <;> decide
       have HQ := Lib.hid hq
       have HNN := Lib.hid hn
       clear hq hn
       go_wp2_with (go_at_call 114; refine (idxRune_lo x n hx HNN.out _).mono ?_; rintro e w' ⟨rfl, hw⟩; rw [hw])
       go_ret
       refine ⟨i, rfl, ?_, hb2⟩
       rw [anySlz_true hi (by rw [HX.out]; exact HQ.out)]
       simp
     · obtain ⟨n, hn, hn0⟩ : ∃ n : Int, n = (if x = 47 then 0 else if x = 0 then 1 else -1) ∧ n < 0 := by
        refine ⟨_, rfl, ?_⟩
        rw [if_neg (by omega), if_neg (by omega)]; decide
       have HQ := Lib.hid hq
       have HNN := Lib.hid hn
       clear hq hn
       go_wp2_with (go_at_call 114; refine (idxRune_lo x n hx HNN.out _).mono ?_; rintro e w' ⟨rfl, hw⟩; rw [hw])
       go_roundg g
       case measure => omega
       case rel =>
        refine ⟨i + 1, by omega, hb2, H2.out, HN.out.more fun j hj h1 h2 => ?_⟩
        obtain rfl : j = i := by omega
        have := HQ.out
        rw [HX.out]
        omega
   · have hs := decode_skip s i hi (by omega)
     have hd := decode_high s i hi (by omega)
     generalize (Utf8.decode s i).1 = r at *
     generalize (Utf8.decode s i).2 = k at *
     obtain ⟨hs1, hs2⟩ := hs
     obtain ⟨hd1, hd2⟩ := hd
     have H2 := Lib.hid hh2
     have HS := Lib.hid hs2
     clear hh2 hz2 hs2
     go_wp2_with (go_at_call 114; refine (idxRune_hi r hd1 _).mono ?_; rintro e w3 ⟨rfl, hb3⟩)
     go_roundg (s.size - (i + k))
     case measure => omega
     case rel =>
      refine ⟨i + k, by omega, hb2.trans (hb3.mono hb2.size), ?_, HN.out.more fun j hj h1 h2 => ?_⟩
      · rw [hb3.block _ (Array.getElem?_eq_some_iff.1 H2.out).1]; exact H2.out
      · have := HS.out j hj h1 h2; omega
theorem indexAny_slz : ∀ l : List UInt8, decide (0 ≤ Lib.indexAny l [47, 0]) = anySlz l
 | [] => rfl
 | b :: l => by
  have ih := indexAny_slz l
  have hge := Lib.indexAny_ge [47, 0] l
  unfold Lib.indexAny anySlz
  unfold anySlz at ih
  rw [List.any_cons, ← ih]
  by_cases hb : (List.contains [47, 0] b) = true
  · rw [if_pos hb]
    have : (b == 47 || b == 0) = true := by simpa using hb
    rw [this]
    simp
  · rw [if_neg hb]
    have : (b == 47 || b == 0) = false := by simpa using hb
    rw [this, Bool.false_or]
    split
    · rename_i h
      have : Lib.indexAny l [47, 0] = -1 := by simpa using h
      rw [this]
    · rename_i h
      have : Lib.indexAny l [47, 0] ≠ -1 := by simpa using h
      simp only [decide_eq_decide]
      omega
set_option maxHeartbeats 1000000 in
theorem containsAny (s : ByteArray) (h : s.size < 4294967281) (w : World) : Calls Tryz.prog 112 #[.string s, .string slz] w fun e w' => e = .returned (.bool (anySlz s.data.toList)) ∧ Below w.heap.size w w' := by
 have hall : Calls Tryz.prog 113 #[.string s, .string slz] w (AnyPost s w) := by
  by_cases h8 : s.size ≤ 8
  · exact idxAny_short s h8 w
  · refine (Tryz.strings_IndexAny_long (fun w => by kernel_rfl) s slz w (by decide) (by omega) h (by decide) (by rw [slz_list]; intro j b; match j with | 0 => simp; rintro rfl; decide | 1 => simp; rintro rfl; decide | j + 2 => simp)).mono ?_
    rintro e w' ⟨rfl, hw⟩
    exact ⟨_, rfl, by rw [slz_list]; exact indexAny_slz _, by rw [hw]; exact ((Below.refl _ _).alloc (Nat.le_refl _) _).alloc (by simp) _⟩
 have H := Lib.hid hall
 clear hall
 go_enter Tryz.func112, Tryz.ntmps112
 go_wp2_with fail
 refine H.out.mono ?_
 rintro e w' ⟨n, rfl, hn, hb⟩
 have HN := Lib.hid hn
 clear hn
 go_wp2
 go_ret
 exact ⟨by rw [← HN.out]; rfl, hb⟩
def nameOk (l : List UInt8) : Bool := !l.isEmpty && (decide (l.length ≤ 40) && (l != [46] && (l != [46, 46] && !anySlz l)))
def NamePost (s : ByteArray) (w : World) (e : Ending) (w' : World) : Prop := e = .returned (.bool (nameOk s.data.toList)) ∧ Below w.heap.size w w'
theorem NamePost.of {s : ByteArray} {w w' : World} {b : Bool} {e : Ending} (he : e = .returned (.bool b)) (h : nameOk s.data.toList = b) (hb : Below w.heap.size w w') : NamePost s w e w' := ⟨by rw [h]; exact he, hb⟩
theorem nameOk_of {s : ByteArray} (h1 : 1 ≤ s.size) (h2 : s.size ≤ 40) (h3 : (s.toList == [46]) = false) (h4 : (s.toList == [46, 46]) = false) : nameOk s.data.toList = !anySlz s.data.toList := by
 rw [Lib.toList_data] at h3 h4
 have hl : s.data.toList.length = s.size := (Lib.size_eq s).symm
 have he : s.data.toList.isEmpty = false := by
  cases h : s.data.toList with
  | nil => rw [h, List.length_nil] at hl; omega
  | cons _ _ => rfl
 unfold nameOk
 rw [he, hl, bne, bne, h3, h4]
 simp [h2]
theorem nameOk_not {s : ByteArray} (h : s.size < 1 ∨ 40 < s.size ∨ (s.toList == [46]) = true ∨ (s.toList == [46, 46]) = true) : nameOk s.data.toList = false := by
 rw [Lib.toList_data] at h
 have hl : s.data.toList.length = s.size := (Lib.size_eq s).symm
 unfold nameOk
 rw [hl, bne, bne]
 rcases h with h | h | h | h
 · have : s.data.toList = [] := List.eq_nil_of_length_eq_zero (by omega)
   simp [this]
 · simp [Nat.not_le.2 h]
 · rw [h]; simp
 · rw [h]; simp
set_option maxHeartbeats 1000000 in
theorem name_any (s : ByteArray) (w : World) : Calls Tryz.prog 103 #[.string s] w (NamePost s w) := by
 by_cases h1 : s.size < 1
 · have e0 : s.toList = [] := by rw [Lib.toList_data]; exact List.eq_nil_of_length_eq_zero (by rw [← Lib.size_eq]; omega)
   have hr := nameOk_not (s := s) (.inl h1)
   have HR := Lib.hid hr
   clear hr
   go_enter Tryz.func103, Tryz.ntmps103
   go_wp2_with fail
   go_ret
   exact NamePost.of rfl HR.out (Below.refl _ _)
 · have e0 : s.toList.isEmpty = false := by
    rw [Lib.toList_data]
    cases h : s.data.toList with
    | nil => have := Lib.size_eq s; rw [h, List.length_nil] at this; omega
    | cons _ _ => rfl
   by_cases h2 : 40 < s.size
   · have e2 : decide ((s.size : Int) ≤ 40) = false := decide_eq_false (by omega)
     have hr := nameOk_not (s := s) (.inr (.inl h2))
     have HR := Lib.hid hr
     clear hr
     go_enter Tryz.func103, Tryz.ntmps103
     go_wp2_with fail
     go_ret
     exact NamePost.of rfl HR.out (Below.refl _ _)
   · have e2 : decide ((s.size : Int) ≤ 40) = true := decide_eq_true (by omega)
     cases h3 : s.toList == [46] with
     | true =>
      have hr := nameOk_not (s := s) (.inr (.inr (.inl h3)))
      have HR := Lib.hid hr
      clear hr
      go_enter Tryz.func103, Tryz.ntmps103
      go_wp2_with fail
      go_ret
      exact NamePost.of rfl HR.out (Below.refl _ _)
     | false =>
      cases h4 : s.toList == [46, 46] with
      | true =>
       have hr := nameOk_not (s := s) (.inr (.inr (.inr h4)))
       have HR := Lib.hid hr
       clear hr
       go_enter Tryz.func103, Tryz.ntmps103
       go_wp2_with fail
       go_ret
       exact NamePost.of rfl HR.out (Below.refl _ _)
      | false =>
       have hr := nameOk_of (s := s) (by omega) (by omega) h3 h4
       have HR := Lib.hid hr
       clear hr
       go_enter Tryz.func103, Tryz.ntmps103
       go_wp2_with (go_at_call 112; refine (containsAny s (by omega) _).mono ?_; rintro e w' ⟨rfl, hb⟩)
       go_ret
       exact NamePost.of rfl HR.out hb
set_option maxHeartbeats 1000000 in
theorem rname_any (s : ByteArray) (w : World) : Calls Tryz.prog 69 #[.string s] w (NamePost s w) := by
 by_cases h1 : s.size < 1
 · have e1 : decide ((s.size : Int) < 1) = true := decide_eq_true (by omega)
   have hr := nameOk_not (s := s) (.inl h1)
   have HR := Lib.hid hr
   clear hr
   go_enter Tryz.func69, Tryz.ntmps69
   go_wp2_with fail
   go_ret
   exact NamePost.of rfl HR.out (Below.refl _ _)
 · have e1 : decide ((s.size : Int) < 1) = false := decide_eq_false (by omega)
   by_cases h2 : 40 < s.size
   · have e2 : decide ((40 : Int) < (s.size : Int)) = true := decide_eq_true (by omega)
     have hr := nameOk_not (s := s) (.inr (.inl h2))
     have HR := Lib.hid hr
     clear hr
     go_enter Tryz.func69, Tryz.ntmps69
     go_wp2_with fail
     go_ret
     exact NamePost.of rfl HR.out (Below.refl _ _)
   · have e2 : decide ((40 : Int) < (s.size : Int)) = false := decide_eq_false (by omega)
     cases h3 : s.toList == [46] with
     | true =>
      have hr := nameOk_not (s := s) (.inr (.inr (.inl h3)))
      have HR := Lib.hid hr
      clear hr
      go_enter Tryz.func69, Tryz.ntmps69
      go_wp2_with fail
      go_ret
      exact NamePost.of rfl HR.out (Below.refl _ _)
     | false =>
      cases h4 : s.toList == [46, 46] with
      | true =>
       have hr := nameOk_not (s := s) (.inr (.inr (.inr h4)))
       have HR := Lib.hid hr
       clear hr
       go_enter Tryz.func69, Tryz.ntmps69
       go_wp2_with fail
       go_ret
       exact NamePost.of rfl HR.out (Below.refl _ _)
      | false =>
       have hr := nameOk_of (s := s) (by omega) (by omega) h3 h4
       have HR := Lib.hid hr
       clear hr
       go_enter Tryz.func69, Tryz.ntmps69
       go_wp2_with fail
       go_loop [3] (fun i => ∃ k : Nat, k ≤ s.size ∧ i = .int .i64 k ∧ SlzFree s k) (fun i => s.size - (intOf i).toNat)
       case atStart => exact ⟨0, Nat.zero_le _, rfl, fun _ _ h => absurd h (Nat.not_lt_zero _)⟩
       case round =>
        obtain ⟨k, hk, rfl, hno⟩ := hrel
        have HN := Lib.hid hno
        clear hno
        by_cases hlt : k < s.size
        · by_cases q1 : s[k].toNat = 47
          · have f1 : ((s[k].toNat : Int) == 47) = true := by rw [q1]; rfl
            have ha := anySlz_true hlt (.inl q1)
            have HA := Lib.hid ha
            clear ha q1
            go_wp2
            go_ret
            exact NamePost.of rfl (by rw [HR.out, HA.out]; rfl) (Below.refl _ _)
          · have f1 : ((s[k].toNat : Int) == 47) = false := beq_eq_false_iff_ne.2 (by omega)
            by_cases q2 : s[k].toNat = 0
            · have f2 : ((s[k].toNat : Int) == 0) = true := by rw [q2]; rfl
              have ha := anySlz_true hlt (.inr q2)
              have HA := Lib.hid ha
              clear ha q2
              go_wp2
              go_ret
              exact NamePost.of rfl (by rw [HR.out, HA.out]; rfl) (Below.refl _ _)
            · have f2 : ((s[k].toNat : Int) == 0) = false := beq_eq_false_iff_ne.2 (by omega)
              go_wp2
              go_round
              case rel =>
               refine ⟨k + 1, by omega, by go_num, HN.out.more fun j hj h1 h2 => ?_⟩
               obtain rfl : j = k := by omega
               exact ⟨q1, q2⟩
              case measure => simp [intOf]; omega
        · obtain rfl : k = s.size := by omega
          go_wp2
          go_ret
          exact NamePost.of rfl (by rw [HR.out, anySlz_false HN.out]; rfl) (Below.refl _ _)
end Go.Proofs.YtmlmbkelpjmafaaGreat
