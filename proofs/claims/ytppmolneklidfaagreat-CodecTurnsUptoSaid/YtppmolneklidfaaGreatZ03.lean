/-
  Texts of the codec joined (Rd, Ref1). No statement of the seat is proved here.
-/
import Derived.Test.YtppmolneklidfaaGreatZ01
import Derived.Test.YtppmolneklidfaaGreatZ02
import Derived.Laws.BitsAllLaws
namespace Go.Proofs.YtppmolneklidfaaGreat
open Go.RowKit

/-- The number that bytes say, the highest first. -/
def num (l : List UInt8) : Nat := l.foldl (fun v x => v * 256 + x.toNat) 0
theorem num_snoc (l : List UInt8) (x : UInt8) : num (l ++ [x]) = num l * 256 + x.toNat := by simp [num]
theorem num_lt (l : List UInt8) : num l < 256 ^ l.length := by
  have key : ∀ (l : List UInt8) (v k : Nat), v < 256 ^ k → l.foldl (fun v x => v * 256 + x.toNat) v < 256 ^ (k + l.length) := by
    intro l
    induction l with
    | nil => intro v k h; simpa using h
    | cons x l ih =>
      intro v k h
      have hx := x.toNat_lt
      have := ih (v * 256 + x.toNat) (k + 1) (by rw [Nat.pow_succ]; omega)
      simpa [Nat.add_assoc, Nat.add_comm, Nat.add_left_comm] using this
  simpa [num] using key l 0 0 (by simp)
theorem num_lt8 (l : List UInt8) (h : l.length ≤ 7) : num l < 72057594037927936 :=
  Nat.lt_of_lt_of_le (num_lt l) (Nat.le_trans (Nat.pow_le_pow_right (by omega) h) (by decide))
theorem or_byte (v : Nat) (x : UInt8) (hv : v < 72057594037927936) : bits .or .u64 (IntKind.u64.wrap ((v : Int) * 256)) (x.toNat : Int) = ((v * 256 + x.toNat : Nat) : Int) := by
  have hx := x.toNat_lt
  have e : IntKind.u64.wrap ((v : Int) * 256) = ((v * 256 : Nat) : Int) := by
    simp [IntKind.wrap, IntKind.signed, IntKind.bits]; omega
  rw [e, u64_or_nat _ _ (by omega) (by omega)]
  have := Nat.shiftLeft_add_eq_or_of_lt (a := v) (b := x.toNat) (i := 8) (by omega)
  rw [Nat.shiftLeft_eq] at this
  rw [show v * 256 = v * 2 ^ 8 from rfl, ← this]

def NumPost (g B : Nat) (b : List UInt8) (at_ : Nat) (e n : Int) (w : World) (r : Ending) (w' : World) : Prop :=
  r = .returned (.int .u64 (num (takeL b at_ e n))) ∧ Rd w' g B b (takeAt b at_ e n) (takeE b at_ e n) ∧ Keep (Only g) w w'

theorem takeL_le (b : List UInt8) (at_ : Nat) (e : Int) (n : Nat) : (takeL b at_ e n).length ≤ n := by
  unfold takeL
  split
  · simp; omega
  · simp

set_option maxHeartbeats 1000000 in
theorem rnumber_any (n : Nat) (hn : n ≤ 8) (g B : Nat) (b : List UInt8) (at_ : Nat) (e : Int) (w : World) (hr : Rd w g B b at_ e) (hB : B ≤ w.heap.size) :
    Calls Tryz.prog 51 #[.pointer (some ⟨g, 0, none⟩), .int .i64 n] w (NumPost g B b at_ e n w) := by
  have hl8 := takeL_le b at_ e n
  go_enter Tryz.func51, Tryz.ntmps51
  go_wp2_with fail
  refine (take_any g B b at_ e n _ hr hB).mono ?_
  rintro r w1 ⟨A, c, rfl, hrd, hlc, hcm, hR, hk⟩
  generalize hl : takeL b at_ e n = l at *
  have HL := Lib.hid hl
  clear hl
  unfold maxLen at hcm
  go_wp2_with fail
  go_loop [5, 12] (fun v i => ∃ k : Nat, k ≤ l.length ∧ i = .int .i64 k ∧ v = .int .u64 (num (l.take k))) (fun _ i => l.length - (intOf i).toNat)
  case atStart => exact ⟨0, Nat.zero_le _, rfl, rfl⟩
  case round =>
    obtain ⟨k, hk', rfl, rfl⟩ := hrel
    by_cases hlt : k < l.length
    · obtain ⟨ad, u, rfl, _, hx, hc⟩ := hrd.at_ hlt
      have hu : u = bv l[k] := by simpa [hlt] using hx.symm
      subst hu
      unfold bv at hc
      have hor := or_byte (num (l.take k)) l[k] (num_lt8 _ (by simp; omega))
      have hs : num (l.take (k + 1)) = num (l.take k) * 256 + l[k].toNat := by rw [List.take_succ_eq_append_getElem hlt, num_snoc]
      rw [← hs] at hor
      generalize num (l.take k) = v at *
      have hx0 := l[k].toNat_lt
      generalize l[k].toNat = x at *
      have HS := Lib.hid hs
      clear hs hx
      go_wp2
      go_round
      case rel => exact ⟨k + 1, by omega, by go_num, rfl⟩
      case measure => simp [intOf]; omega
    · obtain rfl : k = l.length := by omega
      go_wp2
      go_ret
      exact ⟨by rw [HL.out]; rfl, hR, hk⟩

/-- What text tells: the bytes behind the length. -/
def textL (b : List UInt8) (at_ : Nat) (e n : Int) : List UInt8 := takeL b (takeAt b at_ e n) (takeE b at_ e n) (num (takeL b at_ e n))
def textAt (b : List UInt8) (at_ : Nat) (e n : Int) : Nat := takeAt b (takeAt b at_ e n) (takeE b at_ e n) (num (takeL b at_ e n))
def textE (b : List UInt8) (at_ : Nat) (e n : Int) : Int := takeE b (takeAt b at_ e n) (takeE b at_ e n) (num (takeL b at_ e n))
def str (l : List UInt8) : ByteArray := ⟨l.toArray⟩

def TextPost (g B : Nat) (b : List UInt8) (at_ : Nat) (e n : Int) (w : World) (r : Ending) (w' : World) : Prop :=
  r = .returned (.string (str (textL b at_ e n))) ∧ Rd w' g B b (textAt b at_ e n) (textE b at_ e n) ∧ Keep (Only g) w w'

set_option maxHeartbeats 1000000 in
theorem rtext_any (n : Nat) (hn : n ≤ 7) (g B : Nat) (b : List UInt8) (at_ : Nat) (e : Int) (w : World) (hr : Rd w g B b at_ e) (hB : B ≤ w.heap.size) :
    Calls Tryz.prog 52 #[.pointer (some ⟨g, 0, none⟩), .int .i64 n] w (TextPost g B b at_ e n w) := by
  have hl8 := takeL_le b at_ e n
  have hv := num_lt8 (takeL b at_ e n) (by omega)
  go_enter Tryz.func52, Tryz.ntmps52
  go_wp2_with fail
  refine (rnumber_any n (by omega) g B b at_ e _ hr hB).mono ?_
  rintro r w1 ⟨rfl, hR, hk⟩
  have hz := hk.size
  go_wp2_with fail
  refine (take_any g B b _ _ _ _ hR (by omega)).mono ?_
  rintro r w2 ⟨A, c, rfl, hrd, hlc, hcm, hR2, hk2⟩
  go_wp2_with (first | (refine wpList_convStr rfl rfl Tryz.underlying36 Tryz.underlying5 Tryz.underlying9 rfl hrd ?_))
  go_ret
  exact ⟨rfl, hR2, hk.trans hk2⟩

def shortE (b : List UInt8) (at_ : Nat) (e : Int) : Int := note (takeE b at_ e 2) (decide ((num (takeL b at_ e 2) : Int) ≤ 1000)) 5
def shortL (b : List UInt8) (at_ : Nat) (e : Int) : List UInt8 := takeL b (takeAt b at_ e 2) (shortE b at_ e) (num (takeL b at_ e 2))
def shortAt (b : List UInt8) (at_ : Nat) (e : Int) : Nat := takeAt b (takeAt b at_ e 2) (shortE b at_ e) (num (takeL b at_ e 2))
def shortE2 (b : List UInt8) (at_ : Nat) (e : Int) : Int := takeE b (takeAt b at_ e 2) (shortE b at_ e) (num (takeL b at_ e 2))
def ShortPost (g B : Nat) (b : List UInt8) (at_ : Nat) (e : Int) (w : World) (r : Ending) (w' : World) : Prop :=
  r = .returned (.string (str (shortL b at_ e))) ∧ Rd w' g B b (shortAt b at_ e) (shortE2 b at_ e) ∧ Keep (Only g) w w'

theorem Rd.blk {w : World} {g B : Nat} {b : List UInt8} {at_ : Nat} {e : Int} (h : Rd w g B b at_ e) : ∃ A c, Blk w g 115 #[.slice A b.length c, .int .i64 at_, .int .i64 e] ∧ ∀ w' e', Blk w' g 115 #[.slice A b.length c, .int .i64 at_, .int .i64 e'] → (B ≤ w.heap.size → Keep (Only g) w w' → Rd w' g B b at_ e') := by
  obtain ⟨A, c, hb, hrd, h1, h2, h3, h4⟩ := h
  exact ⟨A, c, hb, fun w' e' hb' hB hk => ⟨A, c, hb', hrd.kept hk hB (fun i hi q => by unfold Only at q; omega), h1, h2, h3, h4⟩⟩

theorem Rd.alloc {w : World} {g B : Nat} {b : List UInt8} {at_ : Nat} {e : Int} (h : Rd w g B b at_ e) (hB : B ≤ w.heap.size) (o : Obj) : Rd (w.alloc o) g B b at_ e := by
  obtain ⟨A, c, hb, hrd, h1, h2, h3, h4⟩ := h
  exact ⟨A, c, hb.alloc o, hrd.alloc hB o, h1, h2, h3, h4⟩
theorem Rd.drew {w : World} {g B : Nat} {b : List UInt8} {at_ : Nat} {e : Int} (h : Rd w g B b at_ e) : Rd w.drew g B b at_ e := h
theorem Rd.keep {S : Nat → Prop} {w w' : World} {g B : Nat} {b : List UInt8} {at_ : Nat} {e : Int} (h : Rd w g B b at_ e) (hB : B ≤ w.heap.size) (hk : Keep S w w') (hS : ∀ i, S i → B ≤ i ∧ i ≠ g) : Rd w' g B b at_ e := by
  obtain ⟨A, c, hb, hrd, h1, h2, h3, h4⟩ := h
  exact ⟨A, c, hb.keep hk (fun q => (hS g q).2 rfl), hrd.kept hk hB (fun i hi q => by have := (hS i q).1; omega), h1, h2, h3, h4⟩

set_option maxHeartbeats 1000000 in
theorem rshort_any (g B : Nat) (b : List UInt8) (at_ : Nat) (e : Int) (w : World) (hr : Rd w g B b at_ e) (hB : B ≤ w.heap.size) :
    Calls Tryz.prog 59 #[.pointer (some ⟨g, 0, none⟩)] w (ShortPost g B b at_ e w) := by
  have hl8 := takeL_le b at_ e 2
  have hv := num_lt8 (takeL b at_ e 2) (by simp at hl8; omega)
  go_enter Tryz.func59, Tryz.ntmps59
  go_wp2_with fail
  refine (rnumber_any 2 (by omega) g B b at_ e _ hr hB).mono ?_
  rintro r w1 ⟨rfl, hR, hk⟩
  have hz := hk.size
  obtain ⟨A1, c1, hb1, hR1⟩ := hR.blk
  go_wp2_with fail
  refine (must_any g _ _ _ _ 5 _ _ hb1).mono ?_
  rintro r w2 ⟨rfl, hb2, hk2⟩
  have hz2 := hk2.size
  have hR2 := hR1 _ _ hb2 (by omega) hk2
  go_wp2_with fail
  refine (take_any g B b _ _ _ _ hR2 (by omega)).mono ?_
  rintro r w3 ⟨A, c, rfl, hrd, hlc, hcm, hR3, hk3⟩
  go_wp2_with (first | (refine wpList_convStr rfl rfl Tryz.underlying36 Tryz.underlying5 Tryz.underlying9 rfl hrd ?_))
  go_ret
  exact ⟨rfl, hR3, (hk.trans hk2).trans hk3⟩

def endE (b : List UInt8) (at_ : Nat) (e : Int) : Int := note e ((at_ : Int) == (b.length : Int)) 15
def EndPost (g B : Nat) (b : List UInt8) (at_ : Nat) (e : Int) (w : World) (r : Ending) (w' : World) : Prop :=
  r = .returned (.tuple #[]) ∧ Rd w' g B b at_ (endE b at_ e) ∧ Keep (Only g) w w'
set_option maxHeartbeats 1000000 in
set_option maxRecDepth 100000 in
theorem rend_any (g B : Nat) (b : List UInt8) (at_ : Nat) (e : Int) (w : World) (hr : Rd w g B b at_ e) (hB : B ≤ w.heap.size) :
    Calls Tryz.prog 60 #[.pointer (some ⟨g, 0, none⟩)] w (EndPost g B b at_ e w) := by
  obtain ⟨A, c, hb, hR⟩ := hr.blk
  have c0 := hb.cell 0
  have c1 := hb.cell 1
  simp at c0 c1
  go_enter Tryz.func60, Tryz.ntmps60
  go_wp2_with fail
  go_still_tail 15, (by kernel_rfl)
  change wpList _ _ _ _ _ w.drew
  have hb' := hb.drew
  have hR' := fun w' e' h k => hR w' e' h hB ((Keep.drew (Keep.refl (Only g) w)).trans k)
  have hk0 : Keep (Only g) w w.drew := (Keep.refl _ _).drew
  generalize w.drew = w1 at *
  go_wp2_with fail
  refine (must_any g _ _ _ _ 15 _ _ hb').mono ?_
  rintro r w2 ⟨rfl, hb2, hk2⟩
  go_wp2_with fail
  go_end0
  refine ⟨rfl, ?_, hk0.trans hk2⟩
  have T := hR' _ _ hb2 hk2
  unfold endE
  first | exact T | (simpa using T)

/-- An Id's bytes, or none. -/
def idOf (l : List UInt8) : Id := if h : l.length = 32 then ⟨l, h⟩ else noId
def IdPost (g B : Nat) (b : List UInt8) (at_ : Nat) (e : Int) (w : World) (r : Ending) (w' : World) : Prop :=
  r = .returned (idV (idOf (takeL b at_ e 32))) ∧ Rd w' g B b (takeAt b at_ e 32) (takeE b at_ e 32) ∧ Keep (Only g) w w'
theorem takeL_or (b : List UInt8) (at_ : Nat) (e : Int) (n : Nat) : (takeL b at_ e n).length = n ∨ takeL b at_ e n = [] := by
  unfold takeL
  split
  · left; simp; omega
  · right; rfl
theorem spl_id (l : List UInt8) (h : l.length = 32 ∨ l = []) : spl (idC noId) 0 (l.map bv) = idC (idOf l) := by
  rcases h with h | h
  · have e : idOf l = ⟨l, h⟩ := dif_pos h
    rw [e]
    apply Array.ext'
    simp [spl, idC, idL, noId, h]
  · subst h
    have e : idOf [] = noId := dif_neg (by decide)
    rw [e]
    apply Array.ext'
    simp [spl]
set_option maxHeartbeats 1000000 in
set_option maxRecDepth 100000 in
theorem rid_any (g B : Nat) (b : List UInt8) (at_ : Nat) (e : Int) (w : World) (hr : Rd w g B b at_ e) (hB : B ≤ w.heap.size) :
    Calls Tryz.prog 53 #[.pointer (some ⟨g, 0, none⟩)] w (IdPost g B b at_ e w) := by
  have hlg : g < w.heap.size := by obtain ⟨_, _, hb, _⟩ := hr; exact hb.lt
  have hA1 : Rd ((w.alloc (.cells (idC noId) 24)).alloc (.cells (idC noId) 24)) g B b at_ e := (hr.alloc hB _).alloc (by simp; omega) _
  have hq1 : Blk ((w.alloc (.cells (idC noId) 24)).alloc (.cells (idC noId) 24)) w.heap.size 24 (idC noId) := (Blk.new _ _ _).alloc _
  have hq2 : Blk ((w.alloc (.cells (idC noId) 24)).alloc (.cells (idC noId) 24)) (w.heap.size + 1) 24 (idC noId) := by have := Blk.new (w.alloc (.cells (idC noId) 24)) 24 (idC noId); simpa using this
  have hk1 : Keep (Only g) w ((w.alloc (.cells (idC noId) 24)).alloc (.cells (idC noId) 24)) := ((Keep.refl _ _).alloc _).alloc _
  go_enter Tryz.func53, Tryz.ntmps53
  go_wp2_with (first | (refine wpList_allocAgg rfl rfl (zero_noId _) ?_))
  go_frame
  have hz1 : B ≤ ((w.alloc (.cells (idC noId) 24)).alloc (.cells (idC noId) 24)).heap.size := by simp; omega
  generalize (w.alloc (.cells (idC noId) 24)).alloc (.cells (idC noId) 24) = w1 at *
  have h32 := takeL_le b at_ e 32
  go_region_law (first | ((refine step_copy_blk (by rfl) (by rfl) Tryz.underlying36 infoU8 (by rfl) hq2' (by rw [idC_size]) (by rfl) hrd (bvs_one _) h32 ?_); intro w3 hq3 hk3) | (go_simp; go_at_call 66; refine (take_any g B b at_ e 32 _ hA1.drew hz1).mono ?_; rintro r w2 ⟨A, c, rfl, hrd, hlc, hcm, hR2, hk2⟩; have hq2' := hq2.drew.keep hk2 (by unfold Only; omega)))
  all_goals
    have hor : (takeL b at_ e 32).length = 32 ∨ takeL b at_ e 32 = [] := takeL_or b at_ e 32
    rw [spl_id _ hor] at hq3
    clear hor
    have hz2 := hk2.size
    have hq1' := (hq1.drew.keep hk2 (by unfold Only; omega)).keep hk3 (by unfold Only; omega)
    have hR3 := hR2.keep (by have : w1.drew.heap.size = w1.heap.size := rfl; omega) hk3 (by unfold Only; intro i hi; omega)
    have hz3 := hk3.size
    have hk3' : Keep (Only g) w w3 := (hk1.drew.trans hk2).then_ hk3 (by unfold Only; intro i hi q; omega)
    go_wp2_with (first | (refine wpList_load rfl rfl rfl (load_id hq3) ?_) | (refine wpList_storeBlk rfl rfl (vs := idC (idOf (takeL b at_ e 32))) rfl rfl hq1' (by rw [idC_size, idC_size]) (by rw [idC_size]; exact info42) (idL_one _) ?_; intro w4 hq4 hk4 hz4))
    refine bodyPost_ret (v := idV (idOf (takeL b at_ e 32))) (results_cell rfl _ _ rfl (run_loadVar_cells w4 _ (idC (idOf (takeL b at_ e 32))) Tryz.underlying24 rfl (by rw [idC_size]; exact info42) (fun j v hj => by rw [add_at, hq4.cell, ← hj]; simp))) rfl ⟨rfl, ?_, ?_⟩
    · exact hR3.keep (by have : w1.drew.heap.size = w1.heap.size := rfl; omega) hk4 (by unfold Only; intro i hi; omega)
    · exact hk3'.then_ hk4 (by unfold Only; intro i hi q; omega)
end Go.Proofs.YtppmolneklidfaaGreat

namespace Go.Proofs.YtppmolneklidfaaGreat
open Go.RowKit

/-- What the functions that write behind bytes answer: a slice that the caller owns. -/
def OwnPost (base : Nat) (l : List UInt8) (w : World) (r : Ending) (w' : World) : Prop :=
  ∃ A c, r = .returned (.slice A l.length c) ∧ Own w' base 5 1 A l.length c (l.map bv) ∧ Kept base [5] [] w w'

set_option maxHeartbeats 1000000 in
theorem put_any (i : Id) (base : Nat) (bs : List UInt8) (A : Option Addr) (c : Nat) (w : World) (ho : Own w base 5 1 A bs.length c (bs.map bv)) (hsz : bs.length + 32 ≤ 140737488355328) (hbz : base ≤ w.heap.size) :
    Calls Tryz.prog 18 #[.slice A bs.length c, idV i] w (OwnPost base (bs ++ i.1) w) := by
  go_enter Tryz.func18, Tryz.ntmps18
  go_wp2_with (first | (refine wpList_boxed rfl rfl (cs := idC i) rfl ?_))
  have hb0 : Blk (w.alloc (.cells (idC i) 24)) w.heap.size 24 (idC i) := Blk.new _ _ _
  have ho0 := ho.alloc (.cells (idC i) 24)
  have hk0 : Kept base [5] [] w (w.alloc (.cells (idC i) 24)) := (Kept.refl _ _ _ _).alloc _
  generalize w.alloc (.cells (idC i) 24) = w0 at *
  generalize w.heap.size = q at *
  go_loopw [0, 5] (fun b k wr => ∃ n out A' c', n ≤ 32 ∧ k = .int .i64 (n : Nat) ∧ b = .slice A' out.length c' ∧ out = bs ++ i.1.take n ∧ Own wr base 5 1 A' out.length c' (out.map bv) ∧ Kept base [5] [] w wr ∧ Blk wr q 24 (idC i)) (fun _ k _ => 32 - (intOf k).toNat)
  case atStart => exact ⟨0, bs, A, c, by omega, rfl, rfl, by simp, ho0, hk0, hb0⟩
  case round =>
    obtain ⟨n, out, A', c', hn, rfl, rfl, hout, hown, hkp, hb⟩ := hrel
    have hol : out.length ≤ bs.length + 32 := by rw [hout]; simp; omega
    have hz := hkp.size
    have HO := Lib.hid hout
    have hi := i.2
    by_cases hlt : n < 32
    · have hlt' : n < i.1.length := by omega
      have hol : out.length ≤ bs.length + 31 := by rw [hout]; simp; omega
      have c1 := hb.cell n
      rw [show (idC i)[n]? = some (bv i.1[n]) from by simp [idC, idL, hlt']] at c1
      have hs : bs ++ i.1.take (n + 1) = out ++ [i.1[n]] := by rw [hout, List.take_succ_eq_append_getElem hlt', List.append_assoc]
      have HS := Lib.hid hs
      have hlq := hb.lt
      generalize i.1[n] = y at *
      unfold bv at c1
      clear hs hout hi hlt'
      go_wp2_with (first | (at_builtin; refine wpList_append_sl rfl elemU8 rfl rfl (hown.alloc _) rfl (Reads.of_cells (n := 1) (xs := [bv y]) (heap_alloc_new _ _) rfl rfl) (bvs_one [y]) (by unfold maxLen; omega) (by omega) (by simp; omega) ?_; intro A2 c2 w2 ho2 hk2))
      go_roundw
      case rel =>
        exact ⟨n + 1, out ++ [y], A2, c2, by omega, by go_num, by simp, HS.out.symm, by simpa using ho2, (hkp.alloc _).trans hk2, hk2.blk (hb.alloc _) (by simp) (by decide)⟩
      case measure => simp [intOf]; omega
    · obtain rfl : n = 32 := by omega
      clear hout hi
      go_wp2
      go_ret
      have e : bs ++ i.1 = out := by rw [HO.out, List.take_of_length_le (by rw [i.2]; exact Nat.le_refl _)]
      exact ⟨A', c', by rw [e]; rfl, by rw [e]; exact hown, hkp⟩

theorem mod_shr (v k : Nat) : (v : Int) / 2 ^ (8 * k) % 256 = ((UInt8.ofNat (v / 256 ^ k)).toNat : Int) := by
  rw [show (2 : Int) ^ (8 * k) = ((256 ^ k : Nat) : Int) from by rw [Int.pow_mul]; simp]
  simp
set_option maxHeartbeats 1000000 in
theorem num_any (n v : Nat) (hn : n ≤ 8) (base : Nat) (bs : List UInt8) (A : Option Addr) (c : Nat) (w : World) (ho : Own w base 5 1 A bs.length c (bs.map bv)) (hsz : bs.length + n ≤ 140737488355328) (hbz : base ≤ w.heap.size) :
    Calls Tryz.prog 20 #[.slice A bs.length c, .int .i64 n, .int .u64 v] w (OwnPost base (bs ++ be n v) w) := by
  go_enter Tryz.func20, Tryz.ntmps20
  go_wp2_with fail
  go_loopw [0, 7] (fun b i wr => ∃ k out A' c', k ≤ n ∧ i = .int .i64 ((k : Int) - 1) ∧ b = .slice A' out.length c' ∧ out ++ be k v = bs ++ be n v ∧ Own wr base 5 1 A' out.length c' (out.map bv) ∧ Kept base [5] [] w wr) (fun _ i _ => (intOf i + 1).toNat)
  case atStart => exact ⟨n, bs, A, c, Nat.le_refl _, rfl, rfl, rfl, ho, Kept.refl _ _ _ _⟩
  case round =>
    obtain ⟨k, out, A', c', hk, rfl, rfl, hpre, hown, hkp⟩ := hrel
    have hl : out.length + k = bs.length + n := by have := congrArg List.length hpre; simpa [be_len] using this
    have HP := Lib.hid hpre
    have hz := hkp.size
    clear hpre
    cases k with
    | zero =>
      clear hl
      go_wp2
      go_ret
      have := HP.out
      simp only [be, List.append_nil] at this
      exact ⟨A', c', by rw [← this]; rfl, by rw [← this]; exact hown, hkp⟩
    | succ k =>
      have k8 : k < 8 := by omega
      have hw8 : IntKind.i64.wrap (8 * (k : Int)) = 8 * (k : Int) := IntWalk.i64_in _ (by omega)
      have hbe : be (k + 1) v = UInt8.ofNat (v / 256 ^ k) :: be k v := rfl
      have hcv := mod_shr v k
      generalize UInt8.ofNat (v / 256 ^ k) = y at *
      have HB := Lib.hid hbe
      have hl2 : out.length + 1 ≤ 140737488355328 := by omega
      clear hbe hl
      rw [show ((k + 1 : Nat) : Int) - 1 = (k : Int) from by omega]
      go_wp2_with (first | (at_builtin; refine wpList_append_sl rfl elemU8 rfl rfl (hown.alloc _) rfl (Reads.of_cells (n := 1) (xs := [bv y]) (heap_alloc_new _ _) rfl rfl) (bvs_one [y]) (by unfold maxLen; omega) (by omega) (by simp; omega) ?_; intro A2 c2 w2 ho2 hk2))
      go_roundw
      case rel => exact ⟨k, out ++ [y], A2, c2, by omega, by go_num, by simp, by rw [← HP.out, HB.out]; simp, by simpa using ho2, (hkp.alloc _).trans hk2⟩
      case measure => first | (simp [intOf]; done) | (simp [intOf]; omega)

theorem or_byte_i (v : Nat) (x : UInt8) (hv : v < 36028797018963968) : bits .or .i64 ((v : Int) * 256) (x.toNat : Int) = ((v * 256 + x.toNat : Nat) : Int) := by
  have hx := x.toNat_lt
  have e : ∀ a : Nat, a < 9223372036854775808 → (BitVec.ofInt 64 (a : Int)).toNat = a := fun a ha => by
    rw [BitVec.ofInt_natCast, BitVec.toNat_ofNat]; exact Nat.mod_eq_of_lt (by omega)
  have hor : v * 256 ||| x.toNat = v * 256 + x.toNat := by
    have := Nat.shiftLeft_add_eq_or_of_lt (a := v) (b := x.toNat) (i := 8) (by omega)
    rw [Nat.shiftLeft_eq] at this
    exact this.symm
  rw [show (v : Int) * 256 = ((v * 256 : Nat) : Int) from by omega]
  show IntKind.i64.wrap ((BitVec.ofInt 64 ((v * 256 : Nat) : Int) ||| BitVec.ofInt 64 (x.toNat : Int)).toNat : Int) = _
  rw [BitVec.toNat_or, e _ (by omega), e _ (by omega), hor, IntKind.wrap_i64]
  omega
theorem num_lt7 (l : List UInt8) (h : l.length ≤ 6) : num l < 281474976710656 :=
  Nat.lt_of_lt_of_le (num_lt l) (Nat.le_trans (Nat.pow_le_pow_right (by omega) h) (by decide))

/-- Get's answer, a number of at most 8 bytes (its sign where 8). -/
def getV (l : List UInt8) : Int := IntKind.i64.wrap (num l : Int)
set_option maxHeartbeats 1000000 in
theorem get_any (b : List UInt8) (at_ n : Nat) (hn : at_ + n ≤ b.length) (h8 : n ≤ 7) (B : Nat) (A : Option Addr) (c : Nat) (w : World) (hr : Reads w B 1 A b.length (b.map bv)) (hb : b.length ≤ 9223372036854775807) :
    Calls Tryz.prog 68 #[.slice A b.length c, .int .i64 at_, .int .i64 n] w fun r w' => r = .returned (.int .i64 (num ((b.drop at_).take n))) ∧ w = w' := by
  go_enter Tryz.func68, Tryz.ntmps68
  go_wp2_with fail
  go_loop [7, 8] (fun v i => ∃ k : Nat, k ≤ n ∧ i = .int .i64 k ∧ v = .int .i64 (num ((b.drop at_).take k))) (fun _ i => n - (intOf i).toNat)
  case atStart => exact ⟨0, Nat.zero_le _, rfl, rfl⟩
  case round =>
    obtain ⟨k, hk', rfl, rfl⟩ := hrel
    by_cases hlt : k < n
    · have hlk : at_ + k < b.length := by omega
      obtain ⟨ad, u, rfl, _, hx, hc⟩ := hr.at_ hlk
      have hu : u = bv b[at_ + k] := by simpa [hlk] using hx.symm
      subst hu
      unfold bv at hc
      have hv := num_lt7 ((b.drop at_).take k) (by simp; omega)
      have hor := or_byte_i (num ((b.drop at_).take k)) b[at_ + k] (by omega)
      have hs : num ((b.drop at_).take (k + 1)) = num ((b.drop at_).take k) * 256 + b[at_ + k].toNat := by rw [List.take_succ_eq_append_getElem (by simp; omega), num_snoc]; simp
      rw [← hs] at hor
      have hv2 := num_lt8 ((b.drop at_).take (k + 1)) (by simp; omega)
      generalize num ((b.drop at_).take k) = v at *
      have hx0 := b[at_ + k].toNat_lt
      generalize b[at_ + k].toNat = x at *
      have HS := Lib.hid hs
      clear hs hx
      go_wp2
      go_round
      case rel => exact ⟨k + 1, by omega, by go_num, rfl⟩
      case measure => simp [intOf]; omega
    · obtain rfl : k = n := by omega
      go_wp2
      go_ret
      exact ⟨rfl, rfl⟩

theorem spl_snoc (cs : Array Value) (l : List Value) (v : Value) (h : l.length < cs.size) : (spl cs 0 l).setIfInBounds l.length v = spl cs 0 (l ++ [v]) := by
  apply Array.ext'
  simp only [spl, Array.toList_setIfInBounds, List.take_zero, List.nil_append, Nat.zero_add, List.length_append, List.length_singleton]
  rw [List.set_append_right _ _ (Nat.le_refl _), Nat.sub_self, List.drop_eq_getElem_cons (by simpa using h), List.set_cons_zero, List.append_assoc]
  rfl
set_option maxHeartbeats 1000000 in
theorem at_any (b : List UInt8) (hb : b.length = 32) (B : Nat) (A : Option Addr) (c : Nat) (w : World) (hr : Reads w B 1 A b.length (b.map bv)) (hB : B ≤ w.heap.size) :
    Calls Tryz.prog 82 #[.slice A b.length c, .int .i64 0] w fun r w' => r = .returned (idV (idOf b)) ∧ Below w.heap.size w w' := by
  go_enter Tryz.func82, Tryz.ntmps82
  go_wp2_with (first | (refine wpList_allocAgg rfl rfl (zero_noId _) ?_))
  have hb1 : Blk ((w.alloc (.cells (idC noId) 24)).alloc (.cells (idC noId) 24)) w.heap.size 24 (idC noId) := (Blk.new _ _ _).alloc _
  have hb2 : Blk ((w.alloc (.cells (idC noId) 24)).alloc (.cells (idC noId) 24)) (w.heap.size + 1) 24 (idC noId) := by have := Blk.new (w.alloc (.cells (idC noId) 24)) 24 (idC noId); simpa using this
  have hk1 : Keep Nothing w ((w.alloc (.cells (idC noId) 24)).alloc (.cells (idC noId) 24)) := ((Keep.refl _ _).alloc _).alloc _
  generalize (w.alloc (.cells (idC noId) 24)).alloc (.cells (idC noId) 24) = w1 at *
  go_loopw [6] (fun i wr => ∃ k : Nat, k ≤ 32 ∧ i = .int .i64 k ∧ Blk wr (w.heap.size + 1) 24 (spl (idC noId) 0 ((b.take k).map bv)) ∧ Blk wr w.heap.size 24 (idC noId) ∧ Keep Nothing w wr) (fun i _ => 32 - (intOf i).toNat)
  case atStart => exact ⟨0, by omega, rfl, by simpa [spl] using hb2, hb1, hk1⟩
  case round =>
    obtain ⟨k, hk', rfl, hq2, hq1, hkw⟩ := hrel
    have hrw := hr.kept hkw hB (fun _ _ q => q)
    by_cases hlt : k < 32
    · obtain ⟨ad, u, rfl, _, hx, hc⟩ := hrw.at_ (k := k) (by omega)
      have hu : u = bv b[k] := by simpa [show k < b.length by omega] using hx.symm
      subst hu
      have e1 := hq2.cell k
      have e2 := hq2.frozen k
      have hsz : (spl (idC noId) 0 ((b.take k).map bv)).size = 32 := by simp [spl, idC_size]; omega
      obtain ⟨v0, hv0⟩ : ∃ v0, (spl (idC noId) 0 ((b.take k).map bv))[k]? = some v0 := ⟨_, Array.getElem?_eq_getElem (by omega)⟩
      rw [hv0] at e1
      have hset : (spl (idC noId) 0 ((b.take k).map bv)).setIfInBounds k (bv b[k]) = spl (idC noId) 0 ((b.take (k + 1)).map bv) := by
        have := spl_snoc (idC noId) ((b.take k).map bv) (bv b[k]) (by simp [idC_size]; omega)
        rw [show ((b.take k).map bv).length = k by simp; omega] at this
        rw [this, List.take_succ_eq_append_getElem (by omega), List.map_append, List.map_singleton]
      unfold bv at hc
      have HS := Lib.hid hset
      clear hset hv0 hsz hx
      have hlq := hq2.lt
      go_wp2_with fail
      go_roundw
      case rel =>
        refine ⟨k + 1, by omega, by go_num, ?_, hq1.far (p := ⟨w.heap.size + 1, k, none⟩) (by simp) _, hkw.setCell (p := ⟨w.heap.size + 1, k, none⟩) (.inr (by simp)) _⟩
        rw [← HS.out]
        exact hq2.set_ k (bv b[k])
      case measure => simp [intOf]; omega
    · obtain rfl : k = 32 := by omega
      rw [List.take_of_length_le (by omega), spl_id b (.inl hb)] at hq2
      go_wp2_with (first | (refine wpList_load rfl rfl rfl (load_id hq2) ?_) | (refine wpList_storeBlk rfl rfl (vs := idC (idOf b)) rfl rfl hq1 (by rw [idC_size, idC_size]) (by rw [idC_size]; exact info42) (idL_one _) ?_; intro w4 hq4 hk4 hz4))
      refine bodyPost_ret (v := idV (idOf b)) (results_cell rfl _ _ rfl (run_loadVar_cells w4 _ (idC (idOf b)) Tryz.underlying24 rfl (by rw [idC_size]; exact info42) (fun j v hj => by rw [add_at, hq4.cell, ← hj]; simp))) rfl ⟨rfl, ?_⟩
      exact Keep.all (hkw.then_ hk4 (by unfold Only; intro i hi q; omega))
end Go.Proofs.YtppmolneklidfaaGreat
