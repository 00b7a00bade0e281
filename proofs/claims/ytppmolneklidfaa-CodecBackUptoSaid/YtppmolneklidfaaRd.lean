/-
  Contracts of codec's reader: number, text, id, short, end. No statement of the seat is proved here.
-/
import Derived.Test.YtppmolneklidfaaCdc2
import Derived.Test.YtppmolneklidfaaWr
import Derived.Laws.BitsAllLaws
namespace Go.Proofs.Ytppmolneklidfaa
open Go.RowKit

/-- The number that bytes say, the highest first. -/
def num (l : List UInt8) : Nat := l.foldl (fun v x => v * 256 + x.toNat) 0
theorem num_snoc (l : List UInt8) (x : UInt8) : num (l ++ [x]) = num l * 256 + x.toNat := by simp [num]
theorem num_lt (l : List UInt8) : num l < 256 ^ l.length := by
  have key : ∀ (l : List UInt8) (v k : Nat), v < 256 ^ k → l.foldl (fun v x => v * 256 + x.toNat) v < 256 ^ (k + l.length) := by
    intro l
    induction l with
    | nil => intro v k h; simpa using h
    | cons x l ih =>
      intro v k h
      have hx := x.toNat_lt
      have := ih (v * 256 + x.toNat) (k + 1) (by rw [Nat.pow_succ]; omega)
      simpa [Nat.add_assoc, Nat.add_comm, Nat.add_left_comm] using this
  simpa [num] using key l 0 0 (by simp)
theorem num_lt8 (l : List UInt8) (h : l.length ≤ 7) : num l < 72057594037927936 :=
  Nat.lt_of_lt_of_le (num_lt l) (Nat.le_trans (Nat.pow_le_pow_right (by omega) h) (by decide))
theorem or_byte (v : Nat) (x : UInt8) (hv : v < 72057594037927936) : bits .or .u64 (IntKind.u64.wrap ((v : Int) * 256)) (x.toNat : Int) = ((v * 256 + x.toNat : Nat) : Int) := by
  have hx := x.toNat_lt
  have e : IntKind.u64.wrap ((v : Int) * 256) = ((v * 256 : Nat) : Int) := by
    simp [IntKind.wrap, IntKind.signed, IntKind.bits]; omega
  rw [e, u64_or_nat _ _ (by omega) (by omega)]
  have := Nat.shiftLeft_add_eq_or_of_lt (a := v) (b := x.toNat) (i := 8) (by omega)
  rw [Nat.shiftLeft_eq] at this
  rw [show v * 256 = v * 2 ^ 8 from rfl, ← this]

def NumPost (g B : Nat) (b : List UInt8) (at_ : Nat) (e n : Int) (w : World) (r : Ending) (w' : World) : Prop :=
  r = .returned (.int .u64 (num (takeL b at_ e n))) ∧ Rd w' g B b (takeAt b at_ e n) (takeE b at_ e n) ∧ Keep (Only g) w w'

theorem takeL_le (b : List UInt8) (at_ : Nat) (e : Int) (n : Nat) : (takeL b at_ e n).length ≤ n := by
  unfold takeL
  split
  · simp; omega
  · simp

set_option maxHeartbeats 1000000 in
theorem rnumber_any (n : Nat) (hn : n ≤ 8) (g B : Nat) (b : List UInt8) (at_ : Nat) (e : Int) (w : World) (hr : Rd w g B b at_ e) (hB : B ≤ w.heap.size) :
    Calls Try.prog 48 #[.pointer (some ⟨g, 0, none⟩), .int .i64 n] w (NumPost g B b at_ e n w) := by
  have hl8 := takeL_le b at_ e n
  go_enter Try.func48, Try.ntmps48
  go_wp2_with fail
  refine (take_any g B b at_ e n _ hr hB).mono ?_
  rintro r w1 ⟨A, c, rfl, hrd, hlc, hcm, hR, hk⟩
  generalize hl : takeL b at_ e n = l at *
  have HL := Lib.hid hl
  clear hl
  unfold maxLen at hcm
  go_wp2_with fail
  go_loop [5, 12] (fun v i => ∃ k : Nat, k ≤ l.length ∧ i = .int .i64 k ∧ v = .int .u64 (num (l.take k))) (fun _ i => l.length - (intOf i).toNat)
  case atStart => exact ⟨0, Nat.zero_le _, rfl, rfl⟩
  case round =>
    obtain ⟨k, hk', rfl, rfl⟩ := hrel
    by_cases hlt : k < l.length
    · obtain ⟨ad, u, rfl, _, hx, hc⟩ := hrd.at_ hlt
      have hu : u = bv l[k] := by simpa [hlt] using hx.symm
      subst hu
      unfold bv at hc
      have hor := or_byte (num (l.take k)) l[k] (num_lt8 _ (by simp; omega))
      have hs : num (l.take (k + 1)) = num (l.take k) * 256 + l[k].toNat := by rw [List.take_succ_eq_append_getElem hlt, num_snoc]
      rw [← hs] at hor
      generalize num (l.take k) = v at *
      have hx0 := l[k].toNat_lt
      generalize l[k].toNat = x at *
      have HS := Lib.hid hs
      clear hs hx
      go_wp2
      go_round
      case rel => exact ⟨k + 1, by omega, by go_num, rfl⟩
      case measure => simp [intOf]; omega
    · obtain rfl : k = l.length := by omega
      go_wp2
      go_ret
      exact ⟨by rw [HL.out]; rfl, hR, hk⟩

/-- What text tells: the bytes behind the length. -/
def textL (b : List UInt8) (at_ : Nat) (e n : Int) : List UInt8 := takeL b (takeAt b at_ e n) (takeE b at_ e n) (num (takeL b at_ e n))
def textAt (b : List UInt8) (at_ : Nat) (e n : Int) : Nat := takeAt b (takeAt b at_ e n) (takeE b at_ e n) (num (takeL b at_ e n))
def textE (b : List UInt8) (at_ : Nat) (e n : Int) : Int := takeE b (takeAt b at_ e n) (takeE b at_ e n) (num (takeL b at_ e n))
def str (l : List UInt8) : ByteArray := ⟨l.toArray⟩

def TextPost (g B : Nat) (b : List UInt8) (at_ : Nat) (e n : Int) (w : World) (r : Ending) (w' : World) : Prop :=
  r = .returned (.string (str (textL b at_ e n))) ∧ Rd w' g B b (textAt b at_ e n) (textE b at_ e n) ∧ Keep (Only g) w w'

set_option maxHeartbeats 1000000 in
theorem rtext_any (n : Nat) (hn : n ≤ 7) (g B : Nat) (b : List UInt8) (at_ : Nat) (e : Int) (w : World) (hr : Rd w g B b at_ e) (hB : B ≤ w.heap.size) :
    Calls Try.prog 49 #[.pointer (some ⟨g, 0, none⟩), .int .i64 n] w (TextPost g B b at_ e n w) := by
  have hl8 := takeL_le b at_ e n
  have hv := num_lt8 (takeL b at_ e n) (by omega)
  go_enter Try.func49, Try.ntmps49
  go_wp2_with fail
  refine (rnumber_any n (by omega) g B b at_ e _ hr hB).mono ?_
  rintro r w1 ⟨rfl, hR, hk⟩
  have hz := hk.size
  go_wp2_with fail
  refine (take_any g B b _ _ _ _ hR (by omega)).mono ?_
  rintro r w2 ⟨A, c, rfl, hrd, hlc, hcm, hR2, hk2⟩
  go_wp2_with (first | (refine wpList_convStr rfl rfl Try.underlying23 Try.underlying5 Try.underlying9 rfl hrd ?_))
  go_ret
  exact ⟨rfl, hR2, hk.trans hk2⟩

def shortE (b : List UInt8) (at_ : Nat) (e : Int) : Int := note (takeE b at_ e 2) (decide ((num (takeL b at_ e 2) : Int) ≤ 1000)) 5
def shortL (b : List UInt8) (at_ : Nat) (e : Int) : List UInt8 := takeL b (takeAt b at_ e 2) (shortE b at_ e) (num (takeL b at_ e 2))
def shortAt (b : List UInt8) (at_ : Nat) (e : Int) : Nat := takeAt b (takeAt b at_ e 2) (shortE b at_ e) (num (takeL b at_ e 2))
def shortE2 (b : List UInt8) (at_ : Nat) (e : Int) : Int := takeE b (takeAt b at_ e 2) (shortE b at_ e) (num (takeL b at_ e 2))
def ShortPost (g B : Nat) (b : List UInt8) (at_ : Nat) (e : Int) (w : World) (r : Ending) (w' : World) : Prop :=
  r = .returned (.string (str (shortL b at_ e))) ∧ Rd w' g B b (shortAt b at_ e) (shortE2 b at_ e) ∧ Keep (Only g) w w'

theorem Rd.blk {w : World} {g B : Nat} {b : List UInt8} {at_ : Nat} {e : Int} (h : Rd w g B b at_ e) : ∃ A c, Blk w g 103 #[.slice A b.length c, .int .i64 at_, .int .i64 e] ∧ ∀ w' e', Blk w' g 103 #[.slice A b.length c, .int .i64 at_, .int .i64 e'] → (B ≤ w.heap.size → Keep (Only g) w w' → Rd w' g B b at_ e') := by
  obtain ⟨A, c, hb, hrd, h1, h2, h3, h4⟩ := h
  exact ⟨A, c, hb, fun w' e' hb' hB hk => ⟨A, c, hb', hrd.kept hk hB (fun i hi q => by unfold Only at q; omega), h1, h2, h3, h4⟩⟩

theorem Rd.alloc {w : World} {g B : Nat} {b : List UInt8} {at_ : Nat} {e : Int} (h : Rd w g B b at_ e) (hB : B ≤ w.heap.size) (o : Obj) : Rd (w.alloc o) g B b at_ e := by
  obtain ⟨A, c, hb, hrd, h1, h2, h3, h4⟩ := h
  exact ⟨A, c, hb.alloc o, hrd.alloc hB o, h1, h2, h3, h4⟩
theorem Rd.drew {w : World} {g B : Nat} {b : List UInt8} {at_ : Nat} {e : Int} (h : Rd w g B b at_ e) : Rd w.drew g B b at_ e := h
theorem Rd.keep {S : Nat → Prop} {w w' : World} {g B : Nat} {b : List UInt8} {at_ : Nat} {e : Int} (h : Rd w g B b at_ e) (hB : B ≤ w.heap.size) (hk : Keep S w w') (hS : ∀ i, S i → B ≤ i ∧ i ≠ g) : Rd w' g B b at_ e := by
  obtain ⟨A, c, hb, hrd, h1, h2, h3, h4⟩ := h
  exact ⟨A, c, hb.keep hk (fun q => (hS g q).2 rfl), hrd.kept hk hB (fun i hi q => by have := (hS i q).1; omega), h1, h2, h3, h4⟩

set_option maxHeartbeats 1000000 in
theorem rshort_any (g B : Nat) (b : List UInt8) (at_ : Nat) (e : Int) (w : World) (hr : Rd w g B b at_ e) (hB : B ≤ w.heap.size) :
    Calls Try.prog 60 #[.pointer (some ⟨g, 0, none⟩)] w (ShortPost g B b at_ e w) := by
  have hl8 := takeL_le b at_ e 2
  have hv := num_lt8 (takeL b at_ e 2) (by simp at hl8; omega)
  go_enter Try.func60, Try.ntmps60
  go_wp2_with fail
  refine (rnumber_any 2 (by omega) g B b at_ e _ hr hB).mono ?_
  rintro r w1 ⟨rfl, hR, hk⟩
  have hz := hk.size
  obtain ⟨A1, c1, hb1, hR1⟩ := hR.blk
  go_wp2_with fail
  refine (must_any g _ _ _ _ 5 _ _ hb1).mono ?_
  rintro r w2 ⟨rfl, hb2, hk2⟩
  have hz2 := hk2.size
  have hR2 := hR1 _ _ hb2 (by omega) hk2
  go_wp2_with fail
  refine (take_any g B b _ _ _ _ hR2 (by omega)).mono ?_
  rintro r w3 ⟨A, c, rfl, hrd, hlc, hcm, hR3, hk3⟩
  go_wp2_with (first | (refine wpList_convStr rfl rfl Try.underlying23 Try.underlying5 Try.underlying9 rfl hrd ?_))
  go_ret
  exact ⟨rfl, hR3, (hk.trans hk2).trans hk3⟩

def endE (b : List UInt8) (at_ : Nat) (e : Int) : Int := note e ((at_ : Int) == (b.length : Int)) 15
def EndPost (g B : Nat) (b : List UInt8) (at_ : Nat) (e : Int) (w : World) (r : Ending) (w' : World) : Prop :=
  r = .returned (.tuple #[]) ∧ Rd w' g B b at_ (endE b at_ e) ∧ Keep (Only g) w w'
set_option maxHeartbeats 1000000 in
set_option maxRecDepth 100000 in
theorem rend_any (g B : Nat) (b : List UInt8) (at_ : Nat) (e : Int) (w : World) (hr : Rd w g B b at_ e) (hB : B ≤ w.heap.size) :
    Calls Try.prog 61 #[.pointer (some ⟨g, 0, none⟩)] w (EndPost g B b at_ e w) := by
  obtain ⟨A, c, hb, hR⟩ := hr.blk
  have c0 := hb.cell 0
  have c1 := hb.cell 1
  simp at c0 c1
  go_enter Try.func61, Try.ntmps61
  go_wp2_with fail
  go_still_tail 15, (by kernel_rfl)
  change wpList _ _ _ _ _ w.drew
  have hb' := hb.drew
  have hR' := fun w' e' h k => hR w' e' h hB ((Keep.drew (Keep.refl (Only g) w)).trans k)
  have hk0 : Keep (Only g) w w.drew := (Keep.refl _ _).drew
  generalize w.drew = w1 at *
  go_wp2_with fail
  refine (must_any g _ _ _ _ 15 _ _ hb').mono ?_
  rintro r w2 ⟨rfl, hb2, hk2⟩
  go_wp2_with fail
  go_end0
  refine ⟨rfl, ?_, hk0.trans hk2⟩
  have T := hR' _ _ hb2 hk2
  unfold endE
  first | exact T | (simpa using T)

/-- An Id's bytes, or none. -/
def idOf (l : List UInt8) : Id := if h : l.length = 32 then ⟨l, h⟩ else noId
def IdPost (g B : Nat) (b : List UInt8) (at_ : Nat) (e : Int) (w : World) (r : Ending) (w' : World) : Prop :=
  r = .returned (idV (idOf (takeL b at_ e 32))) ∧ Rd w' g B b (takeAt b at_ e 32) (takeE b at_ e 32) ∧ Keep (Only g) w w'
theorem takeL_or (b : List UInt8) (at_ : Nat) (e : Int) (n : Nat) : (takeL b at_ e n).length = n ∨ takeL b at_ e n = [] := by
  unfold takeL
  split
  · left; simp; omega
  · right; rfl
theorem spl_id (l : List UInt8) (h : l.length = 32 ∨ l = []) : spl (idC noId) 0 (l.map bv) = idC (idOf l) := by
  rcases h with h | h
  · have e : idOf l = ⟨l, h⟩ := dif_pos h
    rw [e]
    apply Array.ext'
    simp [spl, idC, idL, noId, h]
  · subst h
    have e : idOf [] = noId := dif_neg (by decide)
    rw [e]
    apply Array.ext'
    simp [spl]
set_option maxHeartbeats 1000000 in
set_option maxRecDepth 100000 in
theorem rid_any (g B : Nat) (b : List UInt8) (at_ : Nat) (e : Int) (w : World) (hr : Rd w g B b at_ e) (hB : B ≤ w.heap.size) :
    Calls Try.prog 50 #[.pointer (some ⟨g, 0, none⟩)] w (IdPost g B b at_ e w) := by
  have hlg : g < w.heap.size := by obtain ⟨_, _, hb, _⟩ := hr; exact hb.lt
  have hA1 : Rd ((w.alloc (.cells (idC noId) 42)).alloc (.cells (idC noId) 42)) g B b at_ e := (hr.alloc hB _).alloc (by simp; omega) _
  have hq1 : Blk ((w.alloc (.cells (idC noId) 42)).alloc (.cells (idC noId) 42)) w.heap.size 42 (idC noId) := (Blk.new _ _ _).alloc _
  have hq2 : Blk ((w.alloc (.cells (idC noId) 42)).alloc (.cells (idC noId) 42)) (w.heap.size + 1) 42 (idC noId) := by have := Blk.new (w.alloc (.cells (idC noId) 42)) 42 (idC noId); simpa using this
  have hk1 : Keep (Only g) w ((w.alloc (.cells (idC noId) 42)).alloc (.cells (idC noId) 42)) := ((Keep.refl _ _).alloc _).alloc _
  go_enter Try.func50, Try.ntmps50
  go_wp2_with (first | (refine wpList_allocAgg rfl rfl (zero_noId _) ?_))
  go_frame
  have hz1 : B ≤ ((w.alloc (.cells (idC noId) 42)).alloc (.cells (idC noId) 42)).heap.size := by simp; omega
  generalize (w.alloc (.cells (idC noId) 42)).alloc (.cells (idC noId) 42) = w1 at *
  have h32 := takeL_le b at_ e 32
  go_region_law (first | ((refine step_copy_blk (by rfl) (by rfl) Try.underlying23 infoU8 (by rfl) hq2' (by rw [idC_size]) (by rfl) hrd (bvs_one _) h32 ?_); intro w3 hq3 hk3) | (go_simp; go_at_call 69; refine (take_any g B b at_ e 32 _ hA1.drew hz1).mono ?_; rintro r w2 ⟨A, c, rfl, hrd, hlc, hcm, hR2, hk2⟩; have hq2' := hq2.drew.keep hk2 (by unfold Only; omega)))
  all_goals
    have hor : (takeL b at_ e 32).length = 32 ∨ takeL b at_ e 32 = [] := takeL_or b at_ e 32
    rw [spl_id _ hor] at hq3
    clear hor
    have hz2 := hk2.size
    have hq1' := (hq1.drew.keep hk2 (by unfold Only; omega)).keep hk3 (by unfold Only; omega)
    have hR3 := hR2.keep (by have : w1.drew.heap.size = w1.heap.size := rfl; omega) hk3 (by unfold Only; intro i hi; omega)
    have hz3 := hk3.size
    have hk3' : Keep (Only g) w w3 := (hk1.drew.trans hk2).then_ hk3 (by unfold Only; intro i hi q; omega)
    go_wp2_with (first | (refine wpList_load rfl rfl rfl (load_id hq3) ?_) | (refine wpList_storeBlk rfl rfl (vs := idC (idOf (takeL b at_ e 32))) rfl rfl hq1' (by rw [idC_size, idC_size]) (by rw [idC_size]; exact info42) (idL_one _) ?_; intro w4 hq4 hk4 hz4))
    refine bodyPost_ret (v := idV (idOf (takeL b at_ e 32))) (results_cell rfl _ _ rfl (run_loadVar_cells w4 _ (idC (idOf (takeL b at_ e 32))) Try.underlying42 rfl (by rw [idC_size]; exact info42) (fun j v hj => by rw [add_at, hq4.cell, ← hj]; simp))) rfl ⟨rfl, ?_, ?_⟩
    · exact hR3.keep (by have : w1.drew.heap.size = w1.heap.size := rfl; omega) hk4 (by unfold Only; intro i hi; omega)
    · exact hk3'.then_ hk4 (by unfold Only; intro i hi q; omega)
end Go.Proofs.Ytppmolneklidfaa
