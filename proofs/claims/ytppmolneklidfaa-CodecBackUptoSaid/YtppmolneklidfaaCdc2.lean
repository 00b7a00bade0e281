/-
  Contracts of codec's reader: take. No statement of the seat is proved here.
-/
import Derived.Test.YtppmolneklidfaaCdc1
namespace Go.Proofs.Ytppmolneklidfaa
open Go.RowKit

/-- A reader's block: the bytes b, how far they were read, the first error. -/
def Rd (w : World) (g B : Nat) (b : List UInt8) (at_ : Nat) (e : Int) : Prop :=
  ∃ A cap, Blk w g 103 #[.slice A b.length cap, .int .i64 at_, .int .i64 e] ∧ Reads w B 1 A b.length (b.map bv) ∧ at_ ≤ b.length ∧ b.length ≤ cap ∧ cap ≤ maxLen ∧ B ≤ g

/-- What take tells, and how the reader stands behind it. -/
def takeL (b : List UInt8) (at_ : Nat) (e n : Int) : List UInt8 := if e = 0 ∧ 0 ≤ n ∧ n ≤ b.length - at_ then (b.drop at_).take n.toNat else []
def takeAt (b : List UInt8) (at_ : Nat) (e n : Int) : Nat := if e = 0 ∧ 0 ≤ n ∧ n ≤ b.length - at_ then at_ + n.toNat else at_
def takeE (b : List UInt8) (at_ : Nat) (e n : Int) : Int := if 0 ≤ n ∧ n ≤ b.length - at_ then e else note e false 14

def TakePost (g B : Nat) (b : List UInt8) (at_ : Nat) (e n : Int) (w : World) (r : Ending) (w' : World) : Prop :=
  ∃ A c, r = .returned (.slice A (takeL b at_ e n).length c) ∧ Reads w' B 1 A (takeL b at_ e n).length ((takeL b at_ e n).map bv) ∧ (takeL b at_ e n).length ≤ c ∧ c ≤ maxLen ∧
    Rd w' g B b (takeAt b at_ e n) (takeE b at_ e n) ∧ Keep (Only g) w w'

theorem note_ne (e : Int) : (note e false 14 != 0) = true := by
  unfold note
  split <;> simp_all

theorem take_bad {g B : Nat} {b : List UInt8} {at_ : Nat} {e n : Int} {w w1 : World} {A : Option Addr} {cap : Nat} (hout : ¬ (0 ≤ n ∧ n ≤ (b.length : Int) - at_))
    (hb : Blk w1 g 103 #[.slice A b.length cap, .int .i64 at_, .int .i64 (note e false 14)]) (hrd : Reads w B 1 A b.length (b.map bv)) (hat : at_ ≤ b.length) (hcap : b.length ≤ cap) (hmax : cap ≤ maxLen) (hBg : B ≤ g) (hB : B ≤ w.heap.size)
    (hk : Keep (Only g) w w1) : TakePost g B b at_ e n w (.returned (.slice none 0 0)) w1 := by
  have h1 : takeL b at_ e n = [] := by unfold takeL; rw [if_neg (fun q => hout q.2)]
  have h2 : takeAt b at_ e n = at_ := by unfold takeAt; rw [if_neg (fun q => hout q.2)]
  have h3 : takeE b at_ e n = note e false 14 := by unfold takeE; rw [if_neg hout]
  refine ⟨none, 0, ?_, ?_, ?_, Nat.zero_le _, ?_, hk⟩
  · rw [h1]; rfl
  · rw [h1]; exact Reads.none_
  · rw [h1]; exact Nat.le_refl _
  · rw [h2, h3]
    exact ⟨A, cap, hb, hrd.kept hk hB (fun i hi q => by unfold Only at q; omega), hat, hcap, hmax, hBg⟩

theorem take_err {g B : Nat} {b : List UInt8} {at_ : Nat} {e n : Int} {w w1 : World} {A : Option Addr} {cap : Nat} (hin : 0 ≤ n ∧ n ≤ (b.length : Int) - at_) (he : ¬ e = 0)
    (hb : Blk w1 g 103 #[.slice A b.length cap, .int .i64 at_, .int .i64 e]) (hrd : Reads w B 1 A b.length (b.map bv)) (hat : at_ ≤ b.length) (hcap : b.length ≤ cap) (hmax : cap ≤ maxLen) (hBg : B ≤ g) (hB : B ≤ w.heap.size)
    (hk : Keep (Only g) w w1) : TakePost g B b at_ e n w (.returned (.slice none 0 0)) w1 := by
  have h1 : takeL b at_ e n = [] := by unfold takeL; rw [if_neg (fun q => he q.1)]
  have h2 : takeAt b at_ e n = at_ := by unfold takeAt; rw [if_neg (fun q => he q.1)]
  have h3 : takeE b at_ e n = e := by unfold takeE; rw [if_pos hin]
  refine ⟨none, 0, ?_, ?_, ?_, Nat.zero_le _, ?_, hk⟩
  · rw [h1]; rfl
  · rw [h1]; exact Reads.none_
  · rw [h1]; exact Nat.le_refl _
  · rw [h2, h3]
    exact ⟨A, cap, hb, hrd.kept hk hB (fun i hi q => by unfold Only at q; omega), hat, hcap, hmax, hBg⟩

theorem take_ok {g B : Nat} {b : List UInt8} {at_ k : Nat} {w w1 : World} {A : Option Addr} {cap : Nat} (hin : k ≤ b.length - at_)
    (hb : Blk w1 g 103 #[.slice A b.length cap, .int .i64 ((at_ : Int) + (k : Int)), .int .i64 0]) (hrd : Reads w B 1 A b.length (b.map bv)) (hat : at_ ≤ b.length) (hcap : b.length ≤ cap) (hmax : cap ≤ maxLen) (hBg : B ≤ g) (hB : B ≤ w.heap.size)
    (hk : Keep (Only g) w w1) : TakePost g B b at_ 0 k w (.returned (.slice (if cap = at_ then A else A.map (·.add at_)) k (cap - at_))) w1 := by
  have hin' : (0 : Int) = 0 ∧ 0 ≤ (k : Int) ∧ (k : Int) ≤ (b.length : Int) - at_ := ⟨rfl, by omega, by omega⟩
  have h1 : takeL b at_ 0 k = (b.drop at_).take k := by unfold takeL; rw [if_pos hin']; simp
  have h2 : takeAt b at_ 0 k = at_ + k := by unfold takeAt; rw [if_pos hin']; simp
  have h3 : takeE b at_ 0 k = 0 := by unfold takeE; rw [if_pos hin'.2]
  have hl : ((b.drop at_).take k).length = k := by simp; omega
  have hr1 : Reads w1 B 1 A b.length (b.map bv) := hrd.kept hk hB (fun i hi q => by unfold Only at q; omega)
  have hr2 := (hr1.cut (k := at_) (cap := cap) hat hcap).front (k := k) hin
  refine ⟨_, _, by rw [h1, hl], ?_, by rw [h1, hl]; omega, by omega, ?_, hk⟩
  · rw [h1, hl, List.map_take, List.map_drop]
    simpa using hr2
  · rw [h2, h3]
    exact ⟨A, cap, by simpa using hb, hr1, by omega, hcap, hmax, hBg⟩

set_option maxHeartbeats 1000000 in
theorem take_any (g B : Nat) (b : List UInt8) (at_ : Nat) (e n : Int) (w : World) (hr : Rd w g B b at_ e) (hB : B ≤ w.heap.size) :
    Calls Try.prog 69 #[.pointer (some ⟨g, 0, none⟩), .int .i64 n] w (TakePost g B b at_ e n w) := by
  obtain ⟨A, cap, hb, hrd, hat, hcap, hmax', hBg⟩ := hr
  have hmax := hmax'
  unfold maxLen at hmax
  have c0 := hb.cell 0
  have c1 := hb.cell 1
  have c2 := hb.cell 2
  have f1 := hb.frozen 1
  simp at c0 c1 c2
  have hl63 : (b.length : Int) ≤ 9223372036854775807 := by omega
  by_cases hneg : n < 0
  · have hd : decide (n < 0) = true := by simpa using hneg
    have hne := note_ne e
    go_enter Try.func69, Try.ntmps69
    go_wp2_with fail
    go_quiet (fail)
    go_wp2_with (go_at_call 70; refine (fail_any g _ _ _ e 14 _ (hb.drewN _)).mono ?_; rintro r w1 ⟨rfl, hb1, hk⟩; have d2 := hb1.cell 2; simp at d2)
    go_ret
    exact take_bad (by omega) hb1 hrd hat hcap hmax' hBg hB hk.ofDrewN
  · by_cases hbig : (b.length : Int) - at_ < n
    · have hd : decide (n < 0) = false := by simpa using hneg
      have hd2 : decide ((b.length : Int) - at_ < n) = true := by simpa using hbig
      have hne := note_ne e
      go_enter Try.func69, Try.ntmps69
      go_wp2_with fail
      go_quiet (fail)
      go_wp2_with (go_at_call 70; refine (fail_any g _ _ _ e 14 _ (hb.drewN _)).mono ?_; rintro r w1 ⟨rfl, hb1, hk⟩; have d2 := hb1.cell 2; simp at d2)
      go_ret
      exact take_bad (by omega) hb1 hrd hat hcap hmax' hBg hB hk.ofDrewN
    · have hd : decide (n < 0) = false := by simpa using hneg
      have hd2 : decide ((b.length : Int) - at_ < n) = false := by simpa using hbig
      by_cases he : e = 0
      · subst he
        obtain ⟨k, rfl⟩ := Int.eq_ofNat_of_zero_le (show 0 ≤ n by omega)
        have k1 : at_ + k ≤ b.length := by omega
        by_cases hca : cap = at_
        all_goals
          try subst hca
          go_enter Try.func69, Try.ntmps69
          go_wp2_with fail
          go_quiet (fail)
          go_wp2_with fail
          obtain ⟨nq_0, rfl⟩ : ∃ n0, n0 = nq := ⟨_, rfl⟩
          go_quiet (fail)
          go_wp2_with fail
          go_ret
          have T := take_ok (k := k) (by omega) ((((hb.drewN nq_0).set_ 1 (.int .i64 (_ + (k : Int)))).drewN nq)) hrd hat hcap hmax' hBg hB ((((Keep.refl (Only g) w).drewN nq_0).setCell (p := ⟨g, 1, none⟩) (.inl rfl) _).drewN nq)
          refine post_congr T ?_
          simp_all
      · have he1 : (e != 0) = true := by simpa using he
        go_enter Try.func69, Try.ntmps69
        go_wp2_with fail
        go_quiet (fail)
        go_wp2_with fail
        go_ret
        exact take_err (by omega) he (hb.drewN _) hrd hat hcap hmax' hBg hB ((Keep.refl _ _).drewN _)
end Go.Proofs.Ytppmolneklidfaa
