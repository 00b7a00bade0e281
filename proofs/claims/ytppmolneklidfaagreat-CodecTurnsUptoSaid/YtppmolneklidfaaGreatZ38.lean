/-
  Texts of the codec joined (Within). No statement of the seat is proved here.
-/
import Derived.Test.YtppmolneklidfaaGreatZ01
namespace Go.Proofs.YtppmolneklidfaaGreat
open Go.RowKit

theorem tmod_neg (a n : Int) (ha : a < 0) (hn : 0 < n) : -n < a.tmod n ∧ a.tmod n ≤ 0 ∧ a % n = if a.tmod n < 0 then a.tmod n + n else a.tmod n := by
  have h1 : a.tmod n = -((-a) % n) := by
    have := Int.neg_tmod (-a) n
    rw [Int.neg_neg] at this
    rw [this, Int.tmod_eq_emod_of_nonneg (by omega)]
  have h2 := Int.emod_nonneg (-a) (show n ≠ 0 by omega)
  have h3 := Int.emod_lt_of_pos (-a) hn
  have h4 := Int.emod_nonneg a (show n ≠ 0 by omega)
  have h5 := Int.emod_lt_of_pos a hn
  have h6 := Int.emod_add_mul_ediv a n
  have h7 := Int.emod_add_mul_ediv (-a) n
  rw [h1]
  refine ⟨by omega, by omega, ?_⟩
  have h8 : n * (a / n) + n * (-a / n) = n * (a / n + -a / n) := by rw [Int.mul_add]
  generalize a / n + -a / n = k at *
  have h9 : a % n + (-a) % n = -(n * k) := by omega
  have hk : k = 0 ∨ k = -1 := by
    rcases (by omega : 0 < k ∨ k ≤ 0) with hp | hp
    · have := Int.mul_le_mul_of_nonneg_left (show 1 ≤ k by omega) (show 0 ≤ n by omega)
      omega
    · rcases (by omega : k < -1 ∨ -1 ≤ k) with hq | hq
      · have := Int.mul_le_mul_of_nonneg_left (show k ≤ -2 by omega) (show 0 ≤ n by omega)
        omega
      · omega
  rcases hk with rfl | rfl
  · split <;> omega
  · split <;> omega
set_option maxHeartbeats 400000 in
theorem within_any (a n : Int) (h1 : 0 < n) (h2 : n ≤ 1000000000000000) (ha : -9223372036854775808 ≤ a ∧ a ≤ 9223372036854775807) (w : World) :
    Calls Tryz.prog 10 #[.int .i64 a, .int .i64 n] w fun r w' => r = .returned (.int .i64 (a % n)) ∧ w = w' := by
  obtain ⟨ha1, ha2⟩ := ha
  by_cases h0 : 0 ≤ a
  · have h3 := Int.emod_nonneg a (show n ≠ 0 by omega)
    have h4 := Int.emod_lt_of_pos a h1
    go_enter Tryz.func10, Tryz.ntmps10
    go_wp2
    go_ret
    exact ⟨rfl, rfl⟩
  · obtain ⟨h3, h4, h5⟩ := tmod_neg a n (by omega) h1
    have H5 := Lib.hid h5
    clear h5
    by_cases h6 : a.tmod n < 0
    · go_enter Tryz.func10, Tryz.ntmps10
      go_wp2
      go_ret
      exact ⟨by rw [H5.out, if_pos h6]; rfl, rfl⟩
    · go_enter Tryz.func10, Tryz.ntmps10
      go_wp2
      go_ret
      exact ⟨by rw [H5.out, if_neg (by omega)]; rfl, rfl⟩
end Go.Proofs.YtppmolneklidfaaGreat
