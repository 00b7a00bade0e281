/-
  Contract of selvagelaw12.Few. No statement of the seat is proved here.
-/
import Derived.Test.YtlcidbbpjlpmjaaDoorQw
namespace Go.Proofs.YtlcidbbpjlpmjaaDoor
open Go.RowKit

def sum20 (l : List (List UInt8)) : Nat := (l.map fun s => s.length / 20).sum
def fewN (l : List (List UInt8)) : Nat := l.length + sum20 (l.take 200)
theorem sum20_next {l : List (List UInt8)} {k : Nat} {s : List UInt8} (h : l[k]? = some s) : sum20 (l.take (k + 1)) = sum20 (l.take k) + s.length / 20 := by
  obtain ⟨hlt, he⟩ := List.getElem?_eq_some_iff.1 h
  rw [List.take_succ_eq_append_getElem hlt, he]
  simp [sum20]
theorem sum20_le {l : List (List UInt8)} {M : Nat} (h : ∀ s ∈ l, s.length ≤ M) : sum20 l ≤ l.length * M := by
  induction l with
  | nil => simp [sum20]
  | cons x l ih =>
    have h1 := ih (fun s hs => h s (List.mem_cons_of_mem _ hs))
    have h2 := h x List.mem_cons_self
    have h3 := Nat.div_le_self x.length 20
    simp only [sum20, List.map_cons, List.sum_cons, List.length_cons, Nat.add_mul, Nat.one_mul] at h1 ⊢
    omega
theorem fewN_len {l : List (List UInt8)} (h : fewN l < 120) : l.length < 120 := by unfold fewN at h; omega
set_option maxHeartbeats 1000000 in
set_option maxRecDepth 100000 in
theorem few_any (l : List (List UInt8)) (A : Option Addr) (c B : Nat) (w : World) (hr : Reads w B 1 A l.length (strL l)) (hl : l.length ≤ 1048576) (hls : ∀ s ∈ l, s.length ≤ 1048576) :
    Calls Tryd.prog 12 #[.slice A l.length c] w fun r w' => r = .returned (.bool (decide (fewN l < 120))) ∧ ∃ n, w' = w.drewN n := by
  go_enter Tryd.func12, Tryd.ntmps12
  go_wp2_with fail
  go_loopw [3, 4] (fun s3 s4 wr => ∃ k n : Nat, k ≤ l.length ∧ k ≤ 200 ∧ s3 = .int .i64 (l.length + sum20 (l.take k) : Nat) ∧ s4 = .int .i64 (k : Nat) ∧ wr = w.drewN n) (fun _ s4 _ => l.length - (intOf s4).toNat)
  case atStart => exact ⟨0, 0, Nat.zero_le _, Nat.zero_le _, by simp [sum20], rfl, rfl⟩
  case round =>
    obtain ⟨k, n, hk, hk2, rfl, rfl, rfl⟩ := hrel
    have hs := sum20_le (l := l.take k) (M := 1048576) (fun s hs => hls s (List.mem_of_mem_take hs))
    have hs2 : (l.take k).length ≤ 200 := by rw [List.length_take]; omega
    have hs3 : sum20 (l.take k) ≤ 209715200 := by
      have := Nat.mul_le_mul_right 1048576 hs2
      omega
    clear hs hs2
    by_cases hlt : k < l.length
    · have hi1 : (k : Int) < (l.length : Int) := by omega
      by_cases h2 : k < 200
      · obtain ⟨x, hx⟩ : ∃ x, l[k]? = some x := ⟨_, List.getElem?_eq_getElem hlt⟩
        obtain ⟨g1, o1, rfl, _, hc1⟩ := hr.at0 (by omega) (by omega)
        have d1 := hc1 _ _ (strL_at' hx)
        unfold strC at d1
        have hxl := hls x (List.mem_of_getElem? hx)
        have HN := Lib.hid (sum20_next hx)
        have hi0 : (0 : Int) ≤ (k : Int) := Int.natCast_nonneg _
        have hi2 : (k : Int) < 200 := by omega
        clear hc1 hx
        generalize sum20 (l.take k) = S at *
        go_upto_region 4 with fail
        go_wp2_with fail
        go_roundw
        case rel => exact ⟨k + 1, n, by omega, by omega, by rw [HN.out]; go_num, by go_num, rfl⟩
        case measure => simp [intOf]; omega
      · obtain rfl : k = 200 := by omega
        have HF := Lib.hid (show fewN l = l.length + sum20 (l.take 200) from rfl)
        generalize sum20 (l.take 200) = S at *
        go_wp2_with fail
        go_ret
        exact ⟨by rw [HF.out, show decide (l.length + S < 120) = decide ((l.length : Int) + (S : Int) < 120) from decide_eq_decide.2 (by omega)]; rfl, n, rfl⟩
    · obtain rfl : k = l.length := by omega
      have HF := Lib.hid (show fewN l = l.length + sum20 (l.take l.length) from by unfold fewN; rw [List.take_of_length_le (by omega), List.take_length])
      generalize sum20 (l.take l.length) = S at *
      go_wp2_with fail
      go_ret
      exact ⟨by rw [HF.out, show decide (l.length + S < 120) = decide ((l.length : Int) + (S : Int) < 120) from decide_eq_decide.2 (by omega)]; rfl, n, rfl⟩
end Go.Proofs.YtlcidbbpjlpmjaaDoor
