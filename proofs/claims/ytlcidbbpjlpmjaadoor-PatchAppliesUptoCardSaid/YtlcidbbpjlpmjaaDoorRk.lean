/-
  Contract of the law's few (hunks). No statement of the seat is proved here.
-/
import Derived.Test.YtlcidbbpjlpmjaaDoorTf
import Derived.Test.YtlcidbbpjlpmjaaDoorTe
namespace Go.Proofs.YtlcidbbpjlpmjaaDoor
open Go.RowKit

/-- How much hunks are, as the law counts it. -/
def sumH (l : List HkI) : Nat := (l.map fun h => h.eds.length + h.ls.length).sum
def fewH (l : List HkI) : Bool := (l.take 50).all (fun h => decide (fewN h.ls < 120)) && decide (l.length + sumH (l.take 50) < 300)
theorem sumH_next {l : List HkI} {k : Nat} {h : HkI} (hx : l[k]? = some h) : sumH (l.take (k + 1)) = sumH (l.take k) + (h.eds.length + h.ls.length) := by
  unfold sumH
  rw [List.take_add_one, hx]
  simp
theorem sumH_le {l : List HkI} {M : Nat} (h : ∀ s ∈ l, s.eds.length ≤ M ∧ s.ls.length ≤ M) : sumH l ≤ l.length * (2 * M) := by
  induction l with
  | nil => simp [sumH]
  | cons s l ih =>
    have h1 := ih fun t ht => h t (List.mem_cons_of_mem _ ht)
    have h2 := h s List.mem_cons_self
    unfold sumH at h1 ⊢
    rw [List.map_cons, List.sum_cons, List.length_cons, Nat.succ_mul]
    omega
set_option maxHeartbeats 4000000 in
set_option maxRecDepth 100000 in
theorem fewh_any (l : List HkI) (A : Option Addr) (c B : Nat) (w : World) (hr : HII w B A l) (hl : l.length ≤ 1048576) (hls : ∀ h ∈ l, h.eds.length ≤ 1048576 ∧ h.ls.length ≤ 1048576 ∧ ∀ s ∈ h.ls, s.length ≤ 1048576) :
    Calls Tryd.prog 16 #[.slice A l.length c] w fun r w' => r = .returned (.bool (fewH l)) ∧ ∃ n, w' = w.drewN n := by
  have HR := Lib.hid hr
  have HLS := Lib.hid hls
  clear hr hls
  go_enter Tryd.func16, Tryd.ntmps16
  go_wp2_with fail
  go_loopw [3, 4] (fun s3 s4 wr => ∃ k n : Nat, k ≤ l.length ∧ k ≤ 50 ∧ s3 = .int .i64 (l.length + sumH (l.take k) : Nat) ∧ s4 = .int .i64 (k : Nat) ∧ wr = w.drewN n ∧ (l.take k).all (fun h => decide (fewN h.ls < 120)) = true) (fun _ s4 _ => l.length - (intOf s4).toNat)
  case atStart => exact ⟨0, 0, Nat.zero_le _, Nat.zero_le _, by simp [sumH], rfl, rfl, rfl⟩
  case round =>
    obtain ⟨k, n, hk, hk2, rfl, rfl, rfl, hall⟩ := hrel
    have hs := sumH_le (l := l.take k) (M := 1048576) (fun s hs => ⟨(HLS.out s (List.mem_of_mem_take hs)).1, (HLS.out s (List.mem_of_mem_take hs)).2.1⟩)
    have hs2 : (l.take k).length ≤ 50 := by rw [List.length_take]; omega
    have hs3 : sumH (l.take k) ≤ 209715200 := by
      have := Nat.mul_le_mul_right (2 * 1048576) hs2
      omega
    have HALL := Lib.hid hall
    clear hs hs2 hall
    by_cases hlt : k < l.length
    · have hi1 : (k : Int) < (l.length : Int) := by omega
      by_cases h2 : k < 50
      · obtain ⟨x, hx⟩ : ∃ x, l[k]? = some x := ⟨_, List.getElem?_eq_getElem hlt⟩
        obtain ⟨g1, o1, EA, ec, LA, lc, rfl, _, _, _, a2, a3, _, hlc, _, _, a5⟩ := HR.out.at_ hx
        obtain ⟨b1, b2, b3⟩ := HLS.out x (List.mem_of_getElem? hx)
        have HN := Lib.hid (sumH_next hx)
        have HT := Lib.hid (show l.take (k + 1) = l.take k ++ [x] from by rw [List.take_add_one, hx]; rfl)
        have hi0 : (0 : Int) ≤ (k : Int) := Int.natCast_nonneg _
        have hi2 : (k : Int) < 50 := by omega
        have HF := Lib.hid (fun W (hW : ∃ q, W = w.drewN q) => few_any x.ls LA lc B W (by obtain ⟨q, rfl⟩ := hW; exact a5.drewN q) b2 b3)
        have HX := Lib.hid hx
        clear hx a5
        generalize sumH (l.take k) = S at *
        have w1 : IntKind.i64.wrap (((l.length : Int) + (S : Int)) + (x.eds.length : Int)) = ((l.length : Int) + (S : Int)) + (x.eds.length : Int) := IntWalk.i64_in _ (by omega)
        have w2 : IntKind.i64.wrap (((l.length : Int) + (S : Int)) + (x.eds.length : Int) + (x.ls.length : Int)) = ((l.length : Int) + (S : Int)) + (x.eds.length : Int) + (x.ls.length : Int) := IntWalk.i64_in _ (by omega)
        go_upto_region 5 with fail
        go_quiet (fail)
        have a3' : w.cell? ⟨g1, o1 + k * 4 + 3, none⟩ = some (.slice LA x.ls.length lc) := a3
        cases hf : decide (fewN x.ls < 120)
        case true =>
          rw [hf] at HF
          go_wp2_with (go_at_call 12; refine (HF.out _ ⟨n + nq, rfl⟩).mono ?_)
          rintro _ _ ⟨rfl, m, rfl⟩
          go_wp2_with fail
          go_roundw
          case rel => exact ⟨k + 1, n + nq + m, by omega, by omega, by rw [HN.out]; go_num, by go_num, rfl, by rw [HT.out, List.all_append, HALL.out]; simp; exact of_decide_eq_true hf⟩
          case measure => simp [intOf]; omega
        case false =>
          rw [hf] at HF
          have HFF := Lib.hid (show fewH l = false from by
            unfold fewH
            rw [show (l.take 50).all (fun h => decide (fewN h.ls < 120)) = false from by
              rw [List.all_eq_false]
              exact ⟨x, List.mem_of_getElem? (by rw [List.getElem?_take, if_pos h2]; exact HX.out), by rw [hf]; simp⟩]
            rfl)
          go_wp2_with (go_at_call 12; refine (HF.out _ ⟨n + nq, rfl⟩).mono ?_)
          rintro _ _ ⟨rfl, m, rfl⟩
          go_wp2_with fail
          go_ret
          exact ⟨by rw [HFF.out]; rfl, n + nq + m, rfl⟩
      · obtain rfl : k = 50 := by omega
        have HF := Lib.hid (show fewH l = decide (l.length + sumH (l.take 50) < 300) from by unfold fewH; rw [HALL.out]; rfl)
        generalize sumH (l.take 50) = S at *
        go_wp2_with fail
        go_ret
        exact ⟨by rw [HF.out, show decide (l.length + S < 300) = decide ((l.length : Int) + (S : Int) < 300) from decide_eq_decide.2 (by omega)]; rfl, n, rfl⟩
    · obtain rfl : k = l.length := by omega
      have HF := Lib.hid (show fewH l = decide (l.length + sumH (l.take l.length) < 300) from by unfold fewH; rw [List.take_of_length_le (by omega : l.length ≤ 50), show l.all _ = true from by have := HALL.out; rwa [List.take_length] at this, List.take_length]; rfl)
      generalize sumH (l.take l.length) = S at *
      go_wp2_with fail
      go_ret
      exact ⟨by rw [HF.out, show decide (l.length + S < 300) = decide ((l.length : Int) + (S : Int) < 300) from decide_eq_decide.2 (by omega)]; rfl, n, rfl⟩
end Go.Proofs.YtlcidbbpjlpmjaaDoor
