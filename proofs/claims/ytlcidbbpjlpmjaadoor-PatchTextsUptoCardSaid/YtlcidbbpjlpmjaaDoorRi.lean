/-
  Contract of the reference's Decimal. No statement of the seat is proved here.
-/
import Derived.Test.YtlcidbbpjlpmjaaDoorRh
namespace Go.Proofs.YtlcidbbpjlpmjaaDoor
open Go.RowKit

def emptyOf : Value → Nat
  | .string b => if b.size = 0 then 1 else 0
  | _ => 0
theorem emptyOf_cons (x : UInt8) (b : ByteArray) : emptyOf (.string (⟨#[x]⟩ ++ b)) = 0 := by
  show (if (⟨#[x]⟩ ++ b : ByteArray).size = 0 then 1 else 0) = 0
  rw [if_neg]
  rw [ByteArray.size_append]
  have : (⟨#[x]⟩ : ByteArray).size = 1 := rfl
  omega
set_option maxHeartbeats 4000000 in
set_option maxRecDepth 100000 in
theorem decimal_any (n : Nat) (hn : n ≤ 1000000000000000) (w : World) :
    Calls Tryd.prog 33 #[.int .i64 (n : Int)] w fun r w' => r = .returned (.string ⟨(Lib.decDigits n).toArray⟩) ∧ Keep Nothing w w' := by
  obtain ⟨D, hD⟩ : ∃ D, Lib.decDigits n = D := ⟨_, rfl⟩
  rw [hD]
  have HD := Lib.hid hD
  clear hD
  go_enter Tryd.func33, Tryd.ntmps33
  go_wp2_with fail
  go_loopw [0, 3] (fun s0 s3 wr => ∃ (m : Nat) (T : List UInt8), m ≤ n ∧ s0 = .int .i64 (m : Nat) ∧ s3 = .string ⟨T.toArray⟩ ∧ ((m = 0 ∧ T ≠ [] ∧ T = D) ∨ ((0 < m ∨ T = []) ∧ Lib.decDigits m ++ T = D)) ∧ T.length + m ≤ n + 10 ∧ Keep Nothing w wr) (fun s0 s3 _ => 2 * (intOf s0).toNat + emptyOf s3)
  case atStart => exact ⟨n, [], Nat.le_refl _, rfl, rfl, .inr ⟨.inr rfl, by simpa using HD.out⟩, by simp, Keep.refl _ _⟩
  case round =>
    obtain ⟨m, T, hm, rfl, rfl, hT, hTl, kr⟩ := hrel
    rcases hT with ⟨rfl, h0, h1⟩ | ⟨h0, h1⟩
    · subst h1
      have d1 : T.isEmpty = false := by simpa using h0
      have d0 : decide ((0 : Int) < ((0 : Nat) : Int)) = false := rfl
      go_wp2_with fail
      go_ret
      exact ⟨rfl, kr⟩
    · have hgo : 0 < m ∨ (m = 0 ∧ T = []) := by
        rcases Nat.eq_zero_or_pos m with q | q
        · exact .inr ⟨q, h0.resolve_left (by omega)⟩
        · exact .inl q
      rcases hgo with hpos | ⟨rfl, rfl⟩
      · have d1 : (0 : Int) < (m : Int) := by omega
        have hby : byteV (UInt8.ofNat (48 + m % 10)) = .int .u8 (48 + (m : Int) % 10) := by
          unfold byteV
          have : (UInt8.ofNat (48 + m % 10)).toNat = 48 + m % 10 := by simp; omega
          rw [this]
          simp
        have HD1 := Lib.hid (show (m / 10 = 0 ∧ UInt8.ofNat (48 + m % 10) :: T ≠ [] ∧ UInt8.ofNat (48 + m % 10) :: T = D) ∨ ((0 < m / 10 ∨ UInt8.ofNat (48 + m % 10) :: T = []) ∧ Lib.decDigits (m / 10) ++ (UInt8.ofNat (48 + m % 10) :: T) = D) from by
          rw [Lib.decDigits] at h1
          split at h1
          next q => exact .inl ⟨by omega, by simp, by rw [show m % 10 = m by omega]; simpa using h1⟩
          next q => exact .inr ⟨.inl (by omega), by simpa using h1⟩)
        have hcl : ¬ 9223372036854775807 < 1 + T.length := by omega
        clear h0 h1
        go_wp2_with (first | (refine wpList_convStr rfl rfl Tryd.underlying53 Tryd.underlying5 Tryd.underlying9 (l := [UInt8.ofNat (48 + m % 10)]) rfl (Reads.of_blk (n := 1) (size := 1) (heap_alloc_new _ _) (by rw [List.map_cons, List.map_nil, hby]) rfl) ?_))
        go_roundw
        case rel => exact ⟨m / 10, UInt8.ofNat (48 + m % 10) :: T, by omega, by first | rfl | go_num, by congr 1; apply ByteArray.ext; simp [UInt8.ofNat_add], HD1.out, by simp; omega, kr.alloc _⟩
        case measure => rw [emptyOf_cons]; simp [intOf]; omega
      · have d0 : decide ((0 : Int) < ((0 : Nat) : Int)) = false := rfl
        have hby : byteV 48 = .int .u8 48 := rfl
        have HD1 := Lib.hid (show (48 : UInt8) :: [] = D from by
          rw [Lib.decDigits, dif_pos (by decide)] at h1
          simpa using h1)
        clear h0 h1
        go_wp2_with (first | (refine wpList_convStr rfl rfl Tryd.underlying53 Tryd.underlying5 Tryd.underlying9 (l := [48]) rfl (Reads.of_blk (n := 1) (size := 1) (heap_alloc_new _ _) (by rw [List.map_cons, List.map_nil, hby]) rfl) ?_))
        go_roundw
        case rel => exact ⟨0, [48], by omega, by first | rfl | go_num, by congr 1, .inl ⟨rfl, by simp, HD1.out⟩, by simp, kr.alloc _⟩
        case measure => decide
end Go.Proofs.YtlcidbbpjlpmjaaDoor
