/-
  Contract of the law's own examples (known), and of sameEntries. No statement of the seat is proved here.
-/
import Derived.Test.YtppmolneklidfaaEobj
import Derived.Test.YtppmolneklidfaaLaw2
namespace Go.Proofs.Ytppmolneklidfaa
open Go.RowKit

set_option maxHeartbeats 1000000 in
theorem body_tree (b : List UInt8) (A : Option Addr) (c : Nat) (w : World) (hr : Reads w w.heap.size 1 A b.length (b.map bv)) (hl : b.length ≤ 1000000) (hc1 : b.length ≤ c) (hc2 : c ≤ maxLen) :
    Calls Try.prog 55 #[.int .i64 2, .slice A b.length c] w fun r w' => r = .returned (.int .i64 (parseTree b).2) ∧ Below w.heap.size w w' := by
  go_enter Try.func55, Try.ntmps55
  go_wp2_with fail
  refine (parseTree_any b A c _ hr hl hc1 hc2).mono ?_
  rintro r w2 ⟨A2, c2, rfl, ho2, hb2⟩
  go_wp2_with fail
  go_ret
  exact ⟨rfl, hb2⟩

def kId : Id := ⟨7 :: List.replicate 31 0, by simp⟩
def kEnt : Ent := ⟨⟨#[97]⟩, 1, kId⟩
theorem build_kId (w : World) : (Instr.build 42 #[(0, .int .u8 7)]).run Try.prog w = .ok (idV kId) w := by kernel_rfl
theorem build_kEnt (w : World) : (Instr.build 87 #[(0, .string ⟨#[97]⟩), (1, .int .i64 1), (2, idV kId)]).run Try.prog w = .ok (.agg (entC kEnt)) w := by kernel_rfl
theorem kBytes : encTree [kEnt] = ([1, 1, 97, 7] ++ List.replicate 31 0, 0) := by decide +kernel
theorem kObj : encObj (parseTree []).2 2 [] = ([116, 0, 0, 0, 0], 0) := by decide +kernel

set_option maxHeartbeats 2000000 in
set_option maxRecDepth 100000 in
theorem known_any (w : World) : Calls Try.prog 11 #[] w fun r w' => r = .returned (.bool true) ∧ Below w.heap.size w w' := by
  go_enter Try.func11, Try.ntmps11
  go_wp2_with fail
  refine (encodeObj_of 2 [] (parseTree []).2 none 0 _ ⟨rfl, fun h => absurd h (by simp)⟩ (by simp) (fun _ => by omega) (fun W hR hz => body_tree [] none 0 W ⟨rfl, fun h => absurd h (by simp)⟩ (by simp) (by simp) (by simp))).mono ?_
  rintro r w1 ⟨A1, c1, rfl, ho1, hb1⟩
  rw [kObj] at ho1 ⊢
  go_wp2_with (first | (refine wpList_built rfl rfl (vs := #[(0, .int .u8 7)]) rfl (build_kId _) ?_) | (refine wpList_built rfl rfl (vs := #[(0, .string ⟨#[97]⟩), (1, .int .i64 1), (2, idV kId)]) rfl (build_kEnt _) ?_) | (refine wpList_buildSlice1 rfl elemEnt rfl zero_ent (entC_size _) (entC_size _) (by omega) rfl ?_))
  have ho2 := ho1.alloc (.cells (entC kEnt) 87)
  have hb2 : Below w.heap.size w (w1.alloc (.cells (entC kEnt) 87)) := hb1.alloc hb1.size _
  have hr2 : Reads (w1.alloc (.cells (entC kEnt) 87)) (w1.heap.size + 1) 34 (some ⟨w1.heap.size, 0, none⟩) 1 (entLs [kEnt]) := Reads.of_cells (n := 1) (xs := entLs [kEnt]) (heap_alloc_new _ _) (by simp [entC, entLs]) (by rw [entLs_len]; rfl)
  have hz2 : (w1.alloc (.cells (entC kEnt) 87)).heap.size = w1.heap.size + 1 := by simp
  rw [← hz2] at hr2
  generalize w1.alloc (.cells (entC kEnt) 87) = w2 at *
  clear hz2
  refine (encodeTree_any [kEnt] _ 1 _ hr2 (by simp)).mono ?_
  rintro r w3 ⟨A3, c3, rfl, ho3, hb3⟩
  rw [kBytes] at ho3 ⊢
  have ho4 : Own w3 w.heap.size 5 1 A1 5 c1 ([116, 0, 0, 0, 0].map bv) := ho2.kept (b' := 0) (E := []) (G := []) (Kept.ofBelow hb3) (by simp) (by simp)
  have hb4 : Below w.heap.size w w3 := hb2.trans (hb3.mono hb2.size)
  have h35 : 35 ≤ c3 := by have := ho3.cap_le.1; simpa using this
  have hr5 := ho3.reads.front (k := 4) (by simp)
  clear ho1 ho2 hb1 hb2 hb3
  go_wp2_with (first | (refine wpList_convStr_g (by rfl) rfl Try.underlying23 Try.underlying5 Try.underlying9 (l := [116, 0, 0, 0, 0]) rfl ho4.reads ?_) | (refine wpList_convStr_g (by rfl) rfl Try.underlying23 Try.underlying5 Try.underlying9 (l := [1, 1, 97, 7]) rfl hr5 ?_))
  go_ret
  exact ⟨rfl, hb4⟩
end Go.Proofs.Ytppmolneklidfaa
