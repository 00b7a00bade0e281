/-
  Contracts of sum's New and Of. No statement of the seat is proved here.
-/
import Derived.Test.YtppmolneklidfaaSha4
namespace Go.Proofs.Ytppmolneklidfaa
open Go.RowKit

def zeros64 : List UInt8 := List.replicate 64 0
theorem build_h0 (w : World) : (Instr.build 159 hParts).run Try.prog w = .ok (.agg (stC sha0)) w := by kernel_rfl
theorem build_hash0 (w : World) : (Instr.build 173 #[(0, .agg (stC sha0))]).run Try.prog w = .ok (.agg (hashC sha0 zeros64 0 0)) w := by kernel_rfl
set_option maxHeartbeats 1000000 in
set_option maxRecDepth 100000 in
theorem new_any (w : World) : Calls Try.prog 91 #[] w fun r w' => r = .returned (.pointer (some ⟨w.heap.size, 0, none⟩)) ∧ HashI w' w.heap.size [] ∧ Keep Nothing w w' := by
  go_enter Try.func91, Try.ntmps91
  go_wp2_with (first | (refine wpList_built rfl rfl (vs := hParts) rfl (build_h0 _) ?_) | (refine wpList_built rfl rfl (vs := #[(0, .agg (stC sha0))]) rfl (build_hash0 _) ?_) | (refine wpList_boxed rfl rfl (cs := hashC sha0 zeros64 0 0) rfl ?_))
  go_ret
  refine ⟨rfl, ⟨zeros64, Blk.new _ _ _, by simp [zeros64], by simp⟩, (Keep.refl _ _).alloc _⟩

/-- Rows of bytes below B. -/
def RowsIn (w : World) (B : Nat) (A : Option Addr) (rs : List Row3) : Prop := Reads w B 1 A rs.length (rs.map rowV) ∧ ∀ r ∈ rs, Reads w B 1 r.ad r.bytes.length (r.bytes.map bv) ∧ r.bytes.length ≤ r.cap ∧ r.cap ≤ maxLen
theorem RowsIn.at_ {w : World} {B g : Nat} {A : Option Addr} {rs : List Row3} (h : RowsIn w B A rs) (hg : B ≤ g) : RowsAt w B g A rs :=
  ⟨⟨h.1, h.1.apart hg⟩, fun r hr => ⟨(h.2 r hr).1, (h.2 r hr).1.apart hg, (h.2 r hr).2⟩⟩
theorem RowsIn.kept {w w' : World} {B : Nat} {A : Option Addr} {rs : List Row3} (h : RowsIn w B A rs) (hk : Keep Nothing w w') (hB : B ≤ w.heap.size) : RowsIn w' B A rs :=
  ⟨h.1.kept hk hB (fun _ _ q => q), fun r hr => ⟨(h.2 r hr).1.kept hk hB (fun _ _ q => q), (h.2 r hr).2⟩⟩

set_option maxHeartbeats 1000000 in
set_option maxRecDepth 100000 in
theorem of_any (rs : List Row3) (A : Option Addr) (c : Nat) (w : World) (hrs : RowsIn w w.heap.size A rs) (hsz : (rowsB rs).length ≤ 100000000000) (hrl : rs.length ≤ 1000000000000) :
    Calls Try.prog 65 #[.slice A rs.length c] w fun r w' => r = .returned (idV (sha (rowsB rs))) ∧ Keep Nothing w w' := by
  have q1 : Blk (w.alloc (.cells (idC noId) 42)) w.heap.size 42 (idC noId) := Blk.new _ _ _
  have k1 : Keep Nothing w (w.alloc (.cells (idC noId) 42)) := (Keep.refl _ _).alloc _
  go_enter Try.func65, Try.ntmps65
  go_wp2_with (first | (refine wpList_allocAgg rfl rfl (zero_noId _) ?_))
  generalize w.alloc (.cells (idC noId) 42) = w1 at *
  have z1 := k1.size
  have l1 := q1.lt
  refine (new_any _).mono ?_
  rintro r w2 ⟨rfl, hh2, hk2⟩
  have hr2 := (hrs.kept (k1.trans hk2) (Nat.le_refl _))
  have q2 := q1.keep hk2 (fun h => h)
  have z2 := hk2.size
  have k2 := k1.trans hk2
  generalize w1.heap.size = g at *
  clear hk2 k1 q1 hrs
  go_wp2_with fail
  refine (write_any rs A c [] g _ _ hh2 (hr2.at_ (by omega)) (by omega) (by simpa using (by omega : (rowsB rs).length ≤ 1000000000000)) hrl).mono ?_
  rintro r w3 ⟨rfl, hh3, hk3⟩
  rw [List.nil_append] at hh3
  have q3 := q2.keep hk3 (by unfold Only; omega)
  have k3 : Keep Nothing w w3 := k2.then_ hk3 (by unfold Only; intro i hi h; omega)
  clear hk3 q2 k2 hh2 hr2
  go_wp2_with fail
  refine (sum_any _ g _ hh3 hsz).mono ?_
  rintro r w4 ⟨rfl, hk4⟩
  have q4 := q3.keep hk4 (fun h => h)
  have k4 := k3.trans hk4
  obtain ⟨ID, hID⟩ : ∃ ID, sha (rowsB rs) = ID := ⟨_, rfl⟩
  rw [hID]
  have HID := Lib.hid hID
  clear hID
  go_wp2_with (first | (refine wpList_storeBlk rfl rfl (vs := idC ID) rfl rfl q4 (by rw [idC_size, idC_size]) (by rw [idC_size]; exact info42) (idL_one _) ?_; intro w9 hq9 hk9 hz9))
  refine bodyPost_ret (v := idV ID) (results_cell rfl _ _ rfl (run_loadVar_cells w9 _ (idC ID) Try.underlying42 rfl (by rw [idC_size]; exact info42) (fun j v hj => by rw [add_at, hq9.cell, ← hj]; simp))) rfl ⟨by rw [HID.out], ?_⟩
  exact k4.then_ hk9 (by unfold Only; intro i hi h; omega)
end Go.Proofs.Ytppmolneklidfaa
