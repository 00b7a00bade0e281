/- Contracts of the reference's Same, SameFiles. No statement of the seat is proved here. -/
import Derived.Test.YteeeehfnldkjlaaGreatDoorTCGd
namespace Go.Proofs.YteeeehfnldkjlaaGreatDoor
open Go.RowKit Go.Maps
def sameB (x y : FileD) : Bool := x.p == y.p && (x.k == y.k && x.d == y.d)
theorem sameB_eq (x y : FileD) : sameB x y = decide (x = y) := by
 unfold sameB
 rw [Bool.eq_iff_iff]
 simp only [Bool.and_eq_true, beq_iff_eq, decide_eq_true_eq]
 constructor
 · rintro ⟨h1, h2, h3⟩
   cases x; cases y
   simp_all
 · rintro rfl
   exact ⟨rfl, rfl, rfl⟩
attribute [local go_sem] run_eql_strC run_neq_strC eqGuard_strC neGuard_strC
attribute [local go_sem ↓] ld_f
set_option maxHeartbeats 4000000 in
set_option maxRecDepth 100000 in
theorem same_any (x y : FileD) (A C : Option Addr) (c d B : Nat) (w : World) (hB : B ≤ w.heap.size) (h1 : Reads w B 1 A x.d.length (x.d.map byteV)) (h2 : Reads w B 1 C y.d.length (y.d.map byteV)) :
    Calls Tryz.prog 26 #[.agg (fileC x A c), .agg (fileC y C d)] w fun e w' => e = .returned (.bool (sameB x y)) ∧ Below w.heap.size w w' := by
 have hn : sameB x y = (x.p == y.p && (x.k == y.k && x.d == y.d)) := rfl
 rw [hn]
 have hb1 := (Blk.new w 41 (fileC x A c)).alloc (.cells (fileC y C d) 41)
 have hb2 := Blk.new (w.alloc (.cells (fileC x A c) 41)) 41 (fileC y C d)
 rw [show (w.alloc (.cells (fileC x A c) 41)).heap.size = w.heap.size + 1 from by simp] at hb2
 have hbl : Below w.heap.size w ((w.alloc (.cells (fileC x A c) 41)).alloc (.cells (fileC y C d) 41)) := ((Below.refl _ w).alloc (Nat.le_refl _) _).alloc (by simp) _
 have hr1 := h1.below (hbl.mono hB)
 have hr2 := h2.below (hbl.mono hB)
 have HBL := Lib.hid hbl
 clear h1 h2 hbl
 go_enter Tryz.func26, Tryz.ntmps26
 go_upto_region 1 with (first | (refine wpList_boxed rfl rfl (cs := fileC x A c) rfl ?_) | (refine wpList_boxed rfl rfl (cs := fileC y C d) rfl ?_))
 generalize (w.alloc (.cells (fileC x A c) 41)).alloc (.cells (fileC y C d) 41) = w2 at *
 have c0 := (hb1.cell 0).trans (show (fileC x A c)[0]? = some (strC x.p) from rfl)
 have c1 := (hb1.cell 1).trans (show (fileC x A c)[1]? = some (.int .i64 x.k) from rfl)
 have c2 := (hb1.cell 2).trans (show (fileC x A c)[2]? = some (.slice A x.d.length c) from rfl)
 have d0 := (hb2.cell 0).trans (show (fileC y C d)[0]? = some (strC y.p) from rfl)
 have d1 := (hb2.cell 1).trans (show (fileC y C d)[1]? = some (.int .i64 y.k) from rfl)
 have d2 := (hb2.cell 2).trans (show (fileC y C d)[2]? = some (.slice C y.d.length d) from rfl)
 have k1 : (convert 39 9 (.slice A x.d.length c)).run Tryz.prog w2 = .ok (strC x.d) w2 := by
  rw [run_convert_bytes_string w2 39 9 5 A x.d.length c Tryz.underlying39 Tryz.underlying5 Tryz.underlying9, run_str_of hr1]
  rfl
 have k2 : (convert 39 9 (.slice C y.d.length d)).run Tryz.prog w2 = .ok (strC y.d) w2 := by
  rw [run_convert_bytes_string w2 39 9 5 C y.d.length d Tryz.underlying39 Tryz.underlying5 Tryz.underlying9, run_str_of hr2]
  rfl
 clear hr1 hr2 hb1 hb2
 cases hp : (x.p == y.p) with
 | false =>
  go_wp2_with fail
  go_ret
  exact ⟨by rw [hp]; rfl, HBL.out⟩
 | true =>
  cases hk : (x.k == y.k) with
  | false =>
   go_wp2_with fail
   go_ret
   exact ⟨by rw [hp, hk]; rfl, HBL.out⟩
  | true =>
   go_wp2_with fail
   go_ret
   exact ⟨by rw [hp, hk, Bool.true_and, Bool.true_and]; rfl, HBL.out⟩
end Go.Proofs.YteeeehfnldkjlaaGreatDoor
