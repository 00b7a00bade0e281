/-
  Contract of the law's side. No statement of the seat is proved here.
-/
import Derived.Test.YteeeehfnldkjlaaGreatDoorGn
namespace Go.Proofs.YteeeehfnldkjlaaGreatDoor
open Go.RowKit Go.Maps

theorem Reads.setOther {w : World} {B g o n size : Nat} {xs : List Value} (h : Reads w B size (some ⟨g, o, none⟩) n xs) {p : Addr} (hp : p.block ≠ g) (u : Value) : Reads (w.setCell p u) B size (some ⟨g, o, none⟩) n xs :=
  ⟨h.1, fun hn => by
    obtain ⟨ad, e, hb, hc⟩ := h.2 hn
    refine ⟨ad, e, hb, fun j v hv => (World.cell?_setCell_other w p _ u (fun e' => hp ?_)).trans (hc j v hv)⟩
    injection e with e
    subst e
    have := congrArg Addr.block e'
    rw [block_of_add] at this
    exact this⟩
attribute [local go_sem ↓] ld_f
set_option maxHeartbeats 4000000 in
set_option maxRecDepth 100000 in
theorem side0_any (how : Nat) (who : List UInt8) (A : Option Addr) (c B : Nat) (w : World) (hh : how < 6) (hw : who.length ≤ 1000) (hB : B ≤ w.heap.size) (hr : Reads w B 1 A 12 (csF.d.map byteV)) (hc : 12 ≤ c ∧ c ≤ maxLen) :
    Calls Tryz.prog 29 #[.agg (fileC csF A c), .int .i64 (how : Nat), .string ⟨who.toArray⟩] w fun e w' => ∃ A' c', e = .returned (.slice A' (csSide how who).length c') ∧ FI w' w'.heap.size A' (csSide how who) ∧ Below w.heap.size w w' := by
  obtain ⟨z, hz⟩ : ∃ z, w.heap.size = z := ⟨_, rfl⟩
  rw [hz]
  go_enter Tryz.func29, Tryz.ntmps29
  go_upto_region 1 with (refine wpList_boxed rfl rfl (cs := fileC csF A c) rfl ?_)
  have hb1 := below_at (.cells (fileC csF A c) 41) hz
  have hx1 := blk_new_at w 41 (fileC csF A c) z hz
  have hz1 := size_at w (.cells (fileC csF A c) 41) z hz
  generalize w.alloc (.cells (fileC csF A c) 41) = w1 at *
  have hr1 := (hr.below (hb1.mono (hz ▸ hB))).more (show B ≤ z + 1 from by omega)
  rcases (by omega : how = 0 ∨ how = 3 ∨ how = 1 ∨ how = 2 ∨ how = 4 ∨ how = 5) with rfl | rfl | rfl | rfl | rfl | rfl
  · have hl : (LdF (.pointer (some ⟨z, 0, none⟩))).run Tryz.prog w1 = .ok (.agg (fileC csF A c)) w1 := file_load hx1
    go_wp2_with (refine wpList_buildSlice1 rfl elemFile rfl zero_file rfl rfl (by omega) rfl ?_)
    go_ret
    exact ⟨some ⟨z + 1, 0, none⟩, 1, rfl, side_fin (f := csF) hz1 hr1 (Nat.le_refl _) hc.1 hc.2, hb1.trans ((below_at _ hz1).mono (Nat.le_succ _))⟩
  · go_wp2_with fail
    go_ret
    exact ⟨none, 0, rfl, FI.nil_ _ _ _, hb1⟩
  · obtain ⟨cc, w2, hcv, hb2, hc1, hc2, hr2⟩ := conv_data (who ++ [10, 50, 10, 51, 10, 52, 10, 53, 10, 54, 10]) w1 (by simp; unfold maxLen; omega)
    rw [← ba_app, hz1] at hcv
    rw [hz1] at hb2 hr2
    have hx2 := hx1.below hb2 (Nat.lt_succ_self z)
    have e2 := (hx2.cell 2).trans (show (fileC csF A c)[2]? = some (.slice A csF.d.length c) from rfl)
    have f2 := hx2.frozen 2
    obtain ⟨l1, hl1⟩ : ∃ l1, who ++ [10, 50, 10, 51, 10, 52, 10, 53, 10, 54, 10] = l1 := ⟨_, rfl⟩
    rw [hl1] at hcv hc1 hr2
    have hx3 : Blk (w2.setCell ⟨z, 2, none⟩ (.slice (some ⟨z + 1, 0, none⟩) l1.length cc)) z 41 (fileC { csF with d := l1 } (some ⟨z + 1, 0, none⟩) cc) := hx2.set_ 2 (.slice (some ⟨z + 1, 0, none⟩) l1.length cc)
    have hl : (LdF (.pointer (some ⟨z, 0, none⟩))).run Tryz.prog (w2.setCell ⟨z, 2, none⟩ (.slice (some ⟨z + 1, 0, none⟩) l1.length cc)) = .ok (.agg (fileC { csF with d := l1 } (some ⟨z + 1, 0, none⟩) cc)) (w2.setCell ⟨z, 2, none⟩ (.slice (some ⟨z + 1, 0, none⟩) l1.length cc)) := file_load hx3
    go_wp2_with (refine wpList_buildSlice1 rfl elemFile rfl zero_file rfl rfl (by omega) rfl ?_)
    go_ret
    have hs3 : (w2.setCell ⟨z, 2, none⟩ (.slice (some ⟨z + 1, 0, none⟩) l1.length cc)).heap.size = w2.heap.size := by simp
    have hb3 : Below z w (w2.setCell ⟨z, 2, none⟩ (.slice (some ⟨z + 1, 0, none⟩) l1.length cc)) := (hb1.trans (hb2.mono (Nat.le_succ _))).setCell (p := ⟨z, 2, none⟩) (Nat.le_refl _) _
    have hr3 := hr2.setOther (p := ⟨z, 2, none⟩) (show z ≠ z + 1 from by omega) (.slice (some ⟨z + 1, 0, none⟩) l1.length cc)
    subst hl1
    exact ⟨some ⟨w2.heap.size, 0, none⟩, ⟨1, rfl⟩, side_fin (f := { csF with d := _ }) hs3 hr3 (Nat.le_refl _) hc1 hc2, hb3.trans ((below_at _ hs3).mono (by have := hb2.size; omega))⟩
  · obtain ⟨cc, w2, hcv, hb2, hc1, hc2, hr2⟩ := conv_data ([49, 10, 50, 10, 51, 10, 52, 10, 53, 10] ++ who ++ [10]) w1 (by simp; unfold maxLen; omega)
    rw [← ba_app, ← ba_app, hz1] at hcv
    rw [hz1] at hb2 hr2
    have hx2 := hx1.below hb2 (Nat.lt_succ_self z)
    have e2 := (hx2.cell 2).trans (show (fileC csF A c)[2]? = some (.slice A csF.d.length c) from rfl)
    have f2 := hx2.frozen 2
    obtain ⟨l1, hl1⟩ : ∃ l1, [49, 10, 50, 10, 51, 10, 52, 10, 53, 10] ++ who ++ [10] = l1 := ⟨_, rfl⟩
    rw [hl1] at hcv hc1 hr2
    have hx3 : Blk (w2.setCell ⟨z, 2, none⟩ (.slice (some ⟨z + 1, 0, none⟩) l1.length cc)) z 41 (fileC { csF with d := l1 } (some ⟨z + 1, 0, none⟩) cc) := hx2.set_ 2 (.slice (some ⟨z + 1, 0, none⟩) l1.length cc)
    have hl : (LdF (.pointer (some ⟨z, 0, none⟩))).run Tryz.prog (w2.setCell ⟨z, 2, none⟩ (.slice (some ⟨z + 1, 0, none⟩) l1.length cc)) = .ok (.agg (fileC { csF with d := l1 } (some ⟨z + 1, 0, none⟩) cc)) (w2.setCell ⟨z, 2, none⟩ (.slice (some ⟨z + 1, 0, none⟩) l1.length cc)) := file_load hx3
    go_wp2_with (refine wpList_buildSlice1 rfl elemFile rfl zero_file rfl rfl (by omega) rfl ?_)
    go_ret
    have hs3 : (w2.setCell ⟨z, 2, none⟩ (.slice (some ⟨z + 1, 0, none⟩) l1.length cc)).heap.size = w2.heap.size := by simp
    have hb3 : Below z w (w2.setCell ⟨z, 2, none⟩ (.slice (some ⟨z + 1, 0, none⟩) l1.length cc)) := (hb1.trans (hb2.mono (Nat.le_succ _))).setCell (p := ⟨z, 2, none⟩) (Nat.le_refl _) _
    have hr3 := hr2.setOther (p := ⟨z, 2, none⟩) (show z ≠ z + 1 from by omega) (.slice (some ⟨z + 1, 0, none⟩) l1.length cc)
    subst hl1
    exact ⟨some ⟨w2.heap.size, 0, none⟩, ⟨1, rfl⟩, side_fin (f := { csF with d := _ }) hs3 hr3 (Nat.le_refl _) hc1 hc2, hb3.trans ((below_at _ hs3).mono (by have := hb2.size; omega))⟩
  · obtain ⟨l1, hl1⟩ : ∃ l1, [116, 111, 45] ++ who = l1 := ⟨_, rfl⟩
    have hS : (⟨#[116, 111, 45]⟩ : ByteArray) ++ ⟨who.toArray⟩ = ⟨l1.toArray⟩ := by rw [← hl1]; exact ba_app [116, 111, 45] who
    have e0 := (hx1.cell 0).trans (show (fileC csF A c)[0]? = some (strC csF.p) from rfl)
    have f0 := hx1.frozen 0
    have hx3 : Blk (w1.setCell ⟨z, 0, none⟩ (.string ⟨l1.toArray⟩)) z 41 (fileC { csF with p := l1 } A c) := hx1.set_ 0 (.string ⟨l1.toArray⟩)
    have hl : (LdF (.pointer (some ⟨z, 0, none⟩))).run Tryz.prog (w1.setCell ⟨z, 0, none⟩ (.string ⟨l1.toArray⟩)) = .ok (.agg (fileC { csF with p := l1 } A c)) (w1.setCell ⟨z, 0, none⟩ (.string ⟨l1.toArray⟩)) := file_load hx3
    go_wp2_with (refine wpList_buildSlice1 rfl elemFile rfl zero_file rfl rfl (by omega) rfl ?_)
    go_ret
    have hs3 : (w1.setCell ⟨z, 0, none⟩ (.string ⟨l1.toArray⟩)).heap.size = z + 1 := by simpa using hz1
    have hb3 : Below z w (w1.setCell ⟨z, 0, none⟩ (.string ⟨l1.toArray⟩)) := hb1.setCell (p := ⟨z, 0, none⟩) (Nat.le_refl _) _
    have hr3 := ((hr.below (hb3.mono (hz ▸ hB))).more (show B ≤ z + 1 from by omega))
    subst hl1
    exact ⟨some ⟨z + 1, 0, none⟩, ⟨1, rfl⟩, side_fin (f := { csF with p := _ }) hs3 hr3 (Nat.le_refl _) hc.1 hc.2, hb3.trans ((below_at _ hs3).mono (by omega))⟩
  · obtain ⟨cc, w2, hcv, hb2, hc1, hc2, hr2⟩ := conv_data who w1 (by unfold maxLen; omega)
    rw [hz1] at hcv hb2 hr2
    have hx2 := hx1.below hb2 (Nat.lt_succ_self z)
    have e1 := (hx2.cell 1).trans (show (fileC csF A c)[1]? = some (.int .i64 csF.k) from rfl)
    have f1 := hx2.frozen 1
    have hx4 := hx2.set_ 1 (.int .i64 3)
    have e2 := (hx4.cell 2).trans (show ((fileC csF A c).setIfInBounds 1 (.int .i64 3))[2]? = some (.slice A csF.d.length c) from rfl)
    have f2 := hx4.frozen 2
    have hx3 : Blk ((w2.setCell ⟨z, 1, none⟩ (.int .i64 3)).setCell ⟨z, 2, none⟩ (.slice (some ⟨z + 1, 0, none⟩) who.length cc)) z 41 (fileC { csF with k := 3, d := who } (some ⟨z + 1, 0, none⟩) cc) := hx4.set_ 2 (.slice (some ⟨z + 1, 0, none⟩) who.length cc)
    have hl : (LdF (.pointer (some ⟨z, 0, none⟩))).run Tryz.prog ((w2.setCell ⟨z, 1, none⟩ (.int .i64 3)).setCell ⟨z, 2, none⟩ (.slice (some ⟨z + 1, 0, none⟩) who.length cc)) = .ok (.agg (fileC { csF with k := 3, d := who } (some ⟨z + 1, 0, none⟩) cc)) ((w2.setCell ⟨z, 1, none⟩ (.int .i64 3)).setCell ⟨z, 2, none⟩ (.slice (some ⟨z + 1, 0, none⟩) who.length cc)) := file_load hx3
    go_wp2_with (refine wpList_buildSlice1 rfl elemFile rfl zero_file rfl rfl (by omega) rfl ?_)
    go_ret
    have hs3 : ((w2.setCell ⟨z, 1, none⟩ (.int .i64 3)).setCell ⟨z, 2, none⟩ (.slice (some ⟨z + 1, 0, none⟩) who.length cc)).heap.size = w2.heap.size := by simp
    have hb3 : Below z w ((w2.setCell ⟨z, 1, none⟩ (.int .i64 3)).setCell ⟨z, 2, none⟩ (.slice (some ⟨z + 1, 0, none⟩) who.length cc)) := ((hb1.trans (hb2.mono (Nat.le_succ _))).setCell (p := ⟨z, 1, none⟩) (Nat.le_refl _) _).setCell (p := ⟨z, 2, none⟩) (Nat.le_refl _) _
    have hr3 := (hr2.setOther (p := ⟨z, 1, none⟩) (show z ≠ z + 1 from by omega) (.int .i64 3)).setOther (p := ⟨z, 2, none⟩) (show z ≠ z + 1 from by omega) (.slice (some ⟨z + 1, 0, none⟩) who.length cc)
    exact ⟨some ⟨w2.heap.size, 0, none⟩, ⟨1, rfl⟩, side_fin (f := { csF with k := 3, d := who }) hs3 hr3 (Nat.le_refl _) hc1 hc2, hb3.trans ((below_at _ hs3).mono (by have := hb2.size; omega))⟩
end Go.Proofs.YteeeehfnldkjlaaGreatDoor
