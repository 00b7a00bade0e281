/-
 Contract of the reference's Find. No statement of the seat is proved here.
-/
import Derived.Test.YteeeehfnldkjlaaGreatDoorTZGf
namespace Go.Proofs.YteeeehfnldkjlaaGreatDoor
open Go.RowKit Go.Maps

/-- A file handed back. -/
def FileBack (f : FileD) (B : Nat) (w : World) (e : Ending) (w' : World) : Prop := ∃ D d, e = .returned (.agg (fileC f D d)) ∧ Reads w' B 1 D f.d.length (f.d.map byteV) ∧ f.d.length ≤ d ∧ d ≤ maxLen ∧ Below w.heap.size w w'
theorem getF_at {l : List FileD} {p : Pth} {k : Nat} {f : FileD} (h : ∀ g ∈ l.take k, g.p ≠ p) (hk : l[k]? = some f) (hf : f.p = p) : getF l p = f := by
 obtain ⟨hlt, e⟩ := List.getElem?_eq_some_iff.1 hk
 unfold getF
 have e2 : l = l.take k ++ f :: l.drop (k + 1) := by
  rw [← e]
  simp
 rw [e2, List.find?_append, List.find?_eq_none.2 (fun g hg => by rw [beq_iff_eq]; exact h g hg), Option.none_or, List.find?_cons_of_pos (by rw [beq_iff_eq]; exact hf)]
 rfl
theorem getF_no {l : List FileD} {p : Pth} (h : ∀ g ∈ l, g.p ≠ p) : getF l p = zeroF := by
 unfold getF
 rw [List.find?_eq_none.2 (fun g hg => by rw [beq_iff_eq]; exact h g hg)]
 rfl
theorem loadVar_file {w : World} {g : Nat} {f : FileD} {D : Option Addr} {d : Nat} (h : Blk w g 41 (fileC f D d)) : (loadVar 41 ⟨g, 0, none⟩).run Tryz.prog w = .ok (.agg (fileC f D d)) w :=
 run_loadVar_cells (P := Tryz.prog) w _ (fileC f D d) Tryz.underlying41 rfl info_file (fun j x hj => by rw [add_at, h.cell, ← hj]; simp)
attribute [local go_sem] run_eql_strC run_neq_strC eqGuard_strC neGuard_strC
attribute [local go_sem ↓] ld_f
set_option maxHeartbeats 4000000 in
set_option maxRecDepth 100000 in
theorem find_any (l : List FileD) (p : Pth) (A : Option Addr) (c B : Nat) (w : World) (hB : B ≤ w.heap.size) (h : FI w B A l) (hl : l.length ≤ 1000000000000) :
    Calls Tryz.prog 25 #[.slice A l.length c, strC p] w (FileBack (getF l p) B w) := by
 obtain ⟨z, hz⟩ : ∃ z, w.heap.size = z := ⟨_, rfl⟩
 unfold FileBack
 rw [hz]
 have HZ := Lib.hid hz
 have H1 := Lib.hid h
 clear h
 go_enter Tryz.func25, Tryz.ntmps25
 go_wp2_with fail
 go_loopw [5] (fun s3 wr => ∃ k : Nat, s3 = .int .i64 (k : Nat) ∧ k ≤ l.length ∧ Hid (∀ g ∈ l.take k, g.p ≠ p) ∧ Hid (Blk wr z 41 #[.string ⟨#[]⟩, .int .i64 0, .slice none 0 0]) ∧ Hid (Below z w wr)) (fun s3 _ => l.length - (intOf s3).toNat)
 case atStart => exact ⟨0, rfl, Nat.zero_le _, Lib.hid (by simp), Lib.hid (blk_new_at _ _ _ _ hz), Lib.hid (below_at _ hz)⟩
 case round =>
  obtain ⟨k, rfl, hk, HN, HX, HW⟩ := hrel
  have hB2 : B ≤ z := hz ▸ hB
  by_cases hlt : k < l.length
  · have i0 : (0 : Int) ≤ (k : Int) := by omega
    have i1 : (k : Int) < (l.length : Int) := by omega
    obtain ⟨f, hf⟩ : ∃ f, l[k]? = some f := ⟨_, List.getElem?_eq_getElem hlt⟩
    obtain ⟨g, o, DA, dc, rfl, hg, ld, c0, _, _, h1, h2, r1⟩ := (H1.out.below (HW.out.mono hB2)).at_ hf
    have ld' : (LdF (.pointer (some ⟨g, o + k * 3, none⟩))).run Tryz.prog wr = .ok (.agg (fileC f DA dc)) wr := ld
    by_cases hp : f.p = p
    · have HG := Lib.hid (getF_at HN.out hf hp)
      have q : (f.p == p) = true := beq_iff_eq.2 hp
      clear hp
      go_wp2_with (refine wpList_storeBlk rfl rfl (cs := #[.string ⟨#[]⟩, .int .i64 0, .slice none 0 0]) (vs := fileC f DA dc) rfl rfl HX.out rfl info_file (fileC_one f DA dc) ?_; intro w5 hx5 hk5 hs5)
      have hz5 : Below z w w5 := HW.out.trans (hk5.below (HZ.out ▸ HW.out.size) (by unfold Only; omega))
      refine bodyPost_ret (v := .agg (fileC f DA dc)) (results_cell rfl _ _ rfl (loadVar_file hx5)) rfl ⟨DA, dc, by rw [HG.out], ?_, ?_, h2, hz5⟩
      · rw [HG.out]; exact r1.kept hk5 (Nat.le_trans hB2 (HZ.out ▸ HW.out.size)) (by unfold Only; omega)
      · rw [HG.out]; exact h1
    · have q : (f.p == p) = false := beq_eq_false_iff_ne.2 hp
      have HT := Lib.hid (show ∀ g ∈ l.take (k + 1), g.p ≠ p from by
       rw [List.take_add_one, hf]
       intro x hx
       rcases List.mem_append.1 hx with hx | hx
       · exact HN.out x hx
       · rw [show x = f from by simpa using hx]; exact hp)
      clear hp
      go_wp2_with fail
      go_roundw
      case rel => exact ⟨k + 1, by go_num, hlt, HT, HX, HW⟩
      case measure => simp [intOf]; omega
  · obtain rfl : k = l.length := by omega
    have hlt' : ¬ (l.length : Int) < (l.length : Int) := by omega
    have HG := Lib.hid (show getF l p = zeroF from getF_no fun g hg => HN.out g (by rw [List.take_length]; exact hg))
    go_wp2_with (refine wpList_storeBlk rfl rfl (cs := #[.string ⟨#[]⟩, .int .i64 0, .slice none 0 0]) (vs := #[.string ⟨#[]⟩, .int .i64 0, .slice none 0 0]) rfl rfl HX.out rfl info_file zeroF_one ?_; intro w5 hx5 hk5 hs5)
    have hz5 : Below z w w5 := HW.out.trans (hk5.below (HZ.out ▸ HW.out.size) (by unfold Only; omega))
    refine bodyPost_ret (v := .agg (fileC zeroF none 0)) (results_cell rfl _ _ rfl (loadVar_file hx5)) rfl ⟨none, 0, by rw [HG.out], ?_, ?_, by decide, hz5⟩
    · rw [HG.out]; exact Reads.none_
    · rw [HG.out]; exact Nat.le_refl _
end Go.Proofs.YteeeehfnldkjlaaGreatDoor
