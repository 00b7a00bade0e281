/-
  Contract of the law's Twin. No statement of the seat is proved here.
-/
import Derived.Test.YtbaapjlmpmpocaaGreatDoorDk
import Derived.Test.YtbaapjlmpmpocaaGreatDoorDTGd
import Derived.Deep.RegionHeld3
namespace Go.Proofs.YtbaapjlmpmpocaaGreatDoor
open Go.RowKit Go.Maps

def SlFl (n : Nat) (ps : Array (Nat × Value)) : Sem Value := Instr.buildSlice 24 n ps
theorem sl_fl (n : Nat) (ps : Array (Nat × Value)) : Instr.buildSlice 24 n ps = SlFl n ps := rfl
def BdFl (ps : Array (Nat × Value)) : Sem Value := Instr.build 27 ps
theorem bd_fl (ps : Array (Nat × Value)) : Instr.build 27 ps = BdFl ps := rfl
theorem slfl1 (a b c : Value) (W : World) : (SlFl 1 #[(0, .agg #[a, b, c])]).run Tryz.prog W = .ok (.slice (some ⟨W.heap.size, 0, none⟩) 1 1) (W.alloc (.cells #[a, b, c] 27)) :=
  run_buildSlice1 elemFile zero_file rfl rfl (by omega) W
attribute [local go_sem ↓] sl_fl bd_fl
set_option maxHeartbeats 8000000 in
set_option maxRecDepth 100000 in
theorem twin_any (l : List FileD) (A : Option Addr) (c B : Nat) (w : World) (hB : B ≤ w.heap.size) (hr : FI w B A l) (hl : l.length ≤ 1000000) (hd : ∀ f ∈ l, f.d.length ≤ 100000000) :
    Calls Tryz.prog 11 #[.slice A l.length c] w fun e w' => ∃ A' c', e = .returned (.slice A' l.length c') ∧ FI w' w'.heap.size A' l ∧ Below w.heap.size w w' := by
  obtain ⟨z, hz⟩ : ∃ z, w.heap.size = z := ⟨_, rfl⟩
  rw [hz]
  have HZ := Lib.hid hz
  have hBz : B ≤ z := hz ▸ hB
  have HFI := Lib.hid (fun W (k : Below z w W) => hr.below (k.mono hBz))
  have HDL := Lib.hid hd
  clear hr hd
  go_enter Tryz.func11, Tryz.ntmps11
  go_wp2_with fail
  go_loopw [3, 4] (fun s3 s4 wr => ∃ (k : Nat) (Ao : Option Addr) (co : Nat), s3 = .slice Ao k co ∧ s4 = .int .i64 (k : Nat) ∧ k ≤ l.length ∧ Hid (FM wr z Ao co (l.take k)) ∧ Hid (Below z w wr)) (fun _ s4 _ => l.length - (intOf s4).toNat)
  case atStart => exact ⟨0, none, 0, rfl, rfl, Nat.zero_le _, Lib.hid (FM.nil_ _ _), Lib.hid (Below.refl _ _)⟩
  case round =>
    obtain ⟨k, Ao, co, rfl, rfl, hk, HM, HB⟩ := hrel
    have hwz : z ≤ wr.heap.size := HZ.out ▸ HB.out.size
    by_cases hlt : k < l.length
    · obtain ⟨x, hx⟩ : ∃ x, l[k]? = some x := ⟨_, List.getElem?_eq_getElem hlt⟩
      obtain ⟨g, off, DA, dc, rfl, hg, _, e0, e1, e2, _, _, hrd⟩ := (HFI.out wr HB.out).at_ hx
      obtain ⟨ds, d1, d2, d3⟩ := HM.out
      have hdl : ds.length = k := by
        have := congrArg List.length d1
        rw [List.length_map, List.length_take] at this
        omega
      have htl : (l.take k).length = k := by rw [List.length_take]; omega
      rw [htl] at d2
      have HDS := Lib.hid (And.intro d1 (And.intro d2 d3))
      clear htl
      have HXL := Lib.hid (HDL.out x (List.mem_of_getElem? hx))
      have HTK := Lib.hid (take_snoc hx)
      obtain ⟨q, hq⟩ : ∃ q, wr.heap.size = q := ⟨_, rfl⟩
      have i0 : (0 : Int) ≤ (k : Int) := by omega
      have i1 : (k : Int) < (l.length : Int) := by omega
      have hmk : (Instr.buildSlice 25 0 #[]).run Tryz.prog wr.drew = .ok (.slice (some ⟨q, 0, none⟩) 0 0) (wr.drew.alloc (.cells #[] 5)) := by rw [← hq]; kernel_rfl
      have H0 := Lib.hid (show Own (wr.drew.alloc (.cells #[] 5)) q 5 1 (some ⟨q, 0, none⟩) 0 0 [] from hq ▸ World.ownsRow_made wr.drew #[] 0 (Nat.le_refl _) (Nat.zero_le _) (by simp))
      have hba : Below q wr (wr.drew.alloc (.cells #[] 5)) := ((Below.refl q wr).drew).alloc (Nat.le_of_eq hq.symm) _
      have HR0 := Lib.hid (hrd.below (hba.mono (by omega)))
      have HBA := Lib.hid hba
      have HQ := Lib.hid hq
      have HG := Lib.hid hg
      clear hrd d1 d2 d3 hx hba
      have hbd : ∀ (A5 : Option Addr) (n5 c5 : Nat) (W : World), (BdFl #[(0, strC x.p), (1, .int .i64 x.k), (2, .slice A5 n5 c5)]).run Tryz.prog W = .ok (.agg #[strC x.p, .int .i64 x.k, .slice A5 n5 c5]) W := fun A5 n5 c5 W => build_file9 x.p x.k A5 n5 c5 W
      have hsl : ∀ (A5 : Option Addr) (n5 c5 : Nat) (W : World), (SlFl 1 #[(0, .agg #[strC x.p, .int .i64 x.k, .slice A5 n5 c5])]).run Tryz.prog W = .ok (.slice (some ⟨W.heap.size, 0, none⟩) 1 1) (W.alloc (.cells #[strC x.p, .int .i64 x.k, .slice A5 n5 c5] 27)) := fun A5 n5 c5 W => slfl1 _ _ _ W
      go_upto_region 5 with fail
      go_region_held3 (fun w' => w'.cell? ⟨g, off + k * 3, none⟩ = some (strC x.p) ∧ w'.cell? ⟨g, off + k * 3 + 1, none⟩ = some (.int .i64 x.k) ∧ w'.cell? ⟨g, off + k * 3 + 2, none⟩ = some (.slice DA x.d.length dc)) (first | (exact ⟨e0, e1, e2⟩) | (exact ⟨s0, s1, s2⟩) | (exact ⟨t0, t1, t2⟩) | go_keep) (first
        | ((refine step_append_sl (by rfl) elemU8 (by rfl) (by rfl) (n := 0) (xs := []) H0.out (by rfl) HR0.out (bvs_one x.d) (by have := HXL.out; unfold maxLen; omega) (by have := HXL.out; omega) (by have := HQ.out; simp; omega) ?_); intro A5 c5 w5 o5 k5; rw [Nat.zero_add] at o5 ⊢; rw [List.nil_append] at o5; have hb5 := HBA.out.trans (k5.below (Nat.le_refl q) (by have := HQ.out; simp; omega) (by simp)); have s0 := (hb5.cell (p := ⟨g, off + k * 3, none⟩) (by show g < q; have := HG.out; omega)).trans e0; have s1 := (hb5.cell (p := ⟨g, off + k * 3 + 1, none⟩) (by show g < q; have := HG.out; omega)).trans e1; have s2 := (hb5.cell (p := ⟨g, off + k * 3 + 2, none⟩) (by show g < q; have := HG.out; omega)).trans e2; have HO5 := Lib.hid o5; have HB5 := Lib.hid hb5; have HOW := Lib.hid (show Own w5 z 27 3 Ao k co (ds.flatMap ftL) from Own.same HDS.out.2.1 fun b _ hb _ => hb5.block b (by rw [← HQ.out]; exact hb)); clear o5 k5 hb5)
        | ((refine step_append_sl (by rfl) elemFile (by rfl) (by rfl) (n := k) (xs := ds.flatMap ftL) (HOW.out.alloc _) (by rfl) (Reads.of_blk (n := 1) (size := 3) (xs := ftL (x, (A5, c5))) (heap_alloc_new _ _) rfl rfl) (ftL_one (x, (A5, c5))) (by unfold maxLen; omega) (by omega) (by have := HB5.out.size; have := HQ.out; simp; omega) ?_); intro A9 c9 w9 o9 k9; have hb9 := (HB5.out.mono (show z ≤ q by omega)).trans (((Below.refl z w5).alloc (by have := HB5.out.size; omega) (.cells (ftL (x, (A5, c5))).toArray 27)).trans (k9.below (Nat.le_refl z) (by have := HB5.out.size; simp; omega) (by simp))); have t0 := (hb9.cell (p := ⟨g, off + k * 3, none⟩) (by show g < z; have := HG.out; omega)).trans e0; have t1 := (hb9.cell (p := ⟨g, off + k * 3 + 1, none⟩) (by show g < z; have := HG.out; omega)).trans e1; have t2 := (hb9.cell (p := ⟨g, off + k * 3 + 2, none⟩) (by show g < z; have := HG.out; omega)).trans e2; have HO9 := Lib.hid o9; have HK9 := Lib.hid k9; have HB9 := Lib.hid hb9; clear o9 k9 hb9))
      go_wp2_with fail
      go_roundw
      case rel =>
        refine ⟨k + 1, A9, c9, rfl, by go_num, hlt, Lib.hid ?_, Lib.hid (HB.out.trans HB9.out)⟩
        have hzq : z ≤ q := by omega
        have hq5 := HB5.out.size
        have hz5 : z ≤ w5.heap.size := by omega
        have key : ∀ y, DataK w5 z y → DataK w9 z y := fun y hy =>
          (hy.keepB (w' := w5.alloc (.cells (ftL (x, (A5, c5))).toArray 27)) ((Below.refl _ w5).alloc (Nat.le_refl _) _) hz5).frm HK9.out (by simp; omega) (by simp) (by simp) (by intro g hg; cases hg)
        have hx5 : DataK w5 z (x, (A5, c5)) := ⟨(Own.cap_le HO5.out).1, (Own.cap_le HO5.out).2, .inr (Own.mono HO5.out hzq)⟩
        rw [HTK.out]
        exact FM.snoc HDS.out.1 (fun y hy => key y ((HDS.out.2.2 y hy).keepB (by rw [HQ.out]; exact HB5.out) hwz)) (key _ hx5) (by rw [List.length_take, Nat.min_eq_left hk]; exact HO9.out)
      case measure => simp [intOf]; omega
    · obtain rfl : k = l.length := by omega
      rw [List.take_length] at HM
      go_wp2_with fail
      go_ret
      exact ⟨Ao, co, rfl, HM.out.fi hwz, HB.out⟩
end Go.Proofs.YtbaapjlmpmpocaaGreatDoor
