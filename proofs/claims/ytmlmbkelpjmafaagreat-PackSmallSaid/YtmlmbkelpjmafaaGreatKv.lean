/-
  Contract of pack.Parse at a pack whose bodies are alike but for the last byte (its end). No statement of the seat is proved here.
-/
import Derived.Test.YtmlmbkelpjmafaaGreatKu
namespace Go.Proofs.YtmlmbkelpjmafaaGreat
open Go.RowKit Go.Shelf
attribute [local go_sem ↓] build_rdg
set_option maxHeartbeats 8000000 in
set_option maxRecDepth 1000000 in
theorem read_any (u xs : List UInt8) (N : Nat) (hN : xs.length = N) (hu : u.length ≤ 2000) (hu2 : N ≤ 1 ∨ 100 ≤ u.length) (hk : N < 40) (hrise : xs.Pairwise (fun a b => (idU u a).1 < (idU u b).1)) (A : Option Addr) (c M : Nat) (hM : (packB u xs).length = M) (q : Nat) (W : World) (hr : Reads W W.heap.size 1 A M ((packB u xs).map bv)) (hc : M ≤ c) (hc2 : c ≤ maxLen)
    (hq : Blk W q 67 (rdC 0 0 (.slice A M c) (.slice none 0 0) (.slice none 0 0) false)) :
    Calls Tryz.prog 15 #[.pointer (some ⟨q, 0, none⟩)] W fun e w' => e = .returned (.bool true) ∧ ∃ A1 c1 os Ai ni ci, Blk w' q 67 (rdC 1 0 (.slice A M c) (.slice A1 N c1) (.slice Ai ni ci) false) ∧ os.map Ob.x = xs ∧ ObI w' w'.heap.size u A1 os ∧ Keep (Only q) W w' := by
  obtain ⟨p, hp⟩ : ∃ p, W.heap.size = p := ⟨_, rfl⟩
  have hqp : q < p := by rw [← hp]; exact hq.lt
  obtain ⟨W1, hW1⟩ : ∃ W1, W.alloc (.cells #[.pointer (some ⟨q, 0, none⟩)] 52) = W1 := ⟨_, rfl⟩
  have hp1 : Blk W1 p 52 #[.pointer (some ⟨q, 0, none⟩)] := by rw [← hW1, ← hp]; exact Blk.new _ _ _
  have hq1 : Blk W1 q 67 (rdC 0 0 (.slice A M c) (.slice none 0 0) (.slice none 0 0) false) := by rw [← hW1]; exact hq.alloc _
  have b1 : Below W.heap.size W W1 := by rw [← hW1]; exact (Below.refl _ W).alloc (Nat.le_refl _) _
  have hr1 : Reads W1 W.heap.size 1 A M ((packB u xs).map bv) := hr.below b1
  have hs1 : W.heap.size ≤ W1.heap.size := b1.size
  have h0 : 0 < (packB u xs).length := by
    simp only [packB, List.length_append, (sha (bodyB u xs)).2]
    omega
  obtain ⟨y, yl, hy⟩ : ∃ y yl, packB u xs = y :: yl := by
    cases e : packB u xs with
    | nil => rw [e] at h0; simp at h0
    | cons y l => exact ⟨y, l, rfl⟩
  have hnq : ∀ a, A = some a → a.block ≠ q := by
    refine hr1.notBlk (v := bv y) (by omega) (by omega) (by rw [hy]; rfl) hq1 (fun i => rdC_no _ _ _ _ _ _ _ _ _ _ _ _ _ (.inl rfl) _ i)
  have hq2 : Blk (W1.setCell ⟨q, 1, none⟩ (.int .i32 1)) q 67 (rdC 0 1 (.slice A M c) (.slice none 0 0) (.slice none 0 0) false) := hq1.set_ 1 (.int .i32 1)
  have hp2 := hp1.far (p := ⟨q, 1, none⟩) (by show p ≠ q; omega) (.int .i32 1)
  have hr2 : Reads (W1.setCell ⟨q, 1, none⟩ (.int .i32 1)) (W1.setCell ⟨q, 1, none⟩ (.int .i32 1)).heap.size 1 A M ((packB u xs).map bv) := by
    refine (hr1.more (by simp [World.setCell]; omega)).keptB fun a ha _ => Below.heap_setCell W1 ⟨q, 1, none⟩ _ _ (hnq a ha)
  have HC := read1_any u xs N hN hu hu2 hk hrise A c M hM q p _ hr2 hc hc2 hq2 hp2
  have HOA := Lib.hid (once_any9 q ⟨p, 0, none⟩ W1 _ (by simpa [rdC] using hq1.cell 0) (by simpa [rdC] using hq1.cell 1) (hq1.frozen 1) HC (fun w' h => by
    obtain ⟨A1, c1, os, Ai, ni, ci, hb, _⟩ := h
    exact ⟨by simpa [rdC] using hb.cell 0, by simpa [rdC] using hb.cell 1, hb.frozen 0, hb.frozen 1⟩))
  have HQP := Lib.hid hqp
  have HP := Lib.hid hp
  have HB := Lib.hid hq
  have HW := Lib.hid hW1
  have HN := Lib.hid hN
  have hc0 : W1.cell? ⟨p, 0, none⟩ = some (.pointer (some ⟨q, 0, none⟩)) := by simpa using hp1.cell 0
  have HP2 := Lib.hid hp2
  have hps : p < (W1.setCell ⟨q, 1, none⟩ (.int .i32 1)).heap.size := hp2.lt
  have HS := Lib.hid (show W.heap.size ≤ (W1.setCell ⟨q, 1, none⟩ (.int .i32 1)).heap.size by rw [hp]; omega)
  have HK2 := Lib.hid (show Keep (Only q) W (W1.setCell ⟨q, 1, none⟩ (.int .i32 1)) from (Below.keep_ b1 (Only q)).setCell (p := ⟨q, 1, none⟩) (.inl rfl) _)
  rw [← hW1, ← hp] at HOA hc0
  clear hr hq hp hqp hW1 hN hp1 hp2 hq1 hq2 hr1 hr2 hs1 h0 hy hnq HC b1
  go_enter Tryz.func15, Tryz.ntmps15
  go_upto_region 2 with (first | (go_at_call 28; (with_reducible refine HOA.out.mono ?_); rintro _ w2 ⟨rfl, hx⟩; have HX := Lib.hid hx; clear hx))
  rw [HW.out] at HX
  obtain ⟨w9, ⟨A1, c1, os, Ai, ni, ci, hb, hox, hob, hk, hz9⟩, rfl⟩ := HX.out
  rw [HN.out] at hb
  have hp9 : Blk w9 p 52 #[.pointer (some ⟨q, 0, none⟩)] := HP2.out.keep hk (by unfold Only; have := HQP.out; omega)
  have hb1 : Blk (w9.drew.setCell ⟨q, 0, none⟩ (.int .u32 1)) q 67 (rdC 1 1 (.slice A M c) (.slice A1 N c1) (.slice Ai ni ci) false) := hb.drew.set_ 0 (.int .u32 1)
  have hb2 : Blk ((w9.drew.setCell ⟨q, 0, none⟩ (.int .u32 1)).setCell ⟨q, 1, none⟩ (.int .i32 0)) q 67 (rdC 1 0 (.slice A M c) (.slice A1 N c1) (.slice Ai ni ci) false) := hb1.set_ 1 (.int .i32 0)
  have hpq : p ≠ q := by have := HQP.out; omega
  have hp4 := (hp9.drew.far (p := ⟨q, 0, none⟩) hpq (.int .u32 1)).far (p := ⟨q, 1, none⟩) hpq (.int .i32 0)
  have hk4 : Keep (Only q) W ((w9.drew.setCell ⟨q, 0, none⟩ (.int .u32 1)).setCell ⟨q, 1, none⟩ (.int .i32 0)) := ((HK2.out.trans (hk.mono fun i _ h => h)).drew.setCell (p := ⟨q, 0, none⟩) (.inl rfl) _).setCell (p := ⟨q, 1, none⟩) (.inl rfl) _
  have ho4 : ObI ((w9.drew.setCell ⟨q, 0, none⟩ (.int .u32 1)).setCell ⟨q, 1, none⟩ (.int .i32 0)) w9.heap.size u A1 os :=
    hob.keepR hb (fun v => rdC_no _ _ _ _ _ _ _ _ _ _ _ _ _ (.inl rfl) v) (fun v => rdC_no _ _ _ _ _ _ _ _ _ _ _ _ _ (.inr rfl) v) (fun j _ hj => (Below.heap_setCell (w9.drew.setCell ⟨q, 0, none⟩ (.int .u32 1)) ⟨q, 1, none⟩ _ j hj).trans (Below.heap_setCell w9.drew ⟨q, 0, none⟩ _ j hj))
  have hz4 : w9.heap.size ≤ ((w9.drew.setCell ⟨q, 0, none⟩ (.int .u32 1)).setCell ⟨q, 1, none⟩ (.int .i32 0)).heap.size := by
    have h1 : (w9.drew.setCell ⟨q, 0, none⟩ (.int .u32 1)).heap.size = w9.heap.size := by simp [World.setCell]
    have h2 : ((w9.drew.setCell ⟨q, 0, none⟩ (.int .u32 1)).setCell ⟨q, 1, none⟩ (.int .i32 0)).heap.size = (w9.drew.setCell ⟨q, 0, none⟩ (.int .u32 1)).heap.size := by
      generalize w9.drew.setCell ⟨q, 0, none⟩ (.int .u32 1) = wx
      simp [World.setCell]
    omega
  have HF := Lib.hid (And.intro hb2 (And.intro hox (And.intro (ho4.more hz4) hk4)))
  have d0 : ((w9.drew.setCell ⟨q, 0, none⟩ (.int .u32 1)).setCell ⟨q, 1, none⟩ (.int .i32 0)).cell? ⟨p, 0, none⟩ = some (.pointer (some ⟨q, 0, none⟩)) := by simpa using hp4.cell 0
  have d1 : ((w9.drew.setCell ⟨q, 0, none⟩ (.int .u32 1)).setCell ⟨q, 1, none⟩ (.int .i32 0)).cell? ⟨q, 6, none⟩ = some (.bool false) := by simpa [rdC] using hb2.cell 6
  clear HX hb hox hob hk hz9 hp9 hb1 hb2 hp4 hk4 ho4 hz4 HOA HK2 HP2 hc0
  generalize (w9.drew.setCell ⟨q, 0, none⟩ (.int .u32 1)).setCell ⟨q, 1, none⟩ (.int .i32 0) = w4 at *
  rw [HP.out]
  go_wp2_with fail
  go_ret
  exact ⟨rfl, A1, c1, os, Ai, ni, ci, HF.out⟩
set_option maxHeartbeats 8000000 in
set_option maxRecDepth 1000000 in
theorem packParse_any (u xs : List UInt8) (N : Nat) (hN : xs.length = N) (hu : u.length ≤ 2000) (hu2 : N ≤ 1 ∨ 100 ≤ u.length) (hk : N < 40) (hrise : xs.Pairwise (fun a b => (idU u a).1 < (idU u b).1)) (A : Option Addr) (c M : Nat) (hM : (packB u xs).length = M) (W : World) (hr : Reads W W.heap.size 1 A M ((packB u xs).map bv)) (hc : M ≤ c) (hc2 : c ≤ maxLen) :
    Calls Tryz.prog 8 #[.slice A M c] W fun e w' => ∃ A1 c1 os, e = .returned (.tuple #[.slice A1 N c1, .int .i64 0]) ∧ os.map Ob.x = xs ∧ ObI w' w'.heap.size u A1 os ∧ Below W.heap.size W w' := by
  have hq : Blk (W.alloc (.cells (rdC 0 0 (.slice A M c) (.slice none 0 0) (.slice none 0 0) false) 67)) W.heap.size 67 (rdC 0 0 (.slice A M c) (.slice none 0 0) (.slice none 0 0) false) := Blk.new _ _ _
  have b1 := (Below.refl W.heap.size W).alloc (Nat.le_refl _) (.cells (rdC 0 0 (.slice A M c) (.slice none 0 0) (.slice none 0 0) false) 67)
  have HRD := Lib.hid (show Calls Tryz.prog 15 #[.pointer (some ⟨W.heap.size, 0, none⟩)] (W.alloc (.cells #[.int .u32 0, .int .i32 0, .int .u32 0, .slice A M c, .slice none 0 0, .slice none 0 0, .bool false] 67)) _ from read_any u xs N hN hu hu2 hk hrise A c M hM W.heap.size _ ((hr.below b1).more b1.size) hc hc2 hq)
  have HB := Lib.hid b1
  clear hr hq hN hrise b1
  go_enter Tryz.func8, Tryz.ntmps8
  go_upto_region 2 with fail
  go_upto_if 10 with (go_at_call 15; (with_reducible refine HRD.out.mono ?_); rintro _ w2 ⟨rfl, hx⟩; have HX := Lib.hid hx; clear hx)
  obtain ⟨A1, c1, os, Ai, ni, ci, hb, hox, hob, hkp⟩ := HX.out
  have d0 : w2.cell? ⟨W.heap.size, 4, none⟩ = some (.slice A1 N c1) := by simpa [rdC] using hb.cell 4
  have HF := Lib.hid (And.intro hox (And.intro hob (HB.out.trans (hkp.below (by simp) (by unfold Only; intro i hi h; omega)))))
  clear HX hb hox hob hkp HB HRD
  go_wp2_with fail
  go_ret2
  exact ⟨A1, c1, os, rfl, HF.out⟩
end Go.Proofs.YtmlmbkelpjmafaaGreat
