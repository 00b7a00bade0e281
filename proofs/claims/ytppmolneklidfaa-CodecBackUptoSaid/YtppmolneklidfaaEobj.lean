/-
  Contract of codec.EncodeObj, out of one of its body's look. No statement of the seat is proved here.
-/
import Derived.Test.YtppmolneklidfaaRptree
namespace Go.Proofs.Ytppmolneklidfaa
open Go.RowKit

def letter (k : Int) : UInt8 := if k = 1 then 98 else if k = 2 then 116 else 99
/-- An object's bytes, where e is what is wrong with its body. -/
def encObj (e k : Int) (b : List UInt8) : List UInt8 × Int := if e = 0 then (letter k :: (be 4 b.length ++ b), 0) else ([], e)

def BytesPost (r2 : List UInt8 × Int) (w : World) (r : Ending) (w' : World) : Prop := ∃ A c, r = .returned (.tuple #[.slice A r2.1.length c, .int .i64 r2.2]) ∧ Own w' w.heap.size 5 1 A r2.1.length c (r2.1.map bv) ∧ Below w.heap.size w w'

theorem build_src1 (A : Option Addr) (n c : Nat) (w : World) : (Instr.build 92 #[(0, .agg #[.slice A n c, .int .i64 0, .int .i64 0])]).run Try.prog w = .ok (.agg #[.slice A n c, .int .i64 0, .int .i64 0]) w := by kernel_rfl

theorem own_one (w : World) (base : Nat) (hb : base ≤ w.heap.size) (y : UInt8) : Own (w.alloc (.cells #[bv y] 5)) base 5 1 (some ⟨w.heap.size, 0, none⟩) 1 1 ([y].map bv) :=
  ⟨by simp, .inr ⟨w.heap.size, 1, #[bv y], rfl, hb, heap_alloc_new _ _, Nat.le_refl _, by unfold maxLen; omega, by simp, by simp⟩⟩

theorem let1 (W : World) : (Instr.index 9 (.string ⟨#[98, 116, 99]⟩) (.int .i64 0)).run Try.prog W = .ok (.int .u8 98) W := by kernel_rfl
theorem let2 (W : World) : (Instr.index 9 (.string ⟨#[98, 116, 99]⟩) (.int .i64 1)).run Try.prog W = .ok (.int .u8 116) W := by kernel_rfl
theorem let3 (W : World) : (Instr.index 9 (.string ⟨#[98, 116, 99]⟩) (.int .i64 2)).run Try.prog W = .ok (.int .u8 99) W := by kernel_rfl
set_option maxHeartbeats 2000000 in
set_option maxRecDepth 100000 in
theorem encodeObj_of (k : Int) (b : List UInt8) (e : Int) (A : Option Addr) (c : Nat) (w : World) (hr : Reads w w.heap.size 1 A b.length (b.map bv)) (hl : b.length ≤ 1000000) (hke : e = 0 → 1 ≤ k ∧ k ≤ 3)
    (hbody : ∀ W : World, Reads W w.heap.size 1 A b.length (b.map bv) → w.heap.size ≤ W.heap.size → Calls Try.prog 55 #[.int .i64 k, .slice A b.length c] W fun r w' => r = .returned (.int .i64 e) ∧ Below W.heap.size W w') :
    Calls Try.prog 19 #[.agg #[.int .i64 k, .slice A b.length c]] w (BytesPost (encObj e k b) w) := by
  have HB := Lib.hid hbody
  clear hbody
  have hq1 : Blk (w.alloc (.cells #[.int .i64 k, .slice A b.length c] 38)) w.heap.size 38 #[.int .i64 k, .slice A b.length c] := Blk.new _ _ _
  have hr1 := hr.alloc (Nat.le_refl _) (.cells #[.int .i64 k, .slice A b.length c] 38)
  have hk1 : Kept w.heap.size [5] [] w (w.alloc (.cells #[.int .i64 k, .slice A b.length c] 38)) := (Kept.refl _ _ _ _).alloc _
  have hz1 : w.heap.size ≤ (w.alloc (.cells #[.int .i64 k, .slice A b.length c] 38)).heap.size := by simp
  go_enter Try.func19, Try.ntmps19
  go_wp2_with fail
  refine (HB.out _ hr1 hz1).mono ?_
  rintro r w2 ⟨rfl, hbe⟩
  generalize w.alloc (.cells #[.int .i64 k, .slice A b.length c] 38) = w1 at *
  have hq2 := hq1.below hbe hq1.lt
  have hr2 := (hr1.more hz1).below hbe
  have hk2 : Kept w.heap.size [5] [] w w2 := hk1.lift (Kept.ofBelow (base := w.heap.size) (E := []) (G := []) hbe) (Nat.le_refl _) (by simp) (by simp)
  have hz2 := hbe.size
  generalize hq : w.heap.size = q at *
  have HQ := Lib.hid hq
  have hqle : q ≤ w.heap.size := by omega
  have hqge : w.heap.size ≤ q := by omega
  clear hq hbe hk1 hr1 hq1
  by_cases he : e = 0
  · subst he
    obtain ⟨k1, k2⟩ := hke rfl
    have a0 := hq2.cell 0
    have a1 := hq2.cell 1
    simp at a0 a1
    clear hke
    have hlet : ∀ W : World, (Instr.index 9 (.string ⟨#[98, 116, 99]⟩) (.int .i64 (k - 1))).run Try.prog W = .ok (.int .u8 ((letter k).toNat : Int)) W := by
      intro W
      have : k = 1 ∨ k = 2 ∨ k = 3 := by omega
      rcases this with rfl | rfl | rfl
      · exact let1 W
      · exact let2 W
      · exact let3 W
    generalize hy : letter k = y at *
    have HY := Lib.hid hy
    have lq2 := hq2.lt
    clear hy
    go_wp2_with fail
    have ho0 := own_one w2 q (by omega) y
    have hw3 : Wt ((w2.alloc (.cells #[bv y] 5)).alloc (.cells #[.slice (some ⟨w2.heap.size, 0, none⟩) 1 1, .int .i64 0, .int .i64 0] 92)) (w2.heap.size + 1) q [y] 0 := by
      refine ⟨_, _, ?_, ho0.alloc _, by omega⟩
      have := Blk.new (w2.alloc (.cells #[bv y] 5)) 92 #[.slice (some ⟨w2.heap.size, 0, none⟩) 1 1, .int .i64 0, .int .i64 0]
      simpa using this
    have hq3 := (hq2.alloc (.cells #[bv y] 5)).alloc (.cells #[.slice (some ⟨w2.heap.size, 0, none⟩) 1 1, .int .i64 0, .int .i64 0] 92)
    have hr3 := (hr2.alloc hz2 (.cells #[bv y] 5)).alloc (by simp; omega) (.cells #[.slice (some ⟨w2.heap.size, 0, none⟩) 1 1, .int .i64 0, .int .i64 0] 92)
    have hk3 := (hk2.alloc (.cells #[bv y] 5)).alloc (.cells #[.slice (some ⟨w2.heap.size, 0, none⟩) 1 1, .int .i64 0, .int .i64 0] 92)
    change Calls _ _ _ ((w2.alloc (.cells #[bv y] 5)).alloc (.cells #[.slice (some ⟨w2.heap.size, 0, none⟩) 1 1, .int .i64 0, .int .i64 0] 92)) _
    have hz3 : q ≤ ((w2.alloc (.cells #[bv y] 5)).alloc (.cells #[.slice (some ⟨w2.heap.size, 0, none⟩) 1 1, .int .i64 0, .int .i64 0] 92)).heap.size := by simp; omega
    generalize (w2.alloc (.cells #[bv y] 5)).alloc (.cells #[.slice (some ⟨w2.heap.size, 0, none⟩) 1 1, .int .i64 0, .int .i64 0] 92) = w3 at *
    have hg : q < w2.heap.size + 1 := by omega
    have hg2 : w.heap.size ≤ w2.heap.size + 1 := by omega
    generalize w2.heap.size + 1 = g at *
    clear ho0 hq2 hr2 hk2 a0 a1 hlet
    refine (wnumber_any 4 b.length (by omega) g q [y] 0 _ hw3 (by simp) hz3).mono ?_
    rintro r w4 ⟨rfl, hw4, hk4⟩
    have hq4 := hk4.blk hq3 (by simp; omega) (by decide)
    have hz4 := hk4.size
    have hkk4 : Kept q [5] [] w w4 := hk3.lift hk4 (Nat.le_refl _) (by simp) (by simp; omega)
    have hbz4 : Below q w w4 := hkk4.below (Nat.le_refl _) hqle (by simp)
    have hr4 : Reads w4 q 1 A b.length (b.map bv) := by
      have := HQ.out
      subst this
      exact hr.below hbz4
    have hl4 : ([y] ++ be 4 b.length).length = 5 := by simp [be_len]
    generalize h5 : [y] ++ be 4 b.length = b5 at *
    have HB5 := Lib.hid h5
    have hl5 : b5.length ≤ 5 := by omega
    obtain ⟨A5, c5, hb5, ho5, hbg5⟩ := hw4
    clear h5 hl4 hq3 hr3 hk3 hw3 hk4
    have l4 := hb5.lt
    have a1 := hq4.cell 1
    have b0 := hb5.cell 0
    have f0 := hb5.frozen 0
    simp at a1 b0
    have hm1 : b5.length + b.length ≤ maxLen := by unfold maxLen; omega
    have hm2 : (b5.length + b.length) * 1 ≤ 140737488355328 := by omega
    have hz4' : q ≤ w4.heap.size := by omega
    go_wp2_with fail
    go_region_law (first | ((refine step_append_sl (by rfl) elemU8 (by rfl) (by rfl) ho5.drew (by rfl) hr4.drew (bvs_one _) hm1 hm2 hz4' ?_); intro A' c' w5 ho6 hk6; have hb6 := hk6.blk hb5.drew (by simp) (by decide); have c6 := hb6.cell 0; have f6 := hb6.frozen 0; simp at c6))
    all_goals
      have T := Wt.more (g := g) (base := q) (bs := b5) (new := b) (m := b.length) (e := 0) (w := w4) hbg5 ((Kept.refl _ _ _ _).drew) hb5.drew rfl ho6 hk6
      go_wp2_with fail
      refine (wdone_any g q _ 0 _ T.1).mono ?_
      rintro r w7 ⟨A7, c7, rfl, ho7, hk7⟩
      have kk7 : Kept q [5] [] w w7 := (hkk4.lift T.2 (Nat.le_refl _) (by simp) (by simp; omega)).lift (Kept.ofKeep (base := q) (E := []) (G := []) hk7 (by unfold Nothing; simp)) (Nat.le_refl _) (by simp) (by simp)
      go_wp2_with fail
      go_ret2
      have := HQ.out
      subst this
      have hE : encObj 0 k b = (b5 ++ b, 0) := by
        unfold encObj
        rw [if_pos rfl, HY.out, ← HB5.out]
        simp
      refine ⟨A7, c7, ?_, ?_, kk7.all⟩
      · rw [hE]; rfl
      · rw [hE]; exact ho7
  · have he1 : (e != 0) = true := by simpa using he
    have HE := Lib.hid (show encObj e k b = ([], e) from if_neg he)
    go_wp2_with fail
    go_ret2
    have := HQ.out
    subst this
    exact ⟨none, 0, by rw [HE.out]; rfl, by rw [HE.out]; exact Own.nil _ _ _ _, hk2.all⟩
end Go.Proofs.Ytppmolneklidfaa
