/-
  Contracts of slices.Equal at Ids and of codec.SameCommit at commits that are the same. No statement of the seat is proved here.
-/
import Derived.Test.YtppmolneklidfaaSm1
import Derived.Test.YtppmolneklidfaaScom
namespace Go.Proofs.Ytppmolneklidfaa
open Go.RowKit

attribute [local go_sem ↓] ld_id eq_id ne_id
set_option maxHeartbeats 2000000 in
set_option maxRecDepth 100000 in
theorem equal_id (l m : List Id) (A A' : Option Addr) (c c' : Nat) (B : Nat) (w : World) (hr : Reads w B 32 A l.length (idLs l)) (hr' : Reads w B 32 A' m.length (idLs m)) (hl : l.length ≤ 9223372036854775807) (hm : m.length ≤ 9223372036854775807) :
    Calls Try.prog 87 #[.slice A l.length c, .slice A' m.length c'] w fun r w' => r = .returned (.bool (eqL (fun a b : Id => a == b) l m)) ∧ Keep Nothing w w' := by
  by_cases hlm : l.length = m.length
  · have d0 : ((l.length : Int) != (m.length : Int)) = false := by rw [hlm]; simp
    have HLM := Lib.hid hlm
    have hlm2 : l.length ≤ m.length := by omega
    clear hlm
    go_enter Try.func87, Try.ntmps87
    go_wp2_with fail
    go_loopw [13] (fun i wr => ∃ k : Nat, k ≤ l.length ∧ i = .int .i64 k ∧ (∀ p : Addr, wr.cell? p = w.cell? p) ∧ Keep Nothing w wr ∧ ∀ (j : Nat) (x y : Id), j < k → l[j]? = some x → m[j]? = some y → (x == y) = true) (fun i _ => l.length - (intOf i).toNat)
    case atStart => exact ⟨0, Nat.zero_le _, rfl, fun _ => rfl, Keep.refl _ _, fun j x y h => absurd h (by omega)⟩
    case round =>
      obtain ⟨k, hk, rfl, hsame, hkw, hall⟩ := hrel
      have HS := Lib.hid hsame
      clear hsame
      have HALL := Lib.hid hall
      clear hall
      by_cases hlt : k < l.length
      · obtain ⟨x, hx⟩ : ∃ x, l[k]? = some x := ⟨_, List.getElem?_eq_getElem hlt⟩
        obtain ⟨y, hy⟩ : ∃ y, m[k]? = some y := ⟨_, List.getElem?_eq_getElem (by omega : k < m.length)⟩
        obtain ⟨g1, o1, rfl, _, hc1⟩ := hr.at0 (by omega) (by omega)
        obtain ⟨g2, o2, rfl, _, hc2⟩ := hr'.at0 (by omega) (by omega)
        have L1 := ldId_at (w := wr.drew) (fun j u hj => (HS.out _).trans (hc1 j u hj)) hx
        have L2 := ldId_at (w := wr.drew) (fun j u hj => (HS.out _).trans (hc2 j u hj)) hy
        have G1 := fun (a b : Operand) (W : World) => guard_id .neq a b x y W
        have E1 := fun W => run_NeId W x y
        have hi0 : (0 : Int) ≤ (k : Int) := Int.natCast_nonneg _
        have hi1 : (k : Int) < (l.length : Int) := by omega
        have hi2 : (k : Int) < (m.length : Int) := by omega
        have HX := Lib.hid hx
        have HY := Lib.hid hy
        clear hc1 hc2 hx hy
        generalize hz : (x == y) = z at *
        have HZ := Lib.hid hz
        clear hz
        go_wp2_with fail
        refine wp_region_still_lit (by kernel_rfl) (by kernel_rfl) ?_
        repeat (first | ((with_reducible refine wpStill_step (fun K hK => ?_)); go_simp; with_reducible refine hK _ ?_; clear hK K) | ((with_reducible refine wpStill_skip ?_ ?_); (focus rfl)))
        (with_reducible refine wpStill_nil ?_)
        change Exit.then _ _ _ _ wr.drew
        cases z
        · go_wp2_with fail
          go_ret
          exact ⟨by rw [eqL_false k x y HX.out HY.out HZ.out]; rfl, hkw.drew⟩
        · go_wp2_with fail
          go_roundw
          case rel =>
            refine ⟨k + 1, by omega, by go_num, fun p => HS.out p, hkw.drew, fun j a b hj h1 h2 => ?_⟩
            rcases Nat.lt_or_ge j k with q | q
            · exact HALL.out j a b q h1 h2
            · obtain rfl : j = k := by omega
              rw [HX.out] at h1
              rw [HY.out] at h2
              injection h1 with h1
              injection h2 with h2
              subst h1 h2
              exact HZ.out
          case measure => simp [intOf]; omega
      · obtain rfl : k = l.length := by omega
        go_wp2_with fail
        go_ret
        exact ⟨by rw [eqL_true HLM.out (fun j x y h1 h2 => HALL.out j x y (by have := (List.getElem?_eq_some_iff.1 h1).1; omega) h1 h2)]; rfl, hkw⟩
  · have d0 : ((l.length : Int) != (m.length : Int)) = true := by simp; omega
    have HLM := Lib.hid hlm
    go_enter Try.func87, Try.ntmps87
    go_wp2_with fail
    go_ret
    exact ⟨by rw [eqL_len HLM.out]; rfl, Keep.refl _ _⟩

set_option maxHeartbeats 2000000 in
set_option maxRecDepth 100000 in
theorem sameCommit_refl (d : ComD) (A A' : Option Addr) (c c' : Nat) (w : World) (hr : Reads w w.heap.size 32 A d.parents.length (idLs d.parents)) (hr' : Reads w w.heap.size 32 A' d.parents.length (idLs d.parents)) (hl : d.parents.length ≤ 9223372036854775807) :
    Calls Try.prog 38 #[.agg (comC d.tree (.slice A d.parents.length c) d.author d.time d.msg), .agg (comC d.tree (.slice A' d.parents.length c') d.author d.time d.msg)] w fun r w' => r = .returned (.bool true) ∧ Keep Nothing w w' := by
  obtain ⟨t, ps, au, tm, ms⟩ := d
  have q1 : Blk ((w.alloc (.cells (comC t (.slice A ps.length c) au tm ms) 45)).alloc (.cells (comC t (.slice A' ps.length c') au tm ms) 45)) w.heap.size 45 (comC t (.slice A ps.length c) au tm ms) := (Blk.new _ _ _).alloc _
  have q2 : Blk ((w.alloc (.cells (comC t (.slice A ps.length c) au tm ms) 45)).alloc (.cells (comC t (.slice A' ps.length c') au tm ms) 45)) (w.heap.size + 1) 45 (comC t (.slice A' ps.length c') au tm ms) := by
    have := Blk.new (w.alloc (.cells (comC t (.slice A ps.length c) au tm ms) 45)) 45 (comC t (.slice A' ps.length c') au tm ms)
    simpa using this
  have k0 : Keep Nothing w ((w.alloc (.cells (comC t (.slice A ps.length c) au tm ms) 45)).alloc (.cells (comC t (.slice A' ps.length c') au tm ms) 45)) := ((Keep.refl _ _).alloc _).alloc _
  go_enter Try.func38, Try.ntmps38
  go_upto_region 1 with (first | (refine wpList_boxed rfl rfl (cs := comC t (.slice A ps.length c) au tm ms) rfl ?_) | (refine wpList_boxed rfl rfl (cs := comC t (.slice A' ps.length c') au tm ms) rfl ?_))
  generalize (w.alloc (.cells (comC t (.slice A ps.length c) au tm ms) 45)).alloc (.cells (comC t (.slice A' ps.length c') au tm ms) 45) = w0 at *
  have hr0 := hr.kept k0 (Nat.le_refl _) (fun _ _ h => h)
  have hr0' := hr'.kept k0 (Nat.le_refl _) (fun _ _ h => h)
  have HE := Lib.hid (show Calls Try.prog 87 #[.slice A ps.length c, .slice A' ps.length c'] w0 (fun r w' => r = .returned (.bool true) ∧ Keep Nothing w0 w') from by have h := equal_id ps ps A A' c c' _ w0 hr0 hr0' hl hl; rw [eqL_refl (fun x => by simp) ps] at h; exact h)
  clear hr hr' hr0 hr0'
  generalize w.heap.size = q at *
  have L1 := ldId_com q1
  have L2 := ldId_com q2
  have G1 := fun (a b : Operand) (W : World) => guard_id .eql a b t t W
  have E1 := fun W => run_EqId W t t
  rw [show (t == t) = true from by simp] at E1
  have a1 := (q1.cell 32).trans comC_at.1
  have b1 := (q2.cell 32).trans comC_at.1
  go_wp2_with fail
  refine HE.out.mono ?_
  rintro r w1 ⟨rfl, k1⟩
  have y1 := q1.keep k1 (fun h => h)
  have y2 := q2.keep k1 (fun h => h)
  have kk := k0.trans k1
  clear a1 b1 q1 q2 k0 k1 L1 L2
  have a2 := (y1.cell 33).trans comC_at.2.1
  have a3 := (y1.cell 34).trans comC_at.2.2.1
  have a4 := (y1.cell 35).trans comC_at.2.2.2
  have b2 := (y2.cell 33).trans comC_at.2.1
  have b3 := (y2.cell 34).trans comC_at.2.2.1
  have b4 := (y2.cell 35).trans comC_at.2.2.2
  go_wp2_with fail
  go_ret
  exact ⟨rfl, kk⟩
end Go.Proofs.Ytppmolneklidfaa
