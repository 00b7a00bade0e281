/-
  Contracts of slices.Equal at bytes, slices.EqualFunc at memories, codec's sameSeq. No statement of the seat is proved here.
-/
import Derived.Test.YtppmolneklidfaaSm1
import Derived.Test.YtppmolneklidfaaScom
namespace Go.Proofs.Ytppmolneklidfaa
open Go.RowKit

theorem byte_ne (x y : UInt8) : ((x.toNat : Int) != (y.toNat : Int)) = !(x == y) := by
  rw [Bool.eq_iff_iff]
  simp only [bne, Bool.not_eq_true', beq_eq_false_iff_ne, ne_eq, Int.ofNat_inj, UInt8.toNat_inj]
theorem eqL_beq : ∀ (l m : List UInt8), eqL (fun a b => a == b) l m = (l == m)
  | [], [] => rfl
  | [], _ :: _ => rfl
  | _ :: _, [] => rfl
  | x :: l, y :: m => by
    show ((x == y) && eqL _ l m) = _
    rw [eqL_beq l m]
    rfl

set_option maxHeartbeats 2000000 in
set_option maxRecDepth 100000 in
theorem equal_bytes (l m : List UInt8) (A A' : Option Addr) (c c' : Nat) (B : Nat) (w : World) (hr : Reads w B 1 A l.length (l.map bv)) (hr' : Reads w B 1 A' m.length (m.map bv)) (hl : l.length ≤ 9223372036854775807) (hm : m.length ≤ 9223372036854775807) :
    Calls Try.prog 86 #[.slice A l.length c, .slice A' m.length c'] w fun r w' => r = .returned (.bool (l == m)) ∧ Keep Nothing w w' := by
  rw [← eqL_beq]
  by_cases hlm : l.length = m.length
  · have d0 : ((l.length : Int) != (m.length : Int)) = false := by rw [hlm]; simp
    have HLM := Lib.hid hlm
    have hlm2 : l.length ≤ m.length := by omega
    clear hlm
    go_enter Try.func86, Try.ntmps86
    go_wp2_with fail
    go_loopw [13] (fun i wr => ∃ k : Nat, k ≤ l.length ∧ i = .int .i64 k ∧ (∀ p : Addr, wr.cell? p = w.cell? p) ∧ Keep Nothing w wr ∧ ∀ (j : Nat) (x y : UInt8), j < k → l[j]? = some x → m[j]? = some y → (x == y) = true) (fun i _ => l.length - (intOf i).toNat)
    case atStart => exact ⟨0, Nat.zero_le _, rfl, fun _ => rfl, Keep.refl _ _, fun j x y h => absurd h (by omega)⟩
    case round =>
      obtain ⟨k, hk, rfl, hsame, hkw, hall⟩ := hrel
      have HS := Lib.hid hsame
      clear hsame
      have HALL := Lib.hid hall
      clear hall
      by_cases hlt : k < l.length
      · obtain ⟨x, hx⟩ : ∃ x, l[k]? = some x := ⟨_, List.getElem?_eq_getElem hlt⟩
        obtain ⟨y, hy⟩ : ∃ y, m[k]? = some y := ⟨_, List.getElem?_eq_getElem (by omega : k < m.length)⟩
        obtain ⟨g1, o1, rfl, _, hc1⟩ := hr.at0 (by omega) (by omega)
        obtain ⟨g2, o2, rfl, _, hc2⟩ := hr'.at0 (by omega) (by omega)
        have e1 : wr.cell? ⟨g1, o1 + k, none⟩ = some (.int .u8 (x.toNat : Int)) := (HS.out _).trans (hc1 k _ (by rw [List.getElem?_map, hx]; rfl))
        have e2 : wr.cell? ⟨g2, o2 + k, none⟩ = some (.int .u8 (y.toNat : Int)) := (HS.out _).trans (hc2 k _ (by rw [List.getElem?_map, hy]; rfl))
        have hne := byte_ne x y
        have hi0 : (0 : Int) ≤ (k : Int) := Int.natCast_nonneg _
        have hi1 : (k : Int) < (l.length : Int) := by omega
        have hi2 : (k : Int) < (m.length : Int) := by omega
        have HX := Lib.hid hx
        have HY := Lib.hid hy
        clear hc1 hc2 hx hy
        generalize hz : (x == y) = z at *
        have HZ := Lib.hid hz
        clear hz
        generalize (x.toNat : Int) = xi at *
        generalize (y.toNat : Int) = yi at *
        go_wp2_with fail
        refine wp_region_still_lit (by kernel_rfl) (by kernel_rfl) ?_
        repeat (first | ((with_reducible refine wpStill_step (fun K hK => ?_)); go_simp; with_reducible refine hK _ ?_; clear hK K) | ((with_reducible refine wpStill_skip ?_ ?_); (focus rfl)))
        (with_reducible refine wpStill_nil ?_)
        change Exit.then _ _ _ _ wr.drew
        cases z
        · go_wp2_with fail
          go_ret
          exact ⟨by rw [eqL_false k x y HX.out HY.out HZ.out]; rfl, hkw.drew⟩
        · go_wp2_with fail
          go_roundw
          case rel =>
            refine ⟨k + 1, by omega, by go_num, fun p => HS.out p, hkw.drew, fun j a b hj h1 h2 => ?_⟩
            rcases Nat.lt_or_ge j k with q | q
            · exact HALL.out j a b q h1 h2
            · obtain rfl : j = k := by omega
              rw [HX.out] at h1
              rw [HY.out] at h2
              injection h1 with h1
              injection h2 with h2
              subst h1 h2
              exact HZ.out
          case measure => simp [intOf]; omega
      · obtain rfl : k = l.length := by omega
        go_wp2_with fail
        go_ret
        exact ⟨by rw [eqL_true HLM.out (fun j x y h1 h2 => HALL.out j x y (by have := (List.getElem?_eq_some_iff.1 h1).1; omega) h1 h2)]; rfl, hkw⟩
  · have d0 : ((l.length : Int) != (m.length : Int)) = true := by simp; omega
    have HLM := Lib.hid hlm
    go_enter Try.func86, Try.ntmps86
    go_wp2_with fail
    go_ret
    exact ⟨by rw [eqL_len HLM.out]; rfl, Keep.refl _ _⟩

theorem ldId_mid_ {w : World} {g off : Nat} {t : TypeId} {cs : Array Value} {i : Id} (h : Blk w g t cs) (hi : idC i = cs.extract off (off + (idC i).size)) : (Instr.loadAt 42 (.pointer (some ⟨g, off, none⟩))).run Try.prog w = .ok (idV i) w :=
  run_loadAt_blk (P := Try.prog) h off (idC i) Try.underlying42 rfl (by rw [idC_size]; exact info42) hi
def memEq (x y : MemD) : Bool := (x.key == y.key) && (x.data == y.data)
theorem memEq_refl (x : MemD) : memEq x x = true := by simp [memEq]
attribute [local go_sem ↓] ld_id eq_id ne_id
set_option maxHeartbeats 2000000 in
set_option maxRecDepth 100000 in
theorem sameMem_any (x y : MemD) (B : Nat) (w : World) (hB : B ≤ w.heap.size) (hx : Reads w B 1 x.adr x.data.length (x.data.map bv)) (hy : Reads w B 1 y.adr y.data.length (y.data.map bv)) (lx : x.data.length ≤ 9223372036854775807) (ly : y.data.length ≤ 9223372036854775807) :
    Calls Try.prog 85 #[.agg (memC x), .agg (memC y)] w fun r w' => r = .returned (.bool (memEq x y)) ∧ Keep Nothing w w' := by
  have q1 : Blk ((w.alloc (.cells (memC x) 130)).alloc (.cells (memC y) 130)) w.heap.size 130 (memC x) := (Blk.new _ _ _).alloc _
  have q2 : Blk ((w.alloc (.cells (memC x) 130)).alloc (.cells (memC y) 130)) (w.heap.size + 1) 130 (memC y) := by
    have := Blk.new (w.alloc (.cells (memC x) 130)) 130 (memC y)
    simpa using this
  have k0 : Keep Nothing w ((w.alloc (.cells (memC x) 130)).alloc (.cells (memC y) 130)) := ((Keep.refl _ _).alloc _).alloc _
  go_enter Try.func85, Try.ntmps85
  go_upto_region 1 with (first | (refine wpList_boxed rfl rfl (cs := memC x) rfl ?_) | (refine wpList_boxed rfl rfl (cs := memC y) rfl ?_))
  generalize (w.alloc (.cells (memC x) 130)).alloc (.cells (memC y) 130) = w0 at *
  have rx := hx.below (k0.below hB (fun _ _ h => h))
  have ry := hy.below (k0.below hB (fun _ _ h => h))
  have L1 : (LdId (.pointer (some ⟨w.heap.size, 0, none⟩))).run Try.prog w0 = _ := ldId_mid_ q1 (memC_id x)
  have L2 : (LdId (.pointer (some ⟨w.heap.size + 1, 0, none⟩))).run Try.prog w0 = _ := ldId_mid_ q2 (memC_id y)
  have G1 := fun (a b : Operand) (W : World) => guard_id .eql a b x.key y.key W
  have E1 := fun W => run_EqId W x.key y.key
  have c1 := (q1.cell 32).trans (memC_at x)
  have c2 := (q2.cell 32).trans (memC_at y)
  have HM := Lib.hid (show memEq x y = ((x.key == y.key) && (x.data == y.data)) from rfl)
  clear q1 q2
  generalize w.heap.size = q at *
  generalize (x.key == y.key) = z at *
  cases z
  · go_wp2_with fail
    go_ret
    exact ⟨by rw [HM.out]; rfl, k0⟩
  · go_wp2_with (first | (go_at_call 86; refine (equal_bytes x.data y.data _ _ _ _ B _ rx ry lx ly).mono ?_; rintro r w1 ⟨rfl, k1⟩))
    go_ret
    exact ⟨by rw [HM.out]; rfl, k0.trans k1⟩

/-! ### EqualFunc at memories, by that function -/
set_option maxHeartbeats 2000000 in
set_option maxRecDepth 100000 in
theorem equalFunc_mem (l m : List MemD) (A A' : Option Addr) (c c' : Nat) (B : Nat) (w : World) (hB : B ≤ w.heap.size) (hr : Reads w B 33 A l.length (memLs l)) (hr' : Reads w B 33 A' m.length (memLs m)) (hl : l.length ≤ 9223372036854775807) (hm : m.length ≤ 9223372036854775807)
    (hd : ∀ x ∈ l, Reads w B 1 x.adr x.data.length (x.data.map bv) ∧ x.data.length ≤ maxLen) (hd' : ∀ x ∈ m, Reads w B 1 x.adr x.data.length (x.data.map bv) ∧ x.data.length ≤ maxLen) :
    Calls Try.prog 84 #[.slice A l.length c, .slice A' m.length c', .func (.func 85) #[] #[]] w fun r w' => r = .returned (.bool (eqL memEq l m)) ∧ Keep Nothing w w' := by
  by_cases hlm : l.length = m.length
  · have d0 : ((l.length : Int) != (m.length : Int)) = false := by rw [hlm]; simp
    have HLM := Lib.hid hlm
    have hlm2 : l.length ≤ m.length := by omega
    have HD := Lib.hid hd
    have HD' := Lib.hid hd'
    have HR := Lib.hid (show ∀ W, Keep Nothing w W → Reads W B 33 A l.length (memLs l) ∧ Reads W B 33 A' m.length (memLs m) from fun W k => ⟨hr.below (k.below hB (fun _ _ h => h)), hr'.below (k.below hB (fun _ _ h => h))⟩)
    clear hlm hd hd' hr hr'
    go_enter Try.func84, Try.ntmps84
    go_wp2_with fail
    go_loopw [17] (fun i wr => ∃ k : Nat, k ≤ l.length ∧ i = .int .i64 k ∧ Keep Nothing w wr ∧ ∀ (j : Nat) (x y : MemD), j < k → l[j]? = some x → m[j]? = some y → memEq x y = true) (fun i _ => l.length - (intOf i).toNat)
    case atStart => exact ⟨0, Nat.zero_le _, rfl, Keep.refl _ _, fun j x y h => absurd h (by omega)⟩
    case round =>
      obtain ⟨k, hk, rfl, hkw, hall⟩ := hrel
      have HALL := Lib.hid hall
      clear hall
      by_cases hlt : k < l.length
      · obtain ⟨x, hx⟩ : ∃ x, l[k]? = some x := ⟨_, List.getElem?_eq_getElem hlt⟩
        obtain ⟨y, hy⟩ : ∃ y, m[k]? = some y := ⟨_, List.getElem?_eq_getElem (by omega : k < m.length)⟩
        obtain ⟨g1, o1, rfl, _, hc1⟩ := (HR.out _ hkw).1.at0 (by omega) (by omega)
        have L1 := Lib.hid (load_flat (w := wr) Try.underlying130 rfl info_mem memL_len (fun j u hj => hc1 j u hj) hx)
        have HX := Lib.hid hx
        have HY := Lib.hid hy
        have HDX := HD.out x (List.mem_of_getElem? hx)
        have HDY := HD'.out y (List.mem_of_getElem? hy)
        have RX := Lib.hid HDX.1
        have RY := Lib.hid HDY.1
        have lx : x.data.length ≤ 9223372036854775807 := by have := HDX.2; unfold maxLen at this; omega
        have ly : y.data.length ≤ 9223372036854775807 := by have := HDY.2; unfold maxLen at this; omega
        clear hc1 hx hy HDX HDY
        go_upto_region 6 with (first | (refine wpList_load rfl rfl rfl L1.out ?_) | (refine wpList_allocAgg rfl rfl (zero_mem _) ?_) | (refine wpList_storeBlk rfl rfl (vs := memC x) rfl rfl (Blk.new _ _ _) (by rw [memC_size, memC_size]) (by rw [memC_size]; exact info_mem) (memL_one _) ?_; intro w1 x1 kc zc))
        have k1 := hkw.trans (Keep.ofNew (S := Nothing) kc)
        have hz1 : wr.heap.size < w1.heap.size := x1.lt
        generalize wr.heap.size = z1 at *
        clear kc zc L1
        obtain ⟨g2, o2, rfl, _, hc2⟩ := (HR.out _ k1).2.at0 (by omega) (by omega)
        have L2 := Lib.hid (load_flat (w := w1) Try.underlying130 rfl info_mem memL_len (fun j u hj => hc2 j u hj) HY.out)
        clear hc2
        go_upto_region 7 with (first | (refine wpList_load rfl rfl rfl L2.out ?_) | (refine wpList_allocAgg rfl rfl (zero_mem _) ?_) | (refine wpList_storeBlk rfl rfl (vs := memC y) rfl rfl (Blk.new _ _ _) (by rw [memC_size, memC_size]) (by rw [memC_size]; exact info_mem) (memL_one _) ?_; intro w2 x2 kc zc))
        have k2 := k1.trans (Keep.ofNew (S := Nothing) kc)
        have x1' := x1.keep (Keep.ofNew (S := Nothing) kc) (fun h => h)
        generalize w1.heap.size = z2 at *
        clear kc zc L2 x1
        have t1 : True := trivial
        go_wp2_with (first | (have _t := t1; refine wpList_load rfl rfl rfl (load_whole x1' Try.underlying130 rfl (by rw [memC_size]; exact info_mem)) ?_; clear t1) | (refine wpList_load rfl rfl rfl (load_whole x2 Try.underlying130 rfl (by rw [memC_size]; exact info_mem)) ?_))
        refine (sameMem_any x y B _ (by have := k2.size; omega) (RX.out.below (k2.below hB (fun _ _ h => h))) (RY.out.below (k2.below hB (fun _ _ h => h))) lx ly).mono ?_
        rintro r w3 ⟨rfl, k3⟩
        have kk := k2.trans k3
        generalize hz : memEq x y = z at *
        have HZ := Lib.hid hz
        clear hz
        cases z
        · go_wp2_with fail
          go_ret
          exact ⟨by rw [eqL_false k x y HX.out HY.out HZ.out]; rfl, kk⟩
        · go_wp2_with fail
          go_roundw
          case rel =>
            refine ⟨k + 1, by omega, by go_num, kk, fun j a b hj h1 h2 => ?_⟩
            rcases Nat.lt_or_ge j k with q | q
            · exact HALL.out j a b q h1 h2
            · obtain rfl : j = k := by omega
              rw [HX.out] at h1
              rw [HY.out] at h2
              injection h1 with h1
              injection h2 with h2
              subst h1 h2
              exact HZ.out
          case measure => simp [intOf]; omega
      · obtain rfl : k = l.length := by omega
        go_wp2_with fail
        go_ret
        exact ⟨by rw [eqL_true HLM.out (fun j x y h1 h2 => HALL.out j x y (by have := (List.getElem?_eq_some_iff.1 h1).1; omega) h1 h2)]; rfl, hkw⟩
  · have d0 : ((l.length : Int) != (m.length : Int)) = true := by simp; omega
    have HLM := Lib.hid hlm
    go_enter Try.func84, Try.ntmps84
    go_wp2_with fail
    go_ret
    exact ⟨by rw [eqL_len HLM.out]; rfl, Keep.refl _ _⟩
end Go.Proofs.Ytppmolneklidfaa
