/-
  Contract of the law's SameClashes. No statement of the seat is proved here.
-/
import Derived.Test.YteeeehfnldkjlaaGreatDoorTZGg
import Derived.BigRegion
namespace Go.Proofs.YteeeehfnldkjlaaGreatDoor
open Go.RowKit Go.Maps

/-- A clash as a struct. -/
def clashV (x : ClashD) : Value := .agg (clashL x).toArray
theorem neqClash (x y : ClashD) (W : World) : (binOp .neq 44 (clashV x) (clashV y)).run Tryz.prog W = .ok (.bool (decide (x ≠ y))) W := by
  have e : decide (x ≠ y) = !(decide (x.p = y.p) && decide (x.why = y.why)) := by
    rw [decide_not]
    congr 1
    rw [← Bool.decide_and]
    exact decide_eq_decide.2 ⟨fun h => by rw [h]; exact ⟨rfl, rfl⟩, fun h => by cases x; cases y; simp_all⟩
  rw [e]
  unfold clashV clashL strC
  go_simp
  by_cases h1 : x.p = y.p
  · by_cases h2 : x.why = y.why
    · simp [h1, h2]
    · have : ¬ (x.why : Int) = (y.why : Int) := by omega
      simp [h1, h2, this]
  · simp [h1]
theorem neqClashG (a b : Operand) (x y : ClashD) (W : World) : (eqGuard .neq 44 a b (clashV x) (clashV y)).run Tryz.prog W = .ok () W := by
  unfold clashV clashL strC
  go_simp
theorem flat2 : ∀ (v : List ClashD) (k : Nat) (x : ClashD), v[k]? = some x → ∀ j, j < 2 → (v.flatMap clashL)[k * 2 + j]? = (clashL x)[j]?
  | [], _, _, h, _, _ => by cases h
  | y :: v, 0, x, h, j, hj => by
    obtain rfl : y = x := Option.some.inj h
    rw [List.flatMap_cons, Nat.zero_mul, Nat.zero_add, List.getElem?_append_left (by simpa [clashL] using hj)]
  | y :: v, k + 1, x, h, j, hj => by
    rw [List.flatMap_cons, List.getElem?_append_right (by simp [clashL]; omega), show (k + 1) * 2 + j - (clashL y).length = k * 2 + j from by simp [clashL]; omega]
    exact flat2 v k x h j hj
theorem clash_load {w : World} {B : Nat} {A : Option Addr} {v : List ClashD} (h : Reads w B 2 A v.length (v.flatMap clashL)) {k : Nat} {x : ClashD} (hk : v[k]? = some x) : ∃ g o, A = some ⟨g, o, none⟩ ∧ (LdCl (.pointer (some ⟨g, o + k * 2, none⟩))).run Tryz.prog w = .ok (clashV x) w := by
  have hlt := (List.getElem?_eq_some_iff.1 hk).1
  obtain ⟨g, o, rfl, _, hc⟩ := h.at0 (by omega) (by omega)
  refine ⟨g, o, rfl, run_loadAt_cells w _ (clashL x).toArray Tryz.underlying44 rfl info_clash2 (fun j u hj => ?_)⟩
  rw [add_at, Nat.add_assoc]
  have hj2 : j < 2 := by simpa [clashL] using (List.getElem?_eq_some_iff.1 hj).1
  exact hc _ _ ((flat2 v k x hk j hj2).trans hj)
theorem take_sameC {a b : List ClashD} {k : Nat} {x y : ClashD} (h : a.take k = b.take k) (hx : a[k]? = some x) (hy : b[k]? = some y) : a.take (k + 1) = b.take (k + 1) ↔ x = y := by
  rw [List.take_add_one, List.take_add_one, h, hx, hy]
  simp
attribute [local go_sem] neqClash neqClashG
attribute [local go_sem ↓] ld_cl
set_option maxHeartbeats 4000000 in
set_option maxRecDepth 100000 in
theorem sameClashes_any (a b : List ClashD) (A C : Option Addr) (c d B : Nat) (w : World) (hB : B ≤ w.heap.size) (h1 : Reads w B 2 A a.length (a.flatMap clashL)) (h2 : Reads w B 2 C b.length (b.flatMap clashL)) (hal : a.length ≤ 9223372036854775807) :
    Calls Tryz.prog 20 #[.slice A a.length c, .slice C b.length d] w fun e w' => e = .returned (.bool (decide (a = b))) ∧ Below w.heap.size w w' := by
  obtain ⟨z, hz⟩ : ∃ z, w.heap.size = z := ⟨_, rfl⟩
  rw [hz]
  have HZ := Lib.hid hz
  have H1 := Lib.hid h1
  have H2 := Lib.hid h2
  clear h1 h2
  go_enter Tryz.func20, Tryz.ntmps20
  by_cases hl : a.length = b.length
  · have hl' : ((a.length : Int) != (b.length : Int)) = false := by simp [hl]
    have HLN := Lib.hid hl
    clear hl
    go_wp2_with fail
    go_loopw [5] (fun s5 wr => ∃ k : Nat, s5 = .int .i64 (k : Nat) ∧ k ≤ a.length ∧ Hid (a.take k = b.take k) ∧ Hid (Below z w wr)) (fun s5 _ => a.length - (intOf s5).toNat)
    case atStart => exact ⟨0, rfl, Nat.zero_le _, Lib.hid (by rw [List.take_zero, List.take_zero]), Lib.hid (Below.refl _ _)⟩
    case round =>
      obtain ⟨k, rfl, hk, HT, HB⟩ := hrel
      have hdw : Below z w wr.drew := HB.out.trans ((Below.refl _ wr).drew.mono (HZ.out ▸ HB.out.size))
      have HDW := Lib.hid hdw
      by_cases hlt : k < a.length
      · have i0 : (0 : Int) ≤ (k : Int) := by omega
        have i1 : (k : Int) < (a.length : Int) := by omega
        have i2 : (k : Int) < (b.length : Int) := by have := HLN.out; omega
        obtain ⟨x, hx⟩ : ∃ x, a[k]? = some x := ⟨_, List.getElem?_eq_getElem hlt⟩
        obtain ⟨y, hy⟩ : ∃ y, b[k]? = some y := ⟨_, List.getElem?_eq_getElem (by have := HLN.out; omega)⟩
        obtain ⟨g, o, rfl, ld1⟩ := clash_load (w := wr.drew) (H1.out.below (hdw.mono (HZ.out ▸ hB))) hx
        obtain ⟨g2, o2, rfl, ld2⟩ := clash_load (w := wr.drew) (H2.out.below (hdw.mono (HZ.out ▸ hB))) hy
        have HTS := Lib.hid (take_sameC HT.out hx hy)
        clear hx hy hdw
        by_cases hxy : x = y
        · have hn : decide (x ≠ y) = false := by simp [hxy]
          go_upto_region 6 with fail
          go_region
          go_wp2_with fail
          go_roundw
          case rel => exact ⟨k + 1, by go_num, hlt, Lib.hid (HTS.out.2 hxy), HDW⟩
          case measure => simp [intOf]; omega
        · have hn : decide (x ≠ y) = true := by simp [hxy]
          go_upto_region 6 with fail
          go_region
          go_wp2_with fail
          go_ret
          exact ⟨by rw [decide_eq_false (fun e => hxy (HTS.out.1 (by rw [e])))]; rfl, HDW.out⟩
      · obtain rfl : k = a.length := by omega
        have hlt' : ¬ (a.length : Int) < (a.length : Int) := by omega
        go_wp2_with fail
        go_ret
        exact ⟨by
          have h := HT.out
          rw [List.take_length, HLN.out, List.take_length] at h
          rw [decide_eq_true h]; rfl, HB.out⟩
  · have hl' : ((a.length : Int) != (b.length : Int)) = true := by simp; omega
    go_wp2_with fail
    go_ret
    exact ⟨by rw [decide_eq_false (fun e => hl (by rw [e]))]; rfl, Below.refl _ _⟩
end Go.Proofs.YteeeehfnldkjlaaGreatDoor
