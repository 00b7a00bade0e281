/-
  Contracts of patch.all: whether hunks may be. No statement of the seat is proved here.
-/
import Derived.Test.YtlcidbbpjlpmjaaDoorQz
namespace Go.Proofs.YtlcidbbpjlpmjaaDoor
open Go.RowKit

theorem hkC_one (h : HkI) (EA : Option Addr) (ec : Nat) (LA : Option Addr) (lc : Nat) : ∀ v ∈ (hkC h EA ec LA lc).toList, v.oneCell' = true := by
  intro v hv
  simp only [hkC, List.mem_cons, List.not_mem_nil, or_false] at hv
  rcases hv with rfl | rfl | rfl | rfl <;> rfl
theorem load_hk_at {w : World} {g at_ : Nat} {h : HkI} {EA LA : Option Addr} {ec lc : Nat} (h0 : w.cell? ⟨g, at_, none⟩ = some (.int .i64 h.a)) (h1 : w.cell? ⟨g, at_ + 1, none⟩ = some (.int .i64 h.b)) (h2 : w.cell? ⟨g, at_ + 2, none⟩ = some (.slice EA h.eds.length ec)) (h3 : w.cell? ⟨g, at_ + 3, none⟩ = some (.slice LA h.ls.length lc)) :
    (Instr.loadAt 38 (.pointer (some ⟨g, at_, none⟩))).run Tryd.prog w = .ok (.agg (hkC h EA ec LA lc)) w := by
  refine run_loadAt_cells w _ (hkC h EA ec LA lc) Tryd.underlying38 rfl info_hunk (fun j v hj => ?_)
  rw [add_at]
  match j, hj with
  | 0, hj => simp [hkC] at hj; subst hj; exact h0
  | 1, hj => simp [hkC] at hj; subst hj; exact h1
  | 2, hj => simp [hkC] at hj; subst hj; exact h2
  | 3, hj => simp [hkC] at hj; subst hj; exact h3
  | n + 4, hj => simp [hkC] at hj
def okH (h : HkI) : Bool := (mayP h).isSome
/-- What a hunk's rows must be so that they can be read. -/
def RowsOK (w : World) (B : Nat) (h : HkI) (EA LA : Option Addr) : Prop := Reads w B 2 EA h.eds.length (edIs h.eds) ∧ Reads w B 1 LA h.ls.length (strL h.ls)
def Fits (h : HkI) : Prop := h.eds.length ≤ 9223372036854775807 ∧ h.ls.length ≤ 9223372036854775807 ∧ ∀ s ∈ h.ls, s.length ≤ 9223372036854775807
set_option maxHeartbeats 1000000 in
set_option maxRecDepth 100000 in
theorem all1_any (h : HkI) (EA LA : Option Addr) (ec lc B : Nat) (w : World) (hB : B ≤ w.heap.size) (hr : RowsOK w B h EA LA) (hs : Fits h) :
    Calls Tryd.prog 59 #[.agg (hkC h EA ec LA lc)] w fun r w' => r = .returned (.bool (!okH h)) ∧ Keep Nothing w w' := by
  have HQ := Lib.hid (show ∀ W, Keep Nothing w W → Calls Tryd.prog 60 #[.agg (hkC h EA ec LA lc)] W fun r w' => r = .returned (.bool (okH h)) ∧ Keep Nothing W w' from fun W k => may_any h EA LA ec lc B W (by have := k.size; omega) (hr.1.below (k.below hB (fun _ _ h => h))) (hr.2.below (k.below hB (fun _ _ h => h))) hs.1 hs.2.1 hs.2.2)
  clear hr hs
  generalize okH h = ok at *
  go_enter Tryd.func59, Tryd.ntmps59
  go_upto_region 1 with (refine wpList_boxed rfl rfl rfl ?_)
  have x1 : Blk (w.alloc (.cells (hkC h EA ec LA lc) 38)) w.heap.size 38 (hkC h EA ec LA lc) := Blk.new _ _ _
  have k1 : Keep Nothing w (w.alloc (.cells (hkC h EA ec LA lc) 38)) := (Keep.refl _ w).alloc _
  generalize w.heap.size = z0 at *
  generalize w.alloc (.cells (hkC h EA ec LA lc) 38) = w1 at *
  have L1 := Lib.hid (run_loadAt_blk (P := Tryd.prog) x1 0 (hkC h EA ec LA lc) Tryd.underlying38 rfl info_hunk (by simp [hkC]))
  clear x1
  go_wp2_with (first | (refine wpList_load rfl rfl rfl L1.out ?_) | (go_at_call 60; refine (HQ.out _ k1).mono ?_))
  rintro _ w2 ⟨rfl, k2⟩
  go_wp2_with fail
  go_ret
  exact ⟨rfl, k1.trans k2⟩
section
variable {α : Type}
def badOf (p : α → Bool) : List α → Option Nat
  | [] => none
  | s :: l => if p s = true then (badOf p l).map (· + 1) else some 0
theorem badOf_none {p : α → Bool} {l : List α} (h : ∀ (k : Nat) (s : α), l[k]? = some s → p s = true) : badOf p l = none := by
  induction l with
  | nil => rfl
  | cons x l ih =>
    unfold badOf
    rw [if_pos (h 0 x rfl), ih (fun k s hs => h (k + 1) s hs)]
    rfl
theorem badOf_some {p : α → Bool} {l : List α} : ∀ {k : Nat} {s : α}, (∀ (j : Nat) (t : α), j < k → l[j]? = some t → p t = true) → l[k]? = some s → p s = false → badOf p l = some k := by
  induction l with
  | nil => intro k s _ h; simp at h
  | cons x l ih =>
    intro k s h1 h2 h3
    unfold badOf
    cases k with
    | zero =>
      simp at h2
      subst h2
      simp [h3]
    | succ k =>
      rw [if_pos (h1 0 x (by omega) rfl), ih (k := k) (s := s) (fun j t hj ht => h1 (j + 1) t (by omega) ht) (by simpa using h2) h3]
      rfl
theorem badOf_all (p : α → Bool) (l : List α) : (badOf p l).isSome = !l.all p := by
  induction l with
  | nil => rfl
  | cons x l ih =>
    unfold badOf
    cases hx : p x
    · simp [hx]
    · simp [hx, ih]
end
def badHI (l : List HkI) : Int := match badOf okH l with | some k => k | none => -1
theorem badHI_ge (l : List HkI) : decide (0 ≤ badHI l) = !l.all okH := by
  rw [← badOf_all]
  unfold badHI
  cases badOf okH l with
  | none => rfl
  | some k => simp
set_option maxHeartbeats 1000000 in
set_option maxRecDepth 100000 in
theorem idxHunks_any (l : List HkI) (A : Option Addr) (c B : Nat) (w : World) (hB : B ≤ w.heap.size) (hr : HII w B A l) (hl : l.length ≤ 9223372036854775807) (hls : ∀ h ∈ l, Fits h) :
    Calls Tryd.prog 69 #[.slice A l.length c, .func (.func 59) #[] #[]] w fun r w' => r = .returned (.int .i64 (badHI l)) ∧ Keep Nothing w w' := by
  have HR := Lib.hid (show ∀ W, Keep Nothing w W → HII W B A l from fun W k => hr.below (k.below hB (fun _ _ h => h)))
  clear hr
  go_enter Tryd.func69, Tryd.ntmps69
  go_wp2_with fail
  go_loopw [8] (fun i wr => ∃ k : Nat, k ≤ l.length ∧ i = .int .i64 k ∧ Keep Nothing w wr ∧ ∀ (j : Nat) (t : HkI), j < k → l[j]? = some t → okH t = true) (fun i _ => l.length - (intOf i).toNat)
  case atStart => exact ⟨0, Nat.zero_le _, rfl, Keep.refl _ _, fun j t h => absurd h (by omega)⟩
  case round =>
    obtain ⟨k, hk, rfl, hkw, hall⟩ := hrel
    have HALL := Lib.hid hall
    clear hall
    by_cases hlt : k < l.length
    · obtain ⟨x, hx⟩ : ∃ x, l[k]? = some x := ⟨_, List.getElem?_eq_getElem hlt⟩
      obtain ⟨g1, o1, E1, e1, L1, l1, rfl, _, a0, a1, a2, a3, _, _, _, a4, a5⟩ := (HR.out _ hkw).at_ hx
      have LD := Lib.hid (load_hk_at a0 a1 a2 a3)
      have HX := Lib.hid hx
      have hsz := hkw.size
      have HQ := Lib.hid (all1_any x E1 L1 e1 l1 B wr (by omega) ⟨a4, a5⟩ (hls x (List.mem_of_getElem? hx)))
      have hi0 : (0 : Int) ≤ (k : Int) := Int.natCast_nonneg _
      have hi1 : (k : Int) < (l.length : Int) := by omega
      clear a0 a1 a2 a3 a4 a5 hx
      cases hp : okH x
      · have HP := Lib.hid hp
        rw [hp] at HQ
        clear hp
        go_wp2_with (first | (refine wpList_load rfl rfl rfl LD.out ?_) | (go_at_call 59; refine HQ.out.mono ?_))
        rintro _ w2 ⟨rfl, k2⟩
        go_wp2_with fail
        go_ret
        exact ⟨by unfold badHI; rw [badOf_some HALL.out HX.out HP.out]; rfl, hkw.trans k2⟩
      · have HP := Lib.hid hp
        rw [hp] at HQ
        clear hp
        go_wp2_with (first | (refine wpList_load rfl rfl rfl LD.out ?_) | (go_at_call 59; refine HQ.out.mono ?_))
        rintro _ w2 ⟨rfl, k2⟩
        have HK2 := Lib.hid (hkw.trans k2)
        go_wp2_with fail
        go_roundw
        case rel =>
          refine ⟨k + 1, by omega, by go_num, HK2.out, fun j t hj ht => ?_⟩
          rcases Nat.lt_or_ge j k with q | q
          · exact HALL.out j t q ht
          · obtain rfl : j = k := by omega
            rw [HX.out] at ht
            injection ht with ht
            subst ht
            exact HP.out
        case measure => simp [intOf]; omega
    · obtain rfl : k = l.length := by omega
      go_wp2_with fail
      go_ret
      refine ⟨?_, hkw⟩
      unfold badHI
      rw [badOf_none (fun j t ht => HALL.out j t (List.getElem?_eq_some_iff.1 ht).1 ht)]
      rfl
set_option maxHeartbeats 1000000 in
set_option maxRecDepth 100000 in
theorem contHunks_any (l : List HkI) (A : Option Addr) (c B : Nat) (w : World) (hB : B ≤ w.heap.size) (hr : HII w B A l) (hl : l.length ≤ 9223372036854775807) (hls : ∀ h ∈ l, Fits h) :
    Calls Tryd.prog 58 #[.slice A l.length c, .func (.func 59) #[] #[]] w fun r w' => r = .returned (.bool (!l.all okH)) ∧ Keep Nothing w w' := by
  have HQ := Lib.hid (idxHunks_any l A c B w hB hr hl hls)
  have HB := Lib.hid (badHI_ge l)
  clear hls hr
  generalize badHI l = bi at *
  go_enter Tryd.func58, Tryd.ntmps58
  go_wp2_with (go_at_call 69; refine HQ.out.mono ?_)
  rintro _ w2 ⟨rfl, k2⟩
  go_wp2_with fail
  go_ret
  exact ⟨by rw [← HB.out]; rfl, k2⟩
set_option maxHeartbeats 1000000 in
set_option maxRecDepth 100000 in
theorem all_any (l : List HkI) (A : Option Addr) (c B : Nat) (w : World) (hB : B ≤ w.heap.size) (hr : HII w B A l) (hl : l.length ≤ 9223372036854775807) (hls : ∀ h ∈ l, Fits h) :
    Calls Tryd.prog 36 #[.slice A l.length c] w fun r w' => r = .returned (.bool (l.all okH)) ∧ Keep Nothing w w' := by
  have HQ := Lib.hid (contHunks_any l A c B w hB hr hl hls)
  clear hls hr
  generalize l.all okH = ok at *
  go_enter Tryd.func36, Tryd.ntmps36
  go_wp2_with (go_at_call 58; refine HQ.out.mono ?_)
  rintro _ w2 ⟨rfl, k2⟩
  go_wp2_with fail
  go_ret
  exact ⟨by simp, k2⟩
end Go.Proofs.YtlcidbbpjlpmjaaDoor
