/-
  Contracts of patch.line, of the search through lines for one that may not be. No statement of the seat is proved here.
-/
import Derived.Test.YtlcidbbpjlpmjaaDoorBld
import Derived.Test.YtlcidbbpjlpmjaaDoorQx
namespace Go.Proofs.YtlcidbbpjlpmjaaDoor
open Go.RowKit

set_option maxHeartbeats 1000000 in
set_option maxRecDepth 100000 in
theorem line_any (s : List UInt8) (w : World) (hs : s.length ≤ 9223372036854775807) :
    Calls Tryd.prog 72 #[strC s] w fun e w' => e = .returned (.bool (lineP s)) ∧ w' = w := by
  unfold strC
  cases s with
  | nil =>
    go_enter Tryd.func72, Tryd.ntmps72
    go_wp2_with fail
    go_ret
    exact ⟨rfl, rfl⟩
  | cons x r =>
    have h1 : (1 : Int) ≤ ((x :: r).length : Int) := by simp only [List.length_cons]; omega
    have h2 : ((x :: r).length : Int) - 1 ≤ ((x :: r).length : Int) := by omega
    have hne : (x :: r) ≠ [] := by simp
    unfold lineP
    generalize hg : x :: r = s at *
    clear hg
    go_enter Tryd.func72, Tryd.ntmps72
    go_wp2_with (go_at_call 81; refine (Tryd.strings_Contains_one _ 10 _).mono ?_)
    rintro _ _ ⟨rfl, rfl⟩
    go_wp2_with fail
    go_ret
    exact ⟨rfl, rfl⟩
set_option maxHeartbeats 1000000 in
set_option maxRecDepth 100000 in
theorem mayline_any (s : List UInt8) (w : World) (hs : s.length ≤ 9223372036854775807) :
    Calls Tryd.prog 71 #[strC s] w fun e w' => e = .returned (.bool (!lineP s)) ∧ w' = w := by
  have HQ := Lib.hid (line_any s w hs)
  unfold strC at HQ
  unfold strC
  go_enter Tryd.func71, Tryd.ntmps71
  go_wp2_with (go_at_call 72; refine HQ.out.mono ?_)
  rintro _ _ ⟨rfl, rfl⟩
  go_wp2_with fail
  go_ret
  exact ⟨rfl, rfl⟩
/-- The first place whose line may not be; -1: there is none. -/
def badAt : List (List UInt8) → Option Nat
  | [] => none
  | s :: l => if lineP s = true then (badAt l).map (· + 1) else some 0
theorem badAt_none {l : List (List UInt8)} (h : ∀ (k : Nat) (s : List UInt8), l[k]? = some s → lineP s = true) : badAt l = none := by
  induction l with
  | nil => rfl
  | cons x l ih =>
    unfold badAt
    rw [if_pos (h 0 x rfl), ih (fun k s hs => h (k + 1) s hs)]
    rfl
theorem badAt_some {l : List (List UInt8)} : ∀ {k : Nat} {s : List UInt8}, (∀ (j : Nat) (t : List UInt8), j < k → l[j]? = some t → lineP t = true) → l[k]? = some s → lineP s = false → badAt l = some k := by
  induction l with
  | nil => intro k s _ h; simp at h
  | cons x l ih =>
    intro k s h1 h2 h3
    unfold badAt
    cases k with
    | zero =>
      simp at h2
      subst h2
      simp [h3]
    | succ k =>
      rw [if_pos (h1 0 x (by omega) rfl), ih (k := k) (s := s) (fun j t hj ht => h1 (j + 1) t (by omega) ht) (by simpa using h2) h3]
      rfl
theorem badAt_all (l : List (List UInt8)) : (badAt l).isSome = !l.all lineP := by
  induction l with
  | nil => rfl
  | cons x l ih =>
    unfold badAt
    cases hx : lineP x
    · simp [hx]
    · simp [hx, ih]
def badI (l : List (List UInt8)) : Int := match badAt l with | some k => k | none => -1
set_option maxHeartbeats 1000000 in
set_option maxRecDepth 100000 in
theorem idxLines_any (l : List (List UInt8)) (A : Option Addr) (c B : Nat) (w : World) (hr : Reads w B 1 A l.length (strL l)) (hl : l.length ≤ 9223372036854775807) (hls : ∀ s ∈ l, s.length ≤ 9223372036854775807) :
    Calls Tryd.prog 80 #[.slice A l.length c, .func (.func 71) #[] #[]] w fun r w' => r = .returned (.int .i64 (badI l)) ∧ ∃ n, w' = w.drewN n := by
  go_enter Tryd.func80, Tryd.ntmps80
  go_wp2_with fail
  go_loopw [8] (fun i wr => ∃ k n : Nat, k ≤ l.length ∧ i = .int .i64 k ∧ wr = w.drewN n ∧ ∀ (j : Nat) (t : List UInt8), j < k → l[j]? = some t → lineP t = true) (fun i _ => l.length - (intOf i).toNat)
  case atStart => exact ⟨0, 0, Nat.zero_le _, rfl, rfl, fun j t h => absurd h (by omega)⟩
  case round =>
    obtain ⟨k, n, hk, rfl, rfl, hall⟩ := hrel
    have HALL := Lib.hid hall
    clear hall
    by_cases hlt : k < l.length
    · obtain ⟨x, hx⟩ : ∃ x, l[k]? = some x := ⟨_, List.getElem?_eq_getElem hlt⟩
      obtain ⟨g1, o1, rfl, _, hc1⟩ := hr.at0 (by omega) (by omega)
      have d1 := hc1 _ _ (strL_at' hx)
      have HX := Lib.hid hx
      have HQ := Lib.hid (fun W => mayline_any x W (hls x (List.mem_of_getElem? hx)))
      unfold strC at d1 HQ
      have hi0 : (0 : Int) ≤ (k : Int) := Int.natCast_nonneg _
      have hi1 : (k : Int) < (l.length : Int) := by omega
      clear hc1 hx
      cases hp : lineP x
      · have HP := Lib.hid hp
        rw [hp] at HQ
        clear hp
        go_wp2_with (go_at_call 71; refine (HQ.out _).mono ?_)
        rintro _ _ ⟨rfl, rfl⟩
        go_wp2_with fail
        go_ret
        exact ⟨by unfold badI; rw [badAt_some HALL.out HX.out HP.out]; rfl, n, rfl⟩
      · have HP := Lib.hid hp
        rw [hp] at HQ
        clear hp
        go_wp2_with (go_at_call 71; refine (HQ.out _).mono ?_)
        rintro _ _ ⟨rfl, rfl⟩
        go_wp2_with fail
        go_roundw
        case rel =>
          refine ⟨k + 1, n, by omega, by go_num, rfl, fun j t hj ht => ?_⟩
          rcases Nat.lt_or_ge j k with q | q
          · exact HALL.out j t q ht
          · obtain rfl : j = k := by omega
            rw [HX.out] at ht
            injection ht with ht
            subst ht
            exact HP.out
        case measure => simp [intOf]; omega
    · obtain rfl : k = l.length := by omega
      go_wp2_with fail
      go_ret
      refine ⟨?_, n, rfl⟩
      unfold badI
      rw [badAt_none (fun j t ht => HALL.out j t (List.getElem?_eq_some_iff.1 ht).1 ht)]
      rfl
theorem badI_ge (l : List (List UInt8)) : decide (0 ≤ badI l) = !l.all lineP := by
  rw [← badAt_all]
  unfold badI
  cases badAt l with
  | none => rfl
  | some k => simp
set_option maxHeartbeats 1000000 in
set_option maxRecDepth 100000 in
theorem contLines_any (l : List (List UInt8)) (A : Option Addr) (c B : Nat) (w : World) (hr : Reads w B 1 A l.length (strL l)) (hl : l.length ≤ 9223372036854775807) (hls : ∀ s ∈ l, s.length ≤ 9223372036854775807) :
    Calls Tryd.prog 70 #[.slice A l.length c, .func (.func 71) #[] #[]] w fun r w' => r = .returned (.bool (!l.all lineP)) ∧ ∃ n, w' = w.drewN n := by
  have HQ := Lib.hid (idxLines_any l A c B w hr hl hls)
  have HB := Lib.hid (badI_ge l)
  clear hls
  generalize badI l = bi at *
  go_enter Tryd.func70, Tryd.ntmps70
  go_wp2_with (go_at_call 80; refine HQ.out.mono ?_)
  rintro _ _ ⟨rfl, n, rfl⟩
  go_wp2_with fail
  go_ret
  exact ⟨by rw [← HB.out]; rfl, n, rfl⟩
end Go.Proofs.YtlcidbbpjlpmjaaDoor
