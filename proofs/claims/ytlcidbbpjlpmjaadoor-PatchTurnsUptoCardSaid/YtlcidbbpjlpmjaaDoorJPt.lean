/-
  PatchTurns: the walk of the law, its row, its card (second form).
  Joined of: Pj, Nd, Te, Pi, To, Rl, Nw, By, Laid, Laid5, Tf, LawPt.
-/
import Derived.Test.YtlcidbbpjlpmjaaDoorPb
import Derived.Test.YtlcidbbpjlpmjaaDoorRg
import Derived.Test.YtlcidbbpjlpmjaaDoorRm
import Derived.Test.YtlcidbbpjlpmjaaDoorQd2
import Derived.Test.YtlcidbbpjlpmjaaDoorQw
import Derived.Test.YtlcidbbpjlpmjaaDoorNg
import Derived.Lib.ItoaLen
import Derived.Test.YtlcidbbpjlpmjaaDoorRows
import Derived.ProofKit
import Derived.OpenShut
import Derived.Deep.Slices
import Derived.Test.YtlcidbbpjlpmjaaDoorOwn
import Derived.Lib.SmallJoins
import Derived.Lib.AtoiErrMem
import Derived.LaidMore
import Derived.LaidSub
import Derived.Lib.LaidTab
import Derived.Lib.ItoaNum
import Derived.Deep.DeepHandedRow
import Derived.Test.YtlcidbbpjlpmjaaDoorPd
import Derived.Stop.LaidErr
import Derived.Shelf.Vars
import Derived.Test.YtlcidbbpjlpmjaaDoorTd
import Derived.Test.YtlcidbbpjlpmjaaDoorQl
import Derived.Test.YtlcidbbpjlpmjaaDoorPg
import Derived.Test.YtlcidbbpjlpmjaaDoorQu
import Derived.Test.YtlcidbbpjlpmjaaDoorRj
import Derived.Test.YtlcidbbpjlpmjaaDoorCards
import Derived.Test.YtlcidbbpjlpmjaaDoorTie
import Derived.SevenTiedAt
import Derived.BigRegion
namespace Go.Proofs.YtlcidbbpjlpmjaaDoor
open Go.RowKit

theorem sumN_ge : ∀ {l : List EdI}, (∀ e ∈ l, 1 ≤ e.n) → l.length ≤ sumN (l.map EdI.toD)
  | [], _ => by simp
  | e :: l, h => by
    have h1 := h e (by simp)
    have h2 := sumN_ge (l := l) fun x hx => h x (List.mem_cons_of_mem _ hx)
    have e1 : sumN ((e :: l).map EdI.toD) = e.n.toNat + sumN (l.map EdI.toD) := by simp [sumN, EdI.toD]
    rw [e1, List.length_cons]
    omega
theorem okH_len {h : HkI} (ok : okH h = true) : h.eds.length ≤ h.ls.length := by
  obtain ⟨t, ht⟩ := Option.isSome_iff_exists.1 (show (mayP h).isSome = true from ok)
  unfold mayP at ht
  split at ht
  · split at ht
    · cases ht
    · rename_i c hc
      split at ht
      · rename_i hq
        simp only [Bool.and_eq_true, decide_eq_true_eq] at hq
        have h0 : cnt0.all = 0 := rfl
        obtain ⟨h1, h2⟩ := edsP_ok hc (by rw [h0]; omega)
        have := sumN_ge fun e he => (h1 e he).2.2
        omega
      · cases ht
  · cases ht
theorem hkT_pos {h : HkI} (ok : okH h = true) : 1 ≤ (hkT h).length := by
  obtain ⟨t, ht⟩ := Option.isSome_iff_exists.1 (show (mayP h).isSome = true from ok)
  unfold hkT
  rw [ht]
  simp [headT]
theorem hksT_ge : ∀ {l : List HkI}, (∀ h ∈ l, okH h = true) → l.length ≤ (hksT l).length
  | [], _ => by simp
  | h :: l, ok => by
    have h1 := hkT_pos (ok h (by simp))
    have h2 := hksT_ge (l := l) fun x hx => ok x (List.mem_cons_of_mem _ hx)
    have e : hksT (h :: l) = hkT h ++ hksT l := by simp [hksT]
    rw [e, List.length_append, List.length_cons]
    omega
theorem resQ_small {r : Option (List HkQ)} {s : List UInt8} {l : List HkI} (h : resQ r s = some l) : l.length ≤ s.length ∧ ∀ h ∈ l, okH h = true := by
  unfold resQ at h
  split at h
  · cases h
  · split at h
    · rename_i q
      injection h with h
      subst h
      have ok := List.all_eq_true.1 q.1
      refine ⟨?_, ok⟩
      have := hksT_ge ok
      rwa [q.2] at this
    · cases h
theorem HII.small {w : World} {B : Nat} {A : Option Addr} {l : List HkI} (h : HII w B A l) (ok : ∀ h ∈ l, okH h = true) : ∀ h ∈ l, h.eds.length ≤ 9223372036854775807 ∧ h.ls.length ≤ 9223372036854775807 := by
  intro x hx
  obtain ⟨k, hk⟩ := List.getElem?_of_mem hx
  have h1 := okH_len (ok x hx)
  obtain ⟨tv, t1, _, t3⟩ := h
  obtain ⟨y, hy⟩ : ∃ y, tv[k]? = some y := by
    refine ⟨_, List.getElem?_eq_getElem (l := tv) (i := k) ?_⟩
    rcases Nat.lt_or_ge k l.length with q | q
    · omega
    · rw [List.getElem?_eq_none q] at hk; cases hk
  obtain ⟨_, _, _, _, _, _, _, h4, h5, _⟩ := t3 k x y.1 y.2 hk hy
  unfold maxLen at h5
  omega
theorem HII.nil_ (w : World) (B : Nat) (A : Option Addr) : HII w B A [] := ⟨[], rfl, Reads.none_, fun _ _ _ _ h => by cases h⟩
end Go.Proofs.YtlcidbbpjlpmjaaDoor
namespace Go.Proofs.YtlcidbbpjlpmjaaDoor

/-- At most k edits, k rows of M lines; each line out of a or b. -/
def HkB (a b : List (List UInt8)) (M k : Nat) (h : HkD) : Prop := h.eds.length ≤ k ∧ h.ls.length ≤ k * M ∧ ∀ s ∈ h.ls, s ∈ a ∨ s ∈ b
theorem HkB.mono {a b : List (List UInt8)} {M k k' : Nat} {h : HkD} (x : HkB a b M k h) (hk : k ≤ k') : HkB a b M k' h :=
  ⟨Nat.le_trans x.1 hk, Nat.le_trans x.2.1 (Nat.mul_le_mul_right _ hk), x.2.2⟩
theorem HkB.put {a b : List (List UInt8)} {M k op : Nat} {h : HkD} {l : List (List UInt8)} (x : HkB a b M k h) (h1 : l.length ≤ M) (h2 : ∀ s ∈ l, s ∈ a ∨ s ∈ b) : HkB a b M (k + 1) (putH h op l) := by
  unfold putH
  split
  · exact x.mono (Nat.le_succ _)
  · obtain ⟨x1, x2, x3⟩ := x
    refine ⟨by simp; omega, by simp only [List.length_append]; rw [Nat.succ_mul]; omega, fun s hs => ?_⟩
    simp only [List.mem_append] at hs
    rcases hs with hs | hs
    · exact x3 s hs
    · exact h2 s hs
theorem HkB.putL {a b : List (List UInt8)} {M k op : Nat} {out : List HkD} {l : List (List UInt8)} (x : ∀ h ∈ out, HkB a b M k h) (h1 : l.length ≤ M) (h2 : ∀ s ∈ l, s ∈ a ∨ s ∈ b) : ∀ h ∈ putL out op l, HkB a b M (k + 1) h := by
  rcases List.eq_nil_or_concat out with rfl | ⟨r, e, rfl⟩
  · intro h hh; simp [Proofs.YtlcidbbpjlpmjaaDoor.putL] at hh
  · rw [List.concat_eq_append] at x ⊢
    rw [putL_snoc]
    intro h hh
    rw [List.mem_append, List.mem_singleton] at hh
    rcases hh with hh | rfl
    · exact (x h (by simp [hh])).mono (Nat.le_succ _)
    · exact (x e (by simp)).put h1 h2
theorem cut_in {a b : List (List UInt8)} {i n M : Nat} (h : a.length ≤ M) : ((a.drop i).take n).length ≤ M ∧ ∀ s ∈ (a.drop i).take n, s ∈ a ∨ s ∈ b :=
  ⟨by rw [List.length_take, List.length_drop]; omega, fun _ hs => .inl (List.mem_of_mem_drop (List.mem_of_mem_take hs))⟩
theorem cut_in' {a b : List (List UInt8)} {i n M : Nat} (h : b.length ≤ M) : ((b.drop i).take n).length ≤ M ∧ ∀ s ∈ (b.drop i).take n, s ∈ a ∨ s ∈ b :=
  ⟨by rw [List.length_take, List.length_drop]; omega, fun _ hs => .inr (List.mem_of_mem_drop (List.mem_of_mem_take hs))⟩
section
variable {a b : List (List UInt8)} {M : Nat} (ha : a.length ≤ M) (hb : b.length ≤ M) (ar : Nat)
theorem HkB.begin (ha : a.length ≤ M) (ar : Nat) {c : CutD} {k : Nat} (x : ∀ h ∈ c.out, HkB a b M k h) : ∀ h ∈ (beginP a ar c).out, HkB a b M (k + 1) h := by
  unfold beginP
  split
  · exact fun h hh => (x h hh).mono (Nat.le_succ _)
  · intro h hh
    simp only [List.mem_append, List.mem_singleton] at hh
    rcases hh with hh | rfl
    · exact (x h hh).mono (Nat.le_succ _)
    · have := cut_in (b := b) (i := c.i - min ar c.uns) (n := min ar c.uns) ha
      exact (HkB.put (k := 0) (h := ⟨c.i - min ar c.uns, c.j - min ar c.uns, [], []⟩) ⟨by simp, by simp, by simp⟩ this.1 this.2).mono (by omega)
include ha hb in
theorem HkB.edit {c : CutD} {e : EdD} {last : Bool} {k : Nat} (x : ∀ h ∈ c.out, HkB a b M k h) : ∀ h ∈ (editP a b ar c e last).out, HkB a b M (k + 2) h := by
  unfold editP
  split
  · split
    · have := cut_in (b := b) (i := c.i) (n := e.n) ha
      exact fun h hh => (HkB.putL x this.1 this.2 h hh).mono (by omega)
    · split
      · have := cut_in (b := b) (i := c.i) (n := min ar e.n) ha
        exact fun h hh => (HkB.putL x this.1 this.2 h hh).mono (by omega)
      · exact fun h hh => (x h hh).mono (by omega)
  · split
    · have := cut_in (b := b) (i := c.i) (n := e.n) ha
      exact HkB.putL (HkB.begin ha ar x) this.1 this.2
    · have := cut_in' (a := a) (i := c.j) (n := e.n) hb
      exact HkB.putL (HkB.begin ha ar x) this.1 this.2
include ha hb in
theorem HkB.edits : ∀ (l : List EdD) (c : CutD) (k : Nat), (∀ h ∈ c.out, HkB a b M k h) → ∀ h ∈ (editsP a b ar c l).out, HkB a b M (k + 2 * l.length) h
  | [], _, _, x => x
  | e :: l, c, k, x => by
    rw [editsP]
    intro h hh
    exact (HkB.edits l _ _ (HkB.edit ha hb ar x) h hh).mono (by simp; omega)
include ha hb in
theorem hunksP_small : ∀ h ∈ hunksP a b ar, HkB a b M (4 * M) h := by
  intro h hh
  have := HkB.edits ha hb ar (diffP a b) ⟨0, 0, [], false, 0⟩ 0 (by simp) h hh
  have hd := (diffP_of a b).2.2.2
  exact this.mono (by omega)
theorem editsP_len : ∀ (l : List EdD) (c : CutD), (editsP a b ar c l).out.length ≤ c.out.length + l.length
  | [], _ => by simp [editsP]
  | e :: l, c => by
    rw [editsP]
    have ih := editsP_len l (editP a b ar c e l.isEmpty)
    have hp : ∀ (o : List HkD) op x, (Proofs.YtlcidbbpjlpmjaaDoor.putL o op x).length = o.length := fun o op x => by
      rcases List.eq_nil_or_concat o with rfl | ⟨r, e, rfl⟩
      · rfl
      · rw [List.concat_eq_append, putL_snoc]; simp
    have hbg : (beginP a ar c).out.length ≤ c.out.length + 1 := by
      unfold beginP
      split
      · omega
      · simp
    have : (editP a b ar c e l.isEmpty).out.length ≤ c.out.length + 1 := by
      unfold editP
      split
      · split
        · simp only [hp]; omega
        · split
          · simp only [hp]; omega
          · simp
      · split
        · simp only [hp]; omega
        · simp only [hp]; omega
    rw [List.length_cons]
    omega
include ha hb in
theorem hunksP_len : (hunksP a b ar).length ≤ 2 * M := by
  have := editsP_len (a := a) (b := b) ar (diffP a b) ⟨0, 0, [], false, 0⟩
  have hd := (diffP_of a b).2.2.2
  unfold hunksP
  simp only [List.length_nil] at this
  omega
end
end Go.Proofs.YtlcidbbpjlpmjaaDoor
namespace Go.Proofs.YtlcidbbpjlpmjaaDoor
open Go.RowKit

def sum20 (l : List (List UInt8)) : Nat := (l.map fun s => s.length / 20).sum
def fewN (l : List (List UInt8)) : Nat := l.length + sum20 (l.take 200)
theorem sum20_next {l : List (List UInt8)} {k : Nat} {s : List UInt8} (h : l[k]? = some s) : sum20 (l.take (k + 1)) = sum20 (l.take k) + s.length / 20 := by
  obtain ⟨hlt, he⟩ := List.getElem?_eq_some_iff.1 h
  rw [List.take_succ_eq_append_getElem hlt, he]
  simp [sum20]
theorem sum20_le {l : List (List UInt8)} {M : Nat} (h : ∀ s ∈ l, s.length ≤ M) : sum20 l ≤ l.length * M := by
  induction l with
  | nil => simp [sum20]
  | cons x l ih =>
    have h1 := ih (fun s hs => h s (List.mem_cons_of_mem _ hs))
    have h2 := h x List.mem_cons_self
    have h3 := Nat.div_le_self x.length 20
    simp only [sum20, List.map_cons, List.sum_cons, List.length_cons, Nat.add_mul, Nat.one_mul] at h1 ⊢
    omega
theorem fewN_len {l : List (List UInt8)} (h : fewN l < 120) : l.length < 120 := by unfold fewN at h; omega
set_option maxHeartbeats 1000000 in
set_option maxRecDepth 100000 in
theorem few_any (l : List (List UInt8)) (A : Option Addr) (c B : Nat) (w : World) (hr : Reads w B 1 A l.length (strL l)) (hl : l.length ≤ 1048576) (hls : ∀ s ∈ l, s.length ≤ 1048576) :
    Calls Tryd.prog 12 #[.slice A l.length c] w fun r w' => r = .returned (.bool (decide (fewN l < 120))) ∧ ∃ n, w' = w.drewN n := by
  go_enter Tryd.func12, Tryd.ntmps12
  go_wp2_with fail
  go_loopw [3, 4] (fun s3 s4 wr => ∃ k n : Nat, k ≤ l.length ∧ k ≤ 200 ∧ s3 = .int .i64 (l.length + sum20 (l.take k) : Nat) ∧ s4 = .int .i64 (k : Nat) ∧ wr = w.drewN n) (fun _ s4 _ => l.length - (intOf s4).toNat)
  case atStart => exact ⟨0, 0, Nat.zero_le _, Nat.zero_le _, by simp [sum20], rfl, rfl⟩
  case round =>
    obtain ⟨k, n, hk, hk2, rfl, rfl, rfl⟩ := hrel
    have hs := sum20_le (l := l.take k) (M := 1048576) (fun s hs => hls s (List.mem_of_mem_take hs))
    have hs2 : (l.take k).length ≤ 200 := by rw [List.length_take]; omega
    have hs3 : sum20 (l.take k) ≤ 209715200 := by
      have := Nat.mul_le_mul_right 1048576 hs2
      omega
    clear hs hs2
    by_cases hlt : k < l.length
    · have hi1 : (k : Int) < (l.length : Int) := by omega
      by_cases h2 : k < 200
      · obtain ⟨x, hx⟩ : ∃ x, l[k]? = some x := ⟨_, List.getElem?_eq_getElem hlt⟩
        obtain ⟨g1, o1, rfl, _, hc1⟩ := hr.at0 (by omega) (by omega)
        have d1 := hc1 _ _ (strL_at' hx)
        unfold strC at d1
        have hxl := hls x (List.mem_of_getElem? hx)
        have HN := Lib.hid (sum20_next hx)
        have hi0 : (0 : Int) ≤ (k : Int) := Int.natCast_nonneg _
        have hi2 : (k : Int) < 200 := by omega
        clear hc1 hx
        generalize sum20 (l.take k) = S at *
        go_upto_region 4 with fail
        go_wp2_with fail
        go_roundw
        case rel => exact ⟨k + 1, n, by omega, by omega, by rw [HN.out]; go_num, by go_num, rfl⟩
        case measure => simp [intOf]; omega
      · obtain rfl : k = 200 := by omega
        have HF := Lib.hid (show fewN l = l.length + sum20 (l.take 200) from rfl)
        generalize sum20 (l.take 200) = S at *
        go_wp2_with fail
        go_ret
        exact ⟨by rw [HF.out, show decide (l.length + S < 120) = decide ((l.length : Int) + (S : Int) < 120) from decide_eq_decide.2 (by omega)]; rfl, n, rfl⟩
    · obtain rfl : k = l.length := by omega
      have HF := Lib.hid (show fewN l = l.length + sum20 (l.take l.length) from by unfold fewN; rw [List.take_of_length_le (by omega), List.take_length])
      generalize sum20 (l.take l.length) = S at *
      go_wp2_with fail
      go_ret
      exact ⟨by rw [HF.out, show decide (l.length + S < 120) = decide ((l.length : Int) + (S : Int) < 120) from decide_eq_decide.2 (by omega)]; rfl, n, rfl⟩
end Go.Proofs.YtlcidbbpjlpmjaaDoor
namespace Go.Proofs.YtlcidbbpjlpmjaaDoor

def wl (l : List (List UInt8)) : Nat := (l.map fun s => s.length + 4).sum
def wh (out : List HkD) : Nat := (out.map fun h => wl h.ls).sum
theorem wl_app (l m : List (List UInt8)) : wl (l ++ m) = wl l + wl m := by simp [wl]
theorem wh_app (l m : List HkD) : wh (l ++ m) = wh l + wh m := by simp [wh]
theorem wl_split (l : List (List UInt8)) (n : Nat) : wl (l.take n) + wl (l.drop n) = wl l := by rw [← wl_app, List.take_append_drop]
theorem wl_next (a : List (List UInt8)) (i n : Nat) : wl (a.take (i + n)) = wl (a.take i) + wl ((a.drop i).take n) := by rw [List.take_add, wl_app]
theorem wh_one (h : HkD) : wh [h] = wl h.ls := by simp [wh]
theorem wl_put (h : HkD) (op : Nat) (l : List (List UInt8)) : wl (putH h op l).ls = wl h.ls + wl l := by
  unfold putH
  split
  next q => rw [q]; simp [wl]
  next q => rw [wl_app]
theorem wh_putL (out : List HkD) (op : Nat) (l : List (List UInt8)) : wh (putL out op l) ≤ wh out + wl l := by
  rcases List.eq_nil_or_concat out with rfl | ⟨r, h, rfl⟩
  · simp [putL, wh]
  · rw [List.concat_eq_append, putL_snoc, wh_app, wh_app, wh_one, wh_one, wl_put]
    omega
theorem wl_take (l : List (List UInt8)) (n : Nat) : wl (l.take n) ≤ wl l := by have := wl_split l n; omega
theorem wl_drop (l : List (List UInt8)) (n : Nat) : wl (l.drop n) ≤ wl l := by have := wl_split l n; omega
section
variable (a b : List (List UInt8)) (ar : Nat)
def phi (c : RefD) : Nat := 2 * (wl (a.take c.i) + wl (b.take c.j))
theorem wh_step (c : RefD) (e : EdD) (more : Bool) (h : wh c.out ≤ phi a b c) : wh (refP a b ar c e more).out ≤ phi a b (refP a b ar c e more) := by
  unfold phi at h ⊢
  unfold refP
  have ha := wl_next a c.i e.n
  have hb := wl_next b c.j e.n
  split
  · split
    · have := wh_putL c.out 0 ((a.drop c.i).take e.n)
      simp only
      omega
    · have h1 : wh (if c.opn = true then putL c.out 0 ((a.drop c.i).take (min ar e.n)) else c.out) ≤ wh c.out + wl ((a.drop c.i).take e.n) := by
        split
        · have h2 := wh_putL c.out 0 ((a.drop c.i).take (min ar e.n))
          have h3 : (a.drop c.i).take (min ar e.n) = ((a.drop c.i).take e.n).take (min ar e.n) := by rw [List.take_take, Nat.min_eq_left (Nat.min_le_right _ _)]
          have h4 := wl_take ((a.drop c.i).take e.n) (min ar e.n)
          rw [← h3] at h4
          omega
        · omega
      have h5 : wh (if more = true then [putH ⟨c.i + e.n - min ar e.n, c.j + e.n - min ar e.n, [], []⟩ 0 ((a.drop (c.i + e.n - min ar e.n)).take (min ar e.n))] else []) ≤ wl ((a.drop c.i).take e.n) := by
        split
        · rw [wh_one, wl_put]
          have h3 : (a.drop (c.i + e.n - min ar e.n)).take (min ar e.n) = ((a.drop c.i).take e.n).drop (e.n - min ar e.n) := by
            rw [List.drop_take, List.drop_drop]
            congr 1
            · omega
            · congr 1; omega
          rw [h3]
          have := wl_drop ((a.drop c.i).take e.n) (e.n - min ar e.n)
          simp [wl] at this ⊢
          omega
        · simp [wh]
      simp only [wh_app]
      omega
  · split
    · have h1 := wh_putL (if c.opn = true then c.out else c.out ++ [⟨c.i, c.j, [], []⟩]) 1 ((a.drop c.i).take e.n)
      have h2 : wh (if c.opn = true then c.out else c.out ++ [⟨c.i, c.j, [], []⟩]) = wh c.out := by
        split
        · rfl
        · rw [wh_app]; simp [wh, wl]
      simp only
      omega
    · have h1 := wh_putL (if c.opn = true then c.out else c.out ++ [⟨c.i, c.j, [], []⟩]) 2 ((b.drop c.j).take e.n)
      have h2 : wh (if c.opn = true then c.out else c.out ++ [⟨c.i, c.j, [], []⟩]) = wh c.out := by
        split
        · rfl
        · rw [wh_app]; simp [wh, wl]
      simp only
      omega
theorem wh_all : ∀ (l : List EdD) (c : RefD), wh c.out ≤ phi a b c → wh (refsP a b ar c l).out ≤ phi a b (refsP a b ar c l)
  | [], _, h => h
  | e :: l, c, h => by
    rw [refsP]
    exact wh_all l _ (wh_step a b ar c e _ h)
theorem wh_hunks : wh (hunksP a b ar) ≤ 2 * (wl a + wl b) := by
  rw [hunks_ref]
  have := wh_all a b ar (diffP a b) ⟨0, 0, [], false⟩ (by simp [wh])
  have h1 := wl_take a (refsP a b ar ⟨0, 0, [], false⟩ (diffP a b)).i
  have h2 := wl_take b (refsP a b ar ⟨0, 0, [], false⟩ (diffP a b)).j
  unfold phi at this
  omega
end
theorem linesT_wl {op : Int} : ∀ l : List (List UInt8), (linesT op l).length ≤ wl l
  | [] => by simp [linesT]
  | s :: l => by
    have ih := linesT_wl (op := op) l
    have e : linesT op (s :: l) = lineT op s ++ linesT op l := by simp [linesT]
    have e2 : wl (s :: l) = s.length + 4 + wl l := by simp [wl]
    have e3 : (tailT s).length ≤ 3 := by unfold tailT; split <;> simp [lacks]
    rw [e, e2, List.length_append]
    simp only [lineT, List.length_cons, List.length_append]
    omega
theorem bodyT_wl : ∀ (eds : List EdI) (ls : List (List UInt8)), (bodyT eds ls).length ≤ wl ls
  | [], ls => by simp [bodyT]
  | e :: es, ls => by
    have h1 := linesT_wl (op := e.op) (ls.take e.n.toNat)
    have h2 := bodyT_wl es (ls.drop e.n.toNat)
    have h3 := wl_split ls e.n.toNat
    rw [bodyT, List.length_append]
    omega
theorem hkT_wl {h : HkI} (h2 : h.ls.length ≤ 1000000000) : (hkT h).length ≤ 200 + wl h.ls := by
  unfold hkT
  cases hm : mayP h with
  | none => simp
  | some c =>
    simp only
    obtain ⟨hE, hall, _, hpl, _⟩ := mayP_eds hm
    have p := places_le hpl
    have hb := bodyT_wl h.eds h.ls
    unfold Cnt.all at hall
    have i1 := Lib.itoa_length_le h.a (by omega) (by omega)
    have i2 := Lib.itoa_length_le h.b (by omega) (by omega)
    have i3 := Lib.itoa_length_le ((c.k + c.d : Nat) : Int) (by omega) (by omega)
    have i4 := Lib.itoa_length_le ((c.k + c.n : Nat) : Int) (by omega) (by omega)
    unfold headT
    simp only [List.length_append, List.length_cons, List.length_nil]
    omega
theorem hksT_wh : ∀ (hs : List HkD), (∀ h ∈ hs, h.ls.length ≤ 1000000000) → (hksT (hs.map HkD.toI)).length ≤ 200 * hs.length + wh hs
  | [], _ => by simp [hksT]
  | h :: hs, hb => by
    have ih := hksT_wh hs (fun x hx => hb x (by simp [hx]))
    have h1 := hkT_wl (h := h.toI) (hb h (by simp))
    have e : hksT ((h :: hs).map HkD.toI) = hkT h.toI ++ hksT (hs.map HkD.toI) := by simp [hksT]
    have e2 : wh (h :: hs) = wl h.ls + wh hs := by simp [wh]
    have e3 : wl h.toI.ls = wl h.ls := rfl
    rw [e, e2, List.length_append, List.length_cons]
    omega
theorem wl_sum20 : ∀ l : List (List UInt8), wl l ≤ 20 * sum20 l + 23 * l.length
  | [] => by simp [wl]
  | s :: l => by
    have ih := wl_sum20 l
    have e : wl (s :: l) = s.length + 4 + wl l := by simp [wl]
    have e2 : sum20 (s :: l) = s.length / 20 + sum20 l := by simp [sum20]
    rw [e, e2, List.length_cons]
    omega
theorem wl_good : ∀ l : List (List UInt8), wl (goodP l) ≤ wl l + l.length
  | [] => by simp [goodP, wl]
  | s :: l => by
    have ih := wl_good l
    have h1 := goodLine_len l.isEmpty s
    have e : wl (s :: l) = s.length + 4 + wl l := by simp [wl]
    have e2 : wl (goodP (s :: l)) = (goodLine l.isEmpty s).length + 4 + wl (goodP l) := by simp [goodP, wl]
    rw [e, e2, List.length_cons]
    omega
theorem wl_few {l : List (List UInt8)} (h : fewN l < 120) : wl (goodP l) ≤ 5300 := by
  have h1 := wl_good l
  have h2 := wl_sum20 l
  have h3 := fewN_len h
  unfold fewN at h
  rw [List.take_of_length_le (by omega)] at h
  omega
theorem text_small {a b : List (List UInt8)} (ar : Nat) (ha : fewN a < 120) (hb : fewN b < 120) : (hksT ((hunksP (goodP a) (goodP b) ar).map HkD.toI)).length ≤ 90000 := by
  have h1 := wl_few ha
  have h2 := wl_few hb
  have h3 := wh_hunks (goodP a) (goodP b) ar
  have l1 := fewN_len ha
  have l2 := fewN_len hb
  have g1 := goodP_len a
  have g2 := goodP_len b
  have h4 := hunksP_len (a := goodP a) (b := goodP b) (M := 120) (by omega) (by omega) ar
  have h5 := hksT_wh (hunksP (goodP a) (goodP b) ar) (fun h hh => by have := (hunksP_small (M := 120) (by omega) (by omega) ar h hh).2.1; omega)
  omega
end Go.Proofs.YtlcidbbpjlpmjaaDoor
namespace Go.Proofs.YtlcidbbpjlpmjaaDoor
open Go.ChangeShapes Go.WideShapes Go.ChangeAt Go.RowKit Go.Deep

/-! ### Bulk -/
section
variable {H : Type}
theorem bulk_pos (d : DataW H) : 1 ≤ Rows.uptoBulk d := by
  cases d with
  | lit l => cases l <;> simp [Rows.uptoBulk]
  | nil => simp [Rows.uptoBulk]
  | ptr d => simp [Rows.uptoBulk]
  | slice elems spare => simp [Rows.uptoBulk]
  | agg parts => simp [Rows.uptoBulk]
  | iface t d => simp [Rows.uptoBulk]
  | map entries => simp [Rows.uptoBulk]
  | held h => simp [Rows.uptoBulk]
theorem bulk_part {d : DataW H} : ∀ {l : List (DataW H)}, d ∈ l → Rows.uptoBulk d ≤ Rows.uptoBulkAll l
  | [], h => by cases h
  | x :: r, h => by
    simp only [Rows.uptoBulkAll]
    rcases List.mem_cons.1 h with e | e
    · subst e; omega
    · have := bulk_part e; omega
theorem bulk_len : ∀ l : List (DataW H), l.length ≤ Rows.uptoBulkAll l
  | [] => by simp [Rows.uptoBulkAll]
  | x :: r => by have := bulk_pos x; have := bulk_len r; simp only [Rows.uptoBulkAll, List.length_cons]; omega
theorem bulk_bound {l : List (DataW H)} (hk : Rows.uptoSmall H l = true) : Rows.uptoBulkAll l ≤ 1048576 := of_decide_eq_true hk
theorem bulk_agg {xs : List (DataW H × List MemPlace)} {N i : Nat} {y : DataW H × List MemPlace} (h : Rows.uptoBulk (.agg (xs.map (·.1))) ≤ N) (hi : xs[i]? = some y) : Rows.uptoBulk y.1 ≤ N := by
  have : Rows.uptoBulk y.1 ≤ Rows.uptoBulkAll (xs.map (·.1)) := bulk_part (List.mem_map.2 ⟨y, List.mem_of_getElem? hi, rfl⟩)
  simp only [Rows.uptoBulk] at h
  omega
end

/-! ### A slice, its elements' bounds at hand -/
theorem open_listB {H : Type} {enc : TypeId × Value → H} {w : World} {base : Nat} {spare : Nat → Bool} {held : Bool} {α : Type} {f : α → List Value} {C N : Nat} {V : α → Prop} {t e : TypeId} {A : Option Addr} {len cap : Nat} {fuel : Nat} {x : DataW H × List MemPlace} (ht : Tryd.prog.underlying t = some (.slice e)) (hC : Tryd.prog.cellsOf e = C) (hpos : 0 < C) (hf : ∀ a, (f a).length = C)
    (hopen : ∀ (n : Nat) (cs : List Value) (y : DataW H × List MemPlace), DataW.trod enc Tryd.prog w base spare held n e cs = some y → Rows.uptoBulk y.1 ≤ N → ∃ a, cs = f a ∧ V a)
    (h : DataW.trod enc Tryd.prog w base spare held fuel t [.slice A len cap] = some x) (hb : Rows.uptoBulk x.1 ≤ N) : ∃ l : List α, l.length = len ∧ Reads w w.heap.size C A len (l.flatMap f) ∧ len ≤ cap ∧ cap ≤ maxLen ∧ len ≤ N ∧ ∀ a ∈ l, V a := by
  rcases open_slice ht h with ⟨hcs, hx⟩ | ⟨a, len', cap', m, n, D, Pl, hcs, _, hl, hm, hmm, hxx, hi⟩
  · simp at hcs
    obtain ⟨rfl, rfl, rfl⟩ := hcs
    exact ⟨[], rfl, Reads.none_, Nat.le_refl _, Nat.zero_le _, Nat.zero_le _, by simp⟩
  · simp at hcs
    obtain ⟨rfl, rfl, rfl⟩ := hcs
    rw [hC] at hi
    have hlm : len ≤ m := by rw [hmm]; split <;> omega
    have hbA : Rows.uptoBulkAll ((List.range len).map D) ≤ N := by
      rw [hxx] at hb
      simp only [Rows.uptoBulk] at hb
      omega
    have hlN : len ≤ N := by have := bulk_len ((List.range len).map D); simp at this; omega
    have hbD : ∀ i, i < len → Rows.uptoBulk (D i) ≤ N := fun i hi => Nat.le_trans (bulk_part (List.mem_map.2 ⟨i, List.mem_range.2 hi, rfl⟩)) hbA
    have key : ∀ k, k ≤ len → ∃ l : List α, l.length = k ∧ (∀ i b, l[i]? = some b → V b ∧ ∀ r u, (f b)[r]? = some u → w.cell? (a.add (i * C + r)) = some u) := by
      intro k
      induction k with
      | zero => exact fun _ => ⟨[], rfl, by simp⟩
      | succ k ih =>
        intro hk
        obtain ⟨l, hlen, hall⟩ := ih (by omega)
        obtain ⟨cs', hcells, htr⟩ := hi k (by omega)
        obtain ⟨b, rfl, hV⟩ := hopen n cs' _ htr (hbD k (by omega))
        obtain ⟨_, _, hat⟩ := World.cells?_some hcells
        refine ⟨l ++ [b], by simp [hlen], fun i b' hb' => ?_⟩
        rcases Nat.lt_or_ge i l.length with hlt | hge
        · rw [List.getElem?_append_left hlt] at hb'
          exact hall i b' hb'
        · rw [List.getElem?_append_right hge] at hb'
          have h0 : i - l.length = 0 := by
            rcases Nat.eq_zero_or_pos (i - l.length) with q | q
            · exact q
            · rw [List.getElem?_eq_none (by simp; omega)] at hb'; cases hb'
          rw [h0] at hb'
          simp at hb'
          subst hb'
          refine ⟨hV, fun r u hr => ?_⟩
          have hik : i = k := by omega
          subst hik
          have hrC : r < C := by
            rcases Nat.lt_or_ge r C with q | q
            · exact q
            · rw [List.getElem?_eq_none (by rw [hf]; exact q)] at hr; cases hr
          rw [← add_of_add, hat r hrC]
          exact hr
    obtain ⟨l, hlen, hall⟩ := key len (Nat.le_refl _)
    refine ⟨l, hlen, ⟨by rw [flatn_len hf, hlen], fun hn => ?_⟩, hl, hm, hlN, fun b hb => ?_⟩
    · have hcell : ∀ j u, (l.flatMap f)[j]? = some u → w.cell? (a.add j) = some u := by
        intro j u hj
        have hjl : j < l.length * C := by rw [← flatn_len hf]; exact (List.getElem?_eq_some_iff.1 hj).1
        have hd : j / C < l.length := Nat.div_lt_of_lt_mul (by rw [Nat.mul_comm]; exact hjl)
        have hfa := flatn_at hf l (j / C) (j % C) l[j / C] (List.getElem?_eq_getElem hd) ((f l[j / C])[j % C]'(by rw [hf]; exact Nat.mod_lt _ hpos)) (List.getElem?_eq_getElem _)
        rw [Nat.mul_comm, Nat.div_add_mod] at hfa
        have hu := hj.symm.trans hfa
        have := (hall _ _ (List.getElem?_eq_getElem hd)).2 (j % C) u (by rw [hu]; exact List.getElem?_eq_getElem _)
        rwa [Nat.mul_comm, Nat.div_add_mod] at this
      refine ⟨a, rfl, ?_, hcell⟩
      have h0 : 0 < (l.flatMap f).length := by rw [flatn_len hf, hlen]; exact Nat.mul_pos hn hpos
      have := World.block_lt_of_cell? w _ (hcell 0 _ (List.getElem?_eq_getElem h0))
      rwa [block_of_add] at this
    · obtain ⟨i, hi', rfl⟩ := List.mem_iff_getElem.1 hb
      exact (hall i _ (List.getElem?_eq_getElem hi')).1


section
variable {H : Type} {enc : TypeId × Value → H} {w : World} {base : Nat} {spare : Nat → Bool} {held : Bool}
theorem cells_str : Tryd.prog.cellsOf 9 = 1 := by kernel_rfl
theorem open_str {N n : Nat} {cs : List Value} {y : DataW H × List MemPlace} (h : DataW.trod enc Tryd.prog w base spare held n 9 cs = some y) (hb : Rows.uptoBulk y.1 ≤ N) : ∃ s : List UInt8, cs = [strC s] ∧ s.length ≤ N := by
  obtain ⟨a, f0, x0, _⟩ := DataW.trod_string Tryd.underlying9 h
  rw [x0] at hb
  refine ⟨a.data.toList, by rw [f0]; rfl, ?_⟩
  simp only [Rows.uptoBulk] at hb
  omega
theorem flat_strL (l : List (List UInt8)) : l.flatMap (fun s => [strC s]) = strL l := by
  unfold strL
  induction l with
  | nil => rfl
  | cons x l ih =>
    rw [List.flatMap_cons, ih]
    rfl
theorem opened_strs {N : Nat} {A : Option Addr} {len cap : Nat} {d : DataW H} {p : List MemPlace} (h : DataW.Trod enc Tryd.prog w base spare held 22 (.slice A len cap) d p) (hb : Rows.uptoBulk d ≤ N) :
    ∃ l : List (List UInt8), l.length = len ∧ Reads w w.heap.size 1 A l.length (strL l) ∧ l.length ≤ cap ∧ cap ≤ maxLen ∧ l.length ≤ N ∧ ∀ s ∈ l, s.length ≤ N := by
  obtain ⟨fuel, hf⟩ := h
  obtain ⟨l, h1, h2, h3, h4, h5, h6⟩ := open_listB (N := N) (f := fun s : List UInt8 => [strC s]) (V := fun s => s.length ≤ N) Tryd.underlying22 cells_str (by decide) (fun _ => rfl) (fun _ _ _ h hb => open_str h hb) (by simpa [Value.cells] using hf) hb
  subst h1
  rw [flat_strL] at h2
  exact ⟨l, rfl, h2, h3, h4, h5, h6⟩
end
end Go.Proofs.YtlcidbbpjlpmjaaDoor
namespace Go.Proofs.YtlcidbbpjlpmjaaDoor
open Go.ChangeShapes Go.WideShapes Go.ChangeAt Go.RowKit Go.Deep

theorem slice_is {H : Type} {enc : TypeId × Value → H} {w : World} {base : Nat} {spare : Nat → Bool} {held : Bool} {t e : TypeId} {fuel : Nat} {v : Value} {x : DataW H × List MemPlace} (ht : Tryd.prog.underlying t = some (.slice e)) (h : DataW.trod enc Tryd.prog w base spare held fuel t [v] = some x) : ∃ A len cap, v = .slice A len cap := by
  rcases open_slice ht h with ⟨hcs, _⟩ | ⟨a, len, cap, m, n, D, Pl, hcs, _⟩
  · simp at hcs; exact ⟨_, _, _, hcs⟩
  · simp at hcs; exact ⟨_, _, _, hcs⟩
section
variable {H : Type} {enc : TypeId × Value → H} {w : World} {base : Nat} {spare : Nat → Bool} {held : Bool}
theorem cells_int : Tryd.prog.cellsOf 3 = 1 := by kernel_rfl
theorem cells_edit : Tryd.prog.cellsOf 67 = 2 := by kernel_rfl
theorem cells_hunk : Tryd.prog.cellsOf 38 = 4 := by kernel_rfl
theorem cells_edits : Tryd.prog.cellsOf 36 = 1 := by kernel_rfl
theorem cells_strs : Tryd.prog.cellsOf 22 = 1 := by kernel_rfl
theorem one_at {cs : List Value} {i n : Nat} (hl : cs.length = n) (hi : i < n) : ∃ v, (cs.drop i).take 1 = [v] ∧ cs[i]? = some v := by
  have hlt : i < cs.length := by omega
  refine ⟨cs[i], ?_, List.getElem?_eq_getElem hlt⟩
  rw [List.drop_eq_getElem_cons hlt]
  rfl
theorem cut_at {cs : List Value} {i k : Nat} {l : List Value} (h : (cs.drop i).take k = l) : cs.drop i = l ++ cs.drop (i + k) := by
  rw [← h, ← List.drop_drop, List.take_append_drop]
set_option maxRecDepth 100000 in
theorem open_edit {n : Nat} {cs : List Value} {y : DataW H × List MemPlace} (h : DataW.trod enc Tryd.prog w base spare held n 67 cs = some y) : ∃ x : EdI, cs = edI x := by
  obtain ⟨xs, m, _, _, hlen, hxl, hx⟩ := DataW.trod_struct Tryd.underlying67 h
  rw [cells_edit] at hlen
  have h0 := hx 0 _ rfl
  have h1 := hx 1 _ rfl
  have hxl' : xs.length = 2 := hxl
  rw [List.getElem?_eq_getElem (by omega)] at h0 h1
  have h0 : DataW.trod enc Tryd.prog w base spare held m 3 ((cs.drop 0).take (Tryd.prog.cellsOf 3)) = _ := h0
  have h1 : DataW.trod enc Tryd.prog w base spare held m 3 ((cs.drop 1).take (Tryd.prog.cellsOf 3)) = _ := h1
  rw [cells_int] at h0 h1
  obtain ⟨v, e0, e0'⟩ := one_at (i := 0) hlen (by omega)
  obtain ⟨u, e1, e1'⟩ := one_at (i := 1) hlen (by omega)
  rw [e0] at h0
  rw [e1] at h1
  obtain ⟨a, e2, _, hw⟩ := DataW.trod_int Tryd.underlying3 h0
  obtain ⟨b, e3, _, hw2⟩ := DataW.trod_int Tryd.underlying3 h1
  simp only [List.cons.injEq, and_true] at e2 e3
  subst e2 e3
  refine ⟨⟨a, b⟩, ?_⟩
  have d1 := cut_at e0
  have d2 := cut_at e1
  rw [List.drop_of_length_le (show cs.length ≤ 1 + 1 by omega), List.append_nil] at d2
  have : cs = cs.drop 0 := rfl
  rw [this, d1, d2]
  rfl
/-- A hunk's bounds. -/
structure HkSmall (N : Nat) (h : HkI) : Prop where
  n1 : h.eds.length ≤ N
  n2 : h.ls.length ≤ N
  n3 : ∀ s ∈ h.ls, s.length ≤ N
set_option maxRecDepth 100000 in
theorem open_hunk {N n : Nat} {cs : List Value} {y : DataW H × List MemPlace} (h : DataW.trod enc Tryd.prog w base spare held n 38 cs = some y) (hb : Rows.uptoBulk y.1 ≤ N) : ∃ x : HkI × Value × Value, cs = hkI x.1 x.2.1 x.2.2 ∧ RowsI w w.heap.size x.1 x.2.1 x.2.2 ∧ HkSmall N x.1 := by
  obtain ⟨xs, m, _, hy, hlen, hxl, hx⟩ := DataW.trod_struct Tryd.underlying38 h
  rw [hy] at hb
  rw [cells_hunk] at hlen
  have h0 := hx 0 _ rfl
  have h1 := hx 1 _ rfl
  have h2 := hx 2 _ rfl
  have h3 := hx 3 _ rfl
  have hxl' : xs.length = 4 := hxl
  have g2 := bulk_agg (i := 2) hb (List.getElem?_eq_getElem (by omega))
  have g3 := bulk_agg (i := 3) hb (List.getElem?_eq_getElem (by omega))
  rw [List.getElem?_eq_getElem (by omega)] at h0 h1 h2 h3
  have h0 : DataW.trod enc Tryd.prog w base spare held m 3 ((cs.drop 0).take (Tryd.prog.cellsOf 3)) = _ := h0
  have h1 : DataW.trod enc Tryd.prog w base spare held m 3 ((cs.drop 1).take (Tryd.prog.cellsOf 3)) = _ := h1
  have h2 : DataW.trod enc Tryd.prog w base spare held m 36 ((cs.drop 2).take (Tryd.prog.cellsOf 36)) = _ := h2
  have h3 : DataW.trod enc Tryd.prog w base spare held m 22 ((cs.drop 3).take (Tryd.prog.cellsOf 22)) = _ := h3
  rw [cells_int] at h0 h1
  rw [cells_edits] at h2
  rw [cells_strs] at h3
  obtain ⟨v0, e0, _⟩ := one_at (i := 0) hlen (by omega)
  obtain ⟨v1, e1, _⟩ := one_at (i := 1) hlen (by omega)
  obtain ⟨v2, e2, _⟩ := one_at (i := 2) hlen (by omega)
  obtain ⟨v3, e3, _⟩ := one_at (i := 3) hlen (by omega)
  rw [e0] at h0
  rw [e1] at h1
  rw [e2] at h2
  rw [e3] at h3
  obtain ⟨a, f0, _, hw⟩ := DataW.trod_int Tryd.underlying3 h0
  obtain ⟨b, f1, _, hw2⟩ := DataW.trod_int Tryd.underlying3 h1
  obtain ⟨EA, el, ec, rfl⟩ := slice_is Tryd.underlying36 h2
  obtain ⟨LA, ll, lc, rfl⟩ := slice_is Tryd.underlying22 h3
  obtain ⟨es, rfl, hre, hce, hme, hNe, _⟩ := open_listB (N := N) (f := edI) (V := fun _ => True) Tryd.underlying36 cells_edit (by decide) edI_len (fun _ _ _ h _ => by obtain ⟨x, hx⟩ := open_edit h; exact ⟨x, hx, trivial⟩) h2 g2
  obtain ⟨ls, hl1, hrl, hcl, hml, hNl, hVl⟩ := open_listB (N := N) (f := fun s : List UInt8 => [strC s]) (V := fun s => s.length ≤ N) Tryd.underlying22 cells_str (by decide) (fun _ => rfl) (fun _ _ _ h hb => open_str h hb) h3 g3
  subst hl1
  rw [flat_strL] at hrl
  simp only [List.cons.injEq, and_true] at f0 f1
  subst f0 f1
  refine ⟨(⟨a, b, es, ls⟩, .slice EA es.length ec, .slice LA ls.length lc), ?_, ⟨EA, ec, LA, lc, rfl, rfl, hce, hcl, hml, hre, hrl⟩, ⟨hNe, hNl, hVl⟩⟩
  have d0 := cut_at e0
  have d1 := cut_at e1
  have d2 := cut_at e2
  have d3 := cut_at e3
  rw [List.drop_of_length_le (show cs.length ≤ 3 + 1 by omega), List.append_nil] at d3
  have : cs = cs.drop 0 := rfl
  rw [this, d0, d1, d2, d3]
  rfl
theorem opened_hunks {N : Nat} {A : Option Addr} {len cap : Nat} {d : DataW H} {p : List MemPlace} (h : DataW.Trod enc Tryd.prog w base spare held 25 (.slice A len cap) d p) (hb : Rows.uptoBulk d ≤ N) :
    ∃ l : List HkI, l.length = len ∧ HII w w.heap.size A l ∧ l.length ≤ cap ∧ cap ≤ maxLen ∧ l.length ≤ N ∧ ∀ x ∈ l, HkSmall N x := by
  obtain ⟨fuel, hf⟩ := h
  obtain ⟨l, h1, h2, h3, h4, h5, h6⟩ := open_listB (N := N) (f := fun x : HkI × Value × Value => hkI x.1 x.2.1 x.2.2) (V := fun x => RowsI w w.heap.size x.1 x.2.1 x.2.2 ∧ HkSmall N x.1) Tryd.underlying25 cells_hunk (by decide) (fun _ => rfl) (fun _ _ _ h hb => open_hunk h hb) (by simpa [Value.cells] using hf) hb
  subst h1
  have hz : (l.map (·.1)).zip (l.map (·.2)) = l := by
    clear h2 h3 h4 h5 h6 hf
    induction l with
    | nil => rfl
    | cons x l ih => simp [ih]
  refine ⟨l.map (·.1), by simp, ⟨l.map (·.2), by simp, ?_, fun k x y z e1 e2 => ?_⟩, by simpa using h3, h4, by simpa using h5, fun x hx => ?_⟩
  · unfold hkIs
    rw [hz, List.length_map]
    exact h2
  · rw [List.getElem?_map, Option.map_eq_some_iff] at e1 e2
    obtain ⟨u, e3, rfl⟩ := e1
    obtain ⟨v, e4, e5⟩ := e2
    rw [e3] at e4
    injection e4 with e4
    subst e4
    have := (h6 u (List.mem_of_getElem? e3)).1
    rw [e5] at this
    exact this
  · obtain ⟨u, hu, rfl⟩ := List.mem_map.1 hx
    exact (h6 u hu).2
end
end Go.Proofs.YtlcidbbpjlpmjaaDoor
namespace Go.Proofs.YtlcidbbpjlpmjaaDoor
open Go.RowKit

def wiN (x : Int) (n : Nat) : Nat := (x % (n : Int)).toNat
theorem wiN_lt {x : Int} {n : Nat} (h : 0 < n) : wiN x n < n := by
  have h1 := Int.emod_nonneg x (b := (n : Int)) (by omega)
  have h2 := Int.emod_lt_of_pos x (b := (n : Int)) (by omega)
  unfold wiN
  omega
theorem tmod_wi {x : Int} {n : Nat} (h : 0 < n) : (0 ≤ x.tmod (n : Int) ∧ x.tmod (n : Int) = (wiN x n : Int)) ∨ (x.tmod (n : Int) < 0 ∧ x.tmod (n : Int) + (n : Int) = (wiN x n : Int) ∧ -(n : Int) < x.tmod (n : Int)) := by
  have h1 := Int.emod_nonneg x (b := (n : Int)) (by omega)
  have h2 := Int.emod_lt_of_pos x (b := (n : Int)) (by omega)
  have hw : (wiN x n : Int) = x % (n : Int) := by unfold wiN; omega
  rw [hw, Int.tmod_eq_emod]
  split
  · exact .inl ⟨by omega, by omega⟩
  · by_cases hz : x % (n : Int) = 0
    · rename_i q
      exact absurd (.inr (Int.dvd_of_emod_eq_zero hz)) q
    · exact .inr ⟨by omega, by omega, by omega⟩
set_option maxRecDepth 100000 in
theorem within_any (x : Int) (n : Nat) (hn : 0 < n) (hn2 : n ≤ 1000000) (w : World) :
    Calls Tryd.prog 24 #[.int .i64 x, .int .i64 (n : Int)] w fun r w' => r = .returned (.int .i64 (wiN x n : Int)) ∧ w' = w := by
  have hnz : ¬ ((n : Int) = 0) := by omega
  have hlt := wiN_lt (x := x) hn
  have HT := Lib.hid (tmod_wi (x := x) hn)
  generalize wiN x n = k at *
  go_enter Tryd.func24, Tryd.ntmps24
  go_upto_region 2 with fail
  generalize x.tmod (n : Int) = t at *
  rcases HT.out with ⟨h1, h2⟩ | ⟨h1, h2, h3⟩
  · subst h2
    have d1 : decide ((k : Int) < 0) = false := decide_eq_false (by omega)
    have h4 : ¬ (k : Int) < 0 := by omega
    go_wp2_with fail
    go_ret
    exact ⟨rfl, rfl⟩
  · have d1 : decide (t < 0) = true := decide_eq_true h1
    have w1 : IntKind.i64.wrap (t + (n : Int)) = t + (n : Int) := IntWalk.i64_in _ (by omega)
    have H2 := Lib.hid h2
    clear h2
    go_wp2_with fail
    go_ret
    exact ⟨by rw [← H2.out]; rfl, rfl⟩
section
variable {H : Type} {enc : TypeId × Value → H} {w : World} {base : Nat} {spare : Nat → Bool} {held : Bool}
theorem flat_int (l : List Int) : l.flatMap (fun a => [Value.int .i64 a]) = l.map (Value.int .i64) := by
  induction l with
  | nil => rfl
  | cons a l ih => rw [List.flatMap_cons, ih]; rfl
theorem opened_ints {A : Option Addr} {len cap : Nat} {d : DataW H} {p : List MemPlace} (h : DataW.Trod enc Tryd.prog w base spare held 52 (.slice A len cap) d p) :
    ∃ l : List Int, l.length = len ∧ Reads w w.heap.size 1 A l.length (l.map (Value.int .i64)) ∧ l.length ≤ cap ∧ cap ≤ maxLen := by
  obtain ⟨fuel, hf⟩ := h
  have hf : DataW.trod enc Tryd.prog w base spare held fuel 52 [.slice A len cap] = some (d, p) := by simpa [Value.cells] using hf
  obtain ⟨l, h1, h2, h3, h4, _⟩ := open_listB (N := Rows.uptoBulk d) (f := fun a : Int => [Value.int .i64 a]) (V := fun _ => True) Tryd.underlying52 cells_int (by decide) (fun _ => rfl) (fun _ _ _ h _ => by obtain ⟨a, e, _, _⟩ := DataW.trod_int Tryd.underlying3 h; exact ⟨a, e, trivial⟩) hf (Nat.le_refl _)
  subst h1
  rw [flat_int] at h2
  exact ⟨l, rfl, h2, h3, h4⟩
theorem flat_bool (l : List Bool) : l.flatMap (fun a => [Value.bool a]) = l.map Value.bool := by
  induction l with
  | nil => rfl
  | cons a l ih => rw [List.flatMap_cons, ih]; rfl
theorem cells_bool : Tryd.prog.cellsOf 4 = 1 := by kernel_rfl
theorem opened_bools {A : Option Addr} {len cap : Nat} {d : DataW H} {p : List MemPlace} (h : DataW.Trod enc Tryd.prog w base spare held 47 (.slice A len cap) d p) :
    ∃ l : List Bool, l.length = len ∧ Reads w w.heap.size 1 A l.length (l.map Value.bool) ∧ l.length ≤ cap ∧ cap ≤ maxLen := by
  obtain ⟨fuel, hf⟩ := h
  have hf : DataW.trod enc Tryd.prog w base spare held fuel 47 [.slice A len cap] = some (d, p) := by simpa [Value.cells] using hf
  obtain ⟨l, h1, h2, h3, h4, _⟩ := open_listB (N := Rows.uptoBulk d) (f := fun a : Bool => [Value.bool a]) (V := fun _ => True) Tryd.underlying47 cells_bool (by decide) (fun _ => rfl) (fun _ _ _ h _ => by obtain ⟨a, e, _⟩ := DataW.trod_bool Tryd.underlying4 h; exact ⟨a, e, trivial⟩) hf (Nat.le_refl _)
  subst h1
  rw [flat_bool] at h2
  exact ⟨l, rfl, h2, h3, h4⟩
end
end Go.Proofs.YtlcidbbpjlpmjaaDoor
namespace Go.Proofs.YtlcidbbpjlpmjaaDoor
open Go.RowKit
open Go.ChangeShapes Go.WideShapes Go.ChangeAt

/-- Block g holds the bytes l ahead of its mark. -/
def BRow (w : World) (g : Nat) (l : List UInt8) : Prop := ∃ cs lo hi, w.heap[g]? = some (.cells cs 5 (lo, hi)) ∧ l.length ≤ lo ∧ l.length ≤ cs.size ∧ ∀ (j : Nat) (u : UInt8), l[j]? = some u → cs[j]? = some (byteV u)
theorem BRow.cell {w : World} {g : Nat} {l : List UInt8} (h : BRow w g l) {j : Nat} {u : UInt8} (hj : l[j]? = some u) : w.cell? ⟨g, j, none⟩ = some (.int .u8 (u.toNat : Int)) := by
  obtain ⟨cs, lo, hi, h1, _, _, h4⟩ := h
  rw [Joins.cell_of_block h1]
  exact h4 j u hj
theorem BRow.unfrozen {w : World} {g : Nat} {l : List UInt8} (h : BRow w g l) {j : Nat} (hj : j < l.length) : w.frozen? ⟨g, j, none⟩ = false := by
  obtain ⟨cs, lo, hi, h1, h2, _, _⟩ := h
  have : decide (lo ≤ j) = false := decide_eq_false (by omega)
  simp only [World.frozen?, h1, this, Bool.false_and]
theorem BRow.put {w : World} {g : Nat} {l : List UInt8} (h : BRow w g l) (k : Nat) (x : UInt8) {v : Value} (hv : v = byteV x) : BRow (w.setCell ⟨g, k, none⟩ v) g (l.set k x) := by
  subst hv
  obtain ⟨cs, lo, hi, h1, h2, h3, h4⟩ := h
  refine ⟨_, lo, hi, Joins.block_setCell h1 _, by simpa using h2, by simpa using h3, fun j u hj => ?_⟩
  rw [List.getElem?_set] at hj
  rw [Array.getElem?_setIfInBounds]
  split at hj
  next q =>
    subst q
    rw [if_pos rfl, if_pos (by
      rcases Nat.lt_or_ge k l.length with p | p
      · omega
      · rw [if_neg (by omega)] at hj; cases hj)]
    split at hj
    · injection hj with hj; rw [hj]
    · cases hj
  next q =>
    rw [if_neg q]
    exact h4 j u hj
theorem BRow.lt {w : World} {g : Nat} {l : List UInt8} (h : BRow w g l) : g < w.heap.size := by
  obtain ⟨cs, lo, hi, h1, _⟩ := h
  rcases Nat.lt_or_ge g w.heap.size with q | q
  · exact q
  · rw [Array.getElem?_eq_none q] at h1; cases h1
theorem BRow.drew {w : World} {g : Nat} {l : List UInt8} (h : BRow w g l) : BRow w.drew g l := h
theorem BRow.reads {w : World} {g : Nat} {l : List UInt8} (h : BRow w g l) {m : Nat} (hm : m ≤ l.length) : Reads w w.heap.size 1 (some ⟨g, 0, none⟩) m ((l.take m).map byteV) := by
  refine ⟨by simp [Nat.min_eq_left hm], fun _ => ⟨_, rfl, h.lt, fun j u hj => ?_⟩⟩
  rw [add_at, Nat.zero_add]
  rw [List.getElem?_map] at hj
  rcases Nat.lt_or_ge j m with q | q
  · rw [List.getElem?_take_of_lt q] at hj
    obtain ⟨x, hx⟩ : ∃ x, l[j]? = some x := ⟨_, List.getElem?_eq_getElem (by omega)⟩
    rw [hx] at hj
    simp only [Option.map_some, Option.some.injEq] at hj
    subst hj
    exact h.cell hx
  · rw [List.getElem?_eq_none (by rw [List.length_take]; omega)] at hj
    cases hj
theorem wpList_convR {P : Program} {ops : Array Oper} {rest : List Oper} {o : Oper} {a : Act} {w w' : World} {Q : Exit → Act → World → Prop} (hgd : o.guard = none) {src dst : TypeId} {x : Operand} (ho : o.op = .convert src dst x) {u v : Value} (hx : a.eval x = u) (hrun : (convert src dst u).run P w = .ok v w')
    (h : wpList P ops Q rest (a.put o.dst v) w') : wpList P ops Q (o :: rest) a w :=
  wpList_plain hgd fun _ hK => by
    unfold Oper.wp execOp
    simp only [ho, hx, Sem.run_bind, hrun, Result.andThen_ok, Sem.run_pure]
    exact hK _ _ h
theorem run_convR (l : List UInt8) (w : World) : ∃ c w', (convert 9 53 (.string ⟨l.toArray⟩)).run Tryd.prog w = .ok (.slice (some ⟨w.heap.size, 0, none⟩) l.length c) w' ∧ Below w.heap.size w w' ∧ l.length ≤ c ∧ BRow w' w.heap.size l := by
  have hz : (⟨l.toArray⟩ : ByteArray).size = l.length := by simp [ByteArray.size]
  have hcs : l.length ≤ (Lib.bytesCells w 5 ⟨l.toArray⟩).size := by simp [Lib.bytesCells]
  refine ⟨grownCap w l.length 0 5, Lib.bytesWorld w 5 ⟨l.toArray⟩, by have := Lib.run_convert_string_bytes (P := Tryd.prog) w 9 53 5 ⟨l.toArray⟩ Tryd.underlying9 Tryd.underlying53 Tryd.underlying5; rw [hz] at this; exact this, Lib.bytesWorld_below _ _ _, grownCap_ge _ _ _ _, _, _, _, Lib.bytesWorld_at_new w 5 ⟨l.toArray⟩, hcs, hcs, fun j u hj => ?_⟩
  have hlt : j < l.length := by
    rcases Nat.lt_or_ge j l.length with q | q
    · exact q
    · rw [List.getElem?_eq_none q] at hj; cases hj
  have e : l[j] = u := by rw [List.getElem?_eq_getElem hlt] at hj; exact Option.some.inj hj
  simp [Lib.bytesCells, Array.getElem?_append, hlt, byteV, e]
theorem u8_sum (a b : UInt8) : ((a.toNat : Int) + (b.toNat : Int)) % 256 = ((a + b).toNat : Int) := by
  rw [UInt8.toNat_add]
  simp
section
variable {H : Type} {enc : TypeId × Value → H} {w : World} {base : Nat} {spare : Nat → Bool} {held : Bool}
theorem cells_byte : Tryd.prog.cellsOf 5 = 1 := by kernel_rfl
theorem flat_byte (l : List UInt8) : l.flatMap (fun a => [byteV a]) = l.map byteV := by
  induction l with
  | nil => rfl
  | cons a l ih => rw [List.flatMap_cons, ih]; rfl
theorem opened_bytes {A : Option Addr} {len cap : Nat} {d : DataW H} {p : List MemPlace} (h : DataW.Trod enc Tryd.prog w base spare held 53 (.slice A len cap) d p) :
    ∃ l : List UInt8, l.length = len ∧ Reads w w.heap.size 1 A l.length (l.map byteV) ∧ l.length ≤ cap ∧ cap ≤ maxLen := by
  obtain ⟨fuel, hf⟩ := h
  have hf : DataW.trod enc Tryd.prog w base spare held fuel 53 [.slice A len cap] = some (d, p) := by simpa [Value.cells] using hf
  obtain ⟨l, h1, h2, h3, h4, _⟩ := open_listB (N := Rows.uptoBulk d) (f := fun a : UInt8 => [byteV a]) (V := fun _ => True) Tryd.underlying53 cells_byte (by decide) (fun _ => rfl) (fun x y cs h _ => by
    obtain ⟨a, e, a1, a2⟩ := DataW.trod_int Tryd.underlying5 h
    have hb : 0 ≤ a ∧ a ≤ 255 := by simpa [Lit.wf, IntKind.min, IntKind.max, IntKind.signed, IntKind.bits] using a2
    obtain ⟨k, rfl⟩ := Int.eq_ofNat_of_zero_le hb.1
    refine ⟨UInt8.ofNat k, ?_, trivial⟩
    unfold byteV
    rw [e, UInt8.toNat_ofNat', Nat.mod_eq_of_lt (by omega)]) hf (Nat.le_refl _)
  subst h1
  rw [flat_byte] at h2
  exact ⟨l, rfl, h2, h3, h4⟩
set_option maxRecDepth 100000 in
theorem opened_string {r : Reach} {b0 : Nat} {v : Value} {d : DataW H} {p : List MemPlace} {N : Nat} (hval : Value.okWide Tryd.prog w r b0 9 v) (h : DataW.Trod enc Tryd.prog w base spare held 9 v d p) (hb : Rows.uptoBulk d ≤ N) : ∃ s : List UInt8, v = .string ⟨s.toArray⟩ ∧ s.length ≤ N := by
  obtain ⟨a, rfl, rfl, _⟩ := ChangeMaps.open_string Tryd.underlying9 hval h
  refine ⟨a.data.toList, rfl, ?_⟩
  simp only [Rows.uptoBulk] at hb
  omega
end
end Go.Proofs.YtlcidbbpjlpmjaaDoor
namespace Go.Proofs.YtlcidbbpjlpmjaaDoor
open Go.ChangeShapes Go.WideShapes Go.ChangeAt Go.RowKit
def laid3 : List (String × DataW Unit) := [("math/bits.deBruijn32tab", Rows.laid_math_bits_deBruijn32tab), ("math/bits.deBruijn64tab", Rows.laid_math_bits_deBruijn64tab), ("internal/strconv.uint64pow10", Rows.laid_internal_strconv_uint64pow10)]
theorem own : ownKnob Tryd.prog.godebug = none := by kernel_rfl
theorem laidOut : laidOutB Tryd.prog = true := by kernel_rfl
theorem tab_of_laid {W : World} (h : laidMetH Tryd.prog laid3 W) : Lib.TabIs Tryd.prog W "internal/strconv.uint64pow10" .u64 Lib.pow10Tab := by
  have h3 := h.filter (fun x => x.1 == "internal/strconv.uint64pow10")
  exact Lib.tabIs_of_head (rest := []) (k := .u64) (zs := Lib.pow10Tab) (P := Tryd.prog) (W := W) (name := "internal/strconv.uint64pow10") (g := 1) (t := 135) (e := 121) (n := 20) (by kernel_rfl) (by kernel_rfl) Tryd.underlying135 Tryd.underlying121 (by kernel_rfl) (by kernel_rfl) h3
theorem door_met3 (os : Os) (args : Array Value) : laidMet Tryd.prog laid3 ((World.doorLaid Tryd.prog 400 os).forCall (fun _ _ => 0) ⟨#[], args, []⟩).memory :=
  laidMet_of_run' 8 (by kernel_rfl) (by kernel_rfl)
end Go.Proofs.YtlcidbbpjlpmjaaDoor
namespace Go.Proofs.YtlcidbbpjlpmjaaDoor
open Go.ChangeShapes Go.WideShapes Go.ChangeAt Go.RowKit
def laid5 : List (String × DataW Unit) := [("math/bits.deBruijn32tab", Rows.laid_math_bits_deBruijn32tab), ("math/bits.deBruijn64tab", Rows.laid_math_bits_deBruijn64tab), ("internal/strconv.uint64pow10", Rows.laid_internal_strconv_uint64pow10), ("strconv.ErrRange", Rows.laid_strconv_ErrRange), ("strconv.ErrSyntax", Rows.laid_strconv_ErrSyntax)]
theorem tab_of_laid5 {W : World} (h : laidMetH Tryd.prog laid5 W) : Lib.TabIs Tryd.prog W "internal/strconv.uint64pow10" .u64 Lib.pow10Tab := by
  have h3 := h.filter (fun x => x.1 == "internal/strconv.uint64pow10")
  exact Lib.tabIs_of_head (rest := []) (k := .u64) (zs := Lib.pow10Tab) (P := Tryd.prog) (W := W) (name := "internal/strconv.uint64pow10") (g := 1) (t := 135) (e := 121) (n := 20) (by kernel_rfl) (by kernel_rfl) Tryd.underlying135 Tryd.underlying121 (by kernel_rfl) (by kernel_rfl) h3
theorem star_err : "*" ++ "errors.errorString" = "*errors.errorString" := by decide
theorem row_err (u : TypeId) (h : Tryd.prog.typeName? 3 u = some "*errors.errorString") : u = 150 :=
  typeName_ptr_named (nm := "errors.errorString") (by rw [star_err]; kernel_rfl) (by kernel_rfl) (by decide) u (by rw [star_err]; exact h)
theorem vars_of_laid5 {W : World} (h : laidMetH Tryd.prog laid5 W) (hS : W.ShapedOpen Tryd.prog) : VarsOK W := by
  have h3 := h.filter (fun x => x.1 == "strconv.ErrRange")
  have h2 := h.filter (fun x => x.1 == "strconv.ErrSyntax")
  obtain ⟨a3, s3, hv3, _⟩ := laid_sentinel (r := []) h3 (g := 3) (ti := 84) (tp := 150) (te := 152) (ts := 9) (by kernel_rfl) (by kernel_rfl) Tryd.underlying84 row_err Tryd.underlying150 Tryd.underlying152 rfl rfl Tryd.underlying9 (by kernel_rfl) (by kernel_rfl)
  obtain ⟨a2, s2, hv2, _⟩ := laid_sentinel (r := []) h2 (g := 2) (ti := 84) (tp := 150) (te := 152) (ts := 9) (by kernel_rfl) (by kernel_rfl) Tryd.underlying84 row_err Tryd.underlying150 Tryd.underlying152 rfl rfl Tryd.underlying9 (by kernel_rfl) (by kernel_rfl)
  have c3 := World.var?_cell (P := Tryd.prog) (n := "strconv.ErrRange") (show Tryd.prog.globalNamed "strconv.ErrRange" = some 3 by kernel_rfl) hv3 0
  have c2 := World.var?_cell (P := Tryd.prog) (n := "strconv.ErrSyntax") (show Tryd.prog.globalNamed "strconv.ErrSyntax" = some 2 by kernel_rfl) hv2 0
  refine ⟨cell_of_shapedOpen_int (t := 3) (zero := #[.int .i64 0]) hS (g := 0) (of_decide_eq_true (by kernel_rfl)) (by kernel_rfl) rfl (by kernel_rfl) (by kernel_rfl) Tryd.underlying3, ⟨_, _, by simpa using c2⟩, ⟨_, _, by simpa using c3⟩⟩
theorem door_met5 (os : Os) (args : Array Value) : laidMet Tryd.prog laid5 ((World.doorLaid Tryd.prog 400 os).forCall (fun _ _ => 0) ⟨#[], args, []⟩).memory :=
  laidMet_of_run' 8 (by kernel_rfl) (by kernel_rfl)
end Go.Proofs.YtlcidbbpjlpmjaaDoor
namespace Go.Proofs.YtlcidbbpjlpmjaaDoor
open Go.RowKit

def exA : List (List UInt8) := [[97, 10], [98, 10], [99, 10]]
def exB : List (List UInt8) := [[97, 10], [120, 10], [99, 10]]
def exH : HkI := ⟨0, 0, [⟨0, 1⟩, ⟨1, 1⟩, ⟨2, 1⟩, ⟨0, 1⟩], [[97, 10], [98, 10], [120, 10], [99, 10]]⟩
def exT : List UInt8 := [64, 64, 32, 45, 48, 44, 51, 32, 43, 48, 44, 51, 32, 64, 64, 10, 32, 97, 10, 45, 98, 10, 43, 120, 10, 32, 99, 10]
theorem ex_steps : steps exA exB = [0, 1, 2, 0] := by simp [exA, exB, steps, lcs_cons, lcs_nil_left, lcs_nil_right]
theorem ex_hunks0 : hunksP exA exB 1 = [⟨0, 0, [⟨0, 1⟩, ⟨1, 1⟩, ⟨2, 1⟩, ⟨0, 1⟩], [[97, 10], [98, 10], [120, 10], [99, 10]]⟩] := by
  unfold hunksP diffP
  rw [ex_steps]
  rfl
theorem ex_hunks : (hunksP exA exB 1).map HkD.toI = [exH] := by rw [ex_hunks0]; rfl
theorem size_alloc (w : World) (o : Obj) : (w.alloc o).heap.size = w.heap.size + 1 := by simp
theorem ex_text : hksT [exH] = exT := by
  have h0 : Lib.itoa 0 = [48] := by simp [Lib.itoa, Lib.decDigits]
  have h3 : Lib.itoa 3 = [51] := by simp [Lib.itoa, Lib.decDigits]
  have hm : mayP exH = some ⟨2, 1, 1⟩ := rfl
  have hb : bodyT exH.eds exH.ls = [32, 97, 10, 45, 98, 10, 43, 120, 10, 32, 99, 10] := rfl
  have hh : headT exH ⟨2, 1, 1⟩ = [64, 64, 32, 45, 48, 44, 51, 32, 43, 48, 44, 51, 32, 64, 64, 10] := by
    show [64, 64, 32, 45] ++ (Lib.itoa 0 ++ ([44] ++ (Lib.itoa 3 ++ ([32, 43] ++ (Lib.itoa 0 ++ ([44] ++ (Lib.itoa 3 ++ [32, 64, 64, 10]))))))) = _
    rw [h0, h3]
    rfl
  show hkT exH ++ [] = _
  unfold hkT
  rw [hm]
  show headT exH ⟨2, 1, 1⟩ ++ bodyT exH.eds exH.ls ++ [] = _
  rw [hh, hb]
  rfl
theorem ex_ok : [exH].all okH = true := by decide
set_option maxHeartbeats 1000000 in
set_option maxRecDepth 100000 in
theorem hunks_err (Aa Ab : Option Addr) (n m ca cb : Nat) (ar : Int) (har : ar < 0 ∨ 10 < ar) (w : World) :
    Calls Tryd.prog 13 #[.slice Aa n ca, .slice Ab m cb, .int .i64 ar] w fun r w' => r = .returned (.tuple #[.slice none 0 0, .int .i64 1]) ∧ w' = w := by
  rcases har with h | h
  · go_enter Tryd.func13, Tryd.ntmps13
    go_wp2_with fail
    go_ret2
    exact ⟨rfl, rfl⟩
  · have h2 : ¬ ar < 0 := by omega
    go_enter Tryd.func13, Tryd.ntmps13
    go_wp2_with fail
    go_ret2
    exact ⟨rfl, rfl⟩
set_option maxHeartbeats 1000000 in
set_option maxRecDepth 100000 in
theorem rhunks_err (Aa Ab : Option Addr) (n m ca cb : Nat) (ar : Int) (har : ar < 0 ∨ 10 < ar) (w : World) :
    Calls Tryd.prog 14 #[.slice Aa n ca, .slice Ab m cb, .int .i64 ar] w fun r w' => r = .returned (.tuple #[.slice none 0 0, .int .i64 1]) ∧ w' = w := by
  rcases har with h | h
  · go_enter Tryd.func14, Tryd.ntmps14
    go_wp2_with fail
    go_ret2
    exact ⟨rfl, rfl⟩
  · have h2 : ¬ ar < 0 := by omega
    go_enter Tryd.func14, Tryd.ntmps14
    go_wp2_with fail
    go_ret2
    exact ⟨rfl, rfl⟩
set_option maxHeartbeats 1000000 in
set_option maxRecDepth 100000 in
theorem known_any (w : World) (htab : Lib.TabIs Tryd.prog w "internal/strconv.uint64pow10" .u64 Lib.pow10Tab) :
    Calls Tryd.prog 11 #[] w fun r w' => r = .returned (.bool true) ∧ Below w.heap.size w w' := by
  have HTAB := Lib.hid (show ∀ W, Below w.heap.size w W → Lib.TabIs Tryd.prog W "internal/strconv.uint64pow10" .u64 Lib.pow10Tab from fun W k => Lib.tabBelow_of_tabIs htab W k)
  clear htab
  go_enter Tryd.func11, Tryd.ntmps11
  go_wp2_with fail
  have hsz : (w.alloc (.cells #[.string ⟨#[97, 10]⟩, .string ⟨#[98, 10]⟩, .string ⟨#[99, 10]⟩] 9)).heap.size = w.heap.size + 1 := size_alloc _ _
  have b1 := (Blk.new w 9 #[.string ⟨#[97, 10]⟩, .string ⟨#[98, 10]⟩, .string ⟨#[99, 10]⟩]).alloc (.cells #[.string ⟨#[97, 10]⟩, .string ⟨#[120, 10]⟩, .string ⟨#[99, 10]⟩] 9)
  have b2 := Blk.new (w.alloc (.cells #[.string ⟨#[97, 10]⟩, .string ⟨#[98, 10]⟩, .string ⟨#[99, 10]⟩] 9)) 9 #[.string ⟨#[97, 10]⟩, .string ⟨#[120, 10]⟩, .string ⟨#[99, 10]⟩]
  rw [hsz] at b2
  have hk0 : Keep Nothing w ((w.alloc (.cells #[.string ⟨#[97, 10]⟩, .string ⟨#[98, 10]⟩, .string ⟨#[99, 10]⟩] 9)).alloc (.cells #[.string ⟨#[97, 10]⟩, .string ⟨#[120, 10]⟩, .string ⟨#[99, 10]⟩] 9)) := ((Keep.refl _ w).alloc _).alloc _
  generalize (w.alloc (.cells #[.string ⟨#[97, 10]⟩, .string ⟨#[98, 10]⟩, .string ⟨#[99, 10]⟩] 9)).alloc (.cells #[.string ⟨#[97, 10]⟩, .string ⟨#[120, 10]⟩, .string ⟨#[99, 10]⟩] 9) = w2 at *
  have r1 : Reads w2 (w.heap.size + 2) 1 (some ⟨w.heap.size, 0, none⟩) exA.length (strL exA) := (Reads.of_blk (size := 1) (n := 3) b1 rfl rfl).more (by omega)
  have r2 : Reads w2 (w.heap.size + 2) 1 (some ⟨w.heap.size + 1, 0, none⟩) exB.length (strL exB) := Reads.of_blk (size := 1) (n := 3) b2 rfl rfl
  have hw2 := b2.lt
  refine (hunks_any exA exB (some ⟨w.heap.size, 0, none⟩) (some ⟨w.heap.size + 1, 0, none⟩) 3 3 (w.heap.size + 2) 1 w2 r1 r2 (by omega) (by decide) (by decide) (by decide) (by decide) (by decide) (by decide) (by decide)).mono ?_
  rintro r w3 ⟨A, cp, rfl, hcp1, hcp2, hin, bel⟩
  have hI := hin.toI
  have hln : (hunksP exA exB 1).length = 1 := by rw [ex_hunks0]; rfl
  rw [ex_hunks] at hI
  rw [hln]
  clear hin hln
  have b3 : Below w.heap.size w w3 := hk0.all.trans (bel.mono (by omega))
  have ht : textR [exH] = .tuple #[.string ⟨#[64, 64, 32, 45, 48, 44, 51, 32, 43, 48, 44, 51, 32, 64, 64, 10, 32, 97, 10, 45, 98, 10, 43, 120, 10, 32, 99, 10]⟩, .int .i64 0] := by
    unfold textR
    rw [if_pos ex_ok, ex_text]
    rfl
  have HQ := text_any [exH] A cp w3.heap.size w3 (Nat.le_refl _) hI (by decide) (by intro h hh; simp at hh; subst hh; exact ⟨by decide, by decide, by decide⟩) (by rw [ex_text]; decide) (HTAB.out _ b3)
  rw [ht] at HQ
  have HQ := Lib.hid HQ
  clear ht hI r1 r2 b1 b2
  go_wp2_with (go_at_call 25; refine HQ.out.mono ?_)
  rintro _ w4 ⟨rfl, b4⟩
  go_wp2_with fail
  go_ret
  exact ⟨rfl, b3.trans (b4.mono b3.size)⟩
end Go.Proofs.YtlcidbbpjlpmjaaDoor
namespace Go.Proofs.YtlcidbbpjlpmjaaDoor
open Go.ChangeShapes Go.WideShapes Go.ChangeAt Go.RowKit

theorem bdrew {B : Nat} {w w1 : World} (h : Below B w w1) (hB : B ≤ w1.heap.size) (n : Nat) : Below B w (w1.drewN n) := h.trans (((Keep.refl Nothing w1).drewN n).all.mono hB)
theorem sum20_mem {s : List UInt8} : ∀ {l : List (List UInt8)}, s ∈ l → s.length / 20 ≤ sum20 l
  | t :: l, h => by
    have e : sum20 (t :: l) = t.length / 20 + sum20 l := by simp [sum20]
    rcases List.mem_cons.1 h with rfl | h
    · omega
    · have := sum20_mem h; omega
theorem fewN_lines {l : List (List UInt8)} (h : fewN l < 120) : ∀ s ∈ l, s.length ≤ 2400 := by
  intro s hs
  have hl := fewN_len h
  unfold fewN at h
  rw [List.take_of_length_le (by omega)] at h
  have := sum20_mem hs
  omega
theorem HkSmall.of_hkB {a b : List (List UInt8)} {N : Nat} {h : HkD} (hb : HkB a b 120 480 h) (hN : 57600 ≤ N) (ha : ∀ s ∈ a, s.length ≤ N) (hbs : ∀ s ∈ b, s.length ≤ N) : HkSmall N h.toI :=
  ⟨by have := hb.1; simp [HkD.toI]; omega, by have := hb.2.1; have e : h.toI.ls = h.ls := rfl; rw [e]; omega, fun s hs => by
    rcases hb.2.2 s hs with q | q
    · exact ha s q
    · exact hbs s q⟩
set_option maxHeartbeats 8000000 in
set_option maxRecDepth 100000 in
theorem turns_law (a b : List (List UInt8)) (Aa Ab : Option Addr) (ca cb : Nat) (ar : Int) (tl : List Int) (At : Option Addr) (ct : Nat) (yl : List UInt8) (Ay : Option Addr) (cy : Nat) (cut : Int) (more : List UInt8) (w : World)
    (hra : Reads w w.heap.size 1 Aa a.length (strL a)) (hal : a.length ≤ 1048576) (has : ∀ s ∈ a, s.length ≤ 1048576)
    (hrb : Reads w w.heap.size 1 Ab b.length (strL b)) (hbl : b.length ≤ 1048576) (hbs : ∀ s ∈ b, s.length ≤ 1048576)
    (hrt : Reads w w.heap.size 1 At tl.length (tl.map (Value.int .i64))) (hry : Reads w w.heap.size 1 Ay yl.length (yl.map byteV)) (hml : more.length ≤ 1048576) (hvo : VarsOK w) (htab : Lib.TabIs Tryd.prog w "internal/strconv.uint64pow10" .u64 Lib.pow10Tab) :
    Calls Tryd.prog 9 #[.slice Aa a.length ca, .slice Ab b.length cb, .int .i64 ar, .slice At tl.length ct, .slice Ay yl.length cy, .int .i64 cut, .string ⟨more.toArray⟩] w fun r w' => r = .returned (.bool true) ∧ Below w.heap.size w w' := by
  have HK := Lib.hid (known_any w htab)
  have HV := Lib.hid (show ∀ W, Below w.heap.size w W → VarsOK W from fun W k => hvo.below k)
  have HTAB := Lib.hid (show ∀ W, Below w.heap.size w W → Lib.TabIs Tryd.prog W "internal/strconv.uint64pow10" .u64 Lib.pow10Tab from fun W k => Lib.tabBelow_of_tabIs htab W k)
  have HRA := Lib.hid (show ∀ W, Below w.heap.size w W → Reads W w.heap.size 1 Aa a.length (strL a) from fun W k => hra.below k)
  have HRB := Lib.hid (show ∀ W, Below w.heap.size w W → Reads W w.heap.size 1 Ab b.length (strL b) from fun W k => hrb.below k)
  have HRT := Lib.hid (show ∀ W, Below w.heap.size w W → Reads W w.heap.size 1 At tl.length (tl.map (Value.int .i64)) from fun W k => hrt.below k)
  have HRY := Lib.hid (show ∀ W, Below w.heap.size w W → Reads W w.heap.size 1 Ay yl.length (yl.map byteV) from fun W k => hry.below k)
  have HFA := Lib.hid (fun W (k : Below w.heap.size w W) => few_any a Aa ca w.heap.size W (HRA.out W k) hal has)
  have HFB := Lib.hid (fun W (k : Below w.heap.size w W) => few_any b Ab cb w.heap.size W (HRB.out W k) hbl hbs)
  have HGA := Lib.hid (fun W (k : Below w.heap.size w W) => good_any a Aa ca w.heap.size W k.size (HRA.out W k) hal has)
  have HGB := Lib.hid (fun W (k : Below w.heap.size w W) => good_any b Ab cb w.heap.size W k.size (HRB.out W k) hbl hbs)
  have HSA := Lib.hid (show fewN a < 120 → ∀ s ∈ goodP a, s.length ≤ 1048576 from fun h s hs => Nat.le_trans (goodP_small (N := 2400) a (fewN_lines h) s hs) (by decide))
  have HSB := Lib.hid (show fewN b < 120 → ∀ s ∈ goodP b, s.length ≤ 1048576 from fun h s hs => Nat.le_trans (goodP_small (N := 2400) b (fewN_lines h) s hs) (by decide))
  have HTX := Lib.hid (show fewN a < 120 → fewN b < 120 → ∀ n, (hksT ((hunksP (goodP a) (goodP b) n).map HkD.toI)).length ≤ 90000 from fun h1 h2 n => text_small n h1 h2)
  have HGL := Lib.hid (goodP_len a)
  have HGM := Lib.hid (goodP_len b)
  generalize goodP a = ga at *
  generalize goodP b = gb at *
  clear hra hrb hrt hry htab has hbs hvo
  go_enter Tryd.func9, Tryd.ntmps9
  go_wp2_with (go_at_call 11; refine HK.out.mono ?_)
  rintro _ w1 ⟨rfl, b1⟩
  cases hfa : decide (fewN a < 120)
  case false =>
    rw [hfa] at HFA
    go_wp2_with (go_at_call 12; refine (HFA.out _ b1).mono ?_)
    rintro _ _ ⟨rfl, n, rfl⟩
    go_wp2_with fail
    go_ret
    exact ⟨rfl, bdrew b1 b1.size n⟩
  have ha := fewN_len (of_decide_eq_true hfa)
  rw [hfa] at HFA
  cases hfb : decide (fewN b < 120)
  case false =>
    rw [hfb] at HFB
    go_wp2_with (go_at_call 12; refine (HFA.out _ b1).mono ?_)
    rintro _ _ ⟨rfl, n, rfl⟩
    go_wp2_with (go_at_call 12; refine (HFB.out _ (bdrew b1 b1.size n)).mono ?_)
    rintro _ _ ⟨rfl, m, rfl⟩
    go_wp2_with fail
    go_ret
    exact ⟨rfl, bdrew b1 b1.size (n + m)⟩
  have hb := fewN_len (of_decide_eq_true hfb)
  rw [hfb] at HFB
  have hmi : (more.length : Int) ≤ 1048576 := by omega
  by_cases hm : more.length ≤ 100
  case neg =>
    have hm0 : decide (100 < more.length) = true := decide_eq_true (by omega)
    have hm1 : decide ((100 : Int) < (more.length : Int)) = true := decide_eq_true (by omega)
    go_wp2_with (go_at_call 12; refine (HFA.out _ b1).mono ?_)
    rintro _ _ ⟨rfl, n, rfl⟩
    go_wp2_with (go_at_call 12; refine (HFB.out _ (bdrew b1 b1.size n)).mono ?_)
    rintro _ _ ⟨rfl, m, rfl⟩
    go_wp2_with fail
    go_ret
    exact ⟨rfl, bdrew b1 b1.size (n + m)⟩
  have hm0 : decide (100 < more.length) = false := decide_eq_false (by omega)
  have hm1 : decide ((100 : Int) < (more.length : Int)) = false := decide_eq_false (by omega)
  go_upto_region 5 with (go_at_call 12; refine (HFA.out _ b1).mono ?_)
  rintro _ _ ⟨rfl, n, rfl⟩
  go_upto_region 5 with (go_at_call 12; refine (HFB.out _ (bdrew b1 b1.size n)).mono ?_)
  rintro _ _ ⟨rfl, m, rfl⟩
  go_upto_region 5 with fail
  have b2 : Below w.heap.size w (w1.drewN (n + m)) := bdrew b1 b1.size (n + m)
  have HFA0 := Lib.hid hfa
  have HFB0 := Lib.hid hfb
  clear HFA HFB b1 hfa hfb
  generalize w1.drewN (n + m) = w2 at *
  have hz2 := b2.size
  go_upto_region 6 with (go_at_call 23; refine (HGA.out _ b2).mono ?_)
  rintro _ w3 ⟨A1, c1, rfl, o1, b3⟩
  have b23 := b2.trans (b3.mono hz2)
  have hz3 := b23.size
  go_upto_region 6 with (go_at_call 23; refine (HGB.out _ b23).mono ?_)
  rintro _ w4 ⟨A2, c2, rfl, o2, b4⟩
  have b24 := b23.trans (b4.mono hz3)
  have hz4 := b24.size
  have r1 : Reads w4 w4.heap.size 1 A1 ga.length (strL ga) := (o1.reads.below b4).more b4.size
  have r2 : Reads w4 w4.heap.size 1 A2 gb.length (strL gb) := o2.reads
  have hga : ga.length < 120 := by have := HGL.out; omega
  have hgb : gb.length < 120 := by have := HGM.out; omega
  have q1 := o1.cap_le.1
  have q2 := o2.cap_le.1
  have hw4 := wiN_lt (x := ar) (n := 4) (by decide)
  have HW := Lib.hid (show ∀ W, Calls Tryd.prog 24 #[.int .i64 ar, .int .i64 4] W fun r w' => r = .returned (.int .i64 (wiN ar 4 : Int)) ∧ w' = W from fun W => within_any ar 4 (by decide) (by decide) W)
  have HH := Lib.hid (show Calls Tryd.prog 14 #[.slice A1 ga.length c1, .slice A2 gb.length c2, .int .i64 (wiN ar 4 : Int)] w4 (fun r w' => ∃ A cp, r = .returned (.tuple #[.slice A (hunksP ga gb (wiN ar 4)).length cp, .int .i64 0]) ∧ (hunksP ga gb (wiN ar 4)).length ≤ cp ∧ cp ≤ maxLen ∧ HIn w' w'.heap.size A (hunksP ga gb (wiN ar 4)) ∧ Below w4.heap.size w4 w') from
    rhunks_any ga gb A1 A2 c1 c2 w4.heap.size (wiN ar 4) w4 r1 r2 (Nat.le_refl _) q1 (by omega) q2 (by omega) (by omega))
  have HSM := Lib.hid (show ∀ h ∈ (hunksP ga gb (wiN ar 4)).map HkD.toI, HkSmall 1048576 h from fun h hh => by
    obtain ⟨y, hy, rfl⟩ := List.mem_map.1 hh
    exact HkSmall.of_hkB (hunksP_small (M := 120) (by omega) (by omega) _ y hy) (by decide) (HSA.out (of_decide_eq_true HFA0.out)) (HSB.out (of_decide_eq_true HFB0.out)))
  have hhl : (hunksP ga gb (wiN ar 4)).length ≤ 2 * 120 := hunksP_len (by omega) (by omega) _
  have htx := HTX.out (of_decide_eq_true HFA0.out) (of_decide_eq_true HFB0.out) (wiN ar 4)
  have HB24 := Lib.hid b24
  clear o1 o2 r1 r2 b2 b3 b4 b23 b24 HSA HSB HGA HGB HTX
  generalize wiN ar 4 = arn at *
  generalize hunksP ga gb arn = HD0 at *
  go_upto_region 6 with (go_at_call 24; refine (HW.out _).mono ?_)
  rintro _ _ ⟨rfl, rfl⟩
  go_upto_region 6 with (go_at_call 14; refine HH.out.mono ?_)
  rintro _ w5 ⟨AH, cpH, rfl, hch, hchm, hin, b5⟩
  have hii := hin.toI
  have hln : HD0.length = (HD0.map HkD.toI).length := by simp
  rw [hln] at hhl hch
  rw [hln]
  generalize HD0.map HkD.toI = H at *
  have hb25 : Below w.heap.size w w5 := HB24.out.trans (b5.mono hz4)
  have hz5 := hb25.size
  have HRX := Lib.hid (rtext_any H AH cpH w5.heap.size w5 (Nat.le_refl _) hii (by omega) (fun h hh => ⟨Nat.le_trans (HSM.out h hh).n1 (by decide), Nat.le_trans (HSM.out h hh).n2 (by decide), fun s hs => Nat.le_trans ((HSM.out h hh).n3 s hs) (by decide)⟩) (Nat.le_trans htx (by decide)))
  clear hin hln b5 HH HW HB24 hii
  have HB25 := Lib.hid hb25
  clear hb25
  go_upto_region 7 with (go_at_call 17; refine HRX.out.mono ?_)
  rintro _ w6 ⟨rfl, k6⟩
  have hb6 : Below w.heap.size w w6 := HB25.out.trans (k6.below hz5 (fun _ _ h => h))
  have hz6 := hb6.size
  cases hok : H.all okH
  case false =>
    have hT : textR H = .tuple #[.string ⟨#[]⟩, .int .i64 1] := by unfold textR; rw [hok]; rfl
    rw [hT]
    go_wp2_with fail
    go_ret
    exact ⟨rfl, hb6⟩
  have hT : textR H = .tuple #[.string ⟨(hksT H).toArray⟩, .int .i64 0] := by unfold textR; rw [if_pos hok]
  rw [hT]
  generalize hksT H = T at *
  clear hT hok HRX k6
  by_cases hn : T = []
  · subst hn
    go_wp2_with fail
    go_ret
    exact ⟨rfl, hb6⟩
  have hnb : (T == []) = false := by
    cases T with
    | nil => exact absurd rfl hn
    | cons x T => rfl
  have hTp : 0 < T.length := List.length_pos_iff.2 hn
  obtain ⟨cX, w7, hcv, b7, hcX, hrow0⟩ := run_convR T w6
  have hb7 : Below w.heap.size w w7 := hb6.trans (b7.mono hz6)
  have HCV := Lib.hid hcv
  clear hcv b7
  generalize w6.heap.size = g at *
  have HROW0 := Lib.hid hrow0
  have HB7 := Lib.hid hb7
  have HNE := Lib.hid hn
  clear hrow0 hb7 hb6 hn
  go_upto_region 9 with fail
  clear hnb
  go_wp2_with (refine wpList_convR rfl rfl rfl HCV.out ?_)
  go_loopw [20] (fun s20 wr => ∃ (i : Nat) (y : List UInt8), i ≤ 3 ∧ s20 = .int .i64 (i : Nat) ∧ y.length = T.length ∧ BRow wr g y ∧ Below w.heap.size w wr) (fun s20 _ => 3 - (intOf s20).toNat)
  case atStart => exact ⟨0, T, by omega, rfl, rfl, HROW0.out, HB7.out⟩
  case round =>
    obtain ⟨i, y, hi3, rfl, hyl, hrow, hbr⟩ := hrel
    have hgl := hrow.lt
    have HROW := Lib.hid hrow
    have HBR := Lib.hid hbr
    clear hrow hbr
    by_cases hlt : i < tl.length ∧ i < yl.length ∧ i < 3
    · obtain ⟨i1, i2, i3⟩ := hlt
      obtain ⟨x, hx⟩ : ∃ x, tl[i]? = some x := ⟨_, List.getElem?_eq_getElem i1⟩
      obtain ⟨z, hz⟩ : ∃ z, yl[i]? = some z := ⟨_, List.getElem?_eq_getElem i2⟩
      obtain ⟨ga1, oa1, hAt, _, hc1⟩ := (HRT.out _ HBR.out).at0 (by omega) (by omega)
      obtain ⟨gy1, oy1, hAy, _, hc2⟩ := (HRY.out _ HBR.out).at0 (by omega) (by omega)
      subst hAt hAy
      have ca0 := hc1 i (.int .i64 x) (by rw [List.getElem?_map, hx]; rfl)
      have cb0 := hc2 i (byteV z) (by rw [List.getElem?_map, hz]; rfl)
      unfold byteV at cb0
      clear hc1 hc2 hx hz
      have hkl := wiN_lt (x := x) hTp
      have HWK := Lib.hid (fun W => within_any x T.length hTp (by omega) W)
      generalize wiN x T.length = k at *
      obtain ⟨u, hu⟩ : ∃ u, y[k]? = some u := ⟨_, List.getElem?_eq_getElem (by omega)⟩
      have cy0 := HROW.out.cell hu
      have fy0 := HROW.out.unfrozen (j := k) (by omega)
      clear hu
      have j0 : (0 : Int) ≤ (i : Int) := Int.natCast_nonneg _
      have j1 : (i : Int) < (tl.length : Int) := by omega
      have j2 : (i : Int) < (yl.length : Int) := by omega
      have j3 : (i : Int) < 3 := by omega
      have j4 : (0 : Int) ≤ (k : Int) := Int.natCast_nonneg _
      have j5 : (k : Int) < (T.length : Int) := by omega
      have d1 : decide ((i : Int) < (tl.length : Int)) = true := decide_eq_true j1
      have d2 : decide ((i : Int) < (yl.length : Int)) = true := decide_eq_true j2
      have d3 : decide ((i : Int) < 3) = true := decide_eq_true j3
      have e1 : decide (i < tl.length) = true := decide_eq_true i1
      have e2 : decide (i < yl.length) = true := decide_eq_true i2
      have e3 : decide (i < 3) = true := decide_eq_true i3
      go_upto_region 14 with (go_at_call 24; refine (HWK.out _).mono ?_)
      rintro _ wr ⟨rfl, rfl⟩
      go_upto_region 14 with fail
      go_region
      all_goals go_wp2_with fail
      go_roundw
      case rel => exact ⟨i + 1, y.set k (u + z), by omega, by go_num, by rw [List.length_set]; exact hyl, (HROW.out.put k (u + z) (congrArg (Value.int .u8) (u8_sum u z))).drew, HBR.out.trans ((Below.setCell (Below.refl _ _) (p := ⟨g, k, none⟩) (by simp only; omega) _).drew)⟩
      case measure => simp [intOf]; omega
    · have hv := wiN_lt (x := cut) hTp
      have HWC := Lib.hid (show ∀ W, Calls Tryd.prog 24 #[.int .i64 cut, .int .i64 (T.length : Int)] W fun r W' => r = .returned (.int .i64 (wiN cut T.length : Int)) ∧ W = W' from fun W => (within_any cut T.length hTp (by omega) W).mono fun r W' h => ⟨h.1, h.2.symm⟩)
      generalize wiN cut T.length = v at *
      obtain ⟨m, hm2⟩ : ∃ m, T.length = m + v := ⟨T.length - v, by omega⟩
      have hsub : wrap64 ((T.length : Int) - (v : Int)) = (m : Int) := by unfold wrap64; omega
      have hsub2 : (T.length : Int) - (v : Int) = (m : Int) := by omega
      have m0 : (0 : Int) ≤ (m : Int) := Int.natCast_nonneg _
      have m1 : (m : Int) ≤ (T.length : Int) := by omega
      have m2 : (m : Int) ≤ (cX : Int) := by omega
      have m3 : m ≤ cX := by omega
      have RD := Lib.hid (HROW.out.reads (m := m) (by omega))
      have hXl : (y.take m ++ more).length ≤ 100000 := by rw [List.length_append, List.length_take]; omega
      have HM2 := Lib.hid hm2
      clear hm2
      have fin : (i < tl.length ∧ i < yl.length ∧ i = 3) ∨ (i < tl.length ∧ yl.length ≤ i) ∨ tl.length ≤ i := by omega
      have hap : (⟨(y.take m).toArray⟩ : ByteArray) ++ (⟨more.toArray⟩ : ByteArray) = ⟨(y.take m ++ more).toArray⟩ := ByteArray.ext (by simp)
      have HX := Lib.hid (show ∀ W, Calls Tryd.prog 27 #[.string ⟨(y.take m ++ more).toArray⟩] W (ParseR (resQ (readQ (y.take m ++ more) []) (y.take m ++ more)) W) from fun W => by
        have := rparse_any (y.take m ++ more) W hXl
        rwa [read_same (y.take m ++ more) (by omega)] at this)
      have HP := Lib.hid (parse_any (y.take m ++ more) wr hXl (HV.out _ HBR.out) (HTAB.out _ HBR.out))
      have HRM := Lib.hid (fun (l : List HkI) (h : resQ (readQ (y.take m ++ more) []) (y.take m ++ more) = some l) => resQ_small h)
      have hz8 := HBR.out.size
      generalize resQ (readQ (y.take m ++ more) []) (y.take m ++ more) = R at *
      rcases fin with ⟨f1, f2, f3⟩ | ⟨f1, f2⟩ | f1
      · have d1 : decide ((i : Int) < (tl.length : Int)) = true := decide_eq_true (by omega)
        have d2 : decide ((i : Int) < (yl.length : Int)) = true := decide_eq_true (by omega)
        have e1 : decide (i < tl.length) = true := decide_eq_true f1
        have e2 : decide (i < yl.length) = true := decide_eq_true f2
        subst f3
        go_upto_region 16 with (first | (go_at_call 24; refine (HWC.out _).mono ?_; rintro _ w' ⟨rfl, rfl⟩) | (with_reducible refine wpList_convStr (l := y.take m) rfl rfl Tryd.underlying53 Tryd.underlying5 Tryd.underlying9 rfl RD.out ?_))
        clear hap
        generalize y.take m ++ more = X at *
        cases R with
        | none =>
          go_upto_region 17 with (go_at_call 26; refine HP.out.mono ?_)
          rintro _ w8 ⟨b8, rfl⟩
          go_upto_region 17 with fail
          go_upto_region 18 with (go_at_call 27; refine (HX.out _).mono ?_)
          rintro _ w9 ⟨b9, rfl⟩
          have HB9 := Lib.hid (HBR.out.trans ((b8.trans (b9.mono b8.size)).mono hz8))
          have HS := Lib.hid (sameHunks_refl [] none none 0 0 w9.heap.size w9 (HII.nil_ _ _ _) (HII.nil_ _ _ _) (by decide) (fun _ h => by cases h))
          go_upto_region 18 with fail
          go_wp2_with (go_at_call 15; refine HS.out.mono ?_)
          rintro _ _ ⟨rfl, k, rfl⟩
          go_wp2_with fail
          go_ret
          exact ⟨rfl, bdrew HB9.out HB9.out.size k⟩
        | some q =>
          obtain ⟨q1, q2⟩ := HRM.out q rfl
          go_upto_region 17 with (go_at_call 26; refine HP.out.mono ?_)
          rintro _ w8 ⟨b8, A8, c8, rfl, i8⟩
          go_upto_region 17 with fail
          go_upto_region 18 with (go_at_call 27; refine (HX.out _).mono ?_)
          rintro _ w9 ⟨b9, A9, c9, rfl, i9⟩
          have HB9 := Lib.hid (HBR.out.trans ((b8.trans (b9.mono b8.size)).mono hz8))
          have HS := Lib.hid (sameHunks_refl q A8 A9 c8 c9 w9.heap.size w9 ((i8.below b9).more b9.size) i9 (by omega) (i9.small q2))
          clear i8 i9
          go_upto_region 18 with fail
          go_wp2_with (go_at_call 15; refine HS.out.mono ?_)
          rintro _ _ ⟨rfl, k, rfl⟩
          go_wp2_with fail
          go_ret
          exact ⟨rfl, bdrew HB9.out HB9.out.size k⟩
      · have d1 : decide ((i : Int) < (tl.length : Int)) = true := decide_eq_true (by omega)
        have d2 : decide ((i : Int) < (yl.length : Int)) = false := decide_eq_false (by omega)
        have e1 : decide (i < tl.length) = true := decide_eq_true f1
        have e2 : decide (i < yl.length) = false := decide_eq_false (by omega)
        go_upto_region 16 with (first | (go_at_call 24; refine (HWC.out _).mono ?_; rintro _ w' ⟨rfl, rfl⟩) | (with_reducible refine wpList_convStr (l := y.take m) rfl rfl Tryd.underlying53 Tryd.underlying5 Tryd.underlying9 rfl RD.out ?_))
        clear hap
        generalize y.take m ++ more = X at *
        cases R with
        | none =>
          go_upto_region 17 with (go_at_call 26; refine HP.out.mono ?_)
          rintro _ w8 ⟨b8, rfl⟩
          go_upto_region 17 with fail
          go_upto_region 18 with (go_at_call 27; refine (HX.out _).mono ?_)
          rintro _ w9 ⟨b9, rfl⟩
          have HB9 := Lib.hid (HBR.out.trans ((b8.trans (b9.mono b8.size)).mono hz8))
          have HS := Lib.hid (sameHunks_refl [] none none 0 0 w9.heap.size w9 (HII.nil_ _ _ _) (HII.nil_ _ _ _) (by decide) (fun _ h => by cases h))
          go_upto_region 18 with fail
          go_wp2_with (go_at_call 15; refine HS.out.mono ?_)
          rintro _ _ ⟨rfl, k, rfl⟩
          go_wp2_with fail
          go_ret
          exact ⟨rfl, bdrew HB9.out HB9.out.size k⟩
        | some q =>
          obtain ⟨q1, q2⟩ := HRM.out q rfl
          go_upto_region 17 with (go_at_call 26; refine HP.out.mono ?_)
          rintro _ w8 ⟨b8, A8, c8, rfl, i8⟩
          go_upto_region 17 with fail
          go_upto_region 18 with (go_at_call 27; refine (HX.out _).mono ?_)
          rintro _ w9 ⟨b9, A9, c9, rfl, i9⟩
          have HB9 := Lib.hid (HBR.out.trans ((b8.trans (b9.mono b8.size)).mono hz8))
          have HS := Lib.hid (sameHunks_refl q A8 A9 c8 c9 w9.heap.size w9 ((i8.below b9).more b9.size) i9 (by omega) (i9.small q2))
          clear i8 i9
          go_upto_region 18 with fail
          go_wp2_with (go_at_call 15; refine HS.out.mono ?_)
          rintro _ _ ⟨rfl, k, rfl⟩
          go_wp2_with fail
          go_ret
          exact ⟨rfl, bdrew HB9.out HB9.out.size k⟩
      · have d1 : decide ((i : Int) < (tl.length : Int)) = false := decide_eq_false (by omega)
        have e1 : decide (i < tl.length) = false := decide_eq_false (by omega)
        go_upto_region 16 with (first | (go_at_call 24; refine (HWC.out _).mono ?_; rintro _ w' ⟨rfl, rfl⟩) | (with_reducible refine wpList_convStr (l := y.take m) rfl rfl Tryd.underlying53 Tryd.underlying5 Tryd.underlying9 rfl RD.out ?_))
        clear hap
        generalize y.take m ++ more = X at *
        cases R with
        | none =>
          go_upto_region 17 with (go_at_call 26; refine HP.out.mono ?_)
          rintro _ w8 ⟨b8, rfl⟩
          go_upto_region 17 with fail
          go_upto_region 18 with (go_at_call 27; refine (HX.out _).mono ?_)
          rintro _ w9 ⟨b9, rfl⟩
          have HB9 := Lib.hid (HBR.out.trans ((b8.trans (b9.mono b8.size)).mono hz8))
          have HS := Lib.hid (sameHunks_refl [] none none 0 0 w9.heap.size w9 (HII.nil_ _ _ _) (HII.nil_ _ _ _) (by decide) (fun _ h => by cases h))
          go_upto_region 18 with fail
          go_wp2_with (go_at_call 15; refine HS.out.mono ?_)
          rintro _ _ ⟨rfl, k, rfl⟩
          go_wp2_with fail
          go_ret
          exact ⟨rfl, bdrew HB9.out HB9.out.size k⟩
        | some q =>
          obtain ⟨q1, q2⟩ := HRM.out q rfl
          go_upto_region 17 with (go_at_call 26; refine HP.out.mono ?_)
          rintro _ w8 ⟨b8, A8, c8, rfl, i8⟩
          go_upto_region 17 with fail
          go_upto_region 18 with (go_at_call 27; refine (HX.out _).mono ?_)
          rintro _ w9 ⟨b9, A9, c9, rfl, i9⟩
          have HB9 := Lib.hid (HBR.out.trans ((b8.trans (b9.mono b8.size)).mono hz8))
          have HS := Lib.hid (sameHunks_refl q A8 A9 c8 c9 w9.heap.size w9 ((i8.below b9).more b9.size) i9 (by omega) (i9.small q2))
          clear i8 i9
          go_upto_region 18 with fail
          go_wp2_with (go_at_call 15; refine HS.out.mono ?_)
          rintro _ _ ⟨rfl, k, rfl⟩
          go_wp2_with fail
          go_ret
          exact ⟨rfl, bdrew HB9.out HB9.out.size k⟩
set_option maxRecDepth 100000 in
theorem patchTurns_reads (os : Os) {H : Type} (enc : TypeId × Value → H) : DataW.whole enc Tryd.prog ((World.doorLaid Tryd.prog 400 os).forCall (fun _ _ => 0) ⟨#[], #[.slice none 0 0, .slice none 0 0, .int .i64 0, .slice none 0 0, .slice none 0 0, .int .i64 0, .string ⟨#[]⟩], []⟩).memory Tryd.f9.params.toList Rows.patchTurnsSpec.vars false (#[.slice none 0 0, .slice none 0 0, .int .i64 0, .slice none 0 0, .slice none 0 0, .int .i64 0, .string ⟨#[]⟩] : Array Value).toList 8 = some ([.nil, .nil, .lit (.int .i64 0), .nil, .nil, .lit (.int .i64 0), .lit (.string [])], [], []) := by kernel_rfl
set_option maxRecDepth 100000 in
theorem patchTurns_lifted (os : Os) (started : os.Started) (H : Type) (enc : TypeId × Value → H) (F : Stop.Interp) :
    ReturnsInHanded {} Tryd.checked os 9 .any ((Rows.OpenSpec.upto Rows.patchTurnsSpec).preRow enc Tryd.prog Tryd.f9 Rows.patchTurnsUptoRow.domain false Rows.patchTurnsUptoRow.laid) (((Rows.OpenSpec.upto Rows.patchTurnsSpec).at F).post enc Tryd.prog Tryd.f9 false true false false) := by
  refine returnsInHanded_of_row (C := Tryd.checked) (s := Rows.OpenSpec.upto Rows.patchTurnsSpec) own started (by kernel_rfl) Tryd.func9
    (witness_row_at (enc := enc) (C := Tryd.checked) false (World.doorLaid Tryd.prog 400 os) #[.slice none 0 0, .slice none 0 0, .int .i64 0, .slice none 0 0, .slice none 0 0, .int .i64 0, .string ⟨#[]⟩] rfl (by kernel_rfl) (by kernel_rfl) (by kernel_rfl)
      (OpenSpec.preRow_of_cond 8 (patchTurns_reads os enc) (by kernel_rfl) (fun k hk => by cases hk; kernel_rfl) (by kernel_rfl) (door_met5 os _))) ?_
  intro W base args ds gs before hval0 hW hx1 hcond hx3 hL hx4 hx5
  have hval : ∀ (j : Nat) t v, Tryd.f9.params[j]? = some t → args[j]? = some v → Value.okWide Tryd.prog W .any base t v := hval0
  have hW' := hW
  obtain ⟨p, q, hA0, hV, rfl, hfz, hnd⟩ := hW
  have hA : DataW.TrodAll enc Tryd.prog W 0 (fun _ => true) true Tryd.f9.params.toList args.toList ds p := hA0
  rw [Tryd.params9] at hA hval
  obtain ⟨v0, vs0, d0, ds0, p0, q0, hargs, rfl, rfl, h0, r0⟩ := trodAll_cons hA
  obtain ⟨v1, vs1, d1, ds1, p1, q1, rfl, rfl, rfl, h1, r1⟩ := trodAll_cons r0
  obtain ⟨v2, vs2, d2, ds2, p2, q2, rfl, rfl, rfl, h2, r2⟩ := trodAll_cons r1
  obtain ⟨v3, vs3, d3, ds3, p3, q3, rfl, rfl, rfl, h3, r3⟩ := trodAll_cons r2
  obtain ⟨v4, vs4, d4, ds4, p4, q4, rfl, rfl, rfl, h4, r4⟩ := trodAll_cons r3
  obtain ⟨v5, vs5, d5, ds5, p5, q5, rfl, rfl, rfl, h5, r5⟩ := trodAll_cons r4
  obtain ⟨v6, vs6, d6, ds6, p6, q6, rfl, rfl, rfl, h6, r6⟩ := trodAll_cons r5
  obtain ⟨rfl, rfl, rfl⟩ := trodAll_nil r6
  obtain rfl : args = #[v0, v1, v2, v3, v4, v5, v6] := by cases args; simp_all
  obtain ⟨rfl, rfl⟩ := trodVars_none hV
  have k0 := h0
  have lt0 : ∀ x ∈ p0, x.block < W.heap.size := by obtain ⟨m, hm⟩ := k0; exact DataW.trod_lt m _ _ _ hm
  have k1 := h1
  have lt1 : ∀ x ∈ p1, x.block < W.heap.size := by obtain ⟨m, hm⟩ := k1; exact DataW.trod_lt m _ _ _ hm
  have k2 := h2
  have lt2 : ∀ x ∈ p2, x.block < W.heap.size := by obtain ⟨m, hm⟩ := k2; exact DataW.trod_lt m _ _ _ hm
  have k3 := h3
  have lt3 : ∀ x ∈ p3, x.block < W.heap.size := by obtain ⟨m, hm⟩ := k3; exact DataW.trod_lt m _ _ _ hm
  have k4 := h4
  have lt4 : ∀ x ∈ p4, x.block < W.heap.size := by obtain ⟨m, hm⟩ := k4; exact DataW.trod_lt m _ _ _ hm
  have k5 := h5
  have lt5 : ∀ x ∈ p5, x.block < W.heap.size := by obtain ⟨m, hm⟩ := k5; exact DataW.trod_lt m _ _ _ hm
  have k6 := h6
  have lt6 : ∀ x ∈ p6, x.block < W.heap.size := by obtain ⟨m, hm⟩ := k6; exact DataW.trod_lt m _ _ _ hm
  have hbd := Nat.le_trans (Nat.le_refl _) (of_decide_eq_true (hcond _ rfl))
  simp only [Rows.uptoBulkAll, List.append_nil] at hbd
  obtain ⟨a0, len0, cap0, rfl⟩ := okWide_slice Tryd.underlying22 (hval 0 22 v0 rfl rfl)
  obtain ⟨l0, hl0, hr0, hc0, hm0, hn0, hs0⟩ := opened_strs (N := 1048576) h0 (by omega)
  subst hl0
  obtain ⟨a1, len1, cap1, rfl⟩ := okWide_slice Tryd.underlying22 (hval 1 22 v1 rfl rfl)
  obtain ⟨l1, hl1, hr1, hc1, hm1, hn1, hs1⟩ := opened_strs (N := 1048576) h1 (by omega)
  subst hl1
  obtain ⟨f2, rfl, _, _, w2⟩ := open_int Tryd.underlying3 (hval 2 3 v2 rfl rfl) h2
  obtain ⟨a3, len3, cap3, rfl⟩ := okWide_slice Tryd.underlying52 (hval 3 52 v3 rfl rfl)
  obtain ⟨l3, hl3, hr3, hc3, hm3⟩ := opened_ints h3
  subst hl3
  obtain ⟨a4, len4, cap4, rfl⟩ := okWide_slice Tryd.underlying53 (hval 4 53 v4 rfl rfl)
  obtain ⟨l4, hl4, hr4, hc4, hm4⟩ := opened_bytes h4
  subst hl4
  obtain ⟨f5, rfl, _, _, w5⟩ := open_int Tryd.underlying3 (hval 5 3 v5 rfl rfl) h5
  obtain ⟨l6, rfl, hn6⟩ := opened_string (N := 1048576) (hval 6 9 v6 rfl rfl) h6 (by omega)
  clear hA0 hval0
  refine (turns_law l0 l1 a0 a1 cap0 cap1 f2 l3 a3 cap3 l4 a4 cap4 f5 l6 W hr0 hn0 hs0 hr1 hn1 hs1 hr3 hr4 hn6 (vars_of_laid5 hL hx4) (tab_of_laid5 hL)).mono fun e W' ⟨he, bel⟩ => ?_
  subst he
  exact ⟨_, rfl, _, _, _, [], _, [], hW', trodAll_mk1 (shut_bool Tryd.underlying4 _), (trodAll_cons_mk (Below.trod laidOut (by kernel_rfl) (of_decide_eq_true (by kernel_rfl)) k0 bel lt0) (trodAll_cons_mk (Below.trod laidOut (by kernel_rfl) (of_decide_eq_true (by kernel_rfl)) k1 bel lt1) (trodAll_cons_mk (Below.trod laidOut (by kernel_rfl) (of_decide_eq_true (by kernel_rfl)) k2 bel lt2) (trodAll_cons_mk (Below.trod laidOut (by kernel_rfl) (of_decide_eq_true (by kernel_rfl)) k3 bel lt3) (trodAll_cons_mk (Below.trod laidOut (by kernel_rfl) (of_decide_eq_true (by kernel_rfl)) k4 bel lt4) (trodAll_cons_mk (Below.trod laidOut (by kernel_rfl) (of_decide_eq_true (by kernel_rfl)) k5 bel lt5) (trodAll_cons_mk (Below.trod laidOut (by kernel_rfl) (of_decide_eq_true (by kernel_rfl)) k6 bel lt6) trodAll_mk0))))))), rfl, bel.frame _, fun h => by cases h⟩
theorem patchTurns_said : Rows.PatchTurnsUptoSaid :=
  OpenClaim.holds_of_cond 9 Tryd.f9 rfl rfl rfl rfl rfl rfl rfl ⟨rfl, rfl, rfl, rfl, rfl⟩ rfl rfl rfl rfl rfl (by kernel_rfl) Tryd.func9 (by kernel_rfl)
    (of_decide_eq_true (by kernel_rfl)) (by unfold Func.isWrapper; first | (rw [if_pos (by decide +kernel)]; kernel_rfl) | (rw [if_neg (by decide +kernel)]; exact ⟨rfl, rfl⟩))
    (fun os started H enc _ F => by rw [OpenClaim.pre_eq_preRow]; exact patchTurns_lifted os started H enc F)
theorem patchTurns_plain (f : FuncId) (fn : Func) (hf : Tryd.pinned.checked.prog.funcNamed "selvage/selvagelaw13.PatchTurns" = some f) (hfn : Tryd.pinned.checked.prog.funcs[f]? = some fn) :
    true = Tryd.pinned.checked.prog.looks [] ∧ ∀ (j : Nat) t, fn.params[j]? = some t → Tryd.pinned.checked.prog.wantsStandIn t = false := by
  obtain rfl : f = 9 := Option.some.inj ((show Tryd.prog.funcNamed "selvage/selvagelaw13.PatchTurns" = some 9 by kernel_rfl).symm.trans hf) |>.symm
  obtain rfl : fn = Tryd.f9 := (Option.some.inj (Tryd.func9.symm.trans hfn)).symm
  refine ⟨by kernel_rfl, fun j t ht => ?_⟩
  rw [Tryd.params9] at ht
  have hm := Array.mem_of_getElem? ht
  simp only [Array.mem_toList_iff.symm, List.mem_cons, List.not_mem_nil, or_false] at hm
  rcases hm with rfl | rfl | rfl | rfl | rfl | rfl | rfl
  · exact (show Tryd.prog.wantsStandIn 22 = false by kernel_rfl)
  · exact (show Tryd.prog.wantsStandIn 22 = false by kernel_rfl)
  · exact (show Tryd.prog.wantsStandIn 3 = false by kernel_rfl)
  · exact (show Tryd.prog.wantsStandIn 52 = false by kernel_rfl)
  · exact (show Tryd.prog.wantsStandIn 53 = false by kernel_rfl)
  · exact (show Tryd.prog.wantsStandIn 3 = false by kernel_rfl)
  · exact (show Tryd.prog.wantsStandIn 9 = false by kernel_rfl)
theorem patchTurns_holds : Rows.PatchTurnsUptoCardSaid :=
  Claim7.holds_tied_plain_at .later [] _ _ _ _ patchTurns_said (fun _ h => by cases h) (by kernel_rfl) (fun _ h => by cases h) patchTurnsUpto_row_tie rfl ⟨rfl, rfl⟩ (by kernel_rfl) rfl patchTurns_plain (by kernel_rfl)
#print axioms patchTurns_holds
end Go.Proofs.YtlcidbbpjlpmjaaDoor
