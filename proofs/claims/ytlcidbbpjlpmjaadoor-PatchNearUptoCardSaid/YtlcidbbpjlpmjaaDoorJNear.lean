/-
  PatchNear: the walk of the law, its row, its card (second form).
  Joined of: Laid, Te, Rm, Nd, Ng, Nw, LawNear.
-/
import Derived.Test.YtlcidbbpjlpmjaaDoorRows
import Derived.Test.YtlcidbbpjlpmjaaDoorOwn
import Derived.LaidMore
import Derived.LaidSub
import Derived.Lib.LaidTab
import Derived.Lib.ItoaNum
import Derived.ProofKit
import Derived.OpenShut
import Derived.Deep.DeepHandedRow
import Derived.Test.YtlcidbbpjlpmjaaDoorQw
import Derived.Test.YtlcidbbpjlpmjaaDoorRj
import Derived.Lib.ItoaLen
import Derived.Test.YtlcidbbpjlpmjaaDoorQd2
import Derived.Test.YtlcidbbpjlpmjaaDoorRl
import Derived.Test.YtlcidbbpjlpmjaaDoorRp
import Derived.Test.YtlcidbbpjlpmjaaDoorRq
import Derived.Test.YtlcidbbpjlpmjaaDoorQu
import Derived.Test.YtlcidbbpjlpmjaaDoorTf
import Derived.Test.YtlcidbbpjlpmjaaDoorCards
import Derived.Test.YtlcidbbpjlpmjaaDoorTie
import Derived.SevenTiedAt
namespace Go.Proofs.YtlcidbbpjlpmjaaDoor
open Go.ChangeShapes Go.WideShapes Go.ChangeAt Go.RowKit
def laid3 : List (String × DataW Unit) := [("math/bits.deBruijn32tab", Rows.laid_math_bits_deBruijn32tab), ("math/bits.deBruijn64tab", Rows.laid_math_bits_deBruijn64tab), ("internal/strconv.uint64pow10", Rows.laid_internal_strconv_uint64pow10)]
theorem own : ownKnob Tryd.prog.godebug = none := by kernel_rfl
theorem laidOut : laidOutB Tryd.prog = true := by kernel_rfl
theorem tab_of_laid {W : World} (h : laidMetH Tryd.prog laid3 W) : Lib.TabIs Tryd.prog W "internal/strconv.uint64pow10" .u64 Lib.pow10Tab := by
  have h3 := h.filter (fun x => x.1 == "internal/strconv.uint64pow10")
  exact Lib.tabIs_of_head (rest := []) (k := .u64) (zs := Lib.pow10Tab) (P := Tryd.prog) (W := W) (name := "internal/strconv.uint64pow10") (g := 1) (t := 135) (e := 121) (n := 20) (by kernel_rfl) (by kernel_rfl) Tryd.underlying135 Tryd.underlying121 (by kernel_rfl) (by kernel_rfl) h3
theorem door_met3 (os : Os) (args : Array Value) : laidMet Tryd.prog laid3 ((World.doorLaid Tryd.prog 400 os).forCall (fun _ _ => 0) ⟨#[], args, []⟩).memory :=
  laidMet_of_run' 8 (by kernel_rfl) (by kernel_rfl)
end Go.Proofs.YtlcidbbpjlpmjaaDoor
namespace Go.Proofs.YtlcidbbpjlpmjaaDoor
open Go.RowKit

def sum20 (l : List (List UInt8)) : Nat := (l.map fun s => s.length / 20).sum
def fewN (l : List (List UInt8)) : Nat := l.length + sum20 (l.take 200)
theorem sum20_next {l : List (List UInt8)} {k : Nat} {s : List UInt8} (h : l[k]? = some s) : sum20 (l.take (k + 1)) = sum20 (l.take k) + s.length / 20 := by
  obtain ⟨hlt, he⟩ := List.getElem?_eq_some_iff.1 h
  rw [List.take_succ_eq_append_getElem hlt, he]
  simp [sum20]
theorem sum20_le {l : List (List UInt8)} {M : Nat} (h : ∀ s ∈ l, s.length ≤ M) : sum20 l ≤ l.length * M := by
  induction l with
  | nil => simp [sum20]
  | cons x l ih =>
    have h1 := ih (fun s hs => h s (List.mem_cons_of_mem _ hs))
    have h2 := h x List.mem_cons_self
    have h3 := Nat.div_le_self x.length 20
    simp only [sum20, List.map_cons, List.sum_cons, List.length_cons, Nat.add_mul, Nat.one_mul] at h1 ⊢
    omega
theorem fewN_len {l : List (List UInt8)} (h : fewN l < 120) : l.length < 120 := by unfold fewN at h; omega
set_option maxHeartbeats 1000000 in
set_option maxRecDepth 100000 in
theorem few_any (l : List (List UInt8)) (A : Option Addr) (c B : Nat) (w : World) (hr : Reads w B 1 A l.length (strL l)) (hl : l.length ≤ 1048576) (hls : ∀ s ∈ l, s.length ≤ 1048576) :
    Calls Tryd.prog 12 #[.slice A l.length c] w fun r w' => r = .returned (.bool (decide (fewN l < 120))) ∧ ∃ n, w' = w.drewN n := by
  go_enter Tryd.func12, Tryd.ntmps12
  go_wp2_with fail
  go_loopw [3, 4] (fun s3 s4 wr => ∃ k n : Nat, k ≤ l.length ∧ k ≤ 200 ∧ s3 = .int .i64 (l.length + sum20 (l.take k) : Nat) ∧ s4 = .int .i64 (k : Nat) ∧ wr = w.drewN n) (fun _ s4 _ => l.length - (intOf s4).toNat)
  case atStart => exact ⟨0, 0, Nat.zero_le _, Nat.zero_le _, by simp [sum20], rfl, rfl⟩
  case round =>
    obtain ⟨k, n, hk, hk2, rfl, rfl, rfl⟩ := hrel
    have hs := sum20_le (l := l.take k) (M := 1048576) (fun s hs => hls s (List.mem_of_mem_take hs))
    have hs2 : (l.take k).length ≤ 200 := by rw [List.length_take]; omega
    have hs3 : sum20 (l.take k) ≤ 209715200 := by
      have := Nat.mul_le_mul_right 1048576 hs2
      omega
    clear hs hs2
    by_cases hlt : k < l.length
    · have hi1 : (k : Int) < (l.length : Int) := by omega
      by_cases h2 : k < 200
      · obtain ⟨x, hx⟩ : ∃ x, l[k]? = some x := ⟨_, List.getElem?_eq_getElem hlt⟩
        obtain ⟨g1, o1, rfl, _, hc1⟩ := hr.at0 (by omega) (by omega)
        have d1 := hc1 _ _ (strL_at' hx)
        unfold strC at d1
        have hxl := hls x (List.mem_of_getElem? hx)
        have HN := Lib.hid (sum20_next hx)
        have hi0 : (0 : Int) ≤ (k : Int) := Int.natCast_nonneg _
        have hi2 : (k : Int) < 200 := by omega
        clear hc1 hx
        generalize sum20 (l.take k) = S at *
        go_upto_region 4 with fail
        go_wp2_with fail
        go_roundw
        case rel => exact ⟨k + 1, n, by omega, by omega, by rw [HN.out]; go_num, by go_num, rfl⟩
        case measure => simp [intOf]; omega
      · obtain rfl : k = 200 := by omega
        have HF := Lib.hid (show fewN l = l.length + sum20 (l.take 200) from rfl)
        generalize sum20 (l.take 200) = S at *
        go_wp2_with fail
        go_ret
        exact ⟨by rw [HF.out, show decide (l.length + S < 120) = decide ((l.length : Int) + (S : Int) < 120) from decide_eq_decide.2 (by omega)]; rfl, n, rfl⟩
    · obtain rfl : k = l.length := by omega
      have HF := Lib.hid (show fewN l = l.length + sum20 (l.take l.length) from by unfold fewN; rw [List.take_of_length_le (by omega), List.take_length])
      generalize sum20 (l.take l.length) = S at *
      go_wp2_with fail
      go_ret
      exact ⟨by rw [HF.out, show decide (l.length + S < 120) = decide ((l.length : Int) + (S : Int) < 120) from decide_eq_decide.2 (by omega)]; rfl, n, rfl⟩
end Go.Proofs.YtlcidbbpjlpmjaaDoor
namespace Go.Proofs.YtlcidbbpjlpmjaaDoor
open Go.RowKit

theorem revStep_len (s : RevD) (e : EdD) (x : List (List UInt8)) : (revStep s e x).h.eds.length ≤ s.h.eds.length + 3 ∧ (revStep s e x).h.ls.length + (revStep s e x).gone.length + (revStep s e x).come.length = s.h.ls.length + s.gone.length + s.come.length + x.length := by
  unfold revStep
  obtain ⟨f1, f2⟩ := flushR_len s
  obtain ⟨p1, p2⟩ := putH_len (flushR s) 0 x
  split
  · simp only [List.length_nil]; omega
  · split
    · simp only [List.length_append]; omega
    · simp only [List.length_append]; omega
theorem revL_len : ∀ (l : List EdD) (row : List (List UInt8)) (s : RevD), (revL l row s).h.eds.length ≤ s.h.eds.length + 3 * l.length ∧ (revL l row s).h.ls.length + (revL l row s).gone.length + (revL l row s).come.length ≤ s.h.ls.length + s.gone.length + s.come.length + row.length
  | [], row, s => by simp [revL]
  | e :: l, row, s => by
    rw [revL]
    obtain ⟨a1, a2⟩ := revL_len l (row.drop e.n) (revStep s e (row.take e.n))
    obtain ⟨b1, b2⟩ := revStep_len s e (row.take e.n)
    simp only [List.length_take, List.length_drop, List.length_cons] at *
    omega
theorem back_len (h : HkD) : (backP h).eds.length ≤ 3 * h.eds.length + 2 ∧ (backP h).ls.length ≤ h.ls.length := by
  obtain ⟨a1, a2⟩ := revL_len h.eds h.ls ⟨newH h.b h.a, [], []⟩
  unfold backP
  obtain ⟨f1, f2⟩ := flushR_len (revL h.eds h.ls ⟨newH h.b h.a, [], []⟩)
  have n1 : (newH h.b h.a).eds.length = 0 := rfl
  have n2 : (newH h.b h.a).ls.length = 0 := rfl
  simp only [List.length_nil] at a1 a2
  omega
theorem linesT_len {op : Int} {N : Nat} : ∀ {l : List (List UInt8)}, (∀ s ∈ l, s.length ≤ N) → (linesT op l).length ≤ l.length * (N + 4)
  | [], _ => by simp [linesT]
  | s :: l, h => by
    have h1 := linesT_len (op := op) (l := l) fun t ht => h t (List.mem_cons_of_mem _ ht)
    have h2 := h s List.mem_cons_self
    have h3 : (tailT s).length ≤ 3 := by unfold tailT; split <;> simp [lacks]
    unfold linesT at h1 ⊢
    rw [List.flatMap_cons, List.length_append, List.length_cons, Nat.succ_mul]
    simp only [lineT, List.length_cons, List.length_append]
    omega
theorem bodyT_len {N : Nat} : ∀ {eds : List EdI} {ls : List (List UInt8)}, (∀ s ∈ ls, s.length ≤ N) → (bodyT eds ls).length ≤ ls.length * (N + 4)
  | [], ls, _ => by simp [bodyT]
  | e :: eds, ls, h => by
    rw [bodyT, List.length_append]
    have h1 := linesT_len (op := e.op) (l := ls.take e.n.toNat) fun s hs => h s (List.mem_of_mem_take hs)
    have h2 := bodyT_len (eds := eds) (ls := ls.drop e.n.toNat) fun s hs => h s (List.mem_of_mem_drop hs)
    have h3 : (ls.take e.n.toNat).length + (ls.drop e.n.toNat).length = ls.length := by
      rw [← List.length_append, List.take_append_drop]
    have h4 : (ls.take e.n.toNat).length * (N + 4) + (ls.drop e.n.toNat).length * (N + 4) = ls.length * (N + 4) := by
      rw [← Nat.add_mul, h3]
    omega
theorem hkT_len {N : Nat} {h : HkI} (h2 : h.ls.length ≤ N) (h3 : ∀ s ∈ h.ls, s.length ≤ N) (hN : N ≤ 1048576) : (hkT h).length ≤ 200 + h.ls.length * (N + 4) := by
  unfold hkT
  cases hm : mayP h with
  | none => simp
  | some c =>
    simp only
    obtain ⟨hE, hall, _, hpl, hlin⟩ := mayP_eds hm
    obtain ⟨p1, p2, p3, p4⟩ := places_le hpl
    have hb := bodyT_len (eds := h.eds) h3
    have hs : c.k + c.d ≤ 1048576 ∧ c.k + c.n ≤ 1048576 := by unfold Cnt.all at hall; omega
    have i1 := Lib.itoa_length_le h.a (by omega) (by omega)
    have i2 := Lib.itoa_length_le h.b (by omega) (by omega)
    have i3 := Lib.itoa_length_le ((c.k + c.d : Nat) : Int) (by omega) (by omega)
    have i4 := Lib.itoa_length_le ((c.k + c.n : Nat) : Int) (by omega) (by omega)
    unfold headT
    simp only [List.length_append, List.length_cons, List.length_nil]
    omega
/-- A row of the call's own, of hunks whose rows stand below B. -/
def HM (w : World) (z B : Nat) (A : Option Addr) (cp : Nat) (hs : List HkI) : Prop := ∃ tv : List (Value × Value), tv.length = hs.length ∧ Own w z 38 4 A hs.length cp (hkIs hs tv) ∧ ∀ (k : Nat) x y u, hs[k]? = some x → tv[k]? = some (y, u) → RowsI w B x y u
theorem HM.nil (w : World) (z B : Nat) : HM w z B none 0 [] := ⟨[], rfl, Own.nil _ _ _ _, by simp⟩
theorem RowsI.below {w w' : World} {B : Nat} {h : HkI} {ev lv : Value} (hr : RowsI w B h ev lv) (hb : Below B w w') : RowsI w' B h ev lv := hr.keep fun _ hp => hb.cell hp
theorem HM.below {w w' : World} {z B : Nat} {A : Option Addr} {cp : Nat} {hs : List HkI} (h : HM w z B A cp hs) (hB : B ≤ w.heap.size) (hb : Below w.heap.size w w') : HM w' z B A cp hs := by
  obtain ⟨tv, h1, h2, h3⟩ := h
  exact ⟨tv, h1, h2.below hb, fun k x y u e1 e2 => (h3 k x y u e1 e2).below (hb.mono hB)⟩
theorem HM.reads {w : World} {z B : Nat} {A : Option Addr} {cp : Nat} {hs : List HkI} (h : HM w z B A cp hs) (hB : B ≤ w.heap.size) : HII w w.heap.size A hs := by
  obtain ⟨tv, h1, h2, h3⟩ := h
  refine ⟨tv, h1, h2.reads, fun k x y u e1 e2 => ?_⟩
  obtain ⟨A, c, A', c', q1, q2, q3, q4, q5, q6, q7⟩ := h3 k x y u e1 e2
  exact ⟨A, c, A', c', q1, q2, q3, q4, q5, q6.more hB, q7.more hB⟩
theorem hkIs_snoc {hs : List HkI} {tv : List (Value × Value)} (h : tv.length = hs.length) (x : HkI) (ev lv : Value) : hkIs (hs ++ [x]) (tv ++ [(ev, lv)]) = hkIs hs tv ++ hkI x ev lv := by
  unfold hkIs
  rw [List.zip_append h.symm, List.flatMap_append]
  simp
theorem HM.push {w w2 : World} {z B : Nat} {A1 : Option Addr} {c1 : Nat} {hs : List HkI} {tv : List (Value × Value)} {x : HkI} {ev lv : Value} (hB : B ≤ z) (hz : z ≤ w.heap.size) (hl : tv.length = hs.length) (hr : ∀ (k : Nat) x y u, hs[k]? = some x → tv[k]? = some (y, u) → RowsI w B x y u)
    (hx : RowsI w B x ev lv) (hk : Kept z [38] [] w w2) (ho : Own w2 z 38 4 A1 (hs.length + 1) c1 (hkIs hs tv ++ hkI x ev lv)) : HM w2 z B A1 c1 (hs ++ [x]) := by
  have hb : Below B w w2 := hk.below hB (by omega) (by simp)
  refine ⟨tv ++ [(ev, lv)], by simp [hl], ?_, fun k u y v h1 h2 => ?_⟩
  · rw [hkIs_snoc hl]
    simpa using ho
  · rcases Nat.lt_or_ge k hs.length with q | q
    · rw [List.getElem?_append_left q] at h1
      rw [List.getElem?_append_left (by omega)] at h2
      exact (hr k u y v h1 h2).below hb
    · rw [List.getElem?_append_right q] at h1
      rw [List.getElem?_append_right (by omega), hl] at h2
      have h0 : k - hs.length = 0 := by
        rcases Nat.eq_zero_or_pos (k - hs.length) with q | q
        · exact q
        · rw [List.getElem?_eq_none (by simp; omega)] at h1; cases h1
      rw [h0] at h1 h2
      simp only [List.getElem?_cons_zero, Option.some.injEq, Prod.mk.injEq] at h1 h2
      obtain ⟨rfl, rfl⟩ := h2
      subst h1
      exact hx.below hb
/-- One hunk cut out of a row. -/
theorem HII.one {w : World} {B g off : Nat} {l : List HkI} (h : HII w B (some ⟨g, off, none⟩) l) {k : Nat} {x : HkI} (hx : l[k]? = some x) : HII w B (some ⟨g, off + k * 4, none⟩) [x] ∧ ∃ ev lv, RowsI w B x ev lv ∧ ∀ W, Below B w W → (Instr.loadAt 38 (.pointer (some ⟨g, off + k * 4, none⟩))).run Tryd.prog W = .ok (.agg #[.int .i64 x.a, .int .i64 x.b, ev, lv]) W := by
  obtain ⟨tv, h1, h2, h3⟩ := h
  have hlt : k < l.length := (List.getElem?_eq_some_iff.1 hx).1
  obtain ⟨⟨y, z⟩, hy⟩ : ∃ y, tv[k]? = some y := ⟨_, List.getElem?_eq_getElem (by omega)⟩
  have hr := h3 k x y z hx hy
  obtain ⟨g', off', hA, hg, hc⟩ := h2.at0 (by omega) (by omega)
  injection hA with hA
  injection hA with q1 q2
  subst q1 q2
  refine ⟨⟨[(y, z)], rfl, ⟨rfl, fun _ => ⟨_, rfl, hg, fun j u hj => ?_⟩⟩, fun j a b c e1 e2 => ?_⟩, y, z, hr, fun W hb => ?_⟩
  · rw [add_at]
    have hj' : (hkI x y z)[j]? = some u := by simpa [hkIs] using hj
    have := hc _ _ (hkIs_at hx hy j u hj')
    rwa [← Nat.add_assoc] at this
  · cases j with
    | zero =>
      simp only [List.getElem?_cons_zero, Option.some.injEq, Prod.mk.injEq] at e1 e2
      obtain ⟨rfl, rfl⟩ := e2
      subst e1
      exact hr
    | succ j => simp at e1
  · refine run_loadAt_cells W _ #[.int .i64 x.a, .int .i64 x.b, y, z] Tryd.underlying38 rfl info_hunk (fun j v hj => ?_)
    rw [add_at, hb.cell hg]
    have hj' : (hkI x y z)[j]? = some v := by simpa [hkI] using hj
    have := hc _ _ (hkIs_at hx hy j v hj')
    rwa [← Nat.add_assoc] at this
end Go.Proofs.YtlcidbbpjlpmjaaDoor
namespace Go.Proofs.YtlcidbbpjlpmjaaDoor

/-- At most k edits, k rows of M lines; each line out of a or b. -/
def HkB (a b : List (List UInt8)) (M k : Nat) (h : HkD) : Prop := h.eds.length ≤ k ∧ h.ls.length ≤ k * M ∧ ∀ s ∈ h.ls, s ∈ a ∨ s ∈ b
theorem HkB.mono {a b : List (List UInt8)} {M k k' : Nat} {h : HkD} (x : HkB a b M k h) (hk : k ≤ k') : HkB a b M k' h :=
  ⟨Nat.le_trans x.1 hk, Nat.le_trans x.2.1 (Nat.mul_le_mul_right _ hk), x.2.2⟩
theorem HkB.put {a b : List (List UInt8)} {M k op : Nat} {h : HkD} {l : List (List UInt8)} (x : HkB a b M k h) (h1 : l.length ≤ M) (h2 : ∀ s ∈ l, s ∈ a ∨ s ∈ b) : HkB a b M (k + 1) (putH h op l) := by
  unfold putH
  split
  · exact x.mono (Nat.le_succ _)
  · obtain ⟨x1, x2, x3⟩ := x
    refine ⟨by simp; omega, by simp only [List.length_append]; rw [Nat.succ_mul]; omega, fun s hs => ?_⟩
    simp only [List.mem_append] at hs
    rcases hs with hs | hs
    · exact x3 s hs
    · exact h2 s hs
theorem HkB.putL {a b : List (List UInt8)} {M k op : Nat} {out : List HkD} {l : List (List UInt8)} (x : ∀ h ∈ out, HkB a b M k h) (h1 : l.length ≤ M) (h2 : ∀ s ∈ l, s ∈ a ∨ s ∈ b) : ∀ h ∈ putL out op l, HkB a b M (k + 1) h := by
  rcases List.eq_nil_or_concat out with rfl | ⟨r, e, rfl⟩
  · intro h hh; simp [Proofs.YtlcidbbpjlpmjaaDoor.putL] at hh
  · rw [List.concat_eq_append] at x ⊢
    rw [putL_snoc]
    intro h hh
    rw [List.mem_append, List.mem_singleton] at hh
    rcases hh with hh | rfl
    · exact (x h (by simp [hh])).mono (Nat.le_succ _)
    · exact (x e (by simp)).put h1 h2
theorem cut_in {a b : List (List UInt8)} {i n M : Nat} (h : a.length ≤ M) : ((a.drop i).take n).length ≤ M ∧ ∀ s ∈ (a.drop i).take n, s ∈ a ∨ s ∈ b :=
  ⟨by rw [List.length_take, List.length_drop]; omega, fun _ hs => .inl (List.mem_of_mem_drop (List.mem_of_mem_take hs))⟩
theorem cut_in' {a b : List (List UInt8)} {i n M : Nat} (h : b.length ≤ M) : ((b.drop i).take n).length ≤ M ∧ ∀ s ∈ (b.drop i).take n, s ∈ a ∨ s ∈ b :=
  ⟨by rw [List.length_take, List.length_drop]; omega, fun _ hs => .inr (List.mem_of_mem_drop (List.mem_of_mem_take hs))⟩
section
variable {a b : List (List UInt8)} {M : Nat} (ha : a.length ≤ M) (hb : b.length ≤ M) (ar : Nat)
theorem HkB.begin (ha : a.length ≤ M) (ar : Nat) {c : CutD} {k : Nat} (x : ∀ h ∈ c.out, HkB a b M k h) : ∀ h ∈ (beginP a ar c).out, HkB a b M (k + 1) h := by
  unfold beginP
  split
  · exact fun h hh => (x h hh).mono (Nat.le_succ _)
  · intro h hh
    simp only [List.mem_append, List.mem_singleton] at hh
    rcases hh with hh | rfl
    · exact (x h hh).mono (Nat.le_succ _)
    · have := cut_in (b := b) (i := c.i - min ar c.uns) (n := min ar c.uns) ha
      exact (HkB.put (k := 0) (h := ⟨c.i - min ar c.uns, c.j - min ar c.uns, [], []⟩) ⟨by simp, by simp, by simp⟩ this.1 this.2).mono (by omega)
include ha hb in
theorem HkB.edit {c : CutD} {e : EdD} {last : Bool} {k : Nat} (x : ∀ h ∈ c.out, HkB a b M k h) : ∀ h ∈ (editP a b ar c e last).out, HkB a b M (k + 2) h := by
  unfold editP
  split
  · split
    · have := cut_in (b := b) (i := c.i) (n := e.n) ha
      exact fun h hh => (HkB.putL x this.1 this.2 h hh).mono (by omega)
    · split
      · have := cut_in (b := b) (i := c.i) (n := min ar e.n) ha
        exact fun h hh => (HkB.putL x this.1 this.2 h hh).mono (by omega)
      · exact fun h hh => (x h hh).mono (by omega)
  · split
    · have := cut_in (b := b) (i := c.i) (n := e.n) ha
      exact HkB.putL (HkB.begin ha ar x) this.1 this.2
    · have := cut_in' (a := a) (i := c.j) (n := e.n) hb
      exact HkB.putL (HkB.begin ha ar x) this.1 this.2
include ha hb in
theorem HkB.edits : ∀ (l : List EdD) (c : CutD) (k : Nat), (∀ h ∈ c.out, HkB a b M k h) → ∀ h ∈ (editsP a b ar c l).out, HkB a b M (k + 2 * l.length) h
  | [], _, _, x => x
  | e :: l, c, k, x => by
    rw [editsP]
    intro h hh
    exact (HkB.edits l _ _ (HkB.edit ha hb ar x) h hh).mono (by simp; omega)
include ha hb in
theorem hunksP_small : ∀ h ∈ hunksP a b ar, HkB a b M (4 * M) h := by
  intro h hh
  have := HkB.edits ha hb ar (diffP a b) ⟨0, 0, [], false, 0⟩ 0 (by simp) h hh
  have hd := (diffP_of a b).2.2.2
  exact this.mono (by omega)
theorem editsP_len : ∀ (l : List EdD) (c : CutD), (editsP a b ar c l).out.length ≤ c.out.length + l.length
  | [], _ => by simp [editsP]
  | e :: l, c => by
    rw [editsP]
    have ih := editsP_len l (editP a b ar c e l.isEmpty)
    have hp : ∀ (o : List HkD) op x, (Proofs.YtlcidbbpjlpmjaaDoor.putL o op x).length = o.length := fun o op x => by
      rcases List.eq_nil_or_concat o with rfl | ⟨r, e, rfl⟩
      · rfl
      · rw [List.concat_eq_append, putL_snoc]; simp
    have hbg : (beginP a ar c).out.length ≤ c.out.length + 1 := by
      unfold beginP
      split
      · omega
      · simp
    have : (editP a b ar c e l.isEmpty).out.length ≤ c.out.length + 1 := by
      unfold editP
      split
      · split
        · simp only [hp]; omega
        · split
          · simp only [hp]; omega
          · simp
      · split
        · simp only [hp]; omega
        · simp only [hp]; omega
    rw [List.length_cons]
    omega
include ha hb in
theorem hunksP_len : (hunksP a b ar).length ≤ 2 * M := by
  have := editsP_len (a := a) (b := b) ar (diffP a b) ⟨0, 0, [], false, 0⟩
  have hd := (diffP_of a b).2.2.2
  unfold hunksP
  simp only [List.length_nil] at this
  omega
end
end Go.Proofs.YtlcidbbpjlpmjaaDoor
namespace Go.Proofs.YtlcidbbpjlpmjaaDoor
open Go.RowKit

def strip (s : List UInt8) : List UInt8 := s.filter (fun x => x != 10)
def goodLine (last : Bool) (s : List UInt8) : List UInt8 := if last = false ∨ s.getLast? = some 10 ∨ strip s = [] then strip s ++ [10] else strip s
def goodP : List (List UInt8) → List (List UInt8)
  | [] => []
  | s :: l => goodLine l.isEmpty s :: goodP l
theorem goodP_len : ∀ l : List (List UInt8), (goodP l).length = l.length
  | [] => rfl
  | s :: l => by rw [goodP, List.length_cons, List.length_cons, goodP_len l]
theorem strip_len (s : List UInt8) : (strip s).length ≤ s.length := List.length_filter_le _ _
theorem goodLine_len (b : Bool) (s : List UInt8) : (goodLine b s).length ≤ s.length + 1 := by
  have := strip_len s
  unfold goodLine
  split
  · simp; omega
  · omega
theorem goodP_small {N : Nat} : ∀ l : List (List UInt8), (∀ s ∈ l, s.length ≤ N) → ∀ s ∈ goodP l, s.length ≤ N + 1
  | [], _ => by simp [goodP]
  | t :: l, h => by
    intro s hs
    rw [goodP] at hs
    rcases List.mem_cons.1 hs with rfl | hs
    · have h1 := goodLine_len l.isEmpty t
      have h2 := h t (by simp)
      omega
    · exact goodP_small l (fun s hs => h s (by simp [hs])) s hs
theorem ext1 {s : List UInt8} {i : Nat} {x : UInt8} (h : s[i]? = some x) : (⟨s.toArray⟩ : ByteArray).extract i (i + 1) = ⟨#[x]⟩ := by
  obtain ⟨h1, h2⟩ := List.getElem?_eq_some_iff.1 h
  apply ByteArray.ext
  rw [ByteArray.data_extract]
  apply Array.ext'
  rw [Array.toList_extract, List.extract_eq_take_drop, show i + 1 - i = 1 by omega, List.take_one, List.head?_drop]
  show s[i]?.toList = _
  rw [h]
  rfl
set_option maxHeartbeats 4000000 in
set_option maxRecDepth 100000 in
theorem good_any (l : List (List UInt8)) (A : Option Addr) (c B : Nat) (w : World) (hB : B ≤ w.heap.size) (hr : Reads w B 1 A l.length (strL l)) (hl : l.length ≤ 1048576) (hls : ∀ s ∈ l, s.length ≤ 1048576) :
    Calls Tryd.prog 23 #[.slice A l.length c] w fun r w' => ∃ A' c', r = .returned (.slice A' (goodP l).length c') ∧ Own w' w.heap.size 9 1 A' (goodP l).length c' (strL (goodP l)) ∧ Below w.heap.size w w' := by
  have HR := Lib.hid (show ∀ W, Below w.heap.size w W → Reads W B 1 A l.length (strL l) from fun W k => hr.below (k.mono hB))
  have HLS := Lib.hid hls
  clear hr hls
  obtain ⟨G, hG⟩ : ∃ G, goodP l = G := ⟨_, rfl⟩
  have hGl : G.length = l.length := by rw [← hG, goodP_len]
  have HG := Lib.hid hG
  rw [hG]
  clear hG
  go_enter Tryd.func23, Tryd.ntmps23
  go_wp2_with fail
  go_loopw [3, 4] (fun s3 s4 wr => ∃ (k : Nat) (out : List (List UInt8)) (A3 : Option Addr) (c3 : Nat), k ≤ l.length ∧ s3 = .slice A3 out.length c3 ∧ s4 = .int .i64 (k : Nat) ∧ out.length = k ∧ out ++ goodP (l.drop k) = G ∧ Own wr w.heap.size 9 1 A3 out.length c3 (strL out) ∧ Below w.heap.size w wr) (fun _ s4 _ => l.length - (intOf s4).toNat)
  case atStart => exact ⟨0, [], none, 0, Nat.zero_le _, rfl, rfl, rfl, HG.out, Own.nil _ _ _ _, Below.refl _ _⟩
  case round =>
    obtain ⟨k, out, A3, c3, hk, rfl, rfl, hol, hg, ho, hb⟩ := hrel
    have hz := hb.size
    by_cases hlt : k < l.length
    · obtain ⟨s, hs⟩ : ∃ s, l[k]? = some s := ⟨_, List.getElem?_eq_getElem hlt⟩
      have hsl := HLS.out s (List.mem_of_getElem? hs)
      obtain ⟨g1, o1, rfl, _, hc⟩ := (HR.out _ hb).at0 (by omega) (by omega)
      have d9 := hc _ _ (strL_at' hs)
      unfold strC at d9
      have hdr : l.drop k = s :: l.drop (k + 1) := List.drop_eq_getElem?_toList_append.trans (by rw [hs]; rfl)
      rw [hdr, goodP] at hg
      have hemp : (l.drop (k + 1)).isEmpty = decide (l.length ≤ k + 1) := by
        rw [Bool.eq_iff_iff, List.isEmpty_iff, List.drop_eq_nil_iff, decide_eq_true_eq]
      rw [hemp] at hg
      have HGG := Lib.hid hg
      have hi0 : (0 : Int) ≤ (k : Int) := Int.natCast_nonneg _
      have hi1 : (k : Int) < (l.length : Int) := by omega
      clear hc hs hdr hemp hg
      go_wp2_with fail
      go_loopw [5, 6] (fun s5 s6 wi => ∃ (j : Nat) (T : List UInt8), j ≤ s.length ∧ s5 = .string ⟨T.toArray⟩ ∧ s6 = .int .i64 (j : Nat) ∧ T ++ strip (s.drop j) = strip s ∧ wi = wr) (fun _ s6 _ => s.length - (intOf s6).toNat)
      case atStart => exact ⟨0, [], Nat.zero_le _, rfl, rfl, rfl, rfl⟩
      case round =>
        obtain ⟨j, T, hj, rfl, rfl, hT, rfl⟩ := hrel
        by_cases hjl : j < s.length
        · obtain ⟨x, hx⟩ : ∃ x, s[j]? = some x := ⟨_, List.getElem?_eq_getElem hjl⟩
          have hdx : s.drop j = x :: s.drop (j + 1) := List.drop_eq_getElem?_toList_append.trans (by rw [hx]; rfl)
          rw [hdx, show strip (x :: s.drop (j + 1)) = (if (x != 10) = true then [x] else []) ++ strip (s.drop (j + 1)) by unfold strip; rw [List.filter_cons]; split <;> simp] at hT
          have HX := Lib.hid hx
          have hj0 : (0 : Int) ≤ (j : Int) := Int.natCast_nonneg _
          have hj1 : (j : Int) < (s.length : Int) := by omega
          have hx1 := ext1 hx
          have HX1 := Lib.hid hx1
          have hTl := congrArg List.length hT
          have hsp := strip_len s
          rw [List.length_append] at hTl
          have hTb : T.length + 1 ≤ 9223372036854775807 := by omega
          have HT := Lib.hid hT
          clear hx hdx hT hx1 hTl hsp
          go_wp2_with fail
          · rename_i hc
            have h10 : decide (x = (10 : UInt8)) = !true := byte_ne (c := 10) (by decide) HX.out hc
            have HT2 := Lib.hid (show (T ++ [x]) ++ strip (s.drop (j + 1)) = strip s from by
              have := HT.out
              rw [if_pos (by simpa using h10)] at this
              simpa using this)
            go_roundw
            case rel => exact ⟨j + 1, T ++ [x], hjl, by rw [HX1.out]; congr 1, by go_num, HT2.out, by first | rfl | trivial⟩
            case measure => simp [intOf]; omega
          · rename_i hc
            have h10 : decide (x = (10 : UInt8)) = !false := byte_ne (c := 10) (by decide) HX.out hc
            have HT2 := Lib.hid (show T ++ strip (s.drop (j + 1)) = strip s from by
              have := HT.out
              rw [if_neg (by simpa using h10)] at this
              simpa using this)
            go_roundw
            case rel => exact ⟨j + 1, T, hjl, rfl, by go_num, HT2.out, by first | rfl | trivial⟩
            case measure => simp [intOf]; omega
        · obtain rfl : j = s.length := by omega
          rw [List.drop_length, show strip [] = [] from rfl, List.append_nil] at hT
          subst hT
          have hsp := strip_len s
          have hxx : ¬ (s.length < s.length) := Nat.lt_irrefl _
          go_upto_region 11 with fail
          have HO := Lib.hid ho
          have HB := Lib.hid hb
          have wk : IntKind.i64.wrap ((k : Int) + 1) = (k : Int) + 1 := IntWalk.i64_in _ (by omega)
          have HLAST := Lib.hid (show ∀ t, goodLine (decide (l.length ≤ k + 1)) s = t → (out ++ [t]) ++ goodP (l.drop (k + 1)) = G from fun t ht => by rw [← ht, ← HGG.out]; simp)
          clear ho hb HGG
          by_cases qA : k + 1 < l.length
          · have dA : decide ((k : Int) + 1 < (l.length : Int)) = true := decide_eq_true (by omega)
            have HG1 := Lib.hid (show goodLine (decide (l.length ≤ k + 1)) s = strip s ++ [10] from by unfold goodLine; rw [if_pos (.inl (decide_eq_false (by omega)))])
            go_quiet (fail)
            have HO2 := Lib.hid (HO.out.drewN nq)
            have HB2 := Lib.hid (HB.out.trans (((Keep.refl Nothing wr).drewN nq).all.mono hz))
            have hz2 := HB2.out.size
            clear HO HB d9
            generalize wr.drewN nq = w9 at *
            go_wp2_with (at_builtin; refine wpList_append_sl rfl elemStr rfl rfl (n := out.length) (xs := strL out) (HO2.out.alloc _) rfl (Reads.of_blk (n := 1) (size := 1) (xs := strL [strip s ++ [10]]) (heap_alloc_new _ _) (by simp [strL, strC]; try (apply ByteArray.ext; simp)) rfl) (strL_one [strip s ++ [10]]) (by unfold maxLen; omega) (by omega) (by simp; omega) ?_; intro A9 c9 w9' o9 k9; have HO9 := Lib.hid o9; have HB9 := Lib.hid (HB2.out.trans ((((Kept.refl _ _ _ _).alloc _).trans k9).below (Nat.le_refl _) hz2 (by simp))); clear o9 k9)
            go_roundw
            case rel => exact ⟨k + 1, out ++ [strip s ++ [10]], A9, c9, hlt, by rw [List.length_append, List.length_singleton, hol], by go_num, by rw [List.length_append, List.length_singleton, hol], HLAST.out _ HG1.out, by rw [List.length_append, List.length_singleton]; simpa [strL] using HO9.out, HB9.out⟩
            case measure => simp [intOf]; omega
          have dA : decide ((k : Int) + 1 < (l.length : Int)) = false := decide_eq_false (by omega)
          by_cases qD : s.length = 0
          · have hs0 : s = [] := List.eq_nil_of_length_eq_zero qD
            subst hs0
            have dD : decide ((0 : Int) < ((([] : List UInt8).length : Nat) : Int)) = false := rfl
            have dE : (strip ([] : List UInt8)).isEmpty = true := rfl
            have HG1 := Lib.hid (show goodLine (decide (l.length ≤ k + 1)) [] = strip [] ++ [10] from by unfold goodLine; rw [if_pos (.inr (.inr rfl))])
            go_quiet (fail)
            have HO2 := Lib.hid (HO.out.drewN nq)
            have HB2 := Lib.hid (HB.out.trans (((Keep.refl Nothing wr).drewN nq).all.mono hz))
            have hz2 := HB2.out.size
            clear HO HB d9
            generalize wr.drewN nq = w9 at *
            go_wp2_with (at_builtin; refine wpList_append_sl rfl elemStr rfl rfl (n := out.length) (xs := strL out) (HO2.out.alloc _) rfl (Reads.of_blk (n := 1) (size := 1) (xs := strL [strip [] ++ [10]]) (heap_alloc_new _ _) (by simp [strL, strC]; try (apply ByteArray.ext; simp)) rfl) (strL_one [strip [] ++ [10]]) (by unfold maxLen; omega) (by omega) (by simp; omega) ?_; intro A9 c9 w9' o9 k9; have HO9 := Lib.hid o9; have HB9 := Lib.hid (HB2.out.trans ((((Kept.refl _ _ _ _).alloc _).trans k9).below (Nat.le_refl _) hz2 (by simp))); clear o9 k9)
            go_roundw
            case rel => exact ⟨k + 1, out ++ [strip [] ++ [10]], A9, c9, hlt, by rw [List.length_append, List.length_singleton, hol], by go_num, by rw [List.length_append, List.length_singleton, hol], HLAST.out _ HG1.out, by rw [List.length_append, List.length_singleton]; simpa [strL] using HO9.out, HB9.out⟩
            case measure => simp [intOf]; omega
          have dD : decide ((0 : Int) < (s.length : Int)) = true := decide_eq_true (by omega)
          have dN : decide (0 < s.length) = true := decide_eq_true (by omega)
          have hN : 0 < s.length := by omega
          have hwl : IntKind.i64.wrap ((s.length : Int) - 1) = ((s.length - 1 : Nat) : Int) := by rw [IntWalk.i64_in _ (by omega)]; omega
          have hl0 : (0 : Int) ≤ ((s.length - 1 : Nat) : Int) := Int.natCast_nonneg _
          have hl1 : ((s.length - 1 : Nat) : Int) < (s.length : Int) := by omega
          have hlb : s.length - 1 < (⟨s.toArray⟩ : ByteArray).size := by show s.length - 1 < s.toArray.size; simp; omega
          obtain ⟨xl, hxl⟩ : ∃ x, s[s.length - 1]? = some x := ⟨_, List.getElem?_eq_getElem (by omega)⟩
          have hgl : s.getLast? = some xl := by rw [List.getLast?_eq_getElem?]; exact hxl
          have hba := byte_at hxl hlb
          have HBA := Lib.hid hba
          have HXL := Lib.hid hgl
          clear hxl hgl hba
          by_cases qB : xl = 10
          · have dB : ((((⟨s.toArray⟩ : ByteArray)[s.length - 1]'hlb).toNat : Int) == 10) = true := by rw [HBA.out, qB]; rfl
            have HG1 := Lib.hid (show goodLine (decide (l.length ≤ k + 1)) s = strip s ++ [10] from by unfold goodLine; rw [if_pos (.inr (.inl (by rw [HXL.out, qB])))])
            clear qB
            go_quiet (fail)
            have HO2 := Lib.hid (HO.out.drewN nq)
            have HB2 := Lib.hid (HB.out.trans (((Keep.refl Nothing wr).drewN nq).all.mono hz))
            have hz2 := HB2.out.size
            clear HO HB d9
            generalize wr.drewN nq = w9 at *
            go_wp2_with (at_builtin; refine wpList_append_sl rfl elemStr rfl rfl (n := out.length) (xs := strL out) (HO2.out.alloc _) rfl (Reads.of_blk (n := 1) (size := 1) (xs := strL [strip s ++ [10]]) (heap_alloc_new _ _) (by simp [strL, strC]; try (apply ByteArray.ext; simp)) rfl) (strL_one [strip s ++ [10]]) (by unfold maxLen; omega) (by omega) (by simp; omega) ?_; intro A9 c9 w9' o9 k9; have HO9 := Lib.hid o9; have HB9 := Lib.hid (HB2.out.trans ((((Kept.refl _ _ _ _).alloc _).trans k9).below (Nat.le_refl _) hz2 (by simp))); clear o9 k9)
            go_roundw
            case rel => exact ⟨k + 1, out ++ [strip s ++ [10]], A9, c9, hlt, by rw [List.length_append, List.length_singleton, hol], by go_num, by rw [List.length_append, List.length_singleton, hol], HLAST.out _ HG1.out, by rw [List.length_append, List.length_singleton]; simpa [strL] using HO9.out, HB9.out⟩
            case measure => simp [intOf]; omega
          have dB : ((((⟨s.toArray⟩ : ByteArray)[s.length - 1]'hlb).toNat : Int) == 10) = false := by
            rw [HBA.out, beq_eq_false_iff_ne]
            intro q
            exact qB (UInt8.toNat_inj.1 (by have : (10 : UInt8).toNat = 10 := rfl; omega))
          have QB := Lib.hid qB
          clear qB
          by_cases qE : strip s = []
          · have dE : (strip s).isEmpty = true := by rw [qE]; rfl
            have HG1 := Lib.hid (show goodLine (decide (l.length ≤ k + 1)) s = strip s ++ [10] from by unfold goodLine; rw [if_pos (.inr (.inr qE))])
            clear qE
            go_quiet (fail)
            have HO2 := Lib.hid (HO.out.drewN nq)
            have HB2 := Lib.hid (HB.out.trans (((Keep.refl Nothing wr).drewN nq).all.mono hz))
            have hz2 := HB2.out.size
            clear HO HB d9
            generalize wr.drewN nq = w9 at *
            go_wp2_with (at_builtin; refine wpList_append_sl rfl elemStr rfl rfl (n := out.length) (xs := strL out) (HO2.out.alloc _) rfl (Reads.of_blk (n := 1) (size := 1) (xs := strL [strip s ++ [10]]) (heap_alloc_new _ _) (by simp [strL, strC]; try (apply ByteArray.ext; simp)) rfl) (strL_one [strip s ++ [10]]) (by unfold maxLen; omega) (by omega) (by simp; omega) ?_; intro A9 c9 w9' o9 k9; have HO9 := Lib.hid o9; have HB9 := Lib.hid (HB2.out.trans ((((Kept.refl _ _ _ _).alloc _).trans k9).below (Nat.le_refl _) hz2 (by simp))); clear o9 k9)
            go_roundw
            case rel => exact ⟨k + 1, out ++ [strip s ++ [10]], A9, c9, hlt, by rw [List.length_append, List.length_singleton, hol], by go_num, by rw [List.length_append, List.length_singleton, hol], HLAST.out _ HG1.out, by rw [List.length_append, List.length_singleton]; simpa [strL] using HO9.out, HB9.out⟩
            case measure => simp [intOf]; omega
          · have dE : (strip s).isEmpty = false := by
              cases hq : strip s with
              | nil => exact absurd hq qE
              | cons x y => rfl
            have HG1 := Lib.hid (show goodLine (decide (l.length ≤ k + 1)) s = strip s from by
              unfold goodLine
              rw [if_neg]
              rintro (q | q | q)
              · exact absurd (of_decide_eq_false q) (by omega)
              · rw [HXL.out] at q
                injection q with q
                exact QB.out q
              · exact qE q)
            clear qE
            go_quiet (fail)
            have HO2 := Lib.hid (HO.out.drewN nq)
            have HB2 := Lib.hid (HB.out.trans (((Keep.refl Nothing wr).drewN nq).all.mono hz))
            have hz2 := HB2.out.size
            clear HO HB d9
            generalize wr.drewN nq = w9 at *
            go_wp2_with (at_builtin; refine wpList_append_sl rfl elemStr rfl rfl (n := out.length) (xs := strL out) (HO2.out.alloc _) rfl (Reads.of_blk (n := 1) (size := 1) (xs := strL [strip s]) (heap_alloc_new _ _) (by simp [strL, strC]; try (apply ByteArray.ext; simp)) rfl) (strL_one [strip s]) (by unfold maxLen; omega) (by omega) (by simp; omega) ?_; intro A9 c9 w9' o9 k9; have HO9 := Lib.hid o9; have HB9 := Lib.hid (HB2.out.trans ((((Kept.refl _ _ _ _).alloc _).trans k9).below (Nat.le_refl _) hz2 (by simp))); clear o9 k9)
            go_roundw
            case rel => exact ⟨k + 1, out ++ [strip s], A9, c9, hlt, by rw [List.length_append, List.length_singleton, hol], by go_num, by rw [List.length_append, List.length_singleton, hol], HLAST.out _ HG1.out, by rw [List.length_append, List.length_singleton]; simpa [strL] using HO9.out, HB9.out⟩
            case measure => simp [intOf]; omega
    · obtain rfl : k = l.length := by omega
      rw [List.drop_length, goodP, List.append_nil] at hg
      subst hg
      go_wp2_with fail
      go_ret
      exact ⟨_, _, rfl, ho, hb⟩
end Go.Proofs.YtlcidbbpjlpmjaaDoor
namespace Go.Proofs.YtlcidbbpjlpmjaaDoor
open Go.RowKit

def wiN (x : Int) (n : Nat) : Nat := (x % (n : Int)).toNat
theorem wiN_lt {x : Int} {n : Nat} (h : 0 < n) : wiN x n < n := by
  have h1 := Int.emod_nonneg x (b := (n : Int)) (by omega)
  have h2 := Int.emod_lt_of_pos x (b := (n : Int)) (by omega)
  unfold wiN
  omega
theorem tmod_wi {x : Int} {n : Nat} (h : 0 < n) : (0 ≤ x.tmod (n : Int) ∧ x.tmod (n : Int) = (wiN x n : Int)) ∨ (x.tmod (n : Int) < 0 ∧ x.tmod (n : Int) + (n : Int) = (wiN x n : Int) ∧ -(n : Int) < x.tmod (n : Int)) := by
  have h1 := Int.emod_nonneg x (b := (n : Int)) (by omega)
  have h2 := Int.emod_lt_of_pos x (b := (n : Int)) (by omega)
  have hw : (wiN x n : Int) = x % (n : Int) := by unfold wiN; omega
  rw [hw, Int.tmod_eq_emod]
  split
  · exact .inl ⟨by omega, by omega⟩
  · by_cases hz : x % (n : Int) = 0
    · rename_i q
      exact absurd (.inr (Int.dvd_of_emod_eq_zero hz)) q
    · exact .inr ⟨by omega, by omega, by omega⟩
set_option maxRecDepth 100000 in
theorem within_any (x : Int) (n : Nat) (hn : 0 < n) (hn2 : n ≤ 1000000) (w : World) :
    Calls Tryd.prog 24 #[.int .i64 x, .int .i64 (n : Int)] w fun r w' => r = .returned (.int .i64 (wiN x n : Int)) ∧ w' = w := by
  have hnz : ¬ ((n : Int) = 0) := by omega
  have hlt := wiN_lt (x := x) hn
  have HT := Lib.hid (tmod_wi (x := x) hn)
  generalize wiN x n = k at *
  go_enter Tryd.func24, Tryd.ntmps24
  go_upto_region 2 with fail
  generalize x.tmod (n : Int) = t at *
  rcases HT.out with ⟨h1, h2⟩ | ⟨h1, h2, h3⟩
  · subst h2
    have d1 : decide ((k : Int) < 0) = false := decide_eq_false (by omega)
    have h4 : ¬ (k : Int) < 0 := by omega
    go_wp2_with fail
    go_ret
    exact ⟨rfl, rfl⟩
  · have d1 : decide (t < 0) = true := decide_eq_true h1
    have w1 : IntKind.i64.wrap (t + (n : Int)) = t + (n : Int) := IntWalk.i64_in _ (by omega)
    have H2 := Lib.hid h2
    clear h2
    go_wp2_with fail
    go_ret
    exact ⟨by rw [← H2.out]; rfl, rfl⟩
section
variable {H : Type} {enc : TypeId × Value → H} {w : World} {base : Nat} {spare : Nat → Bool} {held : Bool}
theorem flat_int (l : List Int) : l.flatMap (fun a => [Value.int .i64 a]) = l.map (Value.int .i64) := by
  induction l with
  | nil => rfl
  | cons a l ih => rw [List.flatMap_cons, ih]; rfl
theorem opened_ints {A : Option Addr} {len cap : Nat} {d : DataW H} {p : List MemPlace} (h : DataW.Trod enc Tryd.prog w base spare held 52 (.slice A len cap) d p) :
    ∃ l : List Int, l.length = len ∧ Reads w w.heap.size 1 A l.length (l.map (Value.int .i64)) ∧ l.length ≤ cap ∧ cap ≤ maxLen := by
  obtain ⟨fuel, hf⟩ := h
  have hf : DataW.trod enc Tryd.prog w base spare held fuel 52 [.slice A len cap] = some (d, p) := by simpa [Value.cells] using hf
  obtain ⟨l, h1, h2, h3, h4, _⟩ := open_listB (N := Rows.uptoBulk d) (f := fun a : Int => [Value.int .i64 a]) (V := fun _ => True) Tryd.underlying52 cells_int (by decide) (fun _ => rfl) (fun _ _ _ h _ => by obtain ⟨a, e, _, _⟩ := DataW.trod_int Tryd.underlying3 h; exact ⟨a, e, trivial⟩) hf (Nat.le_refl _)
  subst h1
  rw [flat_int] at h2
  exact ⟨l, rfl, h2, h3, h4⟩
theorem flat_bool (l : List Bool) : l.flatMap (fun a => [Value.bool a]) = l.map Value.bool := by
  induction l with
  | nil => rfl
  | cons a l ih => rw [List.flatMap_cons, ih]; rfl
theorem cells_bool : Tryd.prog.cellsOf 4 = 1 := by kernel_rfl
theorem opened_bools {A : Option Addr} {len cap : Nat} {d : DataW H} {p : List MemPlace} (h : DataW.Trod enc Tryd.prog w base spare held 47 (.slice A len cap) d p) :
    ∃ l : List Bool, l.length = len ∧ Reads w w.heap.size 1 A l.length (l.map Value.bool) ∧ l.length ≤ cap ∧ cap ≤ maxLen := by
  obtain ⟨fuel, hf⟩ := h
  have hf : DataW.trod enc Tryd.prog w base spare held fuel 47 [.slice A len cap] = some (d, p) := by simpa [Value.cells] using hf
  obtain ⟨l, h1, h2, h3, h4, _⟩ := open_listB (N := Rows.uptoBulk d) (f := fun a : Bool => [Value.bool a]) (V := fun _ => True) Tryd.underlying47 cells_bool (by decide) (fun _ => rfl) (fun _ _ _ h _ => by obtain ⟨a, e, _⟩ := DataW.trod_bool Tryd.underlying4 h; exact ⟨a, e, trivial⟩) hf (Nat.le_refl _)
  subst h1
  rw [flat_bool] at h2
  exact ⟨l, rfl, h2, h3, h4⟩
end
end Go.Proofs.YtlcidbbpjlpmjaaDoor
namespace Go.Proofs.YtlcidbbpjlpmjaaDoor
open Go.ChangeShapes Go.WideShapes Go.ChangeAt Go.RowKit

theorem bdrew {B : Nat} {w w1 : World} (h : Below B w w1) (hB : B ≤ w1.heap.size) (n : Nat) : Below B w (w1.drewN n) := h.trans (((Keep.refl Nothing w1).drewN n).all.mono hB)
def bumpA (x : HkI) : HkI := ⟨wrap64 (x.a + 1), x.b, x.eds, x.ls⟩
def bumpB (x : HkI) : HkI := ⟨x.a, wrap64 (x.b + 1), x.eds, x.ls⟩
theorem sum20_mem {s : List UInt8} : ∀ {l : List (List UInt8)}, s ∈ l → s.length / 20 ≤ sum20 l
  | t :: l, h => by
    have e : sum20 (t :: l) = t.length / 20 + sum20 l := by simp [sum20]
    rcases List.mem_cons.1 h with rfl | h
    · omega
    · have := sum20_mem h; omega
theorem fewN_lines {l : List (List UInt8)} (h : fewN l < 120) : ∀ s ∈ l, s.length ≤ 2400 := by
  intro s hs
  have hl := fewN_len h
  unfold fewN at h
  rw [List.take_of_length_le (by omega)] at h
  have := sum20_mem hs
  omega
theorem load_hkC {w : World} {g : Nat} {h : HkI} {EA LA : Option Addr} {ec lc : Nat} (x : Blk w g 38 (hkC h EA ec LA lc)) : (Instr.loadAt 38 (.pointer (some ⟨g, 0, none⟩))).run Tryd.prog w = .ok (.agg (hkC h EA ec LA lc)) w :=
  run_loadAt_blk (P := Tryd.prog) x 0 (hkC h EA ec LA lc) Tryd.underlying38 rfl info_hunk (by simp [hkC])
theorem HkSmall.of_hkB {a b : List (List UInt8)} {N : Nat} {h : HkD} (hb : HkB a b 120 480 h) (hN : 57600 ≤ N) (ha : ∀ s ∈ a, s.length ≤ N) (hbs : ∀ s ∈ b, s.length ≤ N) : HkSmall N h.toI :=
  ⟨by have := hb.1; simp [HkD.toI]; omega, by have := hb.2.1; have e : h.toI.ls = h.ls := rfl; rw [e]; omega, fun s hs => by
    rcases hb.2.2 s hs with q | q
    · exact ha s q
    · exact hbs s q⟩
set_option maxHeartbeats 8000000 in
set_option maxRecDepth 100000 in
theorem near_law (a b c : List (List UInt8)) (Aa Ab Ac : Option Addr) (ca cb cc : Nat) (ar yb : Int) (dl : List Bool) (Ad : Option Addr) (cd : Nat) (w : World) (hra : Reads w w.heap.size 1 Aa a.length (strL a)) (hal : a.length ≤ 1048576) (has : ∀ s ∈ a, s.length ≤ 1048576)
    (hrb : Reads w w.heap.size 1 Ab b.length (strL b)) (hbl : b.length ≤ 1048576) (hbs : ∀ s ∈ b, s.length ≤ 1048576) (hrc : Reads w w.heap.size 1 Ac c.length (strL c)) (hcc : c.length ≤ cc) (hcl : c.length ≤ 1048576) (hcs : ∀ s ∈ c, s.length ≤ 1048576)
    (hrd : Reads w w.heap.size 1 Ad dl.length (dl.map Value.bool)) (htab : Lib.TabIs Tryd.prog w "internal/strconv.uint64pow10" .u64 Lib.pow10Tab) :
    Calls Tryd.prog 6 #[.slice Aa a.length ca, .slice Ab b.length cb, .int .i64 ar, .slice Ad dl.length cd, .int .i64 yb, .slice Ac c.length cc] w fun r w' => r = .returned (.bool true) ∧ Below w.heap.size w w' := by
  have HK := Lib.hid (known_any w htab)
  have HRA := Lib.hid (show ∀ W, Below w.heap.size w W → Reads W w.heap.size 1 Aa a.length (strL a) from fun W k => hra.below k)
  have HRB := Lib.hid (show ∀ W, Below w.heap.size w W → Reads W w.heap.size 1 Ab b.length (strL b) from fun W k => hrb.below k)
  have HRC := Lib.hid (show ∀ W, Below w.heap.size w W → Reads W w.heap.size 1 Ac c.length (strL c) from fun W k => hrc.below k)
  have HRD := Lib.hid (show ∀ W, Below w.heap.size w W → Reads W w.heap.size 1 Ad dl.length (dl.map Value.bool) from fun W k => hrd.below k)
  have HFA := Lib.hid (fun W (k : Below w.heap.size w W) => few_any a Aa ca w.heap.size W (HRA.out W k) hal has)
  have HFB := Lib.hid (fun W (k : Below w.heap.size w W) => few_any b Ab cb w.heap.size W (HRB.out W k) hbl hbs)
  have HFC := Lib.hid (fun W (k : Below w.heap.size w W) => few_any c Ac cc w.heap.size W (HRC.out W k) hcl hcs)
  have HGA := Lib.hid (fun W (k : Below w.heap.size w W) => good_any a Aa ca w.heap.size W k.size (HRA.out W k) hal has)
  have HGB := Lib.hid (fun W (k : Below w.heap.size w W) => good_any b Ab cb w.heap.size W k.size (HRB.out W k) hbl hbs)
  have HSA := Lib.hid (show fewN a < 120 → ∀ s ∈ goodP a, s.length ≤ 1048576 from fun h s hs => Nat.le_trans (goodP_small (N := 2400) a (fewN_lines h) s hs) (by decide))
  have HSB := Lib.hid (show fewN b < 120 → ∀ s ∈ goodP b, s.length ≤ 1048576 from fun h s hs => Nat.le_trans (goodP_small (N := 2400) b (fewN_lines h) s hs) (by decide))
  have HGL := Lib.hid (goodP_len a)
  have HGM := Lib.hid (goodP_len b)
  generalize goodP a = ga at *
  generalize goodP b = gb at *
  clear hra hrb hrc hrd htab has hbs hcs
  go_enter Tryd.func6, Tryd.ntmps6
  go_wp2_with (go_at_call 11; refine HK.out.mono ?_)
  rintro _ w1 ⟨rfl, b1⟩
  cases hfa : decide (fewN a < 120)
  case false =>
    rw [hfa] at HFA
    go_wp2_with (go_at_call 12; refine (HFA.out _ b1).mono ?_)
    rintro _ _ ⟨rfl, n, rfl⟩
    go_wp2_with fail
    go_ret
    exact ⟨rfl, bdrew b1 b1.size n⟩
  have ha := fewN_len (of_decide_eq_true hfa)
  rw [hfa] at HFA
  cases hfb : decide (fewN b < 120)
  case false =>
    rw [hfb] at HFB
    go_wp2_with (go_at_call 12; refine (HFA.out _ b1).mono ?_)
    rintro _ _ ⟨rfl, n, rfl⟩
    go_wp2_with (go_at_call 12; refine (HFB.out _ (bdrew b1 b1.size n)).mono ?_)
    rintro _ _ ⟨rfl, m, rfl⟩
    go_wp2_with fail
    go_ret
    exact ⟨rfl, bdrew b1 b1.size (n + m)⟩
  have hb := fewN_len (of_decide_eq_true hfb)
  rw [hfb] at HFB
  cases hfc : decide (fewN c < 120)
  case false =>
    rw [hfc] at HFC
    go_wp2_with (go_at_call 12; refine (HFA.out _ b1).mono ?_)
    rintro _ _ ⟨rfl, n, rfl⟩
    go_wp2_with (go_at_call 12; refine (HFB.out _ (bdrew b1 b1.size n)).mono ?_)
    rintro _ _ ⟨rfl, m, rfl⟩
    go_wp2_with (go_at_call 12; refine (HFC.out _ (bdrew b1 b1.size (n + m))).mono ?_)
    rintro _ _ ⟨rfl, m2, rfl⟩
    go_wp2_with fail
    go_ret
    exact ⟨rfl, bdrew b1 b1.size (n + m + m2)⟩
  have hc := fewN_len (of_decide_eq_true hfc)
  rw [hfc] at HFC
  go_upto_region 5 with (go_at_call 12; refine (HFA.out _ b1).mono ?_)
  rintro _ _ ⟨rfl, n, rfl⟩
  go_upto_region 5 with (go_at_call 12; refine (HFB.out _ (bdrew b1 b1.size n)).mono ?_)
  rintro _ _ ⟨rfl, m, rfl⟩
  go_upto_region 5 with (go_at_call 12; refine (HFC.out _ (bdrew b1 b1.size (n + m))).mono ?_)
  rintro _ _ ⟨rfl, m2, rfl⟩
  go_upto_region 5 with fail
  have b2 : Below w.heap.size w (w1.drewN (n + m + m2)) := bdrew b1 b1.size (n + m + m2)
  have HFA0 := Lib.hid hfa
  have HFB0 := Lib.hid hfb
  clear HFA HFB HFC b1 hfa hfb hfc
  generalize w1.drewN (n + m + m2) = w2 at *
  have hz2 := b2.size
  go_upto_region 6 with (go_at_call 23; refine (HGA.out _ b2).mono ?_)
  rintro _ w3 ⟨A1, c1, rfl, o1, b3⟩
  have b23 := b2.trans (b3.mono hz2)
  have hz3 := b23.size
  go_upto_region 6 with (go_at_call 23; refine (HGB.out _ b23).mono ?_)
  rintro _ w4 ⟨A2, c2, rfl, o2, b4⟩
  have b24 := b23.trans (b4.mono hz3)
  have hz4 := b24.size
  go_upto_region 6 with fail
  have r1 : Reads w4 w4.heap.size 1 A1 ga.length (strL ga) := (o1.reads.below b4).more b4.size
  have r2 : Reads w4 w4.heap.size 1 A2 gb.length (strL gb) := o2.reads
  have hga : ga.length < 120 := by have := HGL.out; omega
  have hgb : gb.length < 120 := by have := HGM.out; omega
  have q1 := o1.cap_le.1
  have q2 := o2.cap_le.1
  have hmx : ∀ l : List (List UInt8), (∀ s ∈ l, s.length ≤ 1048576) → ∀ s ∈ l, s.length ≤ maxLen := fun l h s hs => by have := h s hs; unfold maxLen; omega
  have hw4 := wiN_lt (x := ar) (n := 4) (by decide)
  have HW := Lib.hid (show ∀ W, Calls Tryd.prog 24 #[.int .i64 ar, .int .i64 4] W fun r w' => r = .returned (.int .i64 (wiN ar 4 : Int)) ∧ w' = W from fun W => within_any ar 4 (by decide) (by decide) W)
  have HH := Lib.hid (show Calls Tryd.prog 14 #[.slice A1 ga.length c1, .slice A2 gb.length c2, .int .i64 (wiN ar 4 : Int)] w4 (fun r w' => ∃ A cp, r = .returned (.tuple #[.slice A (hunksP ga gb (wiN ar 4)).length cp, .int .i64 0]) ∧ (hunksP ga gb (wiN ar 4)).length ≤ cp ∧ cp ≤ maxLen ∧ HIn w' w'.heap.size A (hunksP ga gb (wiN ar 4)) ∧ Below w4.heap.size w4 w') from
    rhunks_any ga gb A1 A2 c1 c2 w4.heap.size (wiN ar 4) w4 r1 r2 (Nat.le_refl _) q1 (by omega) q2 (by omega) (by omega))
  have HSM := Lib.hid (show ∀ h ∈ (hunksP ga gb (wiN ar 4)).map HkD.toI, HkSmall 1048576 h from fun h hh => by
    obtain ⟨y, hy, rfl⟩ := List.mem_map.1 hh
    exact HkSmall.of_hkB (hunksP_small (M := 120) (by omega) (by omega) _ y hy) (by decide) (HSA.out (of_decide_eq_true HFA0.out)) (HSB.out (of_decide_eq_true HFB0.out)))
  have hhl : (hunksP ga gb (wiN ar 4)).length ≤ 2 * 120 := hunksP_len (by omega) (by omega) _
  have HR1 := Lib.hid r1
  have HR2 := Lib.hid r2
  have HB24 := Lib.hid b24
  clear o1 o2 r1 r2 b2 b3 b4 b23 b24 hmx HSA HSB HGA HGB
  generalize wiN ar 4 = arn at *
  generalize hunksP ga gb arn = HD0 at *
  go_upto_region 7 with (go_at_call 24; refine (HW.out _).mono ?_)
  rintro _ _ ⟨rfl, rfl⟩
  go_upto_region 7 with (go_at_call 14; refine HH.out.mono ?_)
  rintro _ w5 ⟨AH, cpH, rfl, hch, hchm, hin, b5⟩
  have hii := hin.toI
  have hln : HD0.length = (HD0.map HkD.toI).length := by simp
  rw [hln] at hhl hch
  rw [hln]
  generalize HD0.map HkD.toI = H at *
  have HLH := Lib.hid (show ∀ W, Below w5.heap.size w5 W → HII W w5.heap.size AH H from fun W k => hii.below k)
  have HR1 := Lib.hid (show ∀ W, Below w5.heap.size w5 W → Reads W w5.heap.size 1 A1 ga.length (strL ga) from fun W k => ((HR1.out.below b5).more b5.size).below k)
  have HR2 := Lib.hid (show ∀ W, Below w5.heap.size w5 W → Reads W w5.heap.size 1 A2 gb.length (strL gb) from fun W k => ((HR2.out.below b5).more b5.size).below k)
  have hb25 : Below w.heap.size w w5 := HB24.out.trans (b5.mono hz4)
  have hz5 := hb25.size
  have HBW := Lib.hid (show ∀ W, Below w5.heap.size w5 W → Below w.heap.size w W from fun W k => hb25.trans (k.mono hz5))
  clear hin hii hln b5 hb25 HH HW HB24
  go_wp2_with fail
  go_loopw [15, 16] (fun s15 s16 wr => ∃ (k : Nat) (out : List HkI) (A' : Option Addr) (cp : Nat), k ≤ H.length ∧ s15 = .slice A' out.length cp ∧ s16 = .int .i64 (k : Nat) ∧ HM wr w5.heap.size w5.heap.size A' cp out ∧ out.length ≤ 2 * k ∧ (∀ h ∈ out, HkSmall 1048576 h) ∧ Below w5.heap.size w5 wr) (fun _ s16 _ => H.length - (intOf s16).toNat)
  case atStart => exact ⟨0, [], none, 0, Nat.zero_le _, rfl, rfl, HM.nil _ _ _, Nat.zero_le _, by simp, Below.refl _ _⟩
  case round =>
    obtain ⟨k, out, A', cp, hk, rfl, rfl, hmm, hol, hos, hbk⟩ := hrel
    have hzk := hbk.size
    by_cases hlt : k < H.length
    · obtain ⟨x, hx⟩ : ∃ x, H[k]? = some x := ⟨_, List.getElem?_eq_getElem hlt⟩
      obtain ⟨t1, t2, t3⟩ := HSM.out x (List.mem_of_getElem? hx)
      obtain ⟨g, off, EA, ec, LA, lc, rfl, hg, ld, hat, hec, hlc, hlm⟩ := (HLH.out _ hbk).load hx
      have LD := Lib.hid ld
      have HRX := Lib.hid (show ∀ W, Below w5.heap.size wr W → RowsI W w5.heap.size x (.slice EA x.eds.length ec) (.slice LA x.ls.length lc) from fun W kk => ⟨EA, ec, LA, lc, rfl, rfl, hec, hlc, hlm, (hat W kk).2.2.2.2.1, (hat W kk).2.2.2.2.2⟩)
      have hi0 : (0 : Int) ≤ (k : Int) := Int.natCast_nonneg _
      have hi1 : (k : Int) < (H.length : Int) := by omega
      have HMM := Lib.hid hmm
      have HOS := Lib.hid hos
      have HBK := Lib.hid hbk
      have HSX := Lib.hid (show HkSmall 1048576 x ∧ HkSmall 1048576 (bumpA x) ∧ HkSmall 1048576 (bumpB x) from ⟨⟨t1, t2, t3⟩, ⟨t1, t2, t3⟩, ⟨t1, t2, t3⟩⟩)
      have HRDB := Lib.hid (HRD.out _ (HBW.out _ hbk))
      clear ld hat hx hmm hos hbk t1 t2 t3 hec hlc hlm
      by_cases hd1 : k < dl.length
      · obtain ⟨d, hdk⟩ : ∃ d, dl[k]? = some d := ⟨_, List.getElem?_eq_getElem hd1⟩
        have dI : decide ((k : Int) < (dl.length : Int)) = true := decide_eq_true (by omega)
        have dN : decide (k < dl.length) = true := decide_eq_true hd1
        have dI1 : (k : Int) < (dl.length : Int) := by omega
        obtain ⟨gd, od, hAd, _, hcd⟩ := HRDB.out.at0 (by omega) (by omega)
        subst hAd
        have dC := hcd k (.bool d) (by rw [List.getElem?_map, hdk]; rfl)
        clear hcd HRDB hdk
        cases d
        · go_upto_region 12 with fail
          by_cases hy1 : yb.tmod 5 = 1
          · have hym := hy1
            clear hy1
            have y1 : (yb.tmod 5 == 1) = true := by rw [hym]; rfl
            have y2 : (yb.tmod 5 == 2) = false := by rw [hym]; rfl
            have y3 : (yb.tmod 5 == 3) = false := by rw [hym]; rfl
            clear hym
            go_upto_region 13 with (first | (refine wpList_load rfl rfl rfl (by with_reducible exact LD.out) ?_) | (refine wpList_allocAgg rfl rfl (zero_hk _) ?_) | (refine wpList_storeBlk rfl rfl (vs := hkC x EA ec LA lc) rfl rfl (Blk.new _ _ _) rfl info_hunk (hkC_one x EA ec LA lc) ?_; intro w7 x7 kc zc))
            go_frame
            have k7 : Keep Nothing wr w7 := Keep.ofNew kc
            have hz7 : wr.heap.size < w7.heap.size := x7.lt
            have e0 : w7.cell? ⟨wr.heap.size, 0, none⟩ = some (.int .i64 x.a) := x7.cell 0
            have z0 : w7.frozen? ⟨wr.heap.size, 0, none⟩ = false := x7.frozen 0
            have x8 : Blk (w7.setCell ⟨wr.heap.size, 0, none⟩ (.int .i64 (wrap64 (x.a + 1)))) wr.heap.size 38 (hkC (bumpA x) EA ec LA lc) := x7.set_ 0 _
            have k8 : Keep Nothing wr (w7.setCell ⟨wr.heap.size, 0, none⟩ (.int .i64 (wrap64 (x.a + 1)))) := k7.setCell (.inr (Nat.le_refl _)) _
            go_upto_region 17 with fail
            generalize w7.setCell ⟨wr.heap.size, 0, none⟩ (.int .i64 (wrap64 (x.a + 1))) = w8 at *
            clear x7 k7 e0 z0 hz7
            have hz8 : wr.heap.size < w8.heap.size := x8.lt
            obtain ⟨tv, u1, u2, u3⟩ := HMM.out.below hzk k8.all
            have HT := Lib.hid u3
            have L8 := Lib.hid (load_hkC x8)
            have HRX8 := Lib.hid (show RowsI w8 w5.heap.size (bumpA x) (.slice EA x.eds.length ec) (.slice LA x.ls.length lc) from HRX.out _ (k8.below hzk (fun _ _ h => h)))
            have HB8 := Lib.hid (HBK.out.trans (k8.below hzk (fun _ _ h => h)))
            have HNB := Lib.hid (show NotB A' out.length cp wr.heap.size from fun q => by
              obtain ⟨_, _, o0, _⟩ := HMM.out
              have := (o0.blockAt _ q).2.1
              omega)
            have HX8 := Lib.hid x8
            have hz85 : w5.heap.size ≤ w8.heap.size := by omega
            clear u3 k8 x8 kc zc
            go_upto_region 18 with (first | (refine wpList_load rfl rfl rfl (by with_reducible exact L8.out) ?_) | (refine wpList_buildSlice1 rfl elemHunk rfl zero_hk rfl rfl (by omega) rfl ?_) | (at_builtin; refine wpList_append_slf rfl elemHunk rfl rfl (n := out.length) (u2.alloc _) (by omega) rfl (Reads.of_blk (n := 1) (xs := hkI (bumpA x) (.slice EA x.eds.length ec) (.slice LA x.ls.length lc)) (heap_alloc_new _ _) rfl rfl) (hkC_one (bumpA x) EA ec LA lc) (by unfold maxLen; omega) (by omega) (by simp; omega) ?_; intro A9 c9 w9 o9 k9 n9; have HM9 := Lib.hid (HM.push (x := (bumpA x)) (Nat.le_refl _) hz85 u1 HT.out HRX8.out (((Kept.refl _ _ _ _).alloc _).trans k9) o9); have HB9 := Lib.hid (HB8.out.trans ((((Kept.refl _ _ _ _).alloc _).trans k9).below (Nat.le_refl _) hz85 (by simp))); have HN9 := Lib.hid (n9 _ (by simp; omega) HNB.out); have HKB9 := Lib.hid (show Below w5.heap.size w8 w9 from (((Kept.refl _ _ _ _).alloc _).trans k9).below (Nat.le_refl _) hz85 (by simp)); clear o9 k9 n9))
            go_wp2_with fail
            go_roundw
            case rel => exact ⟨k + 1, out ++ [(bumpA x)], A9, c9, hlt, by rw [List.length_append, List.length_singleton], by go_num, HM9.out, by rw [List.length_append, List.length_singleton]; omega, fun h hh => by
              simp only [List.mem_append, List.mem_singleton] at hh
              rcases hh with hh | rfl
              · exact HOS.out h hh
              · exact HSX.out.2.1, HB9.out⟩
            case measure => simp [intOf]; omega
          by_cases hy2 : yb.tmod 5 = 2
          · have hym := hy2
            clear hy2
            have y1 : (yb.tmod 5 == 1) = false := by rw [hym]; rfl
            have y2 : (yb.tmod 5 == 2) = true := by rw [hym]; rfl
            have y3 : (yb.tmod 5 == 3) = false := by rw [hym]; rfl
            clear hym
            go_upto_region 13 with (first | (refine wpList_load rfl rfl rfl (by with_reducible exact LD.out) ?_) | (refine wpList_allocAgg rfl rfl (zero_hk _) ?_) | (refine wpList_storeBlk rfl rfl (vs := hkC x EA ec LA lc) rfl rfl (Blk.new _ _ _) rfl info_hunk (hkC_one x EA ec LA lc) ?_; intro w7 x7 kc zc))
            go_frame
            have k7 : Keep Nothing wr w7 := Keep.ofNew kc
            have hz7 : wr.heap.size < w7.heap.size := x7.lt
            have e0 : w7.cell? ⟨wr.heap.size, 1, none⟩ = some (.int .i64 x.b) := x7.cell 1
            have z0 : w7.frozen? ⟨wr.heap.size, 1, none⟩ = false := x7.frozen 1
            have x8 : Blk (w7.setCell ⟨wr.heap.size, 1, none⟩ (.int .i64 (wrap64 (x.b + 1)))) wr.heap.size 38 (hkC (bumpB x) EA ec LA lc) := x7.set_ 1 _
            have k8 : Keep Nothing wr (w7.setCell ⟨wr.heap.size, 1, none⟩ (.int .i64 (wrap64 (x.b + 1)))) := k7.setCell (.inr (Nat.le_refl _)) _
            go_upto_region 17 with fail
            generalize w7.setCell ⟨wr.heap.size, 1, none⟩ (.int .i64 (wrap64 (x.b + 1))) = w8 at *
            clear x7 k7 e0 z0 hz7
            have hz8 : wr.heap.size < w8.heap.size := x8.lt
            obtain ⟨tv, u1, u2, u3⟩ := HMM.out.below hzk k8.all
            have HT := Lib.hid u3
            have L8 := Lib.hid (load_hkC x8)
            have HRX8 := Lib.hid (show RowsI w8 w5.heap.size (bumpB x) (.slice EA x.eds.length ec) (.slice LA x.ls.length lc) from HRX.out _ (k8.below hzk (fun _ _ h => h)))
            have HB8 := Lib.hid (HBK.out.trans (k8.below hzk (fun _ _ h => h)))
            have HNB := Lib.hid (show NotB A' out.length cp wr.heap.size from fun q => by
              obtain ⟨_, _, o0, _⟩ := HMM.out
              have := (o0.blockAt _ q).2.1
              omega)
            have HX8 := Lib.hid x8
            have hz85 : w5.heap.size ≤ w8.heap.size := by omega
            clear u3 k8 x8 kc zc
            go_upto_region 18 with (first | (refine wpList_load rfl rfl rfl (by with_reducible exact L8.out) ?_) | (refine wpList_buildSlice1 rfl elemHunk rfl zero_hk rfl rfl (by omega) rfl ?_) | (at_builtin; refine wpList_append_slf rfl elemHunk rfl rfl (n := out.length) (u2.alloc _) (by omega) rfl (Reads.of_blk (n := 1) (xs := hkI (bumpB x) (.slice EA x.eds.length ec) (.slice LA x.ls.length lc)) (heap_alloc_new _ _) rfl rfl) (hkC_one (bumpB x) EA ec LA lc) (by unfold maxLen; omega) (by omega) (by simp; omega) ?_; intro A9 c9 w9 o9 k9 n9; have HM9 := Lib.hid (HM.push (x := (bumpB x)) (Nat.le_refl _) hz85 u1 HT.out HRX8.out (((Kept.refl _ _ _ _).alloc _).trans k9) o9); have HB9 := Lib.hid (HB8.out.trans ((((Kept.refl _ _ _ _).alloc _).trans k9).below (Nat.le_refl _) hz85 (by simp))); have HN9 := Lib.hid (n9 _ (by simp; omega) HNB.out); have HKB9 := Lib.hid (show Below w5.heap.size w8 w9 from (((Kept.refl _ _ _ _).alloc _).trans k9).below (Nat.le_refl _) hz85 (by simp)); clear o9 k9 n9))
            go_wp2_with fail
            go_roundw
            case rel => exact ⟨k + 1, out ++ [(bumpB x)], A9, c9, hlt, by rw [List.length_append, List.length_singleton], by go_num, HM9.out, by rw [List.length_append, List.length_singleton]; omega, fun h hh => by
              simp only [List.mem_append, List.mem_singleton] at hh
              rcases hh with hh | rfl
              · exact HOS.out h hh
              · exact HSX.out.2.2, HB9.out⟩
            case measure => simp [intOf]; omega
          by_cases hy3 : yb.tmod 5 = 3
          · have hym := hy3
            clear hy3
            have y1 : (yb.tmod 5 == 1) = false := by rw [hym]; rfl
            have y2 : (yb.tmod 5 == 2) = false := by rw [hym]; rfl
            have y3 : (yb.tmod 5 == 3) = true := by rw [hym]; rfl
            clear hym
            go_upto_region 13 with (first | (refine wpList_load rfl rfl rfl (by with_reducible exact LD.out) ?_) | (refine wpList_allocAgg rfl rfl (zero_hk _) ?_) | (refine wpList_storeBlk rfl rfl (vs := hkC x EA ec LA lc) rfl rfl (Blk.new _ _ _) rfl info_hunk (hkC_one x EA ec LA lc) ?_; intro w7 x7 kc zc))
            go_frame
            have k7 : Keep Nothing wr w7 := Keep.ofNew kc
            have hz7 : wr.heap.size < w7.heap.size := x7.lt
            go_upto_region 17 with fail
            obtain ⟨w8, hw8⟩ : ∃ W, W = w7 := ⟨_, rfl⟩
            rw [← hw8] at x7 k7 ⊢
            have x8 := x7
            have k8 := k7
            clear x7 k7 hw8 hz7
            have hz8 : wr.heap.size < w8.heap.size := x8.lt
            obtain ⟨tv, u1, u2, u3⟩ := HMM.out.below hzk k8.all
            have HT := Lib.hid u3
            have L8 := Lib.hid (load_hkC x8)
            have HRX8 := Lib.hid (show RowsI w8 w5.heap.size x (.slice EA x.eds.length ec) (.slice LA x.ls.length lc) from HRX.out _ (k8.below hzk (fun _ _ h => h)))
            have HB8 := Lib.hid (HBK.out.trans (k8.below hzk (fun _ _ h => h)))
            have HNB := Lib.hid (show NotB A' out.length cp wr.heap.size from fun q => by
              obtain ⟨_, _, o0, _⟩ := HMM.out
              have := (o0.blockAt _ q).2.1
              omega)
            have HX8 := Lib.hid x8
            have hz85 : w5.heap.size ≤ w8.heap.size := by omega
            clear u3 k8 x8 kc zc
            go_upto_region 18 with (first | (refine wpList_load rfl rfl rfl (by with_reducible exact L8.out) ?_) | (refine wpList_buildSlice1 rfl elemHunk rfl zero_hk rfl rfl (by omega) rfl ?_) | (at_builtin; refine wpList_append_slf rfl elemHunk rfl rfl (n := out.length) (u2.alloc _) (by omega) rfl (Reads.of_blk (n := 1) (xs := hkI x (.slice EA x.eds.length ec) (.slice LA x.ls.length lc)) (heap_alloc_new _ _) rfl rfl) (hkC_one x EA ec LA lc) (by unfold maxLen; omega) (by omega) (by simp; omega) ?_; intro A9 c9 w9 o9 k9 n9; have HM9 := Lib.hid (HM.push (x := x) (Nat.le_refl _) hz85 u1 HT.out HRX8.out (((Kept.refl _ _ _ _).alloc _).trans k9) o9); have HB9 := Lib.hid (HB8.out.trans ((((Kept.refl _ _ _ _).alloc _).trans k9).below (Nat.le_refl _) hz85 (by simp))); have HN9 := Lib.hid (n9 _ (by simp; omega) HNB.out); have HKB9 := Lib.hid (show Below w5.heap.size w8 w9 from (((Kept.refl _ _ _ _).alloc _).trans k9).below (Nat.le_refl _) hz85 (by simp)); clear o9 k9 n9))
            have hz9 := HB9.out.size
            have x9 : Blk w9 wr.heap.size 38 (hkC x EA ec LA lc) := HN9.out.1.trans (HX8.out.alloc _)
            have hz95 := x9.lt
            obtain ⟨tv', v1, v2, v3⟩ := HM9.out
            have HT' := Lib.hid v3
            have L9 := Lib.hid (load_hkC x9)
            have HRX9 := Lib.hid (show RowsI w9 w5.heap.size x (.slice EA x.eds.length ec) (.slice LA x.ls.length lc) from HRX8.out.below HKB9.out)
            have hol9 : (out ++ [x]).length = out.length + 1 := by simp
            rw [hol9] at v2
            clear v3 x9 hol9
            go_wp2_with (first | (refine wpList_load rfl rfl rfl (by with_reducible exact L9.out) ?_) | (refine wpList_buildSlice1 rfl elemHunk rfl zero_hk rfl rfl (by omega) rfl ?_) | (at_builtin; refine wpList_append_sl rfl elemHunk rfl rfl (n := out.length + 1) (v2.alloc _) rfl (Reads.of_blk (n := 1) (xs := hkI x (.slice EA x.eds.length ec) (.slice LA x.ls.length lc)) (heap_alloc_new _ _) rfl rfl) (hkC_one x EA ec LA lc) (by unfold maxLen; omega) (by omega) (by simp; omega) ?_; intro A10 c10 w10 o10 k10; have HM10 := Lib.hid (HM.push (x := x) (Nat.le_refl _) hz9 v1 HT'.out HRX9.out (((Kept.refl _ _ _ _).alloc _).trans k10) (by simpa using o10)); have HB10 := Lib.hid (HB9.out.trans ((((Kept.refl _ _ _ _).alloc _).trans k10).below (Nat.le_refl _) hz9 (by simp))); clear o10 k10))
            go_roundw
            case rel => exact ⟨k + 1, out ++ [x] ++ [x], A10, c10, hlt, by simp, by go_num, HM10.out, by simp; omega, fun h hh => by
              simp only [List.mem_append, List.mem_singleton] at hh
              rcases hh with (hh | rfl) | rfl
              · exact HOS.out h hh
              · exact HSX.out.1
              · exact HSX.out.1, HB10.out⟩
            case measure => simp [intOf]; omega
          have y1 : (yb.tmod 5 == 1) = false := by simpa using hy1
          have y2 : (yb.tmod 5 == 2) = false := by simpa using hy2
          have y3 : (yb.tmod 5 == 3) = false := by simpa using hy3
          go_upto_region 13 with (first | (refine wpList_load rfl rfl rfl (by with_reducible exact LD.out) ?_) | (refine wpList_allocAgg rfl rfl (zero_hk _) ?_) | (refine wpList_storeBlk rfl rfl (vs := hkC x EA ec LA lc) rfl rfl (Blk.new _ _ _) rfl info_hunk (hkC_one x EA ec LA lc) ?_; intro w7 x7 kc zc))
          go_frame
          have k7 : Keep Nothing wr w7 := Keep.ofNew kc
          have hz7 : wr.heap.size < w7.heap.size := x7.lt
          go_upto_region 17 with fail
          obtain ⟨w8, hw8⟩ : ∃ W, W = w7 := ⟨_, rfl⟩
          rw [← hw8] at x7 k7 ⊢
          have x8 := x7
          have k8 := k7
          clear x7 k7 hw8 hz7
          have hz8 : wr.heap.size < w8.heap.size := x8.lt
          obtain ⟨tv, u1, u2, u3⟩ := HMM.out.below hzk k8.all
          have HT := Lib.hid u3
          have L8 := Lib.hid (load_hkC x8)
          have HRX8 := Lib.hid (show RowsI w8 w5.heap.size x (.slice EA x.eds.length ec) (.slice LA x.ls.length lc) from HRX.out _ (k8.below hzk (fun _ _ h => h)))
          have HB8 := Lib.hid (HBK.out.trans (k8.below hzk (fun _ _ h => h)))
          have HNB := Lib.hid (show NotB A' out.length cp wr.heap.size from fun q => by
            obtain ⟨_, _, o0, _⟩ := HMM.out
            have := (o0.blockAt _ q).2.1
            omega)
          have HX8 := Lib.hid x8
          have hz85 : w5.heap.size ≤ w8.heap.size := by omega
          clear u3 k8 x8 kc zc
          go_upto_region 18 with (first | (refine wpList_load rfl rfl rfl (by with_reducible exact L8.out) ?_) | (refine wpList_buildSlice1 rfl elemHunk rfl zero_hk rfl rfl (by omega) rfl ?_) | (at_builtin; refine wpList_append_slf rfl elemHunk rfl rfl (n := out.length) (u2.alloc _) (by omega) rfl (Reads.of_blk (n := 1) (xs := hkI x (.slice EA x.eds.length ec) (.slice LA x.ls.length lc)) (heap_alloc_new _ _) rfl rfl) (hkC_one x EA ec LA lc) (by unfold maxLen; omega) (by omega) (by simp; omega) ?_; intro A9 c9 w9 o9 k9 n9; have HM9 := Lib.hid (HM.push (x := x) (Nat.le_refl _) hz85 u1 HT.out HRX8.out (((Kept.refl _ _ _ _).alloc _).trans k9) o9); have HB9 := Lib.hid (HB8.out.trans ((((Kept.refl _ _ _ _).alloc _).trans k9).below (Nat.le_refl _) hz85 (by simp))); have HN9 := Lib.hid (n9 _ (by simp; omega) HNB.out); have HKB9 := Lib.hid (show Below w5.heap.size w8 w9 from (((Kept.refl _ _ _ _).alloc _).trans k9).below (Nat.le_refl _) hz85 (by simp)); clear o9 k9 n9))
          go_wp2_with fail
          go_roundw
          case rel => exact ⟨k + 1, out ++ [x], A9, c9, hlt, by rw [List.length_append, List.length_singleton], by go_num, HM9.out, by rw [List.length_append, List.length_singleton]; omega, fun h hh => by
            simp only [List.mem_append, List.mem_singleton] at hh
            rcases hh with hh | rfl
            · exact HOS.out h hh
            · exact HSX.out.1, HB9.out⟩
          case measure => simp [intOf]; omega
        · go_wp2_with fail
          go_roundw
          case rel => exact ⟨k + 1, out, A', cp, hlt, rfl, by go_num, HMM.out, by omega, HOS.out, HBK.out⟩
          case measure => simp [intOf]; omega
      · have dI : decide ((k : Int) < (dl.length : Int)) = false := decide_eq_false (by omega)
        have dN : decide (k < dl.length) = false := decide_eq_false hd1
        clear HRDB
        go_upto_region 12 with fail
        by_cases hy1 : yb.tmod 5 = 1
        · have hym := hy1
          clear hy1
          have y1 : (yb.tmod 5 == 1) = true := by rw [hym]; rfl
          have y2 : (yb.tmod 5 == 2) = false := by rw [hym]; rfl
          have y3 : (yb.tmod 5 == 3) = false := by rw [hym]; rfl
          clear hym
          go_upto_region 13 with (first | (refine wpList_load rfl rfl rfl (by with_reducible exact LD.out) ?_) | (refine wpList_allocAgg rfl rfl (zero_hk _) ?_) | (refine wpList_storeBlk rfl rfl (vs := hkC x EA ec LA lc) rfl rfl (Blk.new _ _ _) rfl info_hunk (hkC_one x EA ec LA lc) ?_; intro w7 x7 kc zc))
          go_frame
          have k7 : Keep Nothing wr w7 := Keep.ofNew kc
          have hz7 : wr.heap.size < w7.heap.size := x7.lt
          have e0 : w7.cell? ⟨wr.heap.size, 0, none⟩ = some (.int .i64 x.a) := x7.cell 0
          have z0 : w7.frozen? ⟨wr.heap.size, 0, none⟩ = false := x7.frozen 0
          have x8 : Blk (w7.setCell ⟨wr.heap.size, 0, none⟩ (.int .i64 (wrap64 (x.a + 1)))) wr.heap.size 38 (hkC (bumpA x) EA ec LA lc) := x7.set_ 0 _
          have k8 : Keep Nothing wr (w7.setCell ⟨wr.heap.size, 0, none⟩ (.int .i64 (wrap64 (x.a + 1)))) := k7.setCell (.inr (Nat.le_refl _)) _
          go_upto_region 17 with fail
          generalize w7.setCell ⟨wr.heap.size, 0, none⟩ (.int .i64 (wrap64 (x.a + 1))) = w8 at *
          clear x7 k7 e0 z0 hz7
          have hz8 : wr.heap.size < w8.heap.size := x8.lt
          obtain ⟨tv, u1, u2, u3⟩ := HMM.out.below hzk k8.all
          have HT := Lib.hid u3
          have L8 := Lib.hid (load_hkC x8)
          have HRX8 := Lib.hid (show RowsI w8 w5.heap.size (bumpA x) (.slice EA x.eds.length ec) (.slice LA x.ls.length lc) from HRX.out _ (k8.below hzk (fun _ _ h => h)))
          have HB8 := Lib.hid (HBK.out.trans (k8.below hzk (fun _ _ h => h)))
          have HNB := Lib.hid (show NotB A' out.length cp wr.heap.size from fun q => by
            obtain ⟨_, _, o0, _⟩ := HMM.out
            have := (o0.blockAt _ q).2.1
            omega)
          have HX8 := Lib.hid x8
          have hz85 : w5.heap.size ≤ w8.heap.size := by omega
          clear u3 k8 x8 kc zc
          go_upto_region 18 with (first | (refine wpList_load rfl rfl rfl (by with_reducible exact L8.out) ?_) | (refine wpList_buildSlice1 rfl elemHunk rfl zero_hk rfl rfl (by omega) rfl ?_) | (at_builtin; refine wpList_append_slf rfl elemHunk rfl rfl (n := out.length) (u2.alloc _) (by omega) rfl (Reads.of_blk (n := 1) (xs := hkI (bumpA x) (.slice EA x.eds.length ec) (.slice LA x.ls.length lc)) (heap_alloc_new _ _) rfl rfl) (hkC_one (bumpA x) EA ec LA lc) (by unfold maxLen; omega) (by omega) (by simp; omega) ?_; intro A9 c9 w9 o9 k9 n9; have HM9 := Lib.hid (HM.push (x := (bumpA x)) (Nat.le_refl _) hz85 u1 HT.out HRX8.out (((Kept.refl _ _ _ _).alloc _).trans k9) o9); have HB9 := Lib.hid (HB8.out.trans ((((Kept.refl _ _ _ _).alloc _).trans k9).below (Nat.le_refl _) hz85 (by simp))); have HN9 := Lib.hid (n9 _ (by simp; omega) HNB.out); have HKB9 := Lib.hid (show Below w5.heap.size w8 w9 from (((Kept.refl _ _ _ _).alloc _).trans k9).below (Nat.le_refl _) hz85 (by simp)); clear o9 k9 n9))
          go_wp2_with fail
          go_roundw
          case rel => exact ⟨k + 1, out ++ [(bumpA x)], A9, c9, hlt, by rw [List.length_append, List.length_singleton], by go_num, HM9.out, by rw [List.length_append, List.length_singleton]; omega, fun h hh => by
            simp only [List.mem_append, List.mem_singleton] at hh
            rcases hh with hh | rfl
            · exact HOS.out h hh
            · exact HSX.out.2.1, HB9.out⟩
          case measure => simp [intOf]; omega
        by_cases hy2 : yb.tmod 5 = 2
        · have hym := hy2
          clear hy2
          have y1 : (yb.tmod 5 == 1) = false := by rw [hym]; rfl
          have y2 : (yb.tmod 5 == 2) = true := by rw [hym]; rfl
          have y3 : (yb.tmod 5 == 3) = false := by rw [hym]; rfl
          clear hym
          go_upto_region 13 with (first | (refine wpList_load rfl rfl rfl (by with_reducible exact LD.out) ?_) | (refine wpList_allocAgg rfl rfl (zero_hk _) ?_) | (refine wpList_storeBlk rfl rfl (vs := hkC x EA ec LA lc) rfl rfl (Blk.new _ _ _) rfl info_hunk (hkC_one x EA ec LA lc) ?_; intro w7 x7 kc zc))
          go_frame
          have k7 : Keep Nothing wr w7 := Keep.ofNew kc
          have hz7 : wr.heap.size < w7.heap.size := x7.lt
          have e0 : w7.cell? ⟨wr.heap.size, 1, none⟩ = some (.int .i64 x.b) := x7.cell 1
          have z0 : w7.frozen? ⟨wr.heap.size, 1, none⟩ = false := x7.frozen 1
          have x8 : Blk (w7.setCell ⟨wr.heap.size, 1, none⟩ (.int .i64 (wrap64 (x.b + 1)))) wr.heap.size 38 (hkC (bumpB x) EA ec LA lc) := x7.set_ 1 _
          have k8 : Keep Nothing wr (w7.setCell ⟨wr.heap.size, 1, none⟩ (.int .i64 (wrap64 (x.b + 1)))) := k7.setCell (.inr (Nat.le_refl _)) _
          go_upto_region 17 with fail
          generalize w7.setCell ⟨wr.heap.size, 1, none⟩ (.int .i64 (wrap64 (x.b + 1))) = w8 at *
          clear x7 k7 e0 z0 hz7
          have hz8 : wr.heap.size < w8.heap.size := x8.lt
          obtain ⟨tv, u1, u2, u3⟩ := HMM.out.below hzk k8.all
          have HT := Lib.hid u3
          have L8 := Lib.hid (load_hkC x8)
          have HRX8 := Lib.hid (show RowsI w8 w5.heap.size (bumpB x) (.slice EA x.eds.length ec) (.slice LA x.ls.length lc) from HRX.out _ (k8.below hzk (fun _ _ h => h)))
          have HB8 := Lib.hid (HBK.out.trans (k8.below hzk (fun _ _ h => h)))
          have HNB := Lib.hid (show NotB A' out.length cp wr.heap.size from fun q => by
            obtain ⟨_, _, o0, _⟩ := HMM.out
            have := (o0.blockAt _ q).2.1
            omega)
          have HX8 := Lib.hid x8
          have hz85 : w5.heap.size ≤ w8.heap.size := by omega
          clear u3 k8 x8 kc zc
          go_upto_region 18 with (first | (refine wpList_load rfl rfl rfl (by with_reducible exact L8.out) ?_) | (refine wpList_buildSlice1 rfl elemHunk rfl zero_hk rfl rfl (by omega) rfl ?_) | (at_builtin; refine wpList_append_slf rfl elemHunk rfl rfl (n := out.length) (u2.alloc _) (by omega) rfl (Reads.of_blk (n := 1) (xs := hkI (bumpB x) (.slice EA x.eds.length ec) (.slice LA x.ls.length lc)) (heap_alloc_new _ _) rfl rfl) (hkC_one (bumpB x) EA ec LA lc) (by unfold maxLen; omega) (by omega) (by simp; omega) ?_; intro A9 c9 w9 o9 k9 n9; have HM9 := Lib.hid (HM.push (x := (bumpB x)) (Nat.le_refl _) hz85 u1 HT.out HRX8.out (((Kept.refl _ _ _ _).alloc _).trans k9) o9); have HB9 := Lib.hid (HB8.out.trans ((((Kept.refl _ _ _ _).alloc _).trans k9).below (Nat.le_refl _) hz85 (by simp))); have HN9 := Lib.hid (n9 _ (by simp; omega) HNB.out); have HKB9 := Lib.hid (show Below w5.heap.size w8 w9 from (((Kept.refl _ _ _ _).alloc _).trans k9).below (Nat.le_refl _) hz85 (by simp)); clear o9 k9 n9))
          go_wp2_with fail
          go_roundw
          case rel => exact ⟨k + 1, out ++ [(bumpB x)], A9, c9, hlt, by rw [List.length_append, List.length_singleton], by go_num, HM9.out, by rw [List.length_append, List.length_singleton]; omega, fun h hh => by
            simp only [List.mem_append, List.mem_singleton] at hh
            rcases hh with hh | rfl
            · exact HOS.out h hh
            · exact HSX.out.2.2, HB9.out⟩
          case measure => simp [intOf]; omega
        by_cases hy3 : yb.tmod 5 = 3
        · have hym := hy3
          clear hy3
          have y1 : (yb.tmod 5 == 1) = false := by rw [hym]; rfl
          have y2 : (yb.tmod 5 == 2) = false := by rw [hym]; rfl
          have y3 : (yb.tmod 5 == 3) = true := by rw [hym]; rfl
          clear hym
          go_upto_region 13 with (first | (refine wpList_load rfl rfl rfl (by with_reducible exact LD.out) ?_) | (refine wpList_allocAgg rfl rfl (zero_hk _) ?_) | (refine wpList_storeBlk rfl rfl (vs := hkC x EA ec LA lc) rfl rfl (Blk.new _ _ _) rfl info_hunk (hkC_one x EA ec LA lc) ?_; intro w7 x7 kc zc))
          go_frame
          have k7 : Keep Nothing wr w7 := Keep.ofNew kc
          have hz7 : wr.heap.size < w7.heap.size := x7.lt
          go_upto_region 17 with fail
          obtain ⟨w8, hw8⟩ : ∃ W, W = w7 := ⟨_, rfl⟩
          rw [← hw8] at x7 k7 ⊢
          have x8 := x7
          have k8 := k7
          clear x7 k7 hw8 hz7
          have hz8 : wr.heap.size < w8.heap.size := x8.lt
          obtain ⟨tv, u1, u2, u3⟩ := HMM.out.below hzk k8.all
          have HT := Lib.hid u3
          have L8 := Lib.hid (load_hkC x8)
          have HRX8 := Lib.hid (show RowsI w8 w5.heap.size x (.slice EA x.eds.length ec) (.slice LA x.ls.length lc) from HRX.out _ (k8.below hzk (fun _ _ h => h)))
          have HB8 := Lib.hid (HBK.out.trans (k8.below hzk (fun _ _ h => h)))
          have HNB := Lib.hid (show NotB A' out.length cp wr.heap.size from fun q => by
            obtain ⟨_, _, o0, _⟩ := HMM.out
            have := (o0.blockAt _ q).2.1
            omega)
          have HX8 := Lib.hid x8
          have hz85 : w5.heap.size ≤ w8.heap.size := by omega
          clear u3 k8 x8 kc zc
          go_upto_region 18 with (first | (refine wpList_load rfl rfl rfl (by with_reducible exact L8.out) ?_) | (refine wpList_buildSlice1 rfl elemHunk rfl zero_hk rfl rfl (by omega) rfl ?_) | (at_builtin; refine wpList_append_slf rfl elemHunk rfl rfl (n := out.length) (u2.alloc _) (by omega) rfl (Reads.of_blk (n := 1) (xs := hkI x (.slice EA x.eds.length ec) (.slice LA x.ls.length lc)) (heap_alloc_new _ _) rfl rfl) (hkC_one x EA ec LA lc) (by unfold maxLen; omega) (by omega) (by simp; omega) ?_; intro A9 c9 w9 o9 k9 n9; have HM9 := Lib.hid (HM.push (x := x) (Nat.le_refl _) hz85 u1 HT.out HRX8.out (((Kept.refl _ _ _ _).alloc _).trans k9) o9); have HB9 := Lib.hid (HB8.out.trans ((((Kept.refl _ _ _ _).alloc _).trans k9).below (Nat.le_refl _) hz85 (by simp))); have HN9 := Lib.hid (n9 _ (by simp; omega) HNB.out); have HKB9 := Lib.hid (show Below w5.heap.size w8 w9 from (((Kept.refl _ _ _ _).alloc _).trans k9).below (Nat.le_refl _) hz85 (by simp)); clear o9 k9 n9))
          have hz9 := HB9.out.size
          have x9 : Blk w9 wr.heap.size 38 (hkC x EA ec LA lc) := HN9.out.1.trans (HX8.out.alloc _)
          have hz95 := x9.lt
          obtain ⟨tv', v1, v2, v3⟩ := HM9.out
          have HT' := Lib.hid v3
          have L9 := Lib.hid (load_hkC x9)
          have HRX9 := Lib.hid (show RowsI w9 w5.heap.size x (.slice EA x.eds.length ec) (.slice LA x.ls.length lc) from HRX8.out.below HKB9.out)
          have hol9 : (out ++ [x]).length = out.length + 1 := by simp
          rw [hol9] at v2
          clear v3 x9 hol9
          go_wp2_with (first | (refine wpList_load rfl rfl rfl (by with_reducible exact L9.out) ?_) | (refine wpList_buildSlice1 rfl elemHunk rfl zero_hk rfl rfl (by omega) rfl ?_) | (at_builtin; refine wpList_append_sl rfl elemHunk rfl rfl (n := out.length + 1) (v2.alloc _) rfl (Reads.of_blk (n := 1) (xs := hkI x (.slice EA x.eds.length ec) (.slice LA x.ls.length lc)) (heap_alloc_new _ _) rfl rfl) (hkC_one x EA ec LA lc) (by unfold maxLen; omega) (by omega) (by simp; omega) ?_; intro A10 c10 w10 o10 k10; have HM10 := Lib.hid (HM.push (x := x) (Nat.le_refl _) hz9 v1 HT'.out HRX9.out (((Kept.refl _ _ _ _).alloc _).trans k10) (by simpa using o10)); have HB10 := Lib.hid (HB9.out.trans ((((Kept.refl _ _ _ _).alloc _).trans k10).below (Nat.le_refl _) hz9 (by simp))); clear o10 k10))
          go_roundw
          case rel => exact ⟨k + 1, out ++ [x] ++ [x], A10, c10, hlt, by simp, by go_num, HM10.out, by simp; omega, fun h hh => by
            simp only [List.mem_append, List.mem_singleton] at hh
            rcases hh with (hh | rfl) | rfl
            · exact HOS.out h hh
            · exact HSX.out.1
            · exact HSX.out.1, HB10.out⟩
          case measure => simp [intOf]; omega
        have y1 : (yb.tmod 5 == 1) = false := by simpa using hy1
        have y2 : (yb.tmod 5 == 2) = false := by simpa using hy2
        have y3 : (yb.tmod 5 == 3) = false := by simpa using hy3
        go_upto_region 13 with (first | (refine wpList_load rfl rfl rfl (by with_reducible exact LD.out) ?_) | (refine wpList_allocAgg rfl rfl (zero_hk _) ?_) | (refine wpList_storeBlk rfl rfl (vs := hkC x EA ec LA lc) rfl rfl (Blk.new _ _ _) rfl info_hunk (hkC_one x EA ec LA lc) ?_; intro w7 x7 kc zc))
        go_frame
        have k7 : Keep Nothing wr w7 := Keep.ofNew kc
        have hz7 : wr.heap.size < w7.heap.size := x7.lt
        go_upto_region 17 with fail
        obtain ⟨w8, hw8⟩ : ∃ W, W = w7 := ⟨_, rfl⟩
        rw [← hw8] at x7 k7 ⊢
        have x8 := x7
        have k8 := k7
        clear x7 k7 hw8 hz7
        have hz8 : wr.heap.size < w8.heap.size := x8.lt
        obtain ⟨tv, u1, u2, u3⟩ := HMM.out.below hzk k8.all
        have HT := Lib.hid u3
        have L8 := Lib.hid (load_hkC x8)
        have HRX8 := Lib.hid (show RowsI w8 w5.heap.size x (.slice EA x.eds.length ec) (.slice LA x.ls.length lc) from HRX.out _ (k8.below hzk (fun _ _ h => h)))
        have HB8 := Lib.hid (HBK.out.trans (k8.below hzk (fun _ _ h => h)))
        have HNB := Lib.hid (show NotB A' out.length cp wr.heap.size from fun q => by
          obtain ⟨_, _, o0, _⟩ := HMM.out
          have := (o0.blockAt _ q).2.1
          omega)
        have HX8 := Lib.hid x8
        have hz85 : w5.heap.size ≤ w8.heap.size := by omega
        clear u3 k8 x8 kc zc
        go_upto_region 18 with (first | (refine wpList_load rfl rfl rfl (by with_reducible exact L8.out) ?_) | (refine wpList_buildSlice1 rfl elemHunk rfl zero_hk rfl rfl (by omega) rfl ?_) | (at_builtin; refine wpList_append_slf rfl elemHunk rfl rfl (n := out.length) (u2.alloc _) (by omega) rfl (Reads.of_blk (n := 1) (xs := hkI x (.slice EA x.eds.length ec) (.slice LA x.ls.length lc)) (heap_alloc_new _ _) rfl rfl) (hkC_one x EA ec LA lc) (by unfold maxLen; omega) (by omega) (by simp; omega) ?_; intro A9 c9 w9 o9 k9 n9; have HM9 := Lib.hid (HM.push (x := x) (Nat.le_refl _) hz85 u1 HT.out HRX8.out (((Kept.refl _ _ _ _).alloc _).trans k9) o9); have HB9 := Lib.hid (HB8.out.trans ((((Kept.refl _ _ _ _).alloc _).trans k9).below (Nat.le_refl _) hz85 (by simp))); have HN9 := Lib.hid (n9 _ (by simp; omega) HNB.out); have HKB9 := Lib.hid (show Below w5.heap.size w8 w9 from (((Kept.refl _ _ _ _).alloc _).trans k9).below (Nat.le_refl _) hz85 (by simp)); clear o9 k9 n9))
        go_wp2_with fail
        go_roundw
        case rel => exact ⟨k + 1, out ++ [x], A9, c9, hlt, by rw [List.length_append, List.length_singleton], by go_num, HM9.out, by rw [List.length_append, List.length_singleton]; omega, fun h hh => by
          simp only [List.mem_append, List.mem_singleton] at hh
          rcases hh with hh | rfl
          · exact HOS.out h hh
          · exact HSX.out.1, HB9.out⟩
        case measure => simp [intOf]; omega
    · obtain rfl : k = H.length := by omega
      have hxx : ¬ (H.length < H.length) := Nat.lt_irrefl _
      have hS := hmm.reads hzk
      have HOS := Lib.hid hos
      have HAPP := Lib.hid (show ∀ (X : List (List UInt8)) AX cX W, Below wr.heap.size wr W → Reads W w5.heap.size 1 AX X.length (strL X) → X.length ≤ cX → X.length ≤ 4000 → Calls Tryd.prog 20 #[.slice AX X.length cX, .slice A' out.length cp] W (ApplyR (applyP X out) W) from fun X AX cX W kk h1 h2 h3 =>
        apply_any X AX cX out A' cp wr.heap.size W kk.size (h1.more hzk) h2 h3 (hS.below kk) (by omega) HOS.out)
      have HRAP := Lib.hid (show ∀ (X : List (List UInt8)) AX cX W, Below wr.heap.size wr W → Reads W w5.heap.size 1 AX X.length (strL X) → X.length ≤ cX → X.length ≤ 4000 → Calls Tryd.prog 21 #[.slice AX X.length cX, .slice A' out.length cp] W (ApplyR (applyP X out) W) from fun X AX cX W kk h1 h2 h3 =>
        rapply_any X AX cX out A' cp wr.heap.size W kk.size (h1.more hzk) h2 h3 (hS.below kk) (by omega) HOS.out)
      have HBR := Lib.hid (show ∀ W, Below wr.heap.size wr W → Below w5.heap.size w5 W from fun W kk => hbk.trans (kk.mono hzk))
      clear hmm hos hS hbk HSM HLH HRD
      go_wp2_with fail
      generalize hz6 : wr.heap.size = z6 at *
      have x6 : Blk (wr.alloc (.cells #[.slice A1 ga.length c1, .slice A2 gb.length c2, .slice Ac c.length cc] 22)) z6 22 #[.slice A1 ga.length c1, .slice A2 gb.length c2, .slice Ac c.length cc] := by rw [← hz6]; exact Blk.new _ _ _
      have b6 : Below z6 wr (wr.alloc (.cells #[.slice A1 ga.length c1, .slice A2 gb.length c2, .slice Ac c.length cc] 22)) := (Below.refl _ _).alloc (by omega) _
      have hs6 : (wr.alloc (.cells #[.slice A1 ga.length c1, .slice A2 gb.length c2, .slice Ac c.length cc] 22)).heap.size = z6 + 1 := by simp [hz6]
      generalize wr.alloc (.cells #[.slice A1 ga.length c1, .slice A2 gb.length c2, .slice Ac c.length cc] 22) = w6 at *
      go_loopw [19] (fun s19 wi => ∃ i : Nat, i ≤ 3 ∧ s19 = .int .i64 (i : Nat) ∧ Below (z6 + 1) w6 wi) (fun s19 _ => 3 - (intOf s19).toNat)
      case atStart => exact ⟨0, by omega, rfl, Below.refl _ _⟩
      case round =>
        obtain ⟨i, hi, rfl, hbi⟩ := hrel
        have hzi := hbi.size
        have x7 : Blk wr z6 22 #[.slice A1 ga.length c1, .slice A2 gb.length c2, .slice Ac c.length cc] := x6.below hbi (by omega)
        have e0 : wr.cell? ⟨z6, 0, none⟩ = some (.slice A1 ga.length c1) := x7.cell 0
        have e1 : wr.cell? ⟨z6, 1, none⟩ = some (.slice A2 gb.length c2) := x7.cell 1
        have e2 : wr.cell? ⟨z6, 2, none⟩ = some (.slice Ac c.length cc) := x7.cell 2
        have hb7 := b6.trans (hbi.mono (by omega))
        clear x7
        have h4 : i = 0 ∨ i = 1 ∨ i = 2 ∨ i = 3 := by omega
        rcases h4 with rfl | rfl | rfl | rfl
        · have HAX := Lib.hid (show ∀ W, Below z6 wr W → Calls Tryd.prog 20 #[.slice A1 ga.length c1, .slice A' out.length cp] W (ApplyR (applyP ga out) W) from fun W k0 => by
            have kk := hb7.trans k0
            exact HAPP.out ga A1 c1 W kk (HR1.out _ (HBR.out _ kk)) q1 (by omega))
          have HRX := Lib.hid (show ∀ W, Below z6 wr W → Calls Tryd.prog 21 #[.slice A1 ga.length c1, .slice A' out.length cp] W (ApplyR (applyP ga out) W) from fun W k0 => by
            have kk := hb7.trans k0
            exact HRAP.out ga A1 c1 W kk (HR1.out _ (HBR.out _ kk)) q1 (by omega))
          have HBI := Lib.hid hbi
          have HCE := Lib.hid (show ∀ W, Below (z6 + 1) wr W → W.cell? ⟨z6, 0, none⟩ = some (.slice A1 ga.length c1) from fun W kk => (kk.cell (by show z6 < z6 + 1; omega)).trans e0)
          clear e0 e1 e2 hbi hb7
          have e0 := HCE.out _ (Below.refl _ _)
          cases hR : applyP ga out with
          | error er =>
            rw [hR] at HAX HRX
            go_upto_region 25 with (first | (go_at_call 20; refine (HAX.out _ (Below.refl _ _)).mono ?_))
            rintro _ w8 ⟨b8, rfl⟩
            clear e0
            have b8' : Below (z6 + 1) wr w8 := b8.mono (by omega)
            have f0 := HCE.out _ b8'
            go_upto_region 26 with (first | (go_at_call 21; refine (HRX.out _ (b8'.mono (by omega))).mono ?_))
            rintro _ w9 ⟨b9, rfl⟩
            clear f0
            have hz8 := b8'.size
            have HB9 := Lib.hid ((HBI.out.trans b8').trans (b9.mono (by omega)))
            have HS := Lib.hid (fun W => sameLines_refl [] none none 0 0 0 W Reads.none_ Reads.none_ (by decide))
            go_upto_region 26 with fail
            go_wp2_with (go_at_call 22; refine (HS.out _).mono ?_)
            rintro _ _ ⟨rfl, n0, rfl⟩
            go_wp2_with fail
            go_roundw
            case rel => exact ⟨0 + 1, by omega, by go_num, bdrew HB9.out (by have := HB9.out.size; omega) n0⟩
            case measure => simp [intOf]
          | ok res =>
            rw [hR] at HAX HRX
            go_upto_region 25 with (first | (go_at_call 20; refine (HAX.out _ (Below.refl _ _)).mono ?_))
            rintro _ w8 ⟨b8, A8, c8, rfl, o8⟩
            clear e0
            have b8' : Below (z6 + 1) wr w8 := b8.mono (by omega)
            have f0 := HCE.out _ b8'
            have O8 := Lib.hid o8
            clear o8
            go_upto_region 26 with (first | (go_at_call 21; refine (HRX.out _ (b8'.mono (by omega))).mono ?_))
            rintro _ w9 ⟨b9, A9, c9, rfl, o9⟩
            clear f0
            have hz8 := b8'.size
            have HB9 := Lib.hid ((HBI.out.trans b8').trans (b9.mono (by omega)))
            have r8 : Reads w9 w9.heap.size 1 A8 res.length (strL res) := (O8.out.reads.below b9).more b9.size
            have hcp := o9.cap_le
            have HS := Lib.hid (sameLines_refl res A8 A9 c8 c9 w9.heap.size w9 r8 o9.reads (by unfold maxLen at hcp; omega))
            clear o9 r8 hcp
            go_upto_region 26 with fail
            go_wp2_with (go_at_call 22; refine HS.out.mono ?_)
            rintro _ _ ⟨rfl, n0, rfl⟩
            go_wp2_with fail
            go_roundw
            case rel => exact ⟨0 + 1, by omega, by go_num, bdrew HB9.out (by have := HB9.out.size; omega) n0⟩
            case measure => simp [intOf]
        · have HAX := Lib.hid (show ∀ W, Below z6 wr W → Calls Tryd.prog 20 #[.slice A2 gb.length c2, .slice A' out.length cp] W (ApplyR (applyP gb out) W) from fun W k0 => by
            have kk := hb7.trans k0
            exact HAPP.out gb A2 c2 W kk (HR2.out _ (HBR.out _ kk)) q2 (by omega))
          have HRX := Lib.hid (show ∀ W, Below z6 wr W → Calls Tryd.prog 21 #[.slice A2 gb.length c2, .slice A' out.length cp] W (ApplyR (applyP gb out) W) from fun W k0 => by
            have kk := hb7.trans k0
            exact HRAP.out gb A2 c2 W kk (HR2.out _ (HBR.out _ kk)) q2 (by omega))
          have HBI := Lib.hid hbi
          have HCE := Lib.hid (show ∀ W, Below (z6 + 1) wr W → W.cell? ⟨z6, 1, none⟩ = some (.slice A2 gb.length c2) from fun W kk => (kk.cell (by show z6 < z6 + 1; omega)).trans e1)
          clear e0 e1 e2 hbi hb7
          have e1 := HCE.out _ (Below.refl _ _)
          cases hR : applyP gb out with
          | error er =>
            rw [hR] at HAX HRX
            go_upto_region 25 with (first | (go_at_call 20; refine (HAX.out _ (Below.refl _ _)).mono ?_))
            rintro _ w8 ⟨b8, rfl⟩
            clear e1
            have b8' : Below (z6 + 1) wr w8 := b8.mono (by omega)
            have f0 := HCE.out _ b8'
            go_upto_region 26 with (first | (go_at_call 21; refine (HRX.out _ (b8'.mono (by omega))).mono ?_))
            rintro _ w9 ⟨b9, rfl⟩
            clear f0
            have hz8 := b8'.size
            have HB9 := Lib.hid ((HBI.out.trans b8').trans (b9.mono (by omega)))
            have HS := Lib.hid (fun W => sameLines_refl [] none none 0 0 0 W Reads.none_ Reads.none_ (by decide))
            go_upto_region 26 with fail
            go_wp2_with (go_at_call 22; refine (HS.out _).mono ?_)
            rintro _ _ ⟨rfl, n0, rfl⟩
            go_wp2_with fail
            go_roundw
            case rel => exact ⟨1 + 1, by omega, by go_num, bdrew HB9.out (by have := HB9.out.size; omega) n0⟩
            case measure => simp [intOf]
          | ok res =>
            rw [hR] at HAX HRX
            go_upto_region 25 with (first | (go_at_call 20; refine (HAX.out _ (Below.refl _ _)).mono ?_))
            rintro _ w8 ⟨b8, A8, c8, rfl, o8⟩
            clear e1
            have b8' : Below (z6 + 1) wr w8 := b8.mono (by omega)
            have f0 := HCE.out _ b8'
            have O8 := Lib.hid o8
            clear o8
            go_upto_region 26 with (first | (go_at_call 21; refine (HRX.out _ (b8'.mono (by omega))).mono ?_))
            rintro _ w9 ⟨b9, A9, c9, rfl, o9⟩
            clear f0
            have hz8 := b8'.size
            have HB9 := Lib.hid ((HBI.out.trans b8').trans (b9.mono (by omega)))
            have r8 : Reads w9 w9.heap.size 1 A8 res.length (strL res) := (O8.out.reads.below b9).more b9.size
            have hcp := o9.cap_le
            have HS := Lib.hid (sameLines_refl res A8 A9 c8 c9 w9.heap.size w9 r8 o9.reads (by unfold maxLen at hcp; omega))
            clear o9 r8 hcp
            go_upto_region 26 with fail
            go_wp2_with (go_at_call 22; refine HS.out.mono ?_)
            rintro _ _ ⟨rfl, n0, rfl⟩
            go_wp2_with fail
            go_roundw
            case rel => exact ⟨1 + 1, by omega, by go_num, bdrew HB9.out (by have := HB9.out.size; omega) n0⟩
            case measure => simp [intOf]
        · have HAX := Lib.hid (show ∀ W, Below z6 wr W → Calls Tryd.prog 20 #[.slice Ac c.length cc, .slice A' out.length cp] W (ApplyR (applyP c out) W) from fun W k0 => by
            have kk := hb7.trans k0
            exact HAPP.out c Ac cc W kk ((HRC.out _ (HBW.out _ (HBR.out _ kk))).more hz5) hcc (by omega))
          have HRX := Lib.hid (show ∀ W, Below z6 wr W → Calls Tryd.prog 21 #[.slice Ac c.length cc, .slice A' out.length cp] W (ApplyR (applyP c out) W) from fun W k0 => by
            have kk := hb7.trans k0
            exact HRAP.out c Ac cc W kk ((HRC.out _ (HBW.out _ (HBR.out _ kk))).more hz5) hcc (by omega))
          have HBI := Lib.hid hbi
          have HCE := Lib.hid (show ∀ W, Below (z6 + 1) wr W → W.cell? ⟨z6, 2, none⟩ = some (.slice Ac c.length cc) from fun W kk => (kk.cell (by show z6 < z6 + 1; omega)).trans e2)
          clear e0 e1 e2 hbi hb7
          have e2 := HCE.out _ (Below.refl _ _)
          cases hR : applyP c out with
          | error er =>
            rw [hR] at HAX HRX
            go_upto_region 25 with (first | (go_at_call 20; refine (HAX.out _ (Below.refl _ _)).mono ?_))
            rintro _ w8 ⟨b8, rfl⟩
            clear e2
            have b8' : Below (z6 + 1) wr w8 := b8.mono (by omega)
            have f0 := HCE.out _ b8'
            go_upto_region 26 with (first | (go_at_call 21; refine (HRX.out _ (b8'.mono (by omega))).mono ?_))
            rintro _ w9 ⟨b9, rfl⟩
            clear f0
            have hz8 := b8'.size
            have HB9 := Lib.hid ((HBI.out.trans b8').trans (b9.mono (by omega)))
            have HS := Lib.hid (fun W => sameLines_refl [] none none 0 0 0 W Reads.none_ Reads.none_ (by decide))
            go_upto_region 26 with fail
            go_wp2_with (go_at_call 22; refine (HS.out _).mono ?_)
            rintro _ _ ⟨rfl, n0, rfl⟩
            go_wp2_with fail
            go_roundw
            case rel => exact ⟨2 + 1, by omega, by go_num, bdrew HB9.out (by have := HB9.out.size; omega) n0⟩
            case measure => simp [intOf]
          | ok res =>
            rw [hR] at HAX HRX
            go_upto_region 25 with (first | (go_at_call 20; refine (HAX.out _ (Below.refl _ _)).mono ?_))
            rintro _ w8 ⟨b8, A8, c8, rfl, o8⟩
            clear e2
            have b8' : Below (z6 + 1) wr w8 := b8.mono (by omega)
            have f0 := HCE.out _ b8'
            have O8 := Lib.hid o8
            clear o8
            go_upto_region 26 with (first | (go_at_call 21; refine (HRX.out _ (b8'.mono (by omega))).mono ?_))
            rintro _ w9 ⟨b9, A9, c9, rfl, o9⟩
            clear f0
            have hz8 := b8'.size
            have HB9 := Lib.hid ((HBI.out.trans b8').trans (b9.mono (by omega)))
            have r8 : Reads w9 w9.heap.size 1 A8 res.length (strL res) := (O8.out.reads.below b9).more b9.size
            have hcp := o9.cap_le
            have HS := Lib.hid (sameLines_refl res A8 A9 c8 c9 w9.heap.size w9 r8 o9.reads (by unfold maxLen at hcp; omega))
            clear o9 r8 hcp
            go_upto_region 26 with fail
            go_wp2_with (go_at_call 22; refine HS.out.mono ?_)
            rintro _ _ ⟨rfl, n0, rfl⟩
            go_wp2_with fail
            go_roundw
            case rel => exact ⟨2 + 1, by omega, by go_num, bdrew HB9.out (by have := HB9.out.size; omega) n0⟩
            case measure => simp [intOf]
        · go_wp2_with fail
          go_ret
          exact ⟨rfl, HBW.out _ (HBR.out _ hb7)⟩
set_option maxRecDepth 100000 in
theorem patchNear_reads (os : Os) {H : Type} (enc : TypeId × Value → H) : DataW.whole enc Tryd.prog ((World.doorLaid Tryd.prog 400 os).forCall (fun _ _ => 0) ⟨#[], #[.slice none 0 0, .slice none 0 0, .int .i64 0, .slice none 0 0, .int .i64 0, .slice none 0 0], []⟩).memory Tryd.f6.params.toList Rows.patchNearSpec.vars false (#[.slice none 0 0, .slice none 0 0, .int .i64 0, .slice none 0 0, .int .i64 0, .slice none 0 0] : Array Value).toList 8 = some ([.nil, .nil, .lit (.int .i64 0), .nil, .lit (.int .i64 0), .nil], [], []) := by kernel_rfl
set_option maxRecDepth 100000 in
theorem patchNear_lifted (os : Os) (started : os.Started) (H : Type) (enc : TypeId × Value → H) (F : Stop.Interp) :
    ReturnsInHanded {} Tryd.checked os 6 .any ((Rows.OpenSpec.upto Rows.patchNearSpec).preRow enc Tryd.prog Tryd.f6 Rows.patchNearUptoRow.domain false Rows.patchNearUptoRow.laid) (((Rows.OpenSpec.upto Rows.patchNearSpec).at F).post enc Tryd.prog Tryd.f6 false true false false) := by
  refine returnsInHanded_of_row (C := Tryd.checked) (s := Rows.OpenSpec.upto Rows.patchNearSpec) own started (by kernel_rfl) Tryd.func6
    (witness_row_at (enc := enc) (C := Tryd.checked) false (World.doorLaid Tryd.prog 400 os) #[.slice none 0 0, .slice none 0 0, .int .i64 0, .slice none 0 0, .int .i64 0, .slice none 0 0] rfl (by kernel_rfl) (by kernel_rfl) (by kernel_rfl)
      (OpenSpec.preRow_of_cond 8 (patchNear_reads os enc) (by kernel_rfl) (fun k hk => by cases hk; kernel_rfl) (by kernel_rfl) (door_met3 os _))) ?_
  intro W base args ds gs before hval0 hW hx1 hcond hx3 hL hx4 hx5
  have hval : ∀ (j : Nat) t v, Tryd.f6.params[j]? = some t → args[j]? = some v → Value.okWide Tryd.prog W .any base t v := hval0
  have hW' := hW
  obtain ⟨p, q, hA0, hV, rfl, hfz, hnd⟩ := hW
  have hA : DataW.TrodAll enc Tryd.prog W 0 (fun _ => true) true Tryd.f6.params.toList args.toList ds p := hA0
  rw [Tryd.params6] at hA hval
  obtain ⟨v0, vs0, d0, ds0, p0, q0, hargs, rfl, rfl, h0, r0⟩ := trodAll_cons hA
  obtain ⟨v1, vs1, d1, ds1, p1, q1, rfl, rfl, rfl, h1, r1⟩ := trodAll_cons r0
  obtain ⟨v2, vs2, d2, ds2, p2, q2, rfl, rfl, rfl, h2, r2⟩ := trodAll_cons r1
  obtain ⟨v3, vs3, d3, ds3, p3, q3, rfl, rfl, rfl, h3, r3⟩ := trodAll_cons r2
  obtain ⟨v4, vs4, d4, ds4, p4, q4, rfl, rfl, rfl, h4, r4⟩ := trodAll_cons r3
  obtain ⟨v5, vs5, d5, ds5, p5, q5, rfl, rfl, rfl, h5, r5⟩ := trodAll_cons r4
  obtain ⟨rfl, rfl, rfl⟩ := trodAll_nil r5
  obtain rfl : args = #[v0, v1, v2, v3, v4, v5] := by cases args; simp_all
  obtain ⟨rfl, rfl⟩ := trodVars_none hV
  have k0 := h0
  have lt0 : ∀ x ∈ p0, x.block < W.heap.size := by obtain ⟨m, hm⟩ := k0; exact DataW.trod_lt m _ _ _ hm
  have k1 := h1
  have lt1 : ∀ x ∈ p1, x.block < W.heap.size := by obtain ⟨m, hm⟩ := k1; exact DataW.trod_lt m _ _ _ hm
  have k2 := h2
  have lt2 : ∀ x ∈ p2, x.block < W.heap.size := by obtain ⟨m, hm⟩ := k2; exact DataW.trod_lt m _ _ _ hm
  have k3 := h3
  have lt3 : ∀ x ∈ p3, x.block < W.heap.size := by obtain ⟨m, hm⟩ := k3; exact DataW.trod_lt m _ _ _ hm
  have k4 := h4
  have lt4 : ∀ x ∈ p4, x.block < W.heap.size := by obtain ⟨m, hm⟩ := k4; exact DataW.trod_lt m _ _ _ hm
  have k5 := h5
  have lt5 : ∀ x ∈ p5, x.block < W.heap.size := by obtain ⟨m, hm⟩ := k5; exact DataW.trod_lt m _ _ _ hm
  have hbd := Nat.le_trans (Nat.le_refl _) (of_decide_eq_true (hcond _ rfl))
  simp only [Rows.uptoBulkAll, List.append_nil] at hbd
  obtain ⟨a0, len0, cap0, rfl⟩ := okWide_slice Tryd.underlying22 (hval 0 22 v0 rfl rfl)
  obtain ⟨l0, hl0, hr0, hc0, hm0, hn0, hs0⟩ := opened_strs (N := 1048576) h0 (by omega)
  subst hl0
  obtain ⟨a1, len1, cap1, rfl⟩ := okWide_slice Tryd.underlying22 (hval 1 22 v1 rfl rfl)
  obtain ⟨l1, hl1, hr1, hc1, hm1, hn1, hs1⟩ := opened_strs (N := 1048576) h1 (by omega)
  subst hl1
  obtain ⟨f2, rfl, _, _, w2⟩ := open_int Tryd.underlying3 (hval 2 3 v2 rfl rfl) h2
  obtain ⟨a3, len3, cap3, rfl⟩ := okWide_slice Tryd.underlying47 (hval 3 47 v3 rfl rfl)
  obtain ⟨l3, hl3, hr3, hc3, hm3⟩ := opened_bools h3
  subst hl3
  obtain ⟨f4, rfl, _, _, w4⟩ := open_int Tryd.underlying3 (hval 4 3 v4 rfl rfl) h4
  obtain ⟨a5, len5, cap5, rfl⟩ := okWide_slice Tryd.underlying22 (hval 5 22 v5 rfl rfl)
  obtain ⟨l5, hl5, hr5, hc5, hm5, hn5, hs5⟩ := opened_strs (N := 1048576) h5 (by omega)
  subst hl5
  clear hA0 hval0
  refine (near_law l0 l1 l5 a0 a1 a5 cap0 cap1 cap5 f2 f4 l3 a3 cap3 W hr0 hn0 hs0 hr1 hn1 hs1 hr5 hc5 hn5 hs5 hr3 (tab_of_laid hL)).mono fun e W' ⟨he, bel⟩ => ?_
  subst he
  exact ⟨_, rfl, _, _, _, [], _, [], hW', trodAll_mk1 (shut_bool Tryd.underlying4 _), (trodAll_cons_mk (Below.trod laidOut (by kernel_rfl) (of_decide_eq_true (by kernel_rfl)) k0 bel lt0) (trodAll_cons_mk (Below.trod laidOut (by kernel_rfl) (of_decide_eq_true (by kernel_rfl)) k1 bel lt1) (trodAll_cons_mk (Below.trod laidOut (by kernel_rfl) (of_decide_eq_true (by kernel_rfl)) k2 bel lt2) (trodAll_cons_mk (Below.trod laidOut (by kernel_rfl) (of_decide_eq_true (by kernel_rfl)) k3 bel lt3) (trodAll_cons_mk (Below.trod laidOut (by kernel_rfl) (of_decide_eq_true (by kernel_rfl)) k4 bel lt4) (trodAll_cons_mk (Below.trod laidOut (by kernel_rfl) (of_decide_eq_true (by kernel_rfl)) k5 bel lt5) trodAll_mk0)))))), rfl, bel.frame _, fun h => by cases h⟩
theorem patchNear_said : Rows.PatchNearUptoSaid :=
  OpenClaim.holds_of_cond 6 Tryd.f6 rfl rfl rfl rfl rfl rfl rfl ⟨rfl, rfl, rfl, rfl, rfl⟩ rfl rfl rfl rfl rfl (by kernel_rfl) Tryd.func6 (by kernel_rfl)
    (of_decide_eq_true (by kernel_rfl)) (by unfold Func.isWrapper; first | (rw [if_pos (by decide +kernel)]; kernel_rfl) | (rw [if_neg (by decide +kernel)]; exact ⟨rfl, rfl⟩))
    (fun os started H enc _ F => by rw [OpenClaim.pre_eq_preRow]; exact patchNear_lifted os started H enc F)
theorem patchNear_plain (f : FuncId) (fn : Func) (hf : Tryd.pinned.checked.prog.funcNamed "selvage/selvagelaw13.PatchNear" = some f) (hfn : Tryd.pinned.checked.prog.funcs[f]? = some fn) :
    true = Tryd.pinned.checked.prog.looks [] ∧ ∀ (j : Nat) t, fn.params[j]? = some t → Tryd.pinned.checked.prog.wantsStandIn t = false := by
  obtain rfl : f = 6 := Option.some.inj ((show Tryd.prog.funcNamed "selvage/selvagelaw13.PatchNear" = some 6 by kernel_rfl).symm.trans hf) |>.symm
  obtain rfl : fn = Tryd.f6 := (Option.some.inj (Tryd.func6.symm.trans hfn)).symm
  refine ⟨by kernel_rfl, fun j t ht => ?_⟩
  rw [Tryd.params6] at ht
  have hm := Array.mem_of_getElem? ht
  simp only [Array.mem_toList_iff.symm, List.mem_cons, List.not_mem_nil, or_false] at hm
  rcases hm with rfl | rfl | rfl | rfl | rfl | rfl
  · exact (show Tryd.prog.wantsStandIn 22 = false by kernel_rfl)
  · exact (show Tryd.prog.wantsStandIn 22 = false by kernel_rfl)
  · exact (show Tryd.prog.wantsStandIn 3 = false by kernel_rfl)
  · exact (show Tryd.prog.wantsStandIn 47 = false by kernel_rfl)
  · exact (show Tryd.prog.wantsStandIn 3 = false by kernel_rfl)
  · exact (show Tryd.prog.wantsStandIn 22 = false by kernel_rfl)
theorem patchNear_holds : Rows.PatchNearUptoCardSaid :=
  Claim7.holds_tied_plain_at .later [] _ _ _ _ patchNear_said (fun _ h => by cases h) (by kernel_rfl) (fun _ h => by cases h) patchNearUpto_row_tie rfl ⟨rfl, rfl⟩ (by kernel_rfl) rfl patchNear_plain (by kernel_rfl)
#print axioms patchNear_holds
end Go.Proofs.YtlcidbbpjlpmjaaDoor
