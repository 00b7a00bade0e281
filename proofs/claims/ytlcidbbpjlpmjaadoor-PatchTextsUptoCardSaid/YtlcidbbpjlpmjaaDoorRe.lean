/-
  A row of whole hunks that the call owns; contract of patch.Reverse. No statement of the seat is proved here.
-/
import Derived.Test.YtlcidbbpjlpmjaaDoorRd
namespace Go.Proofs.YtlcidbbpjlpmjaaDoor
open Go.RowKit

theorem Own.below {w w' : World} {base : Nat} {e : TypeId} {size : Nat} {A : Option Addr} {n c : Nat} {xs : List Value} (h : Own w base e size A n c xs) (hb : Below w.heap.size w w') : Own w' base e size A n c xs :=
  h.sameB fun k hk => hb.block k (h.blockAt k hk).2.1
theorem RowsB.below {w w' : World} {lo hi : Nat} {h : HkD} {ev lv : Value} (hr : RowsB w lo hi h ev lv) (hb : Below w.heap.size w w') : RowsB w' lo hi h ev lv := by
  obtain ⟨A, c, A', c', e1, e2, o1, o2⟩ := hr
  exact ⟨A, c, A', c', e1, e2, ⟨o1.1.below hb, o1.2⟩, ⟨o2.1.below hb, o2.2⟩⟩
/-- A row of whole hunks of the call's own. -/
def HD (w : World) (z : Nat) (A : Option Addr) (cp : Nat) (hs : List HkD) : Prop := ∃ tv : List (Value × Value), tv.length = hs.length ∧ Own w z 38 4 A hs.length cp (hkLs hs tv) ∧ ∀ (k : Nat) x y u, hs[k]? = some x → tv[k]? = some (y, u) → RowsB w z w.heap.size x y u
theorem HD.nil (w : World) (z : Nat) : HD w z none 0 [] := ⟨[], rfl, Own.nil _ _ _ _, by simp⟩
theorem HD.below {w w' : World} {z : Nat} {A : Option Addr} {cp : Nat} {hs : List HkD} (h : HD w z A cp hs) (hb : Below w.heap.size w w') : HD w' z A cp hs := by
  obtain ⟨tv, h1, h2, h3⟩ := h
  refine ⟨tv, h1, h2.below hb, fun k x y u e1 e2 => ?_⟩
  obtain ⟨A, c, A', c', e1, e2, o1, o2⟩ := (h3 k x y u e1 e2).below hb
  exact ⟨A, c, A', c', e1, e2, o1.more hb.size, o2.more hb.size⟩
theorem HD.reads {w : World} {z : Nat} {A : Option Addr} {cp : Nat} {hs : List HkD} (h : HD w z A cp hs) : HIn w w.heap.size A hs := by
  obtain ⟨tv, h1, h2, h3⟩ := h
  refine ⟨tv, h1, h2.reads, fun k x y z e1 e2 => ?_⟩
  obtain ⟨A, c, A', c', e1, e2, o1, o2⟩ := h3 k x y z e1 e2
  exact ⟨A, c, A', c', e1, e2, o1.1.cap_le.1, o2.1.cap_le.1, o2.1.cap_le.2, o1.1.reads, o2.1.reads⟩
theorem HD.caps {w : World} {z : Nat} {A : Option Addr} {cp : Nat} {hs : List HkD} (h : HD w z A cp hs) : hs.length ≤ cp ∧ cp ≤ maxLen := by
  obtain ⟨tv, h1, h2, h3⟩ := h
  exact h2.cap_le
/-- One hunk more. -/
theorem HD.push {w w2 : World} {z : Nat} {A1 : Option Addr} {c1 : Nat} {hs : List HkD} {tv : List (Value × Value)} {x : HkD} {EA LA : Option Addr} {ec lc : Nat} (hl : tv.length = hs.length) (hr : ∀ (k : Nat) x y u, hs[k]? = some x → tv[k]? = some (y, u) → RowsB w z w.heap.size x y u)
    (oe : Own w z 67 2 EA x.eds.length ec (edLs x.eds)) (ol : Own w z 9 1 LA x.ls.length lc (strL x.ls)) (hk : Kept z [38] [] w w2)
    (ho : Own w2 z 38 4 A1 (hs.length + 1) c1 (hkLs hs tv ++ hkL x (.slice EA x.eds.length ec) (.slice LA x.ls.length lc))) : HD w2 z A1 c1 (hs ++ [x]) := by
  refine ⟨tv ++ [(.slice EA x.eds.length ec, .slice LA x.ls.length lc)], by simp [hl], ?_, fun k u y v h1 h2 => ?_⟩
  · rw [hkLs_snoc hl]
    simpa using ho
  · rcases Nat.lt_or_ge k hs.length with q | q
    · rw [List.getElem?_append_left q] at h1
      rw [List.getElem?_append_left (by omega)] at h2
      obtain ⟨A, c, A', c', e1, e2, o1, o2⟩ := (hr k u y v h1 h2).keptT hk (by decide) (by decide)
      exact ⟨A, c, A', c', e1, e2, o1.more hk.size, o2.more hk.size⟩
    · rw [List.getElem?_append_right q] at h1
      rw [List.getElem?_append_right (by omega), hl] at h2
      have h0 : k - hs.length = 0 := by
        rcases Nat.eq_zero_or_pos (k - hs.length) with q | q
        · exact q
        · rw [List.getElem?_eq_none (by simp; omega)] at h1; cases h1
      rw [h0] at h1 h2
      simp only [List.getElem?_cons_zero, Option.some.injEq, Prod.mk.injEq] at h1 h2
      obtain ⟨rfl, rfl⟩ := h2
      subst h1
      exact ⟨EA, ec, LA, lc, rfl, rfl, OwnB.of_own (oe.kept hk (by decide) (by simp)) (Nat.le_refl _), OwnB.of_own (ol.kept hk (by decide) (by simp)) (Nat.le_refl _)⟩
/-- The hunk at a place: its cells, its rows. -/
theorem HIn.at_ {w : World} {B : Nat} {A : Option Addr} {hs : List HkD} (h : HIn w B A hs) {k : Nat} {x : HkD} (hk : hs[k]? = some x) : ∃ g off EA ec LA lc, A = some ⟨g, off, none⟩ ∧ g < B ∧
    (Instr.loadAt 38 (.pointer (some ⟨g, off + k * 4, none⟩))).run Tryd.prog w = .ok (.agg (hkV x EA ec LA lc)) w ∧
    w.cell? ⟨g, off + k * 4, none⟩ = some (.int .i64 (x.a : Int)) ∧ w.cell? ⟨g, off + k * 4 + 1, none⟩ = some (.int .i64 (x.b : Int)) ∧ w.cell? ⟨g, off + k * 4 + 2, none⟩ = some (.slice EA x.eds.length ec) ∧ w.cell? ⟨g, off + k * 4 + 3, none⟩ = some (.slice LA x.ls.length lc) ∧
    x.eds.length ≤ ec ∧ x.ls.length ≤ lc ∧ lc ≤ maxLen ∧ Reads w B 2 EA x.eds.length (edLs x.eds) ∧ Reads w B 1 LA x.ls.length (strL x.ls) := by
  obtain ⟨g, off, EA, ec, LA, lc, e1, e2, e3, e4, e5, e6, e7, e8, e9, e10, e11⟩ := h.toI.at_ (k := k) (x := x.toI) (by rw [List.getElem?_map, hk]; rfl)
  rw [show x.toI.eds.length = x.eds.length by simp [HkD.toI]] at e5 e7
  refine ⟨g, off, EA, ec, LA, lc, e1, e2, ?_, e3, e4, e5, e6, e7, e8, e9, ?_, e11⟩
  · refine run_loadAt_cells w _ (hkV x EA ec LA lc) Tryd.underlying38 rfl info_hunk (fun j v hj => ?_)
    rw [add_at]
    match j, hj with
    | 0, hj => simp [hkV] at hj; subst hj; exact e3
    | 1, hj => simp [hkV] at hj; subst hj; exact e4
    | 2, hj => simp [hkV] at hj; subst hj; exact e5
    | 3, hj => simp [hkV] at hj; subst hj; exact e6
    | n + 4, hj => simp [hkV] at hj
  · simpa [HkD.toI, edLs_toI] using e10
theorem HIn.below {w w' : World} {B : Nat} {A : Option Addr} {hs : List HkD} (h : HIn w B A hs) (hb : Below B w w') : HIn w' B A hs := by
  obtain ⟨tv, h1, h2, h3⟩ := h
  refine ⟨tv, h1, h2.below hb, fun k x y z e1 e2 => ?_⟩
  obtain ⟨A, c, A', c', e1, e2, q1, q2, q3, q4, q5⟩ := h3 k x y z e1 e2
  exact ⟨A, c, A', c', e1, e2, q1, q2, q3, q4.below hb, q5.below hb⟩
/-- A hunk whose edits tell of its lines. -/
structure OkD (h : HkD) : Prop where
  sum : sumN h.eds = h.ls.length
  ops : ∀ e ∈ h.eds, e.op ≤ 2 ∧ 1 ≤ e.n
  n1 : h.eds.length ≤ 10000000
  n2 : h.ls.length ≤ 10000000
def RevPost (hs : List HkD) (w : World) (r : Ending) (w' : World) : Prop := ∃ A cp, r = .returned (.slice A hs.length cp) ∧ HD w' w.heap.size A cp (hs.map backP) ∧ Below w.heap.size w w'
set_option maxHeartbeats 4000000 in
set_option maxRecDepth 100000 in
theorem reverse_any (hs : List HkD) (A0 : Option Addr) (c0 B : Nat) (w : World) (hB : B ≤ w.heap.size) (hr : HIn w B A0 hs) (hok : ∀ h ∈ hs, OkD h) (hl : hs.length ≤ 100000000) :
    Calls Tryd.prog 18 #[.slice A0 hs.length c0] w (RevPost hs w) := by
  have HR := Lib.hid (show ∀ W, Below w.heap.size w W → HIn W B A0 hs from fun W k => hr.below (k.mono hB))
  clear hr
  go_enter Tryd.func18, Tryd.ntmps18
  go_wp2_with fail
  go_loopw [3, 8] (fun s3 s8 wr => ∃ (k : Nat) (A : Option Addr) (cp : Nat), k ≤ hs.length ∧ s3 = .slice A k cp ∧ s8 = .int .i64 (k : Nat) ∧ HD wr w.heap.size A cp ((hs.take k).map backP) ∧ Below w.heap.size w wr) (fun _ s8 _ => hs.length - (intOf s8).toNat)
  case atStart => exact ⟨0, none, 0, Nat.zero_le _, rfl, rfl, HD.nil _ _, Below.refl _ _⟩
  case round =>
    obtain ⟨k, A, cp, hk, rfl, rfl, hd, hb⟩ := hrel
    have hz := hb.size
    by_cases hlt : k < hs.length
    · obtain ⟨x, hx⟩ : ∃ x, hs[k]? = some x := ⟨_, List.getElem?_eq_getElem hlt⟩
      have ok := hok x (List.mem_of_getElem? hx)
      obtain ⟨g, off, EA, ec, LA, lc, rfl, hg, ld, _, _, _, _, _, hlc, _, r1, r2⟩ := (HR.out _ hb).at_ hx
      have LD := Lib.hid ld
      have hi0 : (0 : Int) ≤ (k : Int) := Int.natCast_nonneg _
      have hi1 : (k : Int) < (hs.length : Int) := by omega
      have HMP := Lib.hid (show (hs.take (k + 1)).map backP = (hs.take k).map backP ++ [backP x] from by rw [List.take_add_one, hx]; simp)
      have hlk : ((hs.take k).map backP).length = k := by simp; omega
      clear ld hx
      go_upto_region 5 with (first | (refine wpList_load rfl rfl rfl LD.out ?_) | (refine wpList_allocAgg rfl rfl (zero_hk _) ?_) | (refine wpList_storeBlk rfl rfl (vs := hkV x EA ec LA lc) rfl rfl (Blk.new _ _ _) rfl info_hunk (hkV_one x EA ec LA lc) ?_; intro w3 x3 kc zc))
      go_frame
      have k3 : Keep Nothing wr w3 := Keep.ofNew kc
      have hd3 := hd.below k3.all
      have hb3 : Below w.heap.size w w3 := hb.trans (k3.all.mono hz)
      have hz3 := hb3.size
      have HBK := Lib.hid (back_any x EA LA ec lc B w3 (by omega) (r1.below (k3.below (by omega) (fun _ _ h => h))) (r2.below (k3.below (by omega) (fun _ _ h => h))) hlc ok.sum ok.ops ok.n1 ok.n2)
      have L3 := Lib.hid (load_hkV x3)
      have HD3 := Lib.hid hd3
      clear hd hd3 hb kc zc x3 LD r1 r2 k3
      go_upto_region 6 with (first | (refine wpList_load rfl rfl rfl L3.out ?_) | (go_at_call 34; refine HBK.out.mono ?_; rintro _ w4 ⟨EB, eb, LB, lb, rfl, oe, ol, b4⟩; obtain ⟨tv, t1, t2, t3⟩ := HD3.out.below b4; rw [hlk] at t1 t2; have hz4 := b4.size; have HT := Lib.hid t3; have OE := Lib.hid oe; have OL := Lib.hid ol) | (refine wpList_buildSlice1 rfl elemHunk rfl zero_hk rfl rfl (by omega) rfl ?_) | (at_builtin; refine wpList_append_sl rfl elemHunk rfl rfl (n := k) (t2.alloc _) rfl (Reads.of_blk (n := 1) (xs := hkL (backP x) (.slice EB (backP x).eds.length eb) (.slice LB (backP x).ls.length lb)) (heap_alloc_new _ _) rfl rfl) (hkV_one _ _ _ _ _) (by unfold maxLen; omega) (by omega) (by simp; omega) ?_; intro A5 c5 w5 o5 k5))
      have hd5 := HD.push (x := backP x) (tv := tv) (hs := (hs.take k).map backP) (by rw [hlk]; exact t1) HT.out (OE.out.mono (by omega)) (OL.out.mono (by omega)) (((Kept.refl _ _ _ _).alloc _).trans k5) (by rw [hlk]; exact o5)
      rw [← HMP.out] at hd5
      have hb5 : Below w.heap.size w w5 := (hb3.trans (b4.mono hz3)).trans ((((Kept.refl _ _ _ _).alloc _).trans k5).below (Nat.le_refl _) (by omega) (by simp))
      clear o5 k5 t1 t2 HT HD3 HBK L3
      go_wp2_with fail
      go_roundw
      case rel => exact ⟨k + 1, A5, c5, by omega, rfl, by go_num, hd5, hb5⟩
      case measure => simp [intOf]; omega
    · obtain rfl : k = hs.length := by omega
      have hd9 := hd
      rw [List.take_length] at hd9
      clear hd
      go_wp2_with fail
      go_ret
      exact ⟨A, cp, rfl, hd9, hb⟩
end Go.Proofs.YtlcidbbpjlpmjaaDoor
