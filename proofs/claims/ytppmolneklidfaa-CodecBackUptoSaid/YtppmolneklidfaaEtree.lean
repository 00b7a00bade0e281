/-
  Contract of codec.EncodeTree. No statement of the seat is proved here.
-/
import Derived.Test.YtppmolneklidfaaEnt
import Derived.Deep.LoopGhost
namespace Go.Proofs.Ytppmolneklidfaa
open Go.RowKit

/-- An entry's bytes. -/
def entB (x : Ent) : List UInt8 := be 1 x.kind.toNat ++ (be 1 x.name.size ++ x.name.data.toList) ++ x.id.1
def encGo : Int → ByteArray → Bool → List UInt8 → List Ent → List UInt8 × Int
  | e, _, _, bs, [] => (bs, e)
  | e, was, first, bs, x :: l => if entE e x was first = 0 then encGo 0 x.name false (bs ++ entB x) l else (bs, entE e x was first)
def encTree (l : List Ent) : List UInt8 × Int :=
  let r := encGo (note 0 (decide ((l.length : Int) ≤ 512)) 4) ByteArray.empty true [] l
  (doneL r.1 r.2, r.2)

def entLs (l : List Ent) : List Value := l.flatMap entL
theorem entLs_len (l : List Ent) : (entLs l).length = l.length * 34 := by
  induction l with
  | nil => rfl
  | cons x l ih => simp only [entLs, List.flatMap_cons, List.length_append, entL_len, List.length_cons] at *; omega
theorem entLs_at (l : List Ent) (k j : Nat) (x : Ent) (hk : l[k]? = some x) (u : Value) (hj : (entL x)[j]? = some u) : (entLs l)[k * 34 + j]? = some u := by
  induction l generalizing k with
  | nil => simp at hk
  | cons y l ih =>
    have hj' : j < 34 := by
      rcases Nat.lt_or_ge j 34 with q | q
      · exact q
      · rw [List.getElem?_eq_none (by rw [entL_len]; exact q)] at hj; cases hj
    cases k with
    | zero =>
      simp only [List.getElem?_cons_zero, Option.some.injEq] at hk
      subst hk
      simp only [entLs, List.flatMap_cons, Nat.zero_mul, Nat.zero_add]
      rw [List.getElem?_append_left (by rw [entL_len]; exact hj')]
      exact hj
    | succ k =>
      simp only [List.getElem?_cons_succ] at hk
      have := ih k hk
      simp only [entLs, List.flatMap_cons]
      rw [List.getElem?_append_right (by rw [entL_len]; omega), entL_len]
      rw [show (k + 1) * 34 + j - 34 = k * 34 + j by omega]
      exact this

theorem entL_one (x : Ent) : ∀ v ∈ (entC x).toList, v.oneCell' = true := by
  intro v hv
  simp only [entC, entL, List.mem_cons] at hv
  rcases hv with rfl | rfl | hv
  · rfl
  · rfl
  · exact idL_one _ v hv
theorem load_ent_at {w : World} {l : List Ent} {k : Nat} {x : Ent} {ad : Addr} (hc : ∀ j u, (entLs l)[j]? = some u → w.cell? (ad.add j) = some u) (hk : l[k]? = some x) :
    (Instr.loadAt 87 (.pointer (some (ad.add (k * 34))))).run Try.prog w = .ok (entV x) w :=
  run_loadAt_cells (P := Try.prog) w _ (entC x) Try.underlying87 rfl (by rw [entC_size]; exact info_ent) (fun j v hj => by rw [add_of_add]; exact hc _ _ (entLs_at l k j x hk v hj))

def EncPost (l : List Ent) (w : World) (r : Ending) (w' : World) : Prop := ∃ A c, r = .returned (.tuple #[.slice A (encTree l).1.length c, .int .i64 (encTree l).2]) ∧ Own w' w.heap.size 5 1 A (encTree l).1.length c ((encTree l).1.map bv) ∧ Below w.heap.size w w'

theorem note_zero {e0 e : Int} {is : Bool} (he : e ≠ 0) : note e0 is e = 0 ↔ e0 = 0 ∧ is = true := by
  unfold note
  split
  · split <;> simp_all
  · simp_all
theorem entE_zero {e0 : Int} {x : Ent} {was : ByteArray} {first : Bool} (h : entE e0 x was first = 0) : e0 = 0 ∧ kindOk x.kind = true ∧ nameOk x.name.data.toList = true ∧ isNone x.id = false ∧ (first || above x.name was) = true := by
  unfold entE at h
  rw [note_zero (by decide), note_zero (by decide), note_zero (by decide), note_zero (by decide)] at h
  obtain ⟨⟨⟨⟨h0, h1⟩, h2⟩, h3⟩, h4⟩ := h
  exact ⟨h0, h1, h2, by simpa using h3, h4⟩
theorem nameOk_le {l : List UInt8} (h : nameOk l = true) : l.length ≤ 40 := by
  unfold nameOk at h
  simp only [Bool.and_eq_true, decide_eq_true_eq] at h
  exact h.2.1
theorem kindOk_le {k : Int} (h : kindOk k = true) : 1 ≤ k ∧ k ≤ 4 := by
  unfold kindOk at h
  simpa using h
theorem enc_end {l : List Ent} {w w4 w5 : World} {q : Nat} {bs : List UInt8} {e2 : Int} {A : Option Addr} {c : Nat} (hq : w.heap.size = q)
    (henc : encGo (note 0 (decide ((l.length : Int) ≤ 512)) 4) ByteArray.empty true [] l = (bs, e2)) (ho : Own w5 q 5 1 A (doneL bs e2).length c ((doneL bs e2).map bv)) (hk4 : Kept q [5] [] w w4) (hk5 : Keep Nothing w4 w5) :
    EncPost l w (.returned (.tuple #[.slice A (doneL bs e2).length c, .int .i64 e2])) w5 := by
  have h : encTree l = (doneL bs e2, e2) := by unfold encTree; rw [henc]
  subst hq
  refine ⟨A, c, by rw [h], by rw [h]; exact ho, ?_⟩
  exact (hk4.lift (Kept.ofKeep (base := w.heap.size) (E := []) (G := []) hk5 (by unfold Nothing; simp)) (Nat.le_refl _) (by simp) (by simp)).all

set_option maxHeartbeats 4000000 in
set_option maxRecDepth 100000 in
theorem encodeTree_any (l : List Ent) (A : Option Addr) (c : Nat) (w : World) (hr : Reads w w.heap.size 34 A l.length (entLs l)) (hl : l.length ≤ 1000000) :
    Calls Try.prog 12 #[.slice A l.length c] w (EncPost l w) := by
  have hbz : Blk (w.alloc (.cells #[.slice none 0 0, .int .i64 0, .int .i64 0] 92)) w.heap.size 92 #[.slice none 0 0, .int .i64 0, .int .i64 0] := Blk.new _ _ _
  go_enter Try.func12, Try.ntmps12
  go_wp2_with fail
  have hk0 : Kept w.heap.size [5] [] w (w.alloc (.cells #[.slice none 0 0, .int .i64 0, .int .i64 0] 92)) := (Kept.refl _ _ _ _).alloc _
  refine (must_any w.heap.size _ _ _ 0 4 _ _ hbz).mono ?_
  rintro r w1 ⟨rfl, hb1, hkk1⟩
  have hk1 : Kept w.heap.size [5] [] w w1 := hk0.lift (Kept.ofKeep (base := w.heap.size) (E := []) (G := [w.heap.size]) hkk1 (by unfold Only; simp)) (Nat.le_refl _) (by simp) (by simp)
  have hw1 : Wt w1 w.heap.size w.heap.size [] (note 0 (decide ((l.length : Int) ≤ 512)) 4) := ⟨none, 0, hb1, Own.nil _ _ _ _, Nat.le_refl _⟩
  clear hkk1 hk0 hbz hb1
  generalize hq : w.heap.size = q at *
  have HQ := Lib.hid hq
  have hqle : q ≤ w.heap.size := by omega
  clear hq
  go_wp2_with fail
  go_loopw [5, 19] (fun was i wr => ∃ k bs e ws, k ≤ l.length ∧ i = .int .i64 k ∧ was = .string ws ∧ encGo e ws ((k : Int) == 0) bs (l.drop k) = encGo (note 0 (decide ((l.length : Int) ≤ 512)) 4) ByteArray.empty true [] l ∧ Wt wr q q bs e ∧ Kept q [5] [] w wr ∧ bs.length ≤ k * 74) (fun _ i _ => l.length - (intOf i).toNat)
  case atStart => exact ⟨0, [], _, ByteArray.empty, Nat.zero_le _, rfl, rfl, rfl, hw1, hk1, Nat.zero_le _⟩
  case round =>
    obtain ⟨k, bs, e, ws, hk, rfl, rfl, henc, hwt, hkp, hbl⟩ := hrel
    have HE := Lib.hid henc
    clear henc
    have hz := hkp.size
    by_cases hlt : k < l.length
    · obtain ⟨x, hx⟩ : ∃ x, l[k]? = some x := ⟨_, List.getElem?_eq_getElem hlt⟩
      have hdr : l.drop k = x :: l.drop (k + 1) := by rw [List.drop_eq_getElem_cons hlt]; congr 1; rw [List.getElem?_eq_getElem hlt] at hx; simpa using hx
      obtain ⟨ad, hA, hadB, hcells⟩ := hr.2 (by omega)
      have hrw := hr.below (hkp.below (B := q) (Nat.le_refl _) (by rw [HQ.out]; exact Nat.le_refl _) (by simp))
      subst hA
      have HX := Lib.hid hx
      have HD := Lib.hid hdr
      have HC := Lib.hid (show ∀ j u, (entLs l)[j]? = some u → wr.cell? (ad.add j) = some u from fun j u hj => by obtain ⟨ad', e', _, hc⟩ := hrw.2 (by omega); injection e' with e'; subst e'; exact hc j u hj)
      clear hx hdr hcells hrw
      go_wp2_with (first | (refine wpList_load rfl rfl rfl (load_ent_at HC.out HX.out) ?_) | (refine wpList_storeBlk rfl rfl (vs := entC x) rfl rfl (Blk.new _ _ _) (by rw [entC_size]; rfl) (by rw [entC_size]; exact info_ent) (entL_one x) ?_; intro w2 hx2 hkk2 hz2))
      go_frame
      have hkk := Keep.ofNew (S := Nothing) hkk2
      obtain ⟨A2, c2, hb, ho, hbg⟩ := hwt
      have hb2 := hb.keep hkk (fun q => q)
      have hne : wr.heap.size ≠ q := by have := hb.lt; omega
      have hk2 : Kept q [5] [] w w2 := hkp.lift (Kept.ofKeep (base := q) (E := []) (G := []) hkk (by unfold Nothing; simp)) (Nat.le_refl _) (by simp) (by simp)
      generalize wr.heap.size = p at *
      refine wp_region_still_tail 7 (by kernel_rfl) (by kernel_rfl) ?_
      simp only [List.take_succ_cons, List.take_zero, List.drop_succ_cons, List.drop_zero]
      still_step
      still_step
      still_step
      refine still_load rfl rfl rfl (load_ent hx2.drew) ?_
      go_frame
      still_step
      still_step
      still_step
      refine wpStill_nil ?_
      change wpList _ _ _ _ _ w2.drew
      have hb2' := hb2.drew
      have hx2' := hx2.drew
      have ho2' : Own w2.drew q 5 1 A2 bs.length c2 (bs.map bv) := (ho.kept (b' := q) (E := []) (G := []) (Kept.ofKeep hkk (by unfold Nothing; simp)) (by simp) (by simp)).drew
      have hk2' := hk2.drew
      generalize w2.drew = w3 at *
      clear hb2 hx2 hk2 hkk hb ho hkk2 hz2 hkp HC
      go_wp2_with fail
      refine (entry_any q _ _ _ e x ws _ _ hb2').mono ?_
      rintro r w4 ⟨rfl, hb4, hkk4⟩
      have hx4 := hx2'.keep hkk4 hne
      have hkq4 : Kept q [] [q] w3 w4 := Kept.ofKeep hkk4 (by unfold Only; simp)
      have ho4 := ho2'.kept hkq4 (by simp) (by intro g hg; simp at hg; subst hg; exact ⟨_, _, hb2', by decide⟩)
      have hk4 := hk2'.lift hkq4 (Nat.le_refl _) (by simp) (by simp [HQ.out])
      have HE2 := Lib.hid (show encGo e ws ((k : Int) == 0) bs (l.drop k) = _ from by rw [HD.out])
      obtain ⟨e2, he2⟩ : ∃ e2, entE e x ws ((k : Int) == 0) = e2 := ⟨_, rfl⟩
      rw [he2] at hb4
      clear hkk4 hkq4 ho2' hk2' hx2' hb2'
      by_cases h0 : e2 = 0
      · subst h0
        obtain ⟨name, kind, id⟩ := x
        obtain ⟨_, z1, z2, _, _⟩ := entE_zero he2
        have z3 := nameOk_le z2
        rw [← Lib.size_eq] at z3
        obtain ⟨z4, z5⟩ := kindOk_le z1
        obtain ⟨kn, hkn⟩ := Int.eq_ofNat_of_zero_le (show 0 ≤ kind by simp at z4; omega)
        simp only at z4 z5 z3
        subst hkn
        have HG := HE2.out
        simp only [encGo, he2, if_true] at HG
        rw [HE.out] at HG
        have HG2 := Lib.hid HG
        have d2 := hb4.cell 2
        have x1 := hx4.cell 1
        simp [entC, entL] at d2 x1
        have hz4 := hk4.size
        have lq := hb4.lt
        clear z1 z2 he2 HG HE2 HE
        go_wp2_with fail
        refine (wnumber_any 1 kn (by omega) q q bs 0 _ ⟨_, _, hb4, ho4, Nat.le_refl _⟩ (by omega) (by omega)).mono ?_
        rintro r w5 ⟨rfl, hw5, hk5⟩
        have hx5 := hk5.blk hx4 (by simp; exact hne) (by decide)
        have hk5' := hk4.lift hk5 (Nat.le_refl _) (by simp) (by simp [HQ.out])
        have x5 := hx5.cell 0
        simp [entC, entL] at x5
        have hz5 := hk5'.size
        clear hk5 hx4 hk4 d2 x1 hb4 ho4 hz4
        go_wp2_with fail
        refine (wtext_any 1 name (by omega) q q _ 0 _ hw5 (by simp [be_len]; omega) (by omega)).mono ?_
        rintro r w6 ⟨rfl, hw6, hk6⟩
        have hx6 := hk6.blk hx5 (by simp; exact hne) (by decide)
        have hk6' := hk5'.lift hk6 (Nat.le_refl _) (by simp) (by simp [HQ.out])
        have hz6 := hk6'.size
        clear hk6 hx5 hk5' x5 hw5 hz5
        go_wp2_with (first | (refine wpList_load rfl rfl rfl (load_ent_id hx6) ?_))
        refine (wid_any id q q _ 0 _ hw6 (by simp only [List.length_append, be_len, ← Lib.size_eq]; omega) (by omega)).mono ?_
        rintro r w7 ⟨rfl, hw7, hk7⟩
        have hx7 := hk7.blk hx6 (by simp; exact hne) (by decide)
        have hk7' := hk6'.lift hk7 (Nat.le_refl _) (by simp) (by simp [HQ.out])
        have x7 := hx7.cell 0
        simp [entC, entL] at x7
        clear hk7 hx6 hk6' hw6 hz6
        go_wp2_with fail
        go_roundw
        case rel =>
          refine ⟨k + 1, _, 0, name, by omega, by go_num, rfl, ?_, hw7, hk7', ?_⟩
          · rw [HG2.out]
            simp only [entB, Int.toNat_natCast, List.append_assoc]
            rw [show (((k + 1 : Nat) : Int) == 0) = false from beq_eq_false_iff_ne.2 (by omega)]
          · simp only [List.length_append, be_len, ← Lib.size_eq, id.2]; omega
        case measure => simp [intOf]; omega
      · have h01 : (e2 != 0) = true := by simpa using h0
        have d2 := hb4.cell 2
        simp at d2
        have HG := HE2.out
        simp only [encGo, he2, if_neg h0] at HG
        rw [HE.out] at HG
        have HG2 := Lib.hid HG
        clear he2 HG HE2 HE
        go_wp2_with fail
        refine (wdone_any q q bs e2 _ ⟨_, _, hb4, ho4, Nat.le_refl _⟩).mono ?_
        rintro r w5 ⟨A5, c5, rfl, ho5, hk5⟩
        go_wp2_with fail
        go_ret2
        exact enc_end HQ.out HG2.out ho5 hk4 hk5
    · have hk' : k = l.length := by omega
      have HG := HE.out
      rw [hk', List.drop_length] at HG
      have HG2 := Lib.hid (show _ = (bs, e) from HG.symm)
      clear HG HE hk'
      go_wp2_with fail
      refine (wdone_any q q bs e _ hwt).mono ?_
      rintro r w5 ⟨A5, c5, rfl, ho5, hk5⟩
      go_wp2_with fail
      go_ret2
      exact enc_end HQ.out HG2.out ho5 hkp hk5
end Go.Proofs.Ytppmolneklidfaa
