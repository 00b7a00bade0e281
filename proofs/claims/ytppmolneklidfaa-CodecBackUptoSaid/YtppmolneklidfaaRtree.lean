/-
  Contracts of the reference's EncodeTree and ParseTree. No statement of the seat is proved here.
-/
import Derived.Test.YtppmolneklidfaaRef4b
namespace Go.Proofs.Ytppmolneklidfaa
open Go.RowKit

theorem encTree_many {l : List Ent} (h : 512 < l.length) : encTree l = ([], 4) := by
  have h1 : note 0 (decide ((l.length : Int) ≤ 512)) 4 = 4 := by rw [decide_eq_false (by omega)]; rfl
  unfold encTree
  rw [h1]
  cases l with
  | nil => simp at h
  | cons x l =>
    have he : entE 4 x ByteArray.empty true = 4 := by
      have hn : ∀ b e, note 4 b e = 4 := fun b e => by unfold note; rw [if_neg (by decide)]
      unfold entE
      rw [hn, hn, hn, hn]
    simp only [encGo, he]
    rfl
theorem encTree_few {l : List Ent} (h : l.length ≤ 512) : encTree l = (doneL (encGo 0 ByteArray.empty true [] l).1 (encGo 0 ByteArray.empty true [] l).2, (encGo 0 ByteArray.empty true [] l).2) := by
  have h1 : note 0 (decide ((l.length : Int) ≤ 512)) 4 = 0 := by rw [decide_eq_true (by omega)]; rfl
  unfold encTree
  rw [h1]
theorem enc_ret {l : List Ent} {w w4 : World} {q : Nat} {bs : List UInt8} {A : Option Addr} {c : Nat} (hq : w.heap.size = q) (he : encTree l = (bs, 0)) (ho : Own w4 q 5 1 A bs.length c (bs.map bv)) (hk4 : Kept q [5] [] w w4) :
    EncPost l w (.returned (.tuple #[.slice A bs.length c, .int .i64 0])) w4 := by
  subst hq
  exact ⟨A, c, by rw [he], by rw [he]; exact ho, hk4.all⟩
theorem enc_ret_err {l : List Ent} {w w4 : World} {e : Int} (he : encTree l = ([], e)) (hk4 : Kept w.heap.size [5] [] w w4) : EncPost l w (.returned (.tuple #[.slice none 0 0, .int .i64 e])) w4 :=
  ⟨none, 0, by rw [he]; rfl, by rw [he]; exact Own.nil _ _ _ _, hk4.all⟩

theorem cell_ent {w : World} {l : List Ent} {k : Nat} {x : Ent} {g off : Nat} (hc : ∀ j u, (entLs l)[j]? = some u → w.cell? ⟨g, off + j, none⟩ = some u) (hk : l[k]? = some x) :
    w.cell? ⟨g, off + k * 34, none⟩ = some (.string x.name) ∧ w.cell? ⟨g, off + k * 34 + 1, none⟩ = some (.int .i64 x.kind) :=
  ⟨by simpa using hc (k * 34 + 0) _ (entLs_at l k 0 x hk _ rfl), by rw [Nat.add_assoc]; exact hc _ _ (entLs_at l k 1 x hk _ rfl)⟩
theorem load_ent_at0 {w : World} {l : List Ent} {k : Nat} {x : Ent} {g off : Nat} (hc : ∀ j u, (entLs l)[j]? = some u → w.cell? ⟨g, off + j, none⟩ = some u) (hk : l[k]? = some x) :
    (Instr.loadAt 87 (.pointer (some ⟨g, off + k * 34, none⟩))).run Try.prog w = .ok (entV x) w :=
  run_loadAt_cells (P := Try.prog) w _ (entC x) Try.underlying87 rfl (by rw [entC_size]; exact info_ent) (fun j v hj => by rw [add_at, Nat.add_assoc]; exact hc _ _ (entLs_at l k j x hk v hj))
theorem load_ent_id_at {w : World} {l : List Ent} {k : Nat} {x : Ent} {g off : Nat} (hc : ∀ j u, (entLs l)[j]? = some u → w.cell? ⟨g, off + j, none⟩ = some u) (hk : l[k]? = some x) :
    (Instr.loadAt 42 (.pointer (some ⟨g, off + k * 34 + 2, none⟩))).run Try.prog w = .ok (idV x.id) w :=
  run_loadAt_cells (P := Try.prog) w _ (idC x.id) Try.underlying42 rfl (by rw [idC_size]; exact info42) (fun j v hj => by rw [add_at, Nat.add_assoc, Nat.add_assoc]; exact hc _ _ (entLs_at l k (2 + j) x hk v (by rw [← hj]; simp [entL, idC, Nat.add_comm 2])))

set_option maxHeartbeats 4000000 in
set_option maxRecDepth 100000 in
theorem rencodeTree_any (l : List Ent) (A : Option Addr) (c : Nat) (w : World) (hr : Reads w w.heap.size 34 A l.length (entLs l)) (hl : l.length ≤ 1000000) :
    Calls Try.prog 13 #[.slice A l.length c] w (EncPost l w) := by
  by_cases hm : 512 < l.length
  · have HE := Lib.hid (encTree_many hm)
    have d : decide ((512 : Int) < (l.length : Int)) = true := decide_eq_true (by omega)
    go_enter Try.func13, Try.ntmps13
    go_wp2_with fail
    go_ret2
    exact enc_ret_err HE.out (Kept.refl _ _ _ _)
  · have HE := Lib.hid (encTree_few (show l.length ≤ 512 by omega))
    have d : decide ((512 : Int) < (l.length : Int)) = false := decide_eq_false (by omega)
    go_enter Try.func13, Try.ntmps13
    go_wp2_with fail
    generalize hq : w.heap.size = q at *
    have HQ := Lib.hid hq
    have hqle : q ≤ w.heap.size := by omega
    clear hq
    go_loopw [4, 5, 6] (fun b was i wr => ∃ k bs ws A' c', k ≤ l.length ∧ i = .int .i64 k ∧ was = .string ws ∧ b = .slice A' bs.length c' ∧ encGo 0 ws ((k : Int) == 0) bs (l.drop k) = encGo 0 ByteArray.empty true [] l ∧ Own wr q 5 1 A' bs.length c' (bs.map bv) ∧ Kept q [5] [] w wr ∧ bs.length ≤ k * 74) (fun _ _ i _ => l.length - (intOf i).toNat)
    case atStart => exact ⟨0, [], ByteArray.empty, none, 0, Nat.zero_le _, rfl, rfl, rfl, rfl, Own.nil _ _ _ _, Kept.refl _ _ _ _, Nat.zero_le _⟩
    case round =>
      obtain ⟨k, bs, ws, A', c', hk, rfl, rfl, rfl, henc, hown, hkp, hbl⟩ := hrel
      have HG := Lib.hid henc
      clear henc
      have hz := hkp.size
      by_cases hlt : k < l.length
      · obtain ⟨x, hx⟩ : ∃ x, l[k]? = some x := ⟨_, List.getElem?_eq_getElem hlt⟩
        have hdr : l.drop k = x :: l.drop (k + 1) := by rw [List.drop_eq_getElem_cons hlt]; congr 1; rw [List.getElem?_eq_getElem hlt] at hx; simpa using hx
        obtain ⟨ga, oa, hA, hadB, hcells⟩ := hr.at0 (by omega) (by omega)
        subst hA
        have hrd : ∀ W, Kept q [5] [] w W → ∀ j u, (entLs l)[j]? = some u → W.cell? ⟨ga, oa + j, none⟩ = some u := fun W hkW j u hj => by
          rw [(hkW.below (B := q) (Nat.le_refl _) hqle (by simp)).cell (p := ⟨ga, oa + j, none⟩) hadB]
          exact hcells j u hj
        have HR := Lib.hid hrd
        have HX := Lib.hid hx
        have HG2 := Lib.hid (show encGo 0 ws ((k : Int) == 0) bs (x :: l.drop (k + 1)) = encGo 0 ByteArray.empty true [] l from by rw [← hdr]; exact HG.out)
        clear hrd hx hdr hcells HG
        go_wp2_with (first | (refine wpList_load rfl rfl rfl (load_ent_at0 (HR.out _ hkp) HX.out) ?_))
        refine (rentry_any x _ ws _).mono ?_
        rintro r w1 ⟨rfl, hbe⟩
        have hk1 : Kept q [5] [] w w1 := hkp.lift (Kept.ofBelow (base := q) (E := []) (G := []) hbe) (Nat.le_refl _) (by simp) (by simp)
        have ho1 : Own w1 q 5 1 A' bs.length c' (bs.map bv) := hown.kept (b' := q) (E := []) (G := []) (Kept.ofBelow hbe) (by simp) (by simp)
        obtain ⟨e2, he2⟩ : ∃ e2, entE 0 x ws ((k : Int) == 0) = e2 := ⟨_, rfl⟩
        rw [he2]
        clear hbe hown hkp hz
        have hz := hk1.size
        by_cases h0 : e2 = 0
        · subst h0
          obtain ⟨name, kind, id⟩ := x
          obtain ⟨_, z1, z2, _, _⟩ := entE_zero he2
          have z3 := nameOk_le z2
          rw [← Lib.size_eq] at z3
          obtain ⟨z4, z5⟩ := kindOk_le z1
          obtain ⟨kn, hkn⟩ := Int.eq_ofNat_of_zero_le (show 0 ≤ kind by simp at z4; omega)
          simp only at z4 z5 z3
          subst hkn
          have HG3 := HG2.out
          simp only [encGo, he2, if_true] at HG3
          have HG4 := Lib.hid HG3
          obtain ⟨m0, m1⟩ := cell_ent (HR.out _ hk1) HX.out
          have hbe1 : be 1 kn = [UInt8.ofNat kn] := by simp [be]
          have hbe2 : be 1 name.size = [UInt8.ofNat name.size] := by simp [be]
          have hcs : [Value.int .u8 (kn : Int), Value.int .u8 (name.size : Int)] = [UInt8.ofNat kn, UInt8.ofNat name.size].map bv := by
            simp only [List.map_cons, List.map_nil, bv, UInt8.toNat_ofNat']
            rw [Nat.mod_eq_of_lt (by omega), Nat.mod_eq_of_lt (by omega)]
          have HB := Lib.hid (And.intro hbe1 hbe2)
          generalize UInt8.ofNat kn = u1 at *
          generalize UInt8.ofNat name.size = u2 at *
          have HC := Lib.hid hcs
          have hlen : bs.length + 2 + name.size = (bs ++ [u1, u2] ++ name.data.toList).length := by simp only [List.length_append, ← Lib.size_eq]; rfl
          have HL := Lib.hid hlen
          clear z1 z2 he2 HG3 HG2 hbe1 hbe2 hcs hlen
          go_wp2_with (first | (at_builtin; refine wpList_append_sl rfl elemU8 rfl rfl (ho1.alloc _) rfl (Reads.of_cells (n := 2) (xs := [u1, u2].map bv) (heap_alloc_new _ _) HC.out rfl) (bvs_one [u1, u2]) (by unfold maxLen; omega) (by omega) (by simp; omega) ?_; intro A2 c2 w2 ho2 hkk2; have hk2 := (hk1.alloc _).trans hkk2; have hz2 := hk2.size) | (at_builtin; refine wpList_append_str rfl elemU8 zeroU8 Try.underlying9 rfl rfl ho2 rfl (by unfold maxLen; omega) (by omega) (by omega) ?_; intro A3 c3 w3 ho3 hkk3; have hk3 := hk2.trans hkk3; have hz3 := hk3.size) | (refine wpList_load rfl rfl rfl (load_ent_id_at (HR.out _ hk3) HX.out) ?_))
          rw [HL.out]
          rw [strCells_bv, HL.out, ← List.map_append, ← List.map_append] at ho3
          have hl3 : (bs ++ [u1, u2] ++ name.data.toList).length ≤ bs.length + 42 := by rw [← HL.out]; omega
          refine (put_any id q _ A3 c3 _ ho3 (by omega) (by omega)).mono ?_
          rintro r w4 ⟨A4, c4, rfl, ho4, hk4⟩
          have hl4 : (bs ++ [u1, u2] ++ name.data.toList ++ id.1).length ≤ bs.length + 74 := by rw [List.length_append, id.2]; omega
          generalize hb4 : bs ++ [u1, u2] ++ name.data.toList ++ id.1 = b4 at *
          have HB4 := Lib.hid hb4
          clear hb4 ho3
          go_wp2_with fail
          go_roundw
          case rel =>
            refine ⟨k + 1, b4, name, A4, c4, by omega, by go_num, rfl, rfl, ?_, ho4, hk3.trans hk4, by omega⟩
            · rw [← HG4.out, ← HB4.out]
              simp only [entB, Int.toNat_natCast, List.append_assoc, HB.out.1, HB.out.2]
              rw [show (((k + 1 : Nat) : Int) == 0) = false from beq_eq_false_iff_ne.2 (by omega)]
              rfl
          case measure => simp [intOf]; omega
        · have h01 : (e2 != 0) = true := by simpa using h0
          have HG3 := HG2.out
          simp only [encGo, he2, if_neg h0] at HG3
          have HG4 := Lib.hid (show encTree l = ([], e2) from by rw [HE.out, ← HG3]; simp only [doneL, if_neg h0])
          clear he2 HG3 HG2
          go_wp2_with fail
          go_ret2
          have := HQ.out
          subst this
          exact enc_ret_err HG4.out hk1
      · have hk' : k = l.length := by omega
        have HG2 := HG.out
        rw [hk', List.drop_length] at HG2
        have HG3 := Lib.hid (show encTree l = (bs, 0) from by rw [HE.out, ← HG2]; rfl)
        clear HG2 hk'
        go_wp2_with fail
        go_ret2
        exact enc_ret HQ.out HG3.out hown hkp
end Go.Proofs.Ytppmolneklidfaa
