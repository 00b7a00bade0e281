/-
  Texts of the codec joined (Rtree, Rptree, Eobj, Law2, Known, Same). No statement of the seat is proved here.
-/
import Derived.Test.YtppmolneklidfaaGreatZ05
import Derived.Test.YtppmolneklidfaaGreatZ02
namespace Go.Proofs.YtppmolneklidfaaGreat
open Go.RowKit

theorem encTree_many {l : List Ent} (h : 512 < l.length) : encTree l = ([], 4) := by
  have h1 : note 0 (decide ((l.length : Int) ≤ 512)) 4 = 4 := by rw [decide_eq_false (by omega)]; rfl
  unfold encTree
  rw [h1]
  cases l with
  | nil => simp at h
  | cons x l =>
    have he : entE 4 x ByteArray.empty true = 4 := by
      have hn : ∀ b e, note 4 b e = 4 := fun b e => by unfold note; rw [if_neg (by decide)]
      unfold entE
      rw [hn, hn, hn, hn]
    simp only [encGo, he]
    rfl
theorem encTree_few {l : List Ent} (h : l.length ≤ 512) : encTree l = (doneL (encGo 0 ByteArray.empty true [] l).1 (encGo 0 ByteArray.empty true [] l).2, (encGo 0 ByteArray.empty true [] l).2) := by
  have h1 : note 0 (decide ((l.length : Int) ≤ 512)) 4 = 0 := by rw [decide_eq_true (by omega)]; rfl
  unfold encTree
  rw [h1]
theorem enc_ret {l : List Ent} {w w4 : World} {q : Nat} {bs : List UInt8} {A : Option Addr} {c : Nat} (hq : w.heap.size = q) (he : encTree l = (bs, 0)) (ho : Own w4 q 5 1 A bs.length c (bs.map bv)) (hk4 : Kept q [5] [] w w4) :
    EncPost l w (.returned (.tuple #[.slice A bs.length c, .int .i64 0])) w4 := by
  subst hq
  exact ⟨A, c, by rw [he], by rw [he]; exact ho, hk4.all⟩
theorem enc_ret_err {l : List Ent} {w w4 : World} {e : Int} (he : encTree l = ([], e)) (hk4 : Kept w.heap.size [5] [] w w4) : EncPost l w (.returned (.tuple #[.slice none 0 0, .int .i64 e])) w4 :=
  ⟨none, 0, by rw [he]; rfl, by rw [he]; exact Own.nil _ _ _ _, hk4.all⟩

theorem cell_ent {w : World} {l : List Ent} {k : Nat} {x : Ent} {g off : Nat} (hc : ∀ j u, (entLs l)[j]? = some u → w.cell? ⟨g, off + j, none⟩ = some u) (hk : l[k]? = some x) :
    w.cell? ⟨g, off + k * 34, none⟩ = some (.string x.name) ∧ w.cell? ⟨g, off + k * 34 + 1, none⟩ = some (.int .i64 x.kind) :=
  ⟨by simpa using hc (k * 34 + 0) _ (entLs_at l k 0 x hk _ rfl), by rw [Nat.add_assoc]; exact hc _ _ (entLs_at l k 1 x hk _ rfl)⟩
theorem load_ent_at0 {w : World} {l : List Ent} {k : Nat} {x : Ent} {g off : Nat} (hc : ∀ j u, (entLs l)[j]? = some u → w.cell? ⟨g, off + j, none⟩ = some u) (hk : l[k]? = some x) :
    (Instr.loadAt 58 (.pointer (some ⟨g, off + k * 34, none⟩))).run Tryz.prog w = .ok (entV x) w :=
  run_loadAt_cells (P := Tryz.prog) w _ (entC x) Tryz.underlying58 rfl (by rw [entC_size]; exact info_ent) (fun j v hj => by rw [add_at, Nat.add_assoc]; exact hc _ _ (entLs_at l k j x hk v hj))
theorem load_ent_id_at {w : World} {l : List Ent} {k : Nat} {x : Ent} {g off : Nat} (hc : ∀ j u, (entLs l)[j]? = some u → w.cell? ⟨g, off + j, none⟩ = some u) (hk : l[k]? = some x) :
    (Instr.loadAt 24 (.pointer (some ⟨g, off + k * 34 + 2, none⟩))).run Tryz.prog w = .ok (idV x.id) w :=
  run_loadAt_cells (P := Tryz.prog) w _ (idC x.id) Tryz.underlying24 rfl (by rw [idC_size]; exact info42) (fun j v hj => by rw [add_at, Nat.add_assoc, Nat.add_assoc]; exact hc _ _ (entLs_at l k (2 + j) x hk v (by rw [← hj]; simp [entL, idC, Nat.add_comm 2])))

set_option maxHeartbeats 4000000 in
set_option maxRecDepth 100000 in
theorem rencodeTree_any (l : List Ent) (A : Option Addr) (c : Nat) (w : World) (hr : Reads w w.heap.size 34 A l.length (entLs l)) (hl : l.length ≤ 1000000) :
    Calls Tryz.prog 6 #[.slice A l.length c] w (EncPost l w) := by
  by_cases hm : 512 < l.length
  · have HE := Lib.hid (encTree_many hm)
    have d : decide ((512 : Int) < (l.length : Int)) = true := decide_eq_true (by omega)
    go_enter Tryz.func6, Tryz.ntmps6
    go_wp2_with fail
    go_ret2
    exact enc_ret_err HE.out (Kept.refl _ _ _ _)
  · have HE := Lib.hid (encTree_few (show l.length ≤ 512 by omega))
    have d : decide ((512 : Int) < (l.length : Int)) = false := decide_eq_false (by omega)
    go_enter Tryz.func6, Tryz.ntmps6
    go_wp2_with fail
    generalize hq : w.heap.size = q at *
    have HQ := Lib.hid hq
    have hqle : q ≤ w.heap.size := by omega
    clear hq
    go_loopw [4, 5, 6] (fun b was i wr => ∃ k bs ws A' c', k ≤ l.length ∧ i = .int .i64 k ∧ was = .string ws ∧ b = .slice A' bs.length c' ∧ encGo 0 ws ((k : Int) == 0) bs (l.drop k) = encGo 0 ByteArray.empty true [] l ∧ Own wr q 5 1 A' bs.length c' (bs.map bv) ∧ Kept q [5] [] w wr ∧ bs.length ≤ k * 74) (fun _ _ i _ => l.length - (intOf i).toNat)
    case atStart => exact ⟨0, [], ByteArray.empty, none, 0, Nat.zero_le _, rfl, rfl, rfl, rfl, Own.nil _ _ _ _, Kept.refl _ _ _ _, Nat.zero_le _⟩
    case round =>
      obtain ⟨k, bs, ws, A', c', hk, rfl, rfl, rfl, henc, hown, hkp, hbl⟩ := hrel
      have HG := Lib.hid henc
      clear henc
      have hz := hkp.size
      by_cases hlt : k < l.length
      · obtain ⟨x, hx⟩ : ∃ x, l[k]? = some x := ⟨_, List.getElem?_eq_getElem hlt⟩
        have hdr : l.drop k = x :: l.drop (k + 1) := by rw [List.drop_eq_getElem_cons hlt]; congr 1; rw [List.getElem?_eq_getElem hlt] at hx; simpa using hx
        obtain ⟨ga, oa, hA, hadB, hcells⟩ := hr.at0 (by omega) (by omega)
        subst hA
        have hrd : ∀ W, Kept q [5] [] w W → ∀ j u, (entLs l)[j]? = some u → W.cell? ⟨ga, oa + j, none⟩ = some u := fun W hkW j u hj => by
          rw [(hkW.below (B := q) (Nat.le_refl _) hqle (by simp)).cell (p := ⟨ga, oa + j, none⟩) hadB]
          exact hcells j u hj
        have HR := Lib.hid hrd
        have HX := Lib.hid hx
        have HG2 := Lib.hid (show encGo 0 ws ((k : Int) == 0) bs (x :: l.drop (k + 1)) = encGo 0 ByteArray.empty true [] l from by rw [← hdr]; exact HG.out)
        clear hrd hx hdr hcells HG
        go_wp2_with (first | (refine wpList_load rfl rfl rfl (load_ent_at0 (HR.out _ hkp) HX.out) ?_))
        refine (rentry_any x _ ws _).mono ?_
        rintro r w1 ⟨rfl, hbe⟩
        have hk1 : Kept q [5] [] w w1 := hkp.lift (Kept.ofBelow (base := q) (E := []) (G := []) hbe) (Nat.le_refl _) (by simp) (by simp)
        have ho1 : Own w1 q 5 1 A' bs.length c' (bs.map bv) := hown.kept (b' := q) (E := []) (G := []) (Kept.ofBelow hbe) (by simp) (by simp)
        obtain ⟨e2, he2⟩ : ∃ e2, entE 0 x ws ((k : Int) == 0) = e2 := ⟨_, rfl⟩
        rw [he2]
        clear hbe hown hkp hz
        have hz := hk1.size
        by_cases h0 : e2 = 0
        · subst h0
          obtain ⟨name, kind, id⟩ := x
          obtain ⟨_, z1, z2, _, _⟩ := entE_zero he2
          have z3 := nameOk_le z2
          rw [← Lib.size_eq] at z3
          obtain ⟨z4, z5⟩ := kindOk_le z1
          obtain ⟨kn, hkn⟩ := Int.eq_ofNat_of_zero_le (show 0 ≤ kind by simp at z4; omega)
          simp only at z4 z5 z3
          subst hkn
          have HG3 := HG2.out
          simp only [encGo, he2, if_true] at HG3
          have HG4 := Lib.hid HG3
          obtain ⟨m0, m1⟩ := cell_ent (HR.out _ hk1) HX.out
          have hbe1 : be 1 kn = [UInt8.ofNat kn] := by simp [be]
          have hbe2 : be 1 name.size = [UInt8.ofNat name.size] := by simp [be]
          have hcs : [Value.int .u8 (kn : Int), Value.int .u8 (name.size : Int)] = [UInt8.ofNat kn, UInt8.ofNat name.size].map bv := by
            simp only [List.map_cons, List.map_nil, bv, UInt8.toNat_ofNat']
            rw [Nat.mod_eq_of_lt (by omega), Nat.mod_eq_of_lt (by omega)]
          have HB := Lib.hid (And.intro hbe1 hbe2)
          generalize UInt8.ofNat kn = u1 at *
          generalize UInt8.ofNat name.size = u2 at *
          have HC := Lib.hid hcs
          have hlen : bs.length + 2 + name.size = (bs ++ [u1, u2] ++ name.data.toList).length := by simp only [List.length_append, ← Lib.size_eq]; rfl
          have HL := Lib.hid hlen
          clear z1 z2 he2 HG3 HG2 hbe1 hbe2 hcs hlen
          go_wp2_with (first | (at_builtin; refine wpList_append_sl rfl elemU8 rfl rfl (ho1.alloc _) rfl (Reads.of_cells (n := 2) (xs := [u1, u2].map bv) (heap_alloc_new _ _) HC.out rfl) (bvs_one [u1, u2]) (by unfold maxLen; omega) (by omega) (by simp; omega) ?_; intro A2 c2 w2 ho2 hkk2; have hk2 := (hk1.alloc _).trans hkk2; have hz2 := hk2.size) | (at_builtin; refine wpList_append_str rfl elemU8 zeroU8 Tryz.underlying9 rfl rfl ho2 rfl (by unfold maxLen; omega) (by omega) (by omega) ?_; intro A3 c3 w3 ho3 hkk3; have hk3 := hk2.trans hkk3; have hz3 := hk3.size) | (refine wpList_load rfl rfl rfl (load_ent_id_at (HR.out _ hk3) HX.out) ?_))
          rw [HL.out]
          rw [strCells_bv, HL.out, ← List.map_append, ← List.map_append] at ho3
          have hl3 : (bs ++ [u1, u2] ++ name.data.toList).length ≤ bs.length + 42 := by rw [← HL.out]; omega
          refine (put_any id q _ A3 c3 _ ho3 (by omega) (by omega)).mono ?_
          rintro r w4 ⟨A4, c4, rfl, ho4, hk4⟩
          have hl4 : (bs ++ [u1, u2] ++ name.data.toList ++ id.1).length ≤ bs.length + 74 := by rw [List.length_append, id.2]; omega
          generalize hb4 : bs ++ [u1, u2] ++ name.data.toList ++ id.1 = b4 at *
          have HB4 := Lib.hid hb4
          clear hb4 ho3
          go_wp2_with fail
          go_roundw
          case rel =>
            refine ⟨k + 1, b4, name, A4, c4, by omega, by go_num, rfl, rfl, ?_, ho4, hk3.trans hk4, by omega⟩
            · rw [← HG4.out, ← HB4.out]
              simp only [entB, Int.toNat_natCast, List.append_assoc, HB.out.1, HB.out.2]
              rw [show (((k + 1 : Nat) : Int) == 0) = false from beq_eq_false_iff_ne.2 (by omega)]
              rfl
          case measure => simp [intOf]; omega
        · have h01 : (e2 != 0) = true := by simpa using h0
          have HG3 := HG2.out
          simp only [encGo, he2, if_neg h0] at HG3
          have HG4 := Lib.hid (show encTree l = ([], e2) from by rw [HE.out, ← HG3]; simp only [doneL, if_neg h0])
          clear he2 HG3 HG2
          go_wp2_with fail
          go_ret2
          have := HQ.out
          subst this
          exact enc_ret_err HG4.out hk1
      · have hk' : k = l.length := by omega
        have HG2 := HG.out
        rw [hk', List.drop_length] at HG2
        have HG3 := Lib.hid (show encTree l = (bs, 0) from by rw [HE.out, ← HG2]; rfl)
        clear HG2 hk'
        go_wp2_with fail
        go_ret2
        exact enc_ret HQ.out HG3.out hown hkp
end Go.Proofs.YtppmolneklidfaaGreat

namespace Go.Proofs.YtppmolneklidfaaGreat
open Go.RowKit

theorem par_go {b : List UInt8} {f at_ : Nat} {ws : ByteArray} {out : List Ent} (hat : at_ < b.length) : parGo b (f + 1) at_ 0 ws out = parGo b f (pAt b at_) (pE b at_ ws out.length) (pEnt b at_).name (out ++ [pEnt b at_]) := by
  show (if _ then _ else _) = _
  rw [if_pos ⟨rfl, hat⟩]
theorem par_stop {b : List UInt8} {f at_ : Nat} {e : Int} {ws : ByteArray} {out : List Ent} (h : ¬ (e = 0 ∧ at_ < b.length)) : parGo b f at_ e ws out = (out, e) := by
  cases f with
  | zero => rfl
  | succ f => show (if _ then _ else _) = _; rw [if_neg h]
theorem parse_err {b : List UInt8} {f at_ : Nat} {e : Int} {ws : ByteArray} {out : List Ent} (h : parGo b (f + 1) at_ 0 ws out = parGo b b.length 0 0 ByteArray.empty []) (hat : at_ < b.length) (he : pE b at_ ws out.length = e) (h0 : e ≠ 0) : parseTree b = ([], e) := by
  rw [par_go hat, he, par_stop (fun q => h0 q.1)] at h
  unfold parseTree
  rw [← h]
  simp only
  rw [if_neg h0]
theorem takeE_14 (b : List UInt8) (at_ : Nat) (n : Int) {e : Int} (h : e = 0 ∨ e = 14) : takeE b at_ e n = 0 ∨ takeE b at_ e n = 14 := by
  unfold takeE
  split
  · exact h
  · unfold note; rcases h with rfl | rfl <;> simp
theorem pE3_14 (b : List UInt8) (at_ : Nat) : pE3 b at_ = 0 ∨ pE3 b at_ = 14 := by
  unfold pE3 textE
  exact takeE_14 _ _ _ (takeE_14 _ _ _ (takeE_14 _ _ _ (takeE_14 _ _ _ (.inl rfl))))
theorem build_ent1 (k : Int) (w : World) : (Instr.build 58 #[(1, .int .i64 k)]).run Tryz.prog w = .ok (.agg (entC ⟨ByteArray.empty, k, noId⟩)) w := by kernel_rfl
theorem set_ent (s t : ByteArray) (k : Int) (i : Id) : (entC ⟨s, k, i⟩).setIfInBounds 0 (.string t) = entC ⟨t, k, i⟩ := by
  apply Array.ext'
  simp [entC, entL]
theorem entE_4 (x : Ent) (was : ByteArray) (first : Bool) : entE 4 x was first = 4 := by
  have hn : ∀ b e, note 4 b e = 4 := fun b e => by unfold note; rw [if_neg (by decide)]
  unfold entE
  rw [hn, hn, hn, hn]
theorem parse_ret_err {b : List UInt8} {w w4 : World} {e : Int} (he : parseTree b = ([], e)) (hk4 : Kept w.heap.size [58] [] w w4) : ParPost b w (.returned (.tuple #[.slice none 0 0, .int .i64 e])) w4 :=
  ⟨none, 0, by rw [he]; rfl, by rw [he]; exact Own.nil _ _ _ _, hk4.all⟩

set_option maxHeartbeats 4000000 in
set_option maxRecDepth 100000 in
theorem rparseTree_any (b : List UInt8) (A : Option Addr) (c : Nat) (w : World) (hr : Reads w w.heap.size 1 A b.length (b.map bv)) (hl : b.length ≤ 1000000) (hc1 : b.length ≤ c) (hc2 : c ≤ maxLen) :
    Calls Tryz.prog 26 #[.slice A b.length c] w (ParPost b w) := by
  go_enter Tryz.func26, Tryz.ntmps26
  go_wp2_with fail
  have hR0 : Cu (w.alloc (.cells #[.slice A b.length c, .int .i64 0, .bool false] 121)) w.heap.size w.heap.size b 0 0 := ⟨A, c, Blk.new _ _ _, hr.alloc (Nat.le_refl _) _, Nat.zero_le _, hc1, hc2, Nat.le_refl _⟩
  have hk0 : Kept w.heap.size [58] [] w (w.alloc (.cells #[.slice A b.length c, .int .i64 0, .bool false] 121)) := (Kept.refl _ _ _ _).alloc _
  generalize w.alloc (.cells #[.slice A b.length c, .int .i64 0, .bool false] 121) = w0 at *
  generalize hq : w.heap.size = q at *
  have HQ := Lib.hid hq
  have hqle : q ≤ w.heap.size := by omega
  clear hq
  go_loopg [5, 6] b.length (fun f o was wr => ∃ at_ ws out A' c', o = .slice A' out.length c' ∧ was = .string ws ∧ parGo b f at_ 0 ws out = parGo b b.length 0 0 ByteArray.empty [] ∧ Cu wr q q b at_ 0 ∧ Own wr q 58 34 A' out.length c' (entLs out) ∧ Kept q [58] [] w wr ∧ b.length ≤ at_ + f ∧ out.length + f ≤ b.length ∧ out.length ≤ 512)
  case atStart => exact ⟨0, ByteArray.empty, [], none, 0, rfl, rfl, rfl, hR0, Own.nil _ _ _ _, hk0, by omega, by simp, by simp⟩
  case round =>
    obtain ⟨at_, ws, out, A', c', rfl, rfl, hpar, hR, hown, hkp, hfu, hol, h512⟩ := hrel
    have HP := Lib.hid hpar
    clear hpar
    have hz := hkp.size
    obtain ⟨A1, c1, hb, hrr, hat1, hc3, hc4, hc5⟩ := hR
    have hR : Cu wr q q b at_ 0 := ⟨A1, c1, hb, hrr, hat1, hc3, hc4, hc5⟩
    have r1 := hb.cell 1
    simp at r1
    by_cases hat : at_ < b.length
    · cases gk with
      | zero => omega
      | succ f =>
        go_wp2_with fail
        refine (cnum_any 1 (by omega) q q b at_ 0 _ hR (by omega)).mono ?_
        rintro r w1 ⟨rfl, hRa, hka⟩
        have hza := hka.size
        go_wp2_with (first | (refine wpList_built rfl rfl (vs := #[(1, .int .i64 _)]) rfl (build_ent1 _ _) ?_) | (refine wpList_allocAgg rfl rfl (zero_ent _) ?_) | (refine wpList_storeBlk rfl rfl (vs := entC ⟨ByteArray.empty, _, noId⟩) rfl rfl (Blk.new _ _ _) (by rw [entC_size, entC_size]) (by rw [entC_size]; exact info_ent) (entL_one _) ?_; intro w3 hx3 hkc hzc))
        have hkN : Keep Nothing w1 w3 := Keep.ofNew hkc
        have hRc := hRa.keep (by omega) hkN (fun _ h => h.elim)
        have hkw : Keep (Only q) wr w3 := hka.trans (hkN.mono (fun _ _ h => h.elim))
        have hp : q < w1.heap.size := by have := hb.lt; omega
        have hpw : wr.heap.size ≤ w1.heap.size := by omega
        have hpe := hx3.lt
        generalize w1.heap.size = p at *
        clear hkc hRa hka hza hkN hzc
        refine (ctext_any 1 (by omega) q q b _ _ _ hRc (by omega) (by omega)).mono ?_
        rintro r w4 ⟨rfl, hRd, hkd⟩
        have hx4 := hx3.keep hkd (by unfold Only; omega)
        have hzd := hkd.size
        have hkw4 := hkw.trans hkd
        have x4 := hx4.cell 0
        have f4 := hx4.frozen 0
        simp [entC, entL] at x4
        clear hkd hx3 hRc hkw
        go_wp2_with fail
        have hx5 := hx4.set_ 0 (.string (str (textL b (takeAt b at_ 0 1) (takeE b at_ 0 1) 1)))
        rw [set_ent] at hx5
        have hk5 : Keep (Only p) w4 (w4.setCell ⟨p, 0, none⟩ (.string (str (textL b (takeAt b at_ 0 1) (takeE b at_ 0 1) 1)))) := Keep.setCell (Keep.refl (Only p) w4) (p := ⟨p, 0, none⟩) (.inl rfl) _
        generalize w4.setCell ⟨p, 0, none⟩ (.string (str (textL b (takeAt b at_ 0 1) (takeE b at_ 0 1) 1))) = w5 at *
        have hz5 := hk5.size
        have hRe := hRd.keep (by omega) hk5 (by unfold Only; intro i hi; omega)
        have hkw5 : Keep (Only q) wr w5 := hkw4.then_ hk5 (by unfold Only; intro i hi h; omega)
        clear hk5 hRd hkw4 hx4 x4 f4
        refine (cid_any q q b _ _ _ hRe (by omega) (by omega)).mono ?_
        rintro r w6 ⟨rfl, hRf, hk6⟩
        have hRf' : Cu w6 q q b (pAt b at_) (pE3 b at_) := hRf
        have hx6 := hx5.keep hk6 (by unfold Only; omega)
        have hz6 := hk6.size
        have hkw6 := hkw5.trans hk6
        clear hk6 hx5 hRe hRf hkw5
        have hkk6 : ∀ W, Keep (Only q) w6 W → Kept q [58] [] w W := fun W hW => hkp.lift (Kept.ofKeep (base := q) (E := []) (G := [q]) (hkw6.trans hW) (by unfold Only; simp)) (Nat.le_refl _) (by simp) (by simp [HQ.out])
        have HK6 := Lib.hid hkk6
        clear hkk6
        have STORE : True := trivial
        by_cases h3 : pE3 b at_ = 0
        · rw [h3] at hRf'
          have HE3 := Lib.hid h3
          clear h3
          by_cases hmany : out.length = 512
          · have hm1 : ((out.length : Int) == 512) = true := by rw [hmany]; rfl
            have HT := Lib.hid (parse_err HP.out hat (show pE b at_ ws out.length = 4 from by unfold pE; rw [if_pos HE3.out, show note 0 (decide ((out.length : Int) < 512)) 4 = 4 from by rw [decide_eq_false (by omega)]; rfl]; exact entE_4 _ _ _) (by decide))
            clear hmany
            go_wp2_with (first | (refine wpList_storePart rfl rfl (off := 2) (vs := idC _) rfl rfl hx6 (by rw [idC_size, entC_size]; decide) (by rw [idC_size]; exact info42) (idL_one _) ?_; intro w7 hx7 hke hze; have hRg := hRf'.keep (by omega) hke (by unfold Only; intro i hi; omega); obtain ⟨A7, c7, hb7, hR7⟩ := hRg; have e7 := hb7.cell 2; simp at e7))
            go_ret2
            have := HQ.out
            subst this
            exact parse_ret_err HT.out (hkp.lift (Kept.ofKeep (base := w.heap.size) (E := []) (G := [w.heap.size]) (hkw6.then_ hke (by unfold Only; intro i hi h; omega)) (by unfold Only; simp)) (Nat.le_refl _) (by simp) (by simp))
          · have hm1 : ((out.length : Int) == 512) = false := beq_eq_false_iff_ne.2 (by omega)
            have hlt : out.length < 512 := by omega
            clear hmany
            have hpe2 : pE b at_ ws out.length = entE 0 (pEnt b at_) ws ((out.length : Int) == 0) := by unfold pE; rw [if_pos HE3.out, show note 0 (decide ((out.length : Int) < 512)) 4 = 0 from by rw [decide_eq_true (by omega)]; rfl]
            have HPE := Lib.hid hpe2
            clear hpe2
            go_wp2_with (first | (refine wpList_storePart rfl rfl (off := 2) (vs := idC _) rfl rfl hx6 (by rw [idC_size, entC_size]; decide) (by rw [idC_size]; exact info42) (idL_one _) ?_; intro w7 hx7 hke hze; rw [spl_ent] at hx7; have hRg := hRf'.keep (by omega) hke (by unfold Only; intro i hi; omega); obtain ⟨A7, c7, hb7, hR7⟩ := hRg; have e7 := hb7.cell 2; simp at e7) | (refine wpList_load rfl rfl rfl (load_ent hx7) ?_))
            have hRg : Cu w7 q q b (pAt b at_) 0 := ⟨A7, c7, hb7, hR7⟩
            refine (rentry_any (pEnt b at_) _ ws _).mono ?_
            rintro r w8 ⟨rfl, hbe8⟩
            have hx8 := Blk.below (cs := entC (pEnt b at_)) hx7 hbe8 hx7.lt
            have hRh := hRg.keep (by omega) (Below.keep_ hbe8 Nothing) (fun _ h => h.elim)
            have hkw8 : Keep (Only q) wr w8 := (hkw6.then_ hke (by unfold Only; intro i hi h; omega)).trans (Below.keep_ hbe8 _)
            have o8 := hown.keepOnly hkw8 hb (by decide)
            have kk8 : Kept q [58] [] w w8 := hkp.lift (Kept.ofKeep (base := q) (E := []) (G := [q]) hkw8 (by unfold Only; simp)) (Nat.le_refl _) (by simp) (by simp [HQ.out])
            have lp8 := hx8.lt
            have z8 := hkw8.size
            have x8 := hx8.cell 0
            simp [entC, entL] at x8
            obtain ⟨e2, he2⟩ : ∃ e2, entE 0 (pEnt b at_) ws ((out.length : Int) == 0) = e2 := ⟨_, rfl⟩
            rw [he2]
            have HPE2 := Lib.hid (HPE.out.trans he2)
            clear he2 hke hx7 hRg hbe8 hb7 e7 hR7
            by_cases h0 : e2 = 0
            · subst h0
              go_wp2_with (first | (refine wpList_load rfl rfl rfl (load_ent hx8) ?_) | (refine wpList_buildSlice1 rfl elemEnt rfl zero_ent (entC_size _) (entC_size _) (by omega) rfl ?_) | (at_builtin; refine wpList_append_sl rfl elemEnt rfl rfl (o8.alloc _) rfl (Reads.of_cells (n := 1) (xs := entL (pEnt b at_)) (heap_alloc_new _ _) rfl (by rw [entL_len])) (entL_one _) (by unfold maxLen; omega) (by omega) (by simp; omega) ?_; intro A10 c10 w10 o10 k10))
              go_roundg f
              case measure => omega
              case rel =>
                have kk10 : Kept q [58] [] w w10 := (kk8.alloc _).trans k10
                have hR10 : Cu w10 q q b (pAt b at_) 0 := by
                  obtain ⟨Ar, cr, br, rr, s1, s2, s3, s4⟩ := hRh.alloc (by omega) (.cells (entC (pEnt b at_)) 58)
                  exact ⟨Ar, cr, k10.blk br (by simp) (by decide), rr.below (k10.below (Nat.le_refl _) (by simp; omega) (by simp)), s1, s2, s3, s4⟩
                refine ⟨pAt b at_, (pEnt b at_).name, out ++ [pEnt b at_], A10, c10, by simp, rfl, ?_, hR10, ?_, kk10, ?_, by simp; omega, by simp; omega⟩
                · rw [← HP.out, par_go hat, HPE2.out]
                · simpa [entLs] using o10
                · have := pAt_gt b at_ hat
                  omega
            · have h01 : (e2 != 0) = true := by simpa using h0
              have HT := Lib.hid (parse_err HP.out hat HPE2.out h0)
              clear h0
              go_wp2_with fail
              go_ret2
              have := HQ.out
              subst this
              exact parse_ret_err HT.out kk8
        · have h14 : pE3 b at_ = 14 := (pE3_14 b at_).resolve_left h3
          rw [h14] at hRf'
          have HT := Lib.hid (parse_err HP.out hat (show pE b at_ ws out.length = 14 from by unfold pE; rw [if_neg h3]; exact h14) (by decide))
          clear h3 h14
          go_wp2_with (first | (refine wpList_storePart rfl rfl (off := 2) (vs := idC _) rfl rfl hx6 (by rw [idC_size, entC_size]; decide) (by rw [idC_size]; exact info42) (idL_one _) ?_; intro w7 hx7 hke hze; have hRg := hRf'.keep (by omega) hke (by unfold Only; intro i hi; omega); obtain ⟨A7, c7, hb7, hR7⟩ := hRg; have e7 := hb7.cell 2; simp at e7))
          go_ret2
          have := HQ.out
          subst this
          exact parse_ret_err HT.out (hkp.lift (Kept.ofKeep (base := w.heap.size) (E := []) (G := [w.heap.size]) (hkw6.then_ hke (by unfold Only; intro i hi h; omega)) (by unfold Only; simp)) (Nat.le_refl _) (by simp) (by simp))
    · have hend : parseTree b = (out, 0) := by unfold parseTree; rw [← HP.out, par_stop (fun q => hat q.2)]; rfl
      have HE := Lib.hid hend
      have hat' : b.length ≤ at_ := by omega
      clear hend hat
      go_wp2_with fail
      go_ret2
      refine ⟨A', c', ?_, ?_, ?_⟩
      · rw [HE.out]; rfl
      · rw [HE.out, HQ.out]; exact hown
      · have := HQ.out
        subst this
        exact hkp.all
end Go.Proofs.YtppmolneklidfaaGreat

namespace Go.Proofs.YtppmolneklidfaaGreat
open Go.RowKit

def letter (k : Int) : UInt8 := if k = 1 then 98 else if k = 2 then 116 else 99
/-- An object's bytes, where e is what is wrong with its body. -/
def encObj (e k : Int) (b : List UInt8) : List UInt8 × Int := if e = 0 then (letter k :: (be 4 b.length ++ b), 0) else ([], e)

def BytesPost (r2 : List UInt8 × Int) (w : World) (r : Ending) (w' : World) : Prop := ∃ A c, r = .returned (.tuple #[.slice A r2.1.length c, .int .i64 r2.2]) ∧ Own w' w.heap.size 5 1 A r2.1.length c (r2.1.map bv) ∧ Below w.heap.size w w'

theorem build_src1 (A : Option Addr) (n c : Nat) (w : World) : (Instr.build 102 #[(0, .agg #[.slice A n c, .int .i64 0, .int .i64 0])]).run Tryz.prog w = .ok (.agg #[.slice A n c, .int .i64 0, .int .i64 0]) w := by kernel_rfl

theorem own_one (w : World) (base : Nat) (hb : base ≤ w.heap.size) (y : UInt8) : Own (w.alloc (.cells #[bv y] 5)) base 5 1 (some ⟨w.heap.size, 0, none⟩) 1 1 ([y].map bv) :=
  ⟨by simp, .inr ⟨w.heap.size, 1, #[bv y], rfl, hb, heap_alloc_new _ _, Nat.le_refl _, by unfold maxLen; omega, by simp, by simp⟩⟩

theorem let1 (W : World) : (Instr.index 9 (.string ⟨#[98, 116, 99]⟩) (.int .i64 0)).run Tryz.prog W = .ok (.int .u8 98) W := by kernel_rfl
theorem let2 (W : World) : (Instr.index 9 (.string ⟨#[98, 116, 99]⟩) (.int .i64 1)).run Tryz.prog W = .ok (.int .u8 116) W := by kernel_rfl
theorem let3 (W : World) : (Instr.index 9 (.string ⟨#[98, 116, 99]⟩) (.int .i64 2)).run Tryz.prog W = .ok (.int .u8 99) W := by kernel_rfl
set_option maxHeartbeats 2000000 in
set_option maxRecDepth 100000 in
theorem encodeObj_of (k : Int) (b : List UInt8) (e : Int) (A : Option Addr) (c : Nat) (w : World) (hr : Reads w w.heap.size 1 A b.length (b.map bv)) (hl : b.length ≤ 1000000) (hke : e = 0 → 1 ≤ k ∧ k ≤ 3)
    (hbody : ∀ W : World, Reads W w.heap.size 1 A b.length (b.map bv) → w.heap.size ≤ W.heap.size → Calls Tryz.prog 41 #[.int .i64 k, .slice A b.length c] W fun r w' => r = .returned (.int .i64 e) ∧ Below W.heap.size W w') :
    Calls Tryz.prog 15 #[.agg #[.int .i64 k, .slice A b.length c]] w (BytesPost (encObj e k b) w) := by
  have HB := Lib.hid hbody
  clear hbody
  have hq1 : Blk (w.alloc (.cells #[.int .i64 k, .slice A b.length c] 45)) w.heap.size 45 #[.int .i64 k, .slice A b.length c] := Blk.new _ _ _
  have hr1 := hr.alloc (Nat.le_refl _) (.cells #[.int .i64 k, .slice A b.length c] 45)
  have hk1 : Kept w.heap.size [5] [] w (w.alloc (.cells #[.int .i64 k, .slice A b.length c] 45)) := (Kept.refl _ _ _ _).alloc _
  have hz1 : w.heap.size ≤ (w.alloc (.cells #[.int .i64 k, .slice A b.length c] 45)).heap.size := by simp
  go_enter Tryz.func15, Tryz.ntmps15
  go_wp2_with fail
  refine (HB.out _ hr1 hz1).mono ?_
  rintro r w2 ⟨rfl, hbe⟩
  generalize w.alloc (.cells #[.int .i64 k, .slice A b.length c] 45) = w1 at *
  have hq2 := hq1.below hbe hq1.lt
  have hr2 := (hr1.more hz1).below hbe
  have hk2 : Kept w.heap.size [5] [] w w2 := hk1.lift (Kept.ofBelow (base := w.heap.size) (E := []) (G := []) hbe) (Nat.le_refl _) (by simp) (by simp)
  have hz2 := hbe.size
  generalize hq : w.heap.size = q at *
  have HQ := Lib.hid hq
  have hqle : q ≤ w.heap.size := by omega
  have hqge : w.heap.size ≤ q := by omega
  clear hq hbe hk1 hr1 hq1
  by_cases he : e = 0
  · subst he
    obtain ⟨k1, k2⟩ := hke rfl
    have a0 := hq2.cell 0
    have a1 := hq2.cell 1
    simp at a0 a1
    clear hke
    have hlet : ∀ W : World, (Instr.index 9 (.string ⟨#[98, 116, 99]⟩) (.int .i64 (k - 1))).run Tryz.prog W = .ok (.int .u8 ((letter k).toNat : Int)) W := by
      intro W
      have : k = 1 ∨ k = 2 ∨ k = 3 := by omega
      rcases this with rfl | rfl | rfl
      · exact let1 W
      · exact let2 W
      · exact let3 W
    generalize hy : letter k = y at *
    have HY := Lib.hid hy
    have lq2 := hq2.lt
    clear hy
    go_wp2_with fail
    have ho0 := own_one w2 q (by omega) y
    have hw3 : Wt ((w2.alloc (.cells #[bv y] 5)).alloc (.cells #[.slice (some ⟨w2.heap.size, 0, none⟩) 1 1, .int .i64 0, .int .i64 0] 102)) (w2.heap.size + 1) q [y] 0 := by
      refine ⟨_, _, ?_, ho0.alloc _, by omega⟩
      have := Blk.new (w2.alloc (.cells #[bv y] 5)) 102 #[.slice (some ⟨w2.heap.size, 0, none⟩) 1 1, .int .i64 0, .int .i64 0]
      simpa using this
    have hq3 := (hq2.alloc (.cells #[bv y] 5)).alloc (.cells #[.slice (some ⟨w2.heap.size, 0, none⟩) 1 1, .int .i64 0, .int .i64 0] 102)
    have hr3 := (hr2.alloc hz2 (.cells #[bv y] 5)).alloc (by simp; omega) (.cells #[.slice (some ⟨w2.heap.size, 0, none⟩) 1 1, .int .i64 0, .int .i64 0] 102)
    have hk3 := (hk2.alloc (.cells #[bv y] 5)).alloc (.cells #[.slice (some ⟨w2.heap.size, 0, none⟩) 1 1, .int .i64 0, .int .i64 0] 102)
    change Calls _ _ _ ((w2.alloc (.cells #[bv y] 5)).alloc (.cells #[.slice (some ⟨w2.heap.size, 0, none⟩) 1 1, .int .i64 0, .int .i64 0] 102)) _
    have hz3 : q ≤ ((w2.alloc (.cells #[bv y] 5)).alloc (.cells #[.slice (some ⟨w2.heap.size, 0, none⟩) 1 1, .int .i64 0, .int .i64 0] 102)).heap.size := by simp; omega
    generalize (w2.alloc (.cells #[bv y] 5)).alloc (.cells #[.slice (some ⟨w2.heap.size, 0, none⟩) 1 1, .int .i64 0, .int .i64 0] 102) = w3 at *
    have hg : q < w2.heap.size + 1 := by omega
    have hg2 : w.heap.size ≤ w2.heap.size + 1 := by omega
    generalize w2.heap.size + 1 = g at *
    clear ho0 hq2 hr2 hk2 a0 a1 hlet
    refine (wnumber_any 4 b.length (by omega) g q [y] 0 _ hw3 (by simp) hz3).mono ?_
    rintro r w4 ⟨rfl, hw4, hk4⟩
    have hq4 := hk4.blk hq3 (by simp; omega) (by decide)
    have hz4 := hk4.size
    have hkk4 : Kept q [5] [] w w4 := hk3.lift hk4 (Nat.le_refl _) (by simp) (by simp; omega)
    have hbz4 : Below q w w4 := hkk4.below (Nat.le_refl _) hqle (by simp)
    have hr4 : Reads w4 q 1 A b.length (b.map bv) := by
      have := HQ.out
      subst this
      exact hr.below hbz4
    have hl4 : ([y] ++ be 4 b.length).length = 5 := by simp [be_len]
    generalize h5 : [y] ++ be 4 b.length = b5 at *
    have HB5 := Lib.hid h5
    have hl5 : b5.length ≤ 5 := by omega
    obtain ⟨A5, c5, hb5, ho5, hbg5⟩ := hw4
    clear h5 hl4 hq3 hr3 hk3 hw3 hk4
    have l4 := hb5.lt
    have a1 := hq4.cell 1
    have b0 := hb5.cell 0
    have f0 := hb5.frozen 0
    simp at a1 b0
    have hm1 : b5.length + b.length ≤ maxLen := by unfold maxLen; omega
    have hm2 : (b5.length + b.length) * 1 ≤ 140737488355328 := by omega
    have hz4' : q ≤ w4.heap.size := by omega
    go_wp2_with fail
    go_region_law (first | ((refine step_append_sl (by rfl) elemU8 (by rfl) (by rfl) ho5.drew (by rfl) hr4.drew (bvs_one _) hm1 hm2 hz4' ?_); intro A' c' w5 ho6 hk6; have hb6 := hk6.blk hb5.drew (by simp) (by decide); have c6 := hb6.cell 0; have f6 := hb6.frozen 0; simp at c6))
    all_goals
      have T := Wt.more (g := g) (base := q) (bs := b5) (new := b) (m := b.length) (e := 0) (w := w4) hbg5 ((Kept.refl _ _ _ _).drew) hb5.drew rfl ho6 hk6
      go_wp2_with fail
      refine (wdone_any g q _ 0 _ T.1).mono ?_
      rintro r w7 ⟨A7, c7, rfl, ho7, hk7⟩
      have kk7 : Kept q [5] [] w w7 := (hkk4.lift T.2 (Nat.le_refl _) (by simp) (by simp; omega)).lift (Kept.ofKeep (base := q) (E := []) (G := []) hk7 (by unfold Nothing; simp)) (Nat.le_refl _) (by simp) (by simp)
      go_wp2_with fail
      go_ret2
      have := HQ.out
      subst this
      have hE : encObj 0 k b = (b5 ++ b, 0) := by
        unfold encObj
        rw [if_pos rfl, HY.out, ← HB5.out]
        simp
      refine ⟨A7, c7, ?_, ?_, kk7.all⟩
      · rw [hE]; rfl
      · rw [hE]; exact ho7
  · have he1 : (e != 0) = true := by simpa using he
    have HE := Lib.hid (show encObj e k b = ([], e) from if_neg he)
    go_wp2_with fail
    go_ret2
    have := HQ.out
    subst this
    exact ⟨none, 0, by rw [HE.out]; rfl, by rw [HE.out]; exact Own.nil _ _ _ _, hk2.all⟩
end Go.Proofs.YtppmolneklidfaaGreat

namespace Go.Proofs.YtppmolneklidfaaGreat
open Go.RowKit
section
variable {P : Program}
theorem wpList_convStr_g {ops : Array Oper} {rest : List Oper} {o : Oper} {a : Act} {w : World} {Q : Exit → Act → World → Prop} (hw : Region.wanted o (yielded ops a.tmps) = true) {src dst e : TypeId} {x : Operand} (ho : o.op = .convert src dst x)
    (hs : P.underlying src = some (.slice e)) (he : P.underlying e = some (.int .u8)) (hd : P.underlying dst = some .string) {B : Nat} {A : Option Addr} {n c : Nat} {l : List UInt8} (hx : a.eval x = .slice A n c) (h : Reads w B 1 A n (l.map byteV))
    (hk : wpList P ops Q rest (a.put o.dst (.string ⟨l.toArray⟩)) w) : wpList P ops Q (o :: rest) a w :=
  BigFrame.wpList_want hw fun _ hK => by
    unfold Oper.wp execOp
    simp only [ho, hx, Sem.run_bind, run_convert_bytes_string w src dst e A n c hs he hd, run_str_of h, Result.andThen_ok, Sem.run_pure]
    exact hK _ _ hk
end
end Go.Proofs.YtppmolneklidfaaGreat

namespace Go.Proofs.YtppmolneklidfaaGreat
open Go.RowKit

set_option maxHeartbeats 1000000 in
theorem body_tree (b : List UInt8) (A : Option Addr) (c : Nat) (w : World) (hr : Reads w w.heap.size 1 A b.length (b.map bv)) (hl : b.length ≤ 1000000) (hc1 : b.length ≤ c) (hc2 : c ≤ maxLen) :
    Calls Tryz.prog 41 #[.int .i64 2, .slice A b.length c] w fun r w' => r = .returned (.int .i64 (parseTree b).2) ∧ Below w.heap.size w w' := by
  go_enter Tryz.func41, Tryz.ntmps41
  go_wp2_with fail
  refine (parseTree_any b A c _ hr hl hc1 hc2).mono ?_
  rintro r w2 ⟨A2, c2, rfl, ho2, hb2⟩
  go_wp2_with fail
  go_ret
  exact ⟨rfl, hb2⟩

def kId : Id := ⟨7 :: List.replicate 31 0, by simp⟩
def kEnt : Ent := ⟨⟨#[97]⟩, 1, kId⟩
theorem build_kId (w : World) : (Instr.build 24 #[(0, .int .u8 7)]).run Tryz.prog w = .ok (idV kId) w := by kernel_rfl
theorem build_kEnt (w : World) : (Instr.build 58 #[(0, .string ⟨#[97]⟩), (1, .int .i64 1), (2, idV kId)]).run Tryz.prog w = .ok (.agg (entC kEnt)) w := by kernel_rfl
theorem kBytes : encTree [kEnt] = ([1, 1, 97, 7] ++ List.replicate 31 0, 0) := by decide +kernel
theorem kObj : encObj (parseTree []).2 2 [] = ([116, 0, 0, 0, 0], 0) := by decide +kernel

set_option maxHeartbeats 2000000 in
set_option maxRecDepth 100000 in
theorem known_any (w : World) : Calls Tryz.prog 4 #[] w fun r w' => r = .returned (.bool true) ∧ Below w.heap.size w w' := by
  go_enter Tryz.func4, Tryz.ntmps4
  go_wp2_with fail
  refine (encodeObj_of 2 [] (parseTree []).2 none 0 _ ⟨rfl, fun h => absurd h (by simp)⟩ (by simp) (fun _ => by omega) (fun W hR hz => body_tree [] none 0 W ⟨rfl, fun h => absurd h (by simp)⟩ (by simp) (by simp) (by simp))).mono ?_
  rintro r w1 ⟨A1, c1, rfl, ho1, hb1⟩
  rw [kObj] at ho1 ⊢
  go_wp2_with (first | (refine wpList_built rfl rfl (vs := #[(0, .int .u8 7)]) rfl (build_kId _) ?_) | (refine wpList_built rfl rfl (vs := #[(0, .string ⟨#[97]⟩), (1, .int .i64 1), (2, idV kId)]) rfl (build_kEnt _) ?_) | (refine wpList_buildSlice1 rfl elemEnt rfl zero_ent (entC_size _) (entC_size _) (by omega) rfl ?_))
  have ho2 := ho1.alloc (.cells (entC kEnt) 58)
  have hb2 : Below w.heap.size w (w1.alloc (.cells (entC kEnt) 58)) := hb1.alloc hb1.size _
  have hr2 : Reads (w1.alloc (.cells (entC kEnt) 58)) (w1.heap.size + 1) 34 (some ⟨w1.heap.size, 0, none⟩) 1 (entLs [kEnt]) := Reads.of_cells (n := 1) (xs := entLs [kEnt]) (heap_alloc_new _ _) (by simp [entC, entLs]) (by rw [entLs_len]; rfl)
  have hz2 : (w1.alloc (.cells (entC kEnt) 58)).heap.size = w1.heap.size + 1 := by simp
  rw [← hz2] at hr2
  generalize w1.alloc (.cells (entC kEnt) 58) = w2 at *
  clear hz2
  refine (encodeTree_any [kEnt] _ 1 _ hr2 (by simp)).mono ?_
  rintro r w3 ⟨A3, c3, rfl, ho3, hb3⟩
  rw [kBytes] at ho3 ⊢
  have ho4 : Own w3 w.heap.size 5 1 A1 5 c1 ([116, 0, 0, 0, 0].map bv) := ho2.kept (b' := 0) (E := []) (G := []) (Kept.ofBelow hb3) (by simp) (by simp)
  have hb4 : Below w.heap.size w w3 := hb2.trans (hb3.mono hb2.size)
  have h35 : 35 ≤ c3 := by have := ho3.cap_le.1; simpa using this
  have hr5 := ho3.reads.front (k := 4) (by simp)
  clear ho1 ho2 hb1 hb2 hb3
  go_wp2_with (first | (refine wpList_convStr_g (by rfl) rfl Tryz.underlying36 Tryz.underlying5 Tryz.underlying9 (l := [116, 0, 0, 0, 0]) rfl ho4.reads ?_) | (refine wpList_convStr_g (by rfl) rfl Tryz.underlying36 Tryz.underlying5 Tryz.underlying9 (l := [1, 1, 97, 7]) rfl hr5 ?_))
  go_ret
  exact ⟨rfl, hb4⟩
end Go.Proofs.YtppmolneklidfaaGreat

namespace Go.Proofs.YtppmolneklidfaaGreat
open Go.RowKit

def entEq (x y : Ent) : Bool := (x.name.toList == y.name.toList) && ((x.kind == y.kind) && (x.id == y.id))

section
variable {P : Program}
theorem run_part_one (w : World) {ty : TypeId} {d : TypeDesc} (hu : P.underlying ty = some d) (hd : (match d with | .struct _ | .array _ _ => true | _ => false) = false) (cs : Array Value) (i : Nat) (v : Value) (hv : cs[i]? = some v) : (part ty cs i).run P w = .ok v w := by
  have : (isAgg ty).run P w = .ok false w := by
    unfold isAgg
    rw [Sem.run_bind, run_underlying hu w]
    cases d <;> simp_all
  simp [part, Sem.run_bind, this, hv]
theorem run_part_agg (w : World) {ty : TypeId} {d : TypeDesc} (hu : P.underlying ty = some d) (hd : (match d with | .struct _ | .array _ _ => true | _ => false) = true) (cs : Array Value) (i : Nat) (vs : Array Value) (hi : (P.info? ty).map (·.size) = some vs.size) (hv : vs = cs.extract i (i + vs.size)) : (part ty cs i).run P w = .ok (.agg vs) w := by
  cases hq : P.info? ty with
  | none => simp [hq] at hi
  | some inf =>
    have hs : inf.size = vs.size := by simpa [hq] using hi
    simp [part, Sem.run_bind, run_isAgg hu hd, sizeOf, typeInfo, hq, hs, ← hv]
theorem still_bin {ops : Array Oper} {o : Oper} {a : Act} {w : World} {rest : List Oper} {Q : Act → Prop} (hgd : o.guard = none) {op : BinOp} {t t' : TypeId} {x y : Operand} (ho : o.op = .binOp op t x y t') {u v r : Value} (hx : a.eval x = u) (hy : a.eval y = v) (hg : (eqGuard op t x y u v).run P w = .ok () w) (hrun : (binOp op t u v).run P w = .ok r w)
    (h : wpStill P ops w Q rest (a.put o.dst r)) : wpStill P ops w Q (o :: rest) a := by
  refine wpStill_step fun K hK => ?_
  have hw : Region.wanted o (yielded ops a.tmps) = true := by simp [Region.wanted, hgd]
  rw [if_pos hw]
  unfold Oper.still execOp
  simp only [ho, hx, hy, Sem.run_bind, hg, hrun, Result.andThen_ok, Sem.run_pure]
  exact ⟨rfl, hK _ h⟩
theorem run_eqFields_nil (w : World) (d : Nat) (xs ys : Array Value) : (Op.eqFields d xs ys []).run P w = .ok true w := rfl
theorem run_eqFields_cons (w : World) (d : Nat) (xs ys : Array Value) (f : Field) (fs : List Field) (hf : f.name ≠ "_") {a b : Value} {r r2 : Bool} (h1 : (part f.type xs f.offset).run P w = .ok a w) (h2 : (part f.type ys f.offset).run P w = .ok b w) (h3 : (Op.equalIn d f.type a b).run P w = .ok r w)
    (h4 : (Op.eqFields d xs ys fs).run P w = .ok r2 w) : (Op.eqFields d xs ys (f :: fs)).run P w = .ok (r && r2) w := by
  unfold Op.eqFields
  rw [if_pos hf]
  simp only [Sem.run_bind, h1, h2, h3, Result.andThen_ok]
  cases r
  · rfl
  · simp [h4]
end

theorem run_equalIn_id (w : World) (d : Nat) (i j : Id) : (Op.equalIn (d + 2) 24 (idV i) (idV j)).run Tryz.prog w = .ok (i == j) w := by
  obtain ⟨inf, hi, hs⟩ : ∃ inf, Tryz.prog.info? 5 = some inf ∧ inf.size = 1 := by
    have := infoU8
    cases h : Tryz.prog.info? 5 with
    | none => rw [h] at this; cases this
    | some inf => exact ⟨inf, rfl, by rw [h] at this; simpa using this⟩
  have h := run_equalIn_row (P := Tryz.prog) w d (t := 24) (len := 32) Tryz.underlying24 Tryz.underlying5 hi hs (i.1.map fun x => (x.toNat : Int)) (j.1.map fun x => (x.toNat : Int)) (by simp [i.2]) (by simp [j.2])
  rw [← idC_ints, ← idC_ints, ids_beq] at h
  exact h

theorem stood_ent : Tryz.prog.stoodInHeld 58 = false := by kernel_rfl
theorem plain_ent : Tryz.prog.eqGuardType Tryz.prog.depth 58 = false := by kernel_rfl
theorem fields_ent : Tryz.prog.underlying 58 = some (.struct (Tryz.prog.fieldsOf 58)) := by kernel_rfl
theorem run_equalIn_ent (w : World) (d : Nat) (x y : Ent) : (Op.equalIn (d + 3) 58 (entV x) (entV y)).run Tryz.prog w = .ok (entEq x y) w := by
  unfold entV
  rw [run_equalIn_struct w (d + 2) 58 (entC x) (entC y) fields_ent stood_ent]
  unfold Program.fieldsOf
  rw [Tryz.underlying58]
  unfold entEq
  refine run_eqFields_cons w _ _ _ _ _ (by decide) (run_part_one w Tryz.underlying9 rfl _ _ _ (by simp [entC, entL])) (run_part_one w Tryz.underlying9 rfl _ _ _ (by simp [entC, entL])) (run_equalIn_string w _ _ _ _ Tryz.underlying9) ?_
  refine run_eqFields_cons w _ _ _ _ _ (by decide) (run_part_one w Tryz.underlying3 rfl _ _ _ (by simp [entC, entL])) (run_part_one w Tryz.underlying3 rfl _ _ _ (by simp [entC, entL])) (run_equalIn_int w _ _ .i64 _ _ _ Tryz.underlying3) ?_
  rw [← Bool.and_true (x.id == y.id)]
  refine run_eqFields_cons w _ _ _ _ _ (by decide) (run_part_agg w Tryz.underlying24 rfl _ _ (idC x.id) (by rw [idC_size]; exact info42) (entC_id x)) (run_part_agg w Tryz.underlying24 rfl _ _ (idC y.id) (by rw [idC_size]; exact info42) (entC_id y)) (run_equalIn_id w d x.id y.id) ?_
  exact run_eqFields_nil w _ _ _
theorem run_neq_ent (w : World) (x y : Ent) : (binOp .neq 58 (entV x) (entV y)).run Tryz.prog w = .ok (.bool (!entEq x y)) w := by
  show (binOp .neq 58 (.agg (entC x)) (.agg (entC y))).run Tryz.prog w = _
  rw [run_neq_struct]
  have := run_equalIn_ent w 9997 x y
  unfold entV at this
  rw [this]
  rfl
theorem guard_ent (op : BinOp) (a b : Operand) (x y : Ent) (w : World) : (eqGuard op 58 a b (entV x) (entV y)).run Tryz.prog w = .ok () w :=
  run_eqGuard_agg (P := Tryz.prog) w op 58 a b (entC x) (entC y) plain_ent

def entsEq : List Ent → List Ent → Bool
  | [], [] => true
  | x :: l, y :: m => entEq x y && entsEq l m
  | _, _ => false
theorem entEq_refl (x : Ent) : entEq x x = true := by simp [entEq]
theorem entsEq_refl : ∀ l : List Ent, entsEq l l = true
  | [] => rfl
  | x :: l => by simp [entsEq, entEq_refl, entsEq_refl l]

set_option maxHeartbeats 1000000 in
set_option maxRecDepth 100000 in
theorem sameEntries_refl (l : List Ent) (A A' : Option Addr) (c c' : Nat) (B : Nat) (w : World) (hr : Reads w B 34 A l.length (entLs l)) (hr' : Reads w B 34 A' l.length (entLs l)) (hl : l.length ≤ 9223372036854775807) :
    Calls Tryz.prog 27 #[.slice A l.length c, .slice A' l.length c'] w fun r w' => r = .returned (.bool true) ∧ Keep Nothing w w' := by
  go_enter Tryz.func27, Tryz.ntmps27
  go_wp2_with fail
  go_loopw [5] (fun i wr => ∃ k : Nat, k ≤ l.length ∧ i = .int .i64 k ∧ (∀ p : Addr, wr.cell? p = w.cell? p) ∧ Keep Nothing w wr) (fun i _ => l.length - (intOf i).toNat)
  case atStart => exact ⟨0, Nat.zero_le _, rfl, fun _ => rfl, Keep.refl _ _⟩
  case round =>
    obtain ⟨k, hk, rfl, hsame, hkw⟩ := hrel
    have HS := Lib.hid hsame
    clear hsame
    by_cases hlt : k < l.length
    · obtain ⟨x, hx⟩ : ∃ x, l[k]? = some x := ⟨_, List.getElem?_eq_getElem hlt⟩
      obtain ⟨g1, o1, rfl, _, hc1⟩ := hr.at0 (by omega) (by omega)
      obtain ⟨g2, o2, rfl, _, hc2⟩ := hr'.at0 (by omega) (by omega)
      have L1 := Lib.hid (load_ent_at0 (w := wr.drew) (fun j u hj => (HS.out _).trans (hc1 j u hj)) hx)
      have L2 := Lib.hid (load_ent_at0 (w := wr.drew) (fun j u hj => (HS.out _).trans (hc2 j u hj)) hx)
      have hi0 : (0 : Int) ≤ (k : Int) := Int.natCast_nonneg _
      have hi1 : (k : Int) < (l.length : Int) := by omega
      clear hc1 hc2 hx
      go_wp2_with fail
      refine wp_region_still_lit (by kernel_rfl) (by kernel_rfl) ?_
      still_step
      still_step
      still_step
      refine still_load rfl rfl rfl L1.out ?_
      go_frame
      still_step
      still_step
      still_step
      refine still_load rfl rfl rfl L2.out ?_
      go_frame
      refine still_bin rfl rfl (u := entV x) rfl (v := entV x) rfl (guard_ent _ _ _ x x _) (run_neq_ent _ x x) ?_
      rw [entEq_refl]
      go_frame
      refine wpStill_nil ?_
      change Exit.then _ _ _ _ wr.drew
      go_wp2_with fail
      go_roundw
      case rel => exact ⟨k + 1, by omega, by go_num, fun p => HS.out p, hkw.drew⟩
      case measure => simp [intOf]; omega
    · obtain rfl : k = l.length := by omega
      go_wp2_with fail
      go_ret
      exact ⟨rfl, hkw⟩
end Go.Proofs.YtppmolneklidfaaGreat
