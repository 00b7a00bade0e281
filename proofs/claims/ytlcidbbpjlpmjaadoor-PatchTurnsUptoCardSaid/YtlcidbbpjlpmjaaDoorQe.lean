/-
  Edits: a script's runs; contracts of lines.add and of the reference's run. No statement of the seat is proved here.
-/
import Derived.Test.YtlcidbbpjlpmjaaDoorProg
import Derived.Test.YtlcidbbpjlpmjaaDoorGen
import Derived.Test.YtlcidbbpjlpmjaaDoorQd2
namespace Go.Proofs.YtlcidbbpjlpmjaaDoor
open Go.RowKit

def edL (e : EdD) : List Value := [.int .i64 (e.op : Int), .int .i64 (e.n : Int)]
def edLs (l : List EdD) : List Value := l.flatMap edL
theorem edL_len (e : EdD) : (edL e).length = 2 := rfl
theorem elemEdit : Elem Tryd.prog 36 67 2 16 := by
  refine ⟨Tryd.underlying36, ?_, by decide⟩
  obtain ⟨i, hi, h1, h2, h3⟩ := info_parts (show (Tryd.prog.info? 67).map (fun i => (i.zero, i.size, i.bytes)) = some (some (.agg #[.int .i64 0, .int .i64 0]), 2, 16) by kernel_rfl)
  exact ⟨i, _, hi, h1, h2, h3, rfl⟩
theorem edL_one (e : EdD) : ∀ v ∈ edL e, v.oneCell' = true := by
  intro v hv
  simp only [edL, List.mem_cons, List.not_mem_nil, or_false] at hv
  rcases hv with rfl | rfl <;> rfl
theorem edLs_snoc (l : List EdD) (e : EdD) : edLs (l ++ [e]) = edLs l ++ edL e := by simp [edLs]
theorem edLs_turn (l : List EdD) (e : EdD) (n : Nat) : (edLs (l ++ [e])).set (l.length * 2 + 1) (.int .i64 ((n : Nat) : Int)) = edLs (l ++ [⟨e.op, n⟩]) := by
  have h : (edLs l).length = l.length * 2 := flatn_len edL_len l
  rw [edLs_snoc, edLs_snoc, List.set_append_right _ _ (by omega), h, show l.length * 2 + 1 - l.length * 2 = 1 by omega]
  rfl
def AddPost (l : List EdD) (op : Nat) (base : Nat) (w : World) (r : Ending) (w' : World) : Prop := ∃ A c, r = .returned (.slice A (addP l op).length c) ∧ Own w' base 67 2 A (addP l op).length c (edLs (addP l op)) ∧ Kept base [67] [] w w'
set_option maxHeartbeats 1000000 in
set_option maxRecDepth 100000 in
theorem add_any (l : List EdD) (op : Nat) (A : Option Addr) (c base : Nat) (w : World) (ho : Own w base 67 2 A l.length c (edLs l)) (hb : base ≤ w.heap.size) (hl : l.length ≤ 100000) (hn : ∀ e ∈ l, e.n ≤ 100000) :
    Calls Tryd.prog 52 #[.slice A l.length c, .int .i64 (op : Int)] w (AddPost l op base w) := by
  rcases List.eq_nil_or_concat l with rfl | ⟨l', e, rfl⟩
  · have HP := Lib.hid (show AddPost [] op base w = fun r w' => ∃ A c, r = .returned (.slice A 1 c) ∧ Own w' base 67 2 A 1 c [.int .i64 (op : Int), .int .i64 1] ∧ Kept base [67] [] w w' from rfl)
    rw [HP.out]
    go_enter Tryd.func52, Tryd.ntmps52
    go_wp2_with (first | (at_builtin; refine wpList_append_sl rfl elemEdit rfl rfl (ho.alloc _) rfl (Reads.of_blk (n := 1) (xs := [.int .i64 (op : Int), .int .i64 1]) (heap_alloc_new _ _) rfl rfl) (edL_one ⟨op, 1⟩) (by unfold maxLen; simp) (by simp) (by simp; omega) ?_; intro A1 c1 w1 o1 k1))
    go_ret
    exact ⟨A1, c1, rfl, o1, ((Kept.refl _ _ _ _).alloc _).trans k1⟩
  · rw [List.concat_eq_append] at ho hl hn ⊢
    have HP := Lib.hid (show AddPost (l' ++ [e]) op base w = fun r w' => ∃ A c, r = .returned (.slice A (addP (l' ++ [e]) op).length c) ∧ Own w' base 67 2 A (addP (l' ++ [e]) op).length c (edLs (addP (l' ++ [e]) op)) ∧ Kept base [67] [] w w' from rfl)
    have hlen : (l' ++ [e]).length = l'.length + 1 := by simp
    rw [hlen] at ho hl ⊢
    have hen := hn e (by simp)
    obtain ⟨g, rfl, hg⟩ := ho.adrn (by omega)
    have c0 := (World.ownsRow.cellAt ho (l'.length * 2) (by omega)).trans (flatn_at edL_len (l' ++ [e]) l'.length 0 e (by simp) (.int .i64 (e.op : Int)) rfl)
    have c1 := (World.ownsRow.cellAt ho (l'.length * 2 + 1) (by omega)).trans (flatn_at edL_len (l' ++ [e]) l'.length 1 e (by simp) (.int .i64 (e.n : Int)) rfl)
    have f1 := World.ownsRow.frozenAt ho (l'.length * 2 + 1)
    rw [HP.out, addP_snoc]
    clear hlen hn HP
    by_cases he : e.op = op
    · rw [if_pos he]
      have hb0 : ((e.op : Int) == (op : Int)) = true := beq_iff_eq.2 (by omega)
      have ht := Own.turn ho (l'.length * 2 + 1) (.int .i64 ((e.n : Int) + 1)) (edLs_turn l' e (e.n + 1))
      rw [he] at ht
      have HT := Lib.hid ht
      clear ht ho
      go_enter Tryd.func52, Tryd.ntmps52
      go_wp2
      go_ret
      exact ⟨some ⟨g, 0, none⟩, c, by simp, by rw [he]; simpa using HT.out.1, HT.out.2⟩
    · have hb0 : ((e.op : Int) == (op : Int)) = false := beq_eq_false_iff_ne.2 (by omega)
      rw [if_neg he]
      go_enter Tryd.func52, Tryd.ntmps52
      go_wp2_with (first | (at_builtin; refine wpList_append_sl rfl elemEdit rfl rfl (n := l'.length + 1) (ho.alloc _) rfl (Reads.of_blk (n := 1) (xs := edL ⟨op, 1⟩) (heap_alloc_new _ _) rfl rfl) (edL_one ⟨op, 1⟩) (by unfold maxLen; omega) (by omega) (by simp; omega) ?_; intro A1 c1 w1 o1 k1))
      go_ret
      have k2 := ((Kept.refl base [67] [] w).alloc (.cells #[.int .i64 (op : Int), .int .i64 1] 67)).trans k1
      rw [← edLs_snoc] at o1
      exact ⟨A1, c1, by simp, by simpa [edLs_snoc, edLs] using o1, k2⟩
set_option maxHeartbeats 1000000 in
set_option maxRecDepth 100000 in
theorem run_any (l : List EdD) (op : Nat) (A : Option Addr) (c base : Nat) (w : World) (ho : Own w base 67 2 A l.length c (edLs l)) (hb : base ≤ w.heap.size) (hl : l.length ≤ 100000) (hn : ∀ e ∈ l, e.n ≤ 100000) :
    Calls Tryd.prog 56 #[.slice A l.length c, .int .i64 (op : Int)] w (AddPost l op base w) := by
  rcases List.eq_nil_or_concat l with rfl | ⟨l', e, rfl⟩
  · have HP := Lib.hid (show AddPost [] op base w = fun r w' => ∃ A c, r = .returned (.slice A 1 c) ∧ Own w' base 67 2 A 1 c [.int .i64 (op : Int), .int .i64 1] ∧ Kept base [67] [] w w' from rfl)
    rw [HP.out]
    go_enter Tryd.func56, Tryd.ntmps56
    go_wp2_with (first | (at_builtin; refine wpList_append_sl rfl elemEdit rfl rfl (ho.alloc _) rfl (Reads.of_blk (n := 1) (xs := [.int .i64 (op : Int), .int .i64 1]) (heap_alloc_new _ _) rfl rfl) (edL_one ⟨op, 1⟩) (by unfold maxLen; simp) (by simp) (by simp; omega) ?_; intro A1 c1 w1 o1 k1))
    go_ret
    exact ⟨A1, c1, rfl, o1, ((Kept.refl _ _ _ _).alloc _).trans k1⟩
  · rw [List.concat_eq_append] at ho hl hn ⊢
    have HP := Lib.hid (show AddPost (l' ++ [e]) op base w = fun r w' => ∃ A c, r = .returned (.slice A (addP (l' ++ [e]) op).length c) ∧ Own w' base 67 2 A (addP (l' ++ [e]) op).length c (edLs (addP (l' ++ [e]) op)) ∧ Kept base [67] [] w w' from rfl)
    have hlen : (l' ++ [e]).length = l'.length + 1 := by simp
    rw [hlen] at ho hl ⊢
    have hen := hn e (by simp)
    obtain ⟨g, rfl, hg⟩ := ho.adrn (by omega)
    have c0 := (World.ownsRow.cellAt ho (l'.length * 2) (by omega)).trans (flatn_at edL_len (l' ++ [e]) l'.length 0 e (by simp) (.int .i64 (e.op : Int)) rfl)
    have c1 := (World.ownsRow.cellAt ho (l'.length * 2 + 1) (by omega)).trans (flatn_at edL_len (l' ++ [e]) l'.length 1 e (by simp) (.int .i64 (e.n : Int)) rfl)
    have f1 := World.ownsRow.frozenAt ho (l'.length * 2 + 1)
    rw [HP.out, addP_snoc]
    clear hlen hn HP
    by_cases he : e.op = op
    · rw [if_pos he]
      have hb0 : ((e.op : Int) == (op : Int)) = true := beq_iff_eq.2 (by omega)
      have ht := Own.turn ho (l'.length * 2 + 1) (.int .i64 ((e.n : Int) + 1)) (edLs_turn l' e (e.n + 1))
      rw [he] at ht
      have HT := Lib.hid ht
      clear ht ho
      go_enter Tryd.func56, Tryd.ntmps56
      go_wp2
      go_ret
      exact ⟨some ⟨g, 0, none⟩, c, by simp, by rw [he]; simpa using HT.out.1, HT.out.2⟩
    · have hb0 : ((e.op : Int) == (op : Int)) = false := beq_eq_false_iff_ne.2 (by omega)
      rw [if_neg he]
      go_enter Tryd.func56, Tryd.ntmps56
      go_wp2_with (first | (at_builtin; refine wpList_append_sl rfl elemEdit rfl rfl (n := l'.length + 1) (ho.alloc _) rfl (Reads.of_blk (n := 1) (xs := edL ⟨op, 1⟩) (heap_alloc_new _ _) rfl rfl) (edL_one ⟨op, 1⟩) (by unfold maxLen; omega) (by omega) (by simp; omega) ?_; intro A1 c1 w1 o1 k1))
      go_ret
      have k2 := ((Kept.refl base [67] [] w).alloc (.cells #[.int .i64 (op : Int), .int .i64 1] 67)).trans k1
      rw [← edLs_snoc] at o1
      exact ⟨A1, c1, by simp, by simpa [edLs_snoc, edLs] using o1, k2⟩
end Go.Proofs.YtlcidbbpjlpmjaaDoor
