/-
  Contract of the reference's (*Cur).seq. No statement of the seat is proved here.
-/
import Derived.Test.YtppmolneklidfaaTr4
namespace Go.Proofs.Ytppmolneklidfaa
open Go.RowKit

/-- The state: a transaction that is being filled, and the row of its steps to do. -/
structure CS (w wr : World) (g B : Nat) (b : List UInt8) (x y : Nat) (E : List TypeId) (cy : Array Value) (t : TxD) (mv ev : Value) (l : List TodoD) (A : Option Addr) (c : Nat) (at_ : Nat) (e : Int) (W : World) : Prop where
  cq : CQ w g B b x y 70 E cy (txC t mv (.slice A l.length c) ev) at_ e W
  kk : Kept wr.heap.size [82] [g, x] wr W
  ow : Own W wr.heap.size 82 33 A l.length c (todoLs l)
section
variable {w wr : World} {g B : Nat} {b : List UInt8} {x y : Nat} {E : List TypeId} {cy : Array Value} {t t' : TxD} {mv ev : Value} {l : List TodoD} {A : Option Addr} {c : Nat} {at_ : Nat} {e : Int} {W W' : World}
theorem CS.next {at' : Nat} {e' : Int} (h : CS w wr g B b x y E cy t mv ev l A c at_ e W) (hq : CQ w g B b x y 70 E cy (txC t mv (.slice A l.length c) ev) at' e' W') (hk : Keep (Only g) W W') : CS w wr g B b x y E cy t mv ev l A c at' e' W' := by
  obtain ⟨rA, rc, rb⟩ := h.cq.rblk
  exact ⟨hq, h.kk.trans (Kept.ofKeep hk (by unfold Only; intro i _ h; simp [h])), h.ow.keepOnly hk rb (by decide)⟩
theorem CS.number1 (h : CS w wr g B b x y E cy t mv ev l A c at_ e W) : Calls Try.prog 51 #[.pointer (some ⟨g, 0, none⟩), .int .i64 1] W fun r w' =>
    r = .returned (.int .i64 (num (takeL b at_ e 1))) ∧ CS w wr g B b x y E cy t mv ev l A c (takeAt b at_ e 1) (takeE b at_ e 1) w' := h.cq.number1.mono fun _ _ ⟨h1, h2, h3⟩ => ⟨h1, h.next h2 h3⟩
theorem CS.number2 (h : CS w wr g B b x y E cy t mv ev l A c at_ e W) : Calls Try.prog 51 #[.pointer (some ⟨g, 0, none⟩), .int .i64 2] W fun r w' =>
    r = .returned (.int .i64 (num (takeL b at_ e 2))) ∧ CS w wr g B b x y E cy t mv ev l A c (takeAt b at_ e 2) (takeE b at_ e 2) w' := h.cq.number2.mono fun _ _ ⟨h1, h2, h3⟩ => ⟨h1, h.next h2 h3⟩
theorem CS.text1 (h : CS w wr g B b x y E cy t mv ev l A c at_ e W) : Calls Try.prog 52 #[.pointer (some ⟨g, 0, none⟩), .int .i64 1] W fun r w' =>
    r = .returned (.string (str (textL b at_ e 1))) ∧ CS w wr g B b x y E cy t mv ev l A c (textAt b at_ e 1) (textE b at_ e 1) w' := h.cq.text1.mono fun _ _ ⟨h1, h2, h3⟩ => ⟨h1, h.next h2 h3⟩
theorem CS.id (h : CS w wr g B b x y E cy t mv ev l A c at_ e W) : Calls Try.prog 53 #[.pointer (some ⟨g, 0, none⟩)] W fun r w' =>
    r = .returned (idV (idOf (takeL b at_ e 32))) ∧ CS w wr g B b x y E cy t mv ev l A c (takeAt b at_ e 32) (takeE b at_ e 32) w' := h.cq.id.mono fun _ _ ⟨h1, h2, h3⟩ => ⟨h1, h.next h2 h3⟩
theorem CS.only {cs' : Array Value} (h : CS w wr g B b x y E cy t mv ev l A c at_ e W) (hb : Blk W' x 70 cs') (hk : Keep (Only x) W W') (hc : cs' = txC t' mv (.slice A l.length c) ev) : CS w wr g B b x y E cy t' mv ev l A c at_ e W' := by
  subst hc
  exact ⟨h.cq.only hb hk, h.kk.trans (Kept.ofKeep hk (by unfold Only; intro i _ h; simp [h])), h.ow.keepOnly hk h.cq.blk (by decide)⟩
theorem CS.set (h : CS w wr g B b x y E cy t mv ev l A c at_ e W) (i : Nat) (v : Value) (hc : (txC t mv (.slice A l.length c) ev).setIfInBounds i v = txC t' mv (.slice A l.length c) ev) : CS w wr g B b x y E cy t' mv ev l A c at_ e (W.setCell ⟨x, i, none⟩ v) :=
  h.only (h.cq.blk.set_ i v) ((Keep.refl (Only x) W).setCell (p := ⟨x, i, none⟩) (.inl rfl) _) hc
end
def CseqPost (w wr : World) (g B : Nat) (b : List UInt8) (x y : Nat) (E : List TypeId) (cy : Array Value) (t : TxD) (mv ev : Value) (at_ : Nat) (e : Int) (r : Ending) (W : World) : Prop :=
  ∃ A c, r = .returned (.bool (decide ((1 : Int) < ((rseqP b at_ e).2.2.2 : Nat)))) ∧ CS w wr g B b x y E cy { t with seq := (rseqP b at_ e).1 } mv ev (rseqP b at_ e).1.todo A c (rseqP b at_ e).2.1 (rseqP b at_ e).2.2.1 W
def LdTodoC (v : Value) : Sem Value := Instr.loadAt 82 v
theorem ld_todoC (v : Value) : Instr.loadAt 82 v = LdTodoC v := rfl

attribute [local go_sem ↓] ld_todoC bs_todo
set_option maxHeartbeats 8000000 in
set_option maxRecDepth 100000 in
theorem cseq_any (b : List UInt8) (at_ : Nat) (e : Int) (g B x y : Nat) (E : List TypeId) (cy : Array Value) (t : TxD) (mv ev : Value) (w v0 : World) (hE : 82 ∈ E) (ht : t.seq = noSeq) (h0 : CQ w g B b x y 70 E cy (txC t mv nilS ev) at_ e v0) :
    Calls Try.prog 79 #[.pointer (some ⟨g, 0, none⟩), .pointer (some ⟨x, 4, none⟩)] v0 (CseqPost w v0 g B b x y E cy t mv ev at_ e) := by
  have s0 : CS w v0 g B b x y E cy t mv ev [] none 0 at_ e v0 := ⟨h0, Kept.refl _ _ _ _, Own.nil _ _ _ _⟩
  have HT := Lib.hid ht
  have hwz := h0.kept.size
  clear h0 ht
  have HP := Lib.hid (show rseqP b at_ e = if num (takeL b at_ e 1) = 0 then (noSeq, takeAt b at_ e 1, takeE b at_ e 1, 0)
    else rsIds b { noSeq with kind := (num (takeL b at_ e 1) : Nat), branch := str (textL b (takeAt b at_ e 1) (takeE b at_ e 1) 1) } (textAt b (takeAt b at_ e 1) (takeE b at_ e 1) 1) (textE b (takeAt b at_ e 1) (takeE b at_ e 1) 1) from rfl)
  go_enter Try.func79, Try.ntmps79
  go_wp2_with fail
  refine s0.number1.mono ?_
  rintro r w1 ⟨rfl, s1⟩
  have hn := num1 b at_ e
  clear s0
  generalize num (takeL b at_ e 1) = n at *
  generalize takeAt b at_ e 1 = a1 at *
  generalize takeE b at_ e 1 = e1 at *
  have c1 := (s1.cq.blk.cell 4).trans txC_at.2.2.2.2.1
  have f1 := s1.cq.blk.frozen 4
  go_upto_region 2 with fail
  have s2 := s1.set 4 (.int .i64 (n : Int)) ((txC_seqSet _ _ _ _).1 _)
  have c2 := (s2.cq.blk.cell 4).trans txC_at.2.2.2.2.1
  simp only at c2
  generalize w1.setCell ⟨x, 4, none⟩ (.int .i64 (n : Int)) = w2 at *
  clear s1 c1 f1
  by_cases h0 : n = 0
  · subst h0
    have HP2 := Lib.hid (show rseqP b at_ e = (noSeq, a1, e1, 0) from by rw [HP.out, if_pos rfl])
    go_wp2_with fail
    go_ret
    refine ⟨none, 0, by rw [HP2.out]; rfl, ?_⟩
    rw [HP2.out]
    have : ({ t with seq := { t.seq with kind := ((0 : Nat) : Int) } } : TxD) = { t with seq := noSeq } := by rw [HT.out]; rfl
    rw [this] at s2
    exact s2
  · have d0 : ((n : Int) == 0) = false := beq_eq_false_iff_ne.2 (by omega)
    have HP2 := Lib.hid (show rseqP b at_ e = rsIds b { noSeq with kind := (n : Int), branch := str (textL b a1 e1 1) } (textAt b a1 e1 1) (textE b a1 e1 1) from by rw [HP.out, if_neg h0])
    go_wp2_with fail
    refine s2.text1.mono ?_
    rintro r w3 ⟨rfl, s3⟩
    clear s2 c2 HP
    generalize textL b a1 e1 1 = tl at *
    generalize textAt b a1 e1 1 = a2 at *
    generalize textE b a1 e1 1 = e2 at *
    have c1 := (s3.cq.blk.cell 5).trans (txC_seqAt _ _ _ _).1
    have f1 := s3.cq.blk.frozen 5
    go_wp2_with fail
    have s4 := s3.set 5 (.string (str tl)) ((txC_seqSet _ _ _ _).2.1 _)
    clear s3 c1 f1
    generalize w3.setCell ⟨x, 5, none⟩ (.string (str tl)) = w4 at *
    refine s4.id.mono ?_
    rintro r w5 ⟨rfl, s5⟩
    have HP3 := Lib.hid (show rseqP b at_ e = rsTodo b { noSeq with kind := (n : Int), branch := str tl, orig := idOf (takeL b a2 e2 32), cur := idOf (takeL b (takeAt b a2 e2 32) (takeE b a2 e2 32) 32) } (takeAt b (takeAt b a2 e2 32) (takeE b a2 e2 32) 32) (takeE b (takeAt b a2 e2 32) (takeE b a2 e2 32) 32) from HP2.out)
    clear s4 HP2
    generalize idOf (takeL b a2 e2 32) = i1 at *
    generalize takeAt b a2 e2 32 = a3 at *
    generalize takeE b a2 e2 32 = e3 at *
    go_wp2_with (first | (refine wpList_storePart rfl rfl (vs := idC i1) rfl rfl s5.cq.blk (by rw [idC_size, txC_size]; omega) (by rw [idC_size]; exact info42) (idL_one _) ?_; intro w6 b6 k6 _z6))
    have s6 := s5.only b6 k6 (txC_seqSpl _ _ _ _ _).1
    clear b6 k6 _z6 s5
    refine s6.id.mono ?_
    rintro r w7 ⟨rfl, s7⟩
    clear s6
    generalize idOf (takeL b a3 e3 32) = i2 at *
    generalize takeAt b a3 e3 32 = a4 at *
    generalize takeE b a3 e3 32 = e4 at *
    go_wp2_with (first | (refine wpList_storePart rfl rfl (vs := idC i2) rfl rfl s7.cq.blk (by rw [idC_size, txC_size]; omega) (by rw [idC_size]; exact info42) (idL_one _) ?_; intro w8 b8 k8 _z8))
    have s8 := s7.only b8 k8 (txC_seqSpl _ _ _ _ _).2
    clear b8 k8 _z8 s7
    refine s8.number2.mono ?_
    rintro r w9 ⟨rfl, s9⟩
    have hm := num2 b a4 e4
    have HP4 := Lib.hid (show rseqP b at_ e = rsEnd b { noSeq with kind := (n : Int), branch := str tl, orig := i1, cur := i2, todo := (rsLoop b (num (takeL b a4 e4 2)) (takeAt b a4 e4 2) (takeE b a4 e4 2) []).1 } (rsLoop b (num (takeL b a4 e4 2)) (takeAt b a4 e4 2) (takeE b a4 e4 2) []).2.1 (rsLoop b (num (takeL b a4 e4 2)) (takeAt b a4 e4 2) (takeE b a4 e4 2) []).2.2 from HP3.out)
    clear s8 HP3
    generalize num (takeL b a4 e4 2) = m at *
    generalize takeAt b a4 e4 2 = a5 at *
    generalize takeE b a4 e4 2 = e5 at *
    simp only at s9
    obtain ⟨Q, hQ⟩ : ∃ Q : SeqD, Q = { noSeq with kind := (n : Int), branch := str tl, orig := i1, cur := i2 } := ⟨_, rfl⟩
    have s9' : CS w v0 g B b x y E cy { t with seq := Q } mv ev [] none 0 a5 e5 w9 := by rw [hQ]; rw [HT.out] at s9; exact s9
    have HP5 := Lib.hid (show ∀ l at' e', rsLoop b m a5 e5 [] = (l, at', e') → rseqP b at_ e = rsEnd b { Q with todo := l } at' e' from fun l at' e' h => by rw [HP4.out, h, hQ])
    clear s9 HP4 hQ
    go_wp2_with fail
    go_loopg [6] m (fun f i W => ∃ k at' e' l A c, i = .int .i64 (k : Nat) ∧ k + f = m ∧ rsLoop b f at' e' l = rsLoop b m a5 e5 [] ∧ CS w v0 g B b x y E cy { t with seq := Q } mv ev l A c at' e' W ∧ l.length ≤ k)
    case atStart => exact ⟨0, a5, e5, [], none, 0, rfl, by omega, rfl, s9', by simp⟩
    case round =>
      obtain ⟨k, at', e', l, A, c, rfl, hkf, hlo, s10, hlm⟩ := hrel
      have HLO := Lib.hid hlo
      have HKF := Lib.hid hkf
      have hkm : k ≤ m := by omega
      clear hlo hkf s9'
      have r2 := s10.cq.err
      by_cases hgo : k < m ∧ e' = 0
      · obtain ⟨hg0, he⟩ := hgo
        subst he
        cases gk with
        | zero => exact absurd HKF.out (by omega)
        | succ f =>
          go_wp2_with fail
          refine s10.number1.mono ?_
          rintro r w11 ⟨rfl, s11⟩
          have hn1 := num1 b at' 0
          have HL2 := Lib.hid (show rsLoop b (f + 1) at' 0 l = rsLoop b f (takeAt b (takeAt b at' 0 1) (takeE b at' 0 1) 32) (takeE b (takeAt b at' 0 1) (takeE b at' 0 1) 32) (l ++ [⟨(num (takeL b at' 0 1) : Nat), idOf (takeL b (takeAt b at' 0 1) (takeE b at' 0 1) 32)⟩]) from by show (if _ then _ else _) = _; rw [if_pos rfl])
          clear s10 r2
          generalize num (takeL b at' 0 1) = dn at *
          generalize takeAt b at' 0 1 = a6 at *
          generalize takeE b at' 0 1 = e6 at *
          go_wp2_with (first | (refine wpList_built rfl rfl (vs := #[(0, .int .i64 (dn : Int))]) rfl (build_todo1 (dn : Int) _) ?_) | (refine wpList_allocAgg rfl rfl (zero_todo _) ?_) | (refine wpList_storeBlk rfl rfl (vs := todoC ⟨(dn : Int), noId⟩) rfl rfl (Blk.new _ _ _) (by rw [todoC_size, todoC_size]) (by rw [todoC_size]; exact info_todo) (todoL_one _) ?_; intro w12 x12 kc zc))
          have v12 : CV w11 g B b w11.heap.size 82 (todoC ⟨(dn : Int), noId⟩) a6 e6 w12 :=
            ⟨s11.cq.rd.keep s11.cq.size (Keep.ofNew (S := Nothing) kc) (fun _ q => q.elim), x12, Keep.ofNew kc, Nat.le_refl _, s11.cq.size, by decide, s11.cq.bl⟩
          clear kc zc x12
          have hz11 := s11.kk.size
          generalize w11.heap.size = z at *
          refine v12.id.mono ?_
          rintro r w13 ⟨rfl, v13⟩
          clear v12
          generalize idOf (takeL b a6 e6 32) = i6 at *
          generalize takeAt b a6 e6 32 = a7 at *
          generalize takeE b a6 e6 32 = e7 at *
          go_upto_region 13 with (first | (refine wpList_storePart rfl rfl (vs := idC i6) rfl rfl v13.blk (by rw [idC_size, todoC_size]; omega) (by rw [idC_size]; exact info42) (idL_one _) ?_; intro w14 b14 k14 _z14))
          have v14 := v13.only b14 k14
          rw [todoC_spl] at v14
          simp only at v14
          clear b14 k14 _z14 v13
          have s14 : CS w v0 g B b x y E cy { t with seq := Q } mv ev l A c a7 e7 w14 := s11.next (s11.cq.next v14.rd v14.keep) v14.keep
          clear s11
          have z14 := s14.kk.size
          have c70 := (s14.cq.blk.cell 70).trans (txC_seqAt _ _ _ _).2.1
          have c70' := fun o => ((s14.cq.blk.alloc o).cell 70).trans (txC_seqAt _ _ _ _).2.1
          have L1 : (LdTodoC (.pointer (some ⟨z, 0, none⟩))).run Try.prog w14.drew = _ := load_whole v14.blk.drew Try.underlying82 rfl (by rw [todoC_size]; exact info_todo)
          have BS := BsTodo.run ⟨(dn : Int), i6⟩
          have hl16 : l.length ≤ 65535 := by omega
          have CQD := Lib.hid s14.cq.drew
          have OWD := Lib.hid s14.ow.drew
          go_region_law (first | ((refine step_append_sl (by rfl) elemTodo (by rfl) (by rfl) (OWD.out.alloc _) (by rfl) (Reads.of_cells (n := 1) (xs := todoL ⟨(dn : Int), i6⟩) (heap_alloc_new _ _) rfl (by rw [todoL_len])) (todoL_one _) (by unfold maxLen; omega) (by omega) (by simp; omega) ?_); intro A' c' w15 o15 k15; have q15 := (CQD.out.alloc _).row (k15.mono hwz (by simpa using hE) (by simp)); have c15 := (q15.blk.cell 70).trans (txC_seqAt _ _ _ _).2.1; have f15 := q15.blk.frozen 70))
          all_goals
            go_wp2_with fail
            go_roundg f
            case measure => omega
            case rel =>
              have el : l.length + 1 = (l ++ [(⟨(dn : Int), i6⟩ : TodoD)]).length := by simp
              have q16 := q15.set 70 (.slice A' (l ++ [(⟨(dn : Int), i6⟩ : TodoD)]).length c')
              rw [(txC_seqSet _ _ _ _).2.2.1] at q16
              have o16 : Own w15 v0.heap.size 82 33 A' (l ++ [(⟨(dn : Int), i6⟩ : TodoD)]).length c' (todoLs (l ++ [(⟨(dn : Int), i6⟩ : TodoD)])) := by simpa [todoLs] using o15
              have kk16 := ((s14.kk.drew.alloc (.cells (todoC ⟨(dn : Int), i6⟩) 82)).trans (k15.mono (Nat.le_refl _) (fun _ h => h) (by simp))).setCell (p := ⟨x, 70, none⟩) (.inl (by simp)) (.slice A' (l ++ [(⟨(dn : Int), i6⟩ : TodoD)]).length c')
              rw [el]
              exact ⟨k + 1, _, _, _, A', c', by go_num, by have := HKF.out; omega, by rw [← HL2.out]; exact HLO.out, ⟨q16, kk16, o16.setCell (p := ⟨x, 70, none⟩) q15.blk (by decide) _⟩, by rw [← el]; omega⟩
      · have hend : rsLoop b m a5 e5 [] = (l, at', e') := by
          rw [← HLO.out]
          by_cases he : e' = 0
          · have h0 : gk = 0 := by have := HKF.out; omega
            rw [h0]
            rfl
          · exact rsLoop_err he
        have HE := Lib.hid (HP5.out _ _ _ hend)
        have fin : m ≤ k ∨ (k < m ∧ (e' != 0) = true) := by
          by_cases h1 : m ≤ k
          · exact .inl h1
          · exact .inr ⟨by omega, by have : e' ≠ 0 := fun h => hgo ⟨by omega, h⟩; simpa using this⟩
        clear hend HLO hgo HP5 hlm HKF
        rcases fin with f1 | ⟨f1, f2⟩
        all_goals
          go_wp2_with fail
          refine s10.number2.mono ?_
          rintro r w11 ⟨rfl, s11⟩
          have hd1 := num2 b at' e'
          have HE2 := Lib.hid (show rseqP b at_ e = ({ Q with todo := l, done := (num (takeL b at' e' 2) : Nat), made := (num (takeL b (takeAt b at' e' 2) (takeE b at' e' 2) 2) : Nat), stopped := ((num (takeL b (takeAt b (takeAt b at' e' 2) (takeE b at' e' 2) 2) (takeE b (takeAt b at' e' 2) (takeE b at' e' 2) 2) 1) : Int) == 1) },
            takeAt b (takeAt b (takeAt b at' e' 2) (takeE b at' e' 2) 2) (takeE b (takeAt b at' e' 2) (takeE b at' e' 2) 2) 1, takeE b (takeAt b (takeAt b at' e' 2) (takeE b at' e' 2) 2) (takeE b (takeAt b at' e' 2) (takeE b at' e' 2) 2) 1,
            num (takeL b (takeAt b (takeAt b at' e' 2) (takeE b at' e' 2) 2) (takeE b (takeAt b at' e' 2) (takeE b at' e' 2) 2) 1)) from HE.out)
          clear HE s10 r2
          generalize num (takeL b at' e' 2) = d1 at *
          generalize takeAt b at' e' 2 = a6 at *
          generalize takeE b at' e' 2 = e6 at *
          have c1 := (s11.cq.blk.cell 71).trans (txC_seqAt _ _ _ _).2.2.1
          have f1' := s11.cq.blk.frozen 71
          go_wp2_with fail
          have s12 := s11.set 71 (.int .i64 (d1 : Int)) ((txC_seqSet _ _ _ _).2.2.2.1 _)
          clear s11 c1 f1'
          generalize w11.setCell ⟨x, 71, none⟩ (.int .i64 (d1 : Int)) = w12 at *
          refine s12.number2.mono ?_
          rintro r w13 ⟨rfl, s13⟩
          have hd2 := num2 b a6 e6
          clear s12
          generalize num (takeL b a6 e6 2) = d2 at *
          generalize takeAt b a6 e6 2 = a7 at *
          generalize takeE b a6 e6 2 = e7 at *
          have c1 := (s13.cq.blk.cell 72).trans (txC_seqAt _ _ _ _).2.2.2.1
          have f1' := s13.cq.blk.frozen 72
          go_wp2_with fail
          have s14 := s13.set 72 (.int .i64 (d2 : Int)) ((txC_seqSet _ _ _ _).2.2.2.2.1 _)
          clear s13 c1 f1'
          generalize w13.setCell ⟨x, 72, none⟩ (.int .i64 (d2 : Int)) = w14 at *
          refine s14.number1.mono ?_
          rintro r w15 ⟨rfl, s15⟩
          have hd3 := num1 b a7 e7
          clear s14
          generalize num (takeL b a7 e7 1) = d3 at *
          generalize takeAt b a7 e7 1 = a8 at *
          generalize takeE b a7 e7 1 = e8 at *
          have c1 := (s15.cq.blk.cell 73).trans (txC_seqAt _ _ _ _).2.2.2.2
          have f1' := s15.cq.blk.frozen 73
          have s16 := s15.set 73 (.bool ((d3 : Int) == 1)) ((txC_seqSet _ _ _ _).2.2.2.2.2 _)
          clear s15
          simp only at s16
          go_wp2_with fail
          go_ret
          generalize w15.setCell ⟨x, 73, none⟩ (.bool ((d3 : Int) == 1)) = w16 at *
          refine ⟨A, c, by rw [HE2.out]; rfl, ?_⟩
          rw [HE2.out]
          exact ⟨s16.cq, s16.kk, s16.ow⟩
end Go.Proofs.Ytppmolneklidfaa
