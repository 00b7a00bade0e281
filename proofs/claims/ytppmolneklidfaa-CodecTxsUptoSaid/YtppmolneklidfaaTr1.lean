/-
  Contracts of the reference's text, number, long. No statement of the seat is proved here.
-/
import Derived.Test.YtppmolneklidfaaTx4
import Derived.Test.YtppmolneklidfaaRef1
namespace Go.Proofs.Ytppmolneklidfaa
open Go.RowKit

/-! ### Bytes that are written by value, beside a struct's variable -/
structure SQ (w : World) (base x : Nat) (T : TypeId) (cs : Array Value) (bs : List UInt8) (A : Option Addr) (c : Nat) (wr : World) : Prop where
  own : Own wr base 5 1 A bs.length c (bs.map bv)
  blk : Blk wr x T cs
  kept : Kept base [5] [] w wr
  size : base ≤ wr.heap.size
  nt : T ≠ 5
section
variable {w : World} {base x : Nat} {T : TypeId} {cs : Array Value} {bs : List UInt8} {A : Option Addr} {c : Nat} {wr w' : World}
theorem SQ.next {bs' : List UInt8} {A' : Option Addr} {c' : Nat} (h : SQ w base x T cs bs A c wr) (ho : Own w' base 5 1 A' bs'.length c' (bs'.map bv)) (hk : Kept base [5] [] wr w') : SQ w base x T cs bs' A' c' w' :=
  ⟨ho, hk.blk h.blk (by simp) (by simpa using h.nt), h.kept.trans hk, Nat.le_trans h.size hk.size, h.nt⟩
theorem SQ.num (h : SQ w base x T cs bs A c wr) (n v : Nat) (hn : n ≤ 8) (hsz : bs.length + n ≤ 140737488355328) : Calls Try.prog 59 #[.slice A bs.length c, .int .i64 n, .int .u64 v] wr fun r w' =>
    ∃ A' c', r = .returned (.slice A' (bs ++ be n v).length c') ∧ SQ w base x T cs (bs ++ be n v) A' c' w' ∧ Kept base [5] [] wr w' :=
  (num_any n v hn base bs A c wr h.own hsz h.size).mono fun _ _ ⟨A', c', h1, h2, h3⟩ => ⟨A', c', h1, h.next h2 h3, h3⟩
theorem SQ.put (h : SQ w base x T cs bs A c wr) (i : Id) (hsz : bs.length + 32 ≤ 140737488355328) : Calls Try.prog 47 #[.slice A bs.length c, idV i] wr fun r w' =>
    ∃ A' c', r = .returned (.slice A' (bs ++ i.1).length c') ∧ SQ w base x T cs (bs ++ i.1) A' c' w' ∧ Kept base [5] [] wr w' :=
  (put_any i base bs A c wr h.own hsz h.size).mono fun _ _ ⟨A', c', h1, h2, h3⟩ => ⟨A', c', h1, h.next h2 h3, h3⟩
theorem SQ.keepN (h : SQ w base x T cs bs A c wr) (k : Keep Nothing wr w') : SQ w base x T cs bs A c w' :=
  h.next (h.own.kept (b' := 0) (E := []) (G := []) (Kept.ofKeep k (by unfold Nothing; simp)) (by simp) (by simp)) (Kept.ofKeep k (by unfold Nothing; simp))
theorem SQ.drew (h : SQ w base x T cs bs A c wr) : SQ w base x T cs bs A c wr.drew := h.keepN (Keep.refl _ _).drew
theorem SQ.below {B : Nat} (h : SQ w base x T cs bs A c wr) (hB : B ≤ base) (hz : B ≤ w.heap.size) : Below B w wr := h.kept.below hB hz (by simp)
end

def TextRPost (base : Nat) (l : List UInt8) (w : World) (r : Ending) (w' : World) : Prop :=
  ∃ A c, r = .returned (.tuple #[.slice A l.length c, .bool true]) ∧ Own w' base 5 1 A l.length c (l.map bv) ∧ Kept base [5] [] w w'

set_option maxHeartbeats 2000000 in
theorem rtextB_any (n : Nat) (s : ByteArray) (hn : n = 1 ∧ s.size ≤ 255 ∨ n = 2 ∧ s.size ≤ 65535 ∨ n = 4) (base : Nat) (bs : List UInt8) (A : Option Addr) (c : Nat) (w : World) (ho : Own w base 5 1 A bs.length c (bs.map bv)) (hsz : bs.length + n + s.size ≤ 140737488355328) (hbz : base ≤ w.heap.size) :
    Calls Try.prog 76 #[.slice A bs.length c, .int .i64 n, .string s] w (TextRPost base (bs ++ be n s.size ++ s.data.toList) w) := by
  have hwr : IntKind.u64.wrap (s.size : Int) = (s.size : Int) := conv_u64 _ (by omega)
  have HO := Lib.hid ho
  clear ho
  rcases hn with ⟨rfl, hs⟩ | ⟨rfl, hs⟩ | rfl
  · have d1 : decide ((256 : Int) ≤ (s.size : Int)) = false := decide_eq_false (by omega)
    go_enter Try.func76, Try.ntmps76
    go_wp2_with fail
    refine (num_any 1 s.size (by omega) base bs A c _ HO.out (by omega) hbz).mono ?_
    rintro r w1 ⟨A1, c1, rfl, o1, k1⟩
    have z1 := k1.size
    have le : (bs ++ be 1 s.size).length ≤ bs.length + 1 := by simp [be_len]
    generalize hb1 : bs ++ be 1 s.size = b1 at *
    clear hb1
    go_wp2_with (first | (at_builtin; refine wpList_append_str rfl elemU8 zeroU8 Try.underlying9 rfl rfl o1 rfl (by unfold maxLen; omega) (by omega) (by omega) ?_; intro A2 c2 w2 o2 k2))
    go_ret2
    rw [strCells_bv, ← List.map_append] at o2
    have el : b1.length + s.size = (b1 ++ s.data.toList).length := by rw [List.length_append, ← Lib.size_eq]
    rw [el] at o2 ⊢
    exact ⟨A2, c2, rfl, o2, k1.trans k2⟩
  · have d1 : decide ((65536 : Int) ≤ (s.size : Int)) = false := decide_eq_false (by omega)
    go_enter Try.func76, Try.ntmps76
    go_wp2_with fail
    refine (num_any 2 s.size (by omega) base bs A c _ HO.out (by omega) hbz).mono ?_
    rintro r w1 ⟨A1, c1, rfl, o1, k1⟩
    have z1 := k1.size
    have le : (bs ++ be 2 s.size).length ≤ bs.length + 2 := by simp [be_len]
    generalize hb1 : bs ++ be 2 s.size = b1 at *
    clear hb1
    go_wp2_with (first | (at_builtin; refine wpList_append_str rfl elemU8 zeroU8 Try.underlying9 rfl rfl o1 rfl (by unfold maxLen; omega) (by omega) (by omega) ?_; intro A2 c2 w2 o2 k2))
    go_ret2
    rw [strCells_bv, ← List.map_append] at o2
    have el : b1.length + s.size = (b1 ++ s.data.toList).length := by rw [List.length_append, ← Lib.size_eq]
    rw [el] at o2 ⊢
    exact ⟨A2, c2, rfl, o2, k1.trans k2⟩
  · go_enter Try.func76, Try.ntmps76
    go_wp2_with fail
    refine (num_any 4 s.size (by omega) base bs A c _ HO.out (by omega) hbz).mono ?_
    rintro r w1 ⟨A1, c1, rfl, o1, k1⟩
    have z1 := k1.size
    have le : (bs ++ be 4 s.size).length ≤ bs.length + 4 := by simp [be_len]
    generalize hb1 : bs ++ be 4 s.size = b1 at *
    clear hb1
    go_wp2_with (first | (at_builtin; refine wpList_append_str rfl elemU8 zeroU8 Try.underlying9 rfl rfl o1 rfl (by unfold maxLen; omega) (by omega) (by omega) ?_; intro A2 c2 w2 o2 k2))
    go_ret2
    rw [strCells_bv, ← List.map_append] at o2
    have el : b1.length + s.size = (b1 ++ s.data.toList).length := by rw [List.length_append, ← Lib.size_eq]
    rw [el] at o2 ⊢
    exact ⟨A2, c2, rfl, o2, k1.trans k2⟩

set_option maxHeartbeats 2000000 in
theorem rnumB_yes (n : Nat) (v : Nat) (hn : n = 1 ∧ v ≤ 255 ∨ n = 2 ∧ v ≤ 65535) (base : Nat) (bs : List UInt8) (A : Option Addr) (c : Nat) (w : World) (ho : Own w base 5 1 A bs.length c (bs.map bv)) (hsz : bs.length + n ≤ 140737488355328) (hbz : base ≤ w.heap.size) :
    Calls Try.prog 96 #[.slice A bs.length c, .int .i64 n, .int .i64 v] w (TextRPost base (bs ++ be n v) w) := by
  have hwr : IntKind.u64.wrap (v : Int) = (v : Int) := conv_u64 _ (by omega)
  have HO := Lib.hid ho
  clear ho
  have d0 : decide ((v : Int) < 0) = false := decide_eq_false (by omega)
  rcases hn with ⟨rfl, hs⟩ | ⟨rfl, hs⟩
  · have d1 : decide ((256 : Int) ≤ (v : Int)) = false := decide_eq_false (by omega)
    go_enter Try.func96, Try.ntmps96
    go_wp2_with fail
    refine (num_any 1 v (by omega) base bs A c _ HO.out (by omega) hbz).mono ?_
    rintro r w1 ⟨A1, c1, rfl, o1, k1⟩
    generalize bs ++ be 1 v = b1 at *
    go_wp2_with fail
    go_ret2
    exact ⟨A1, c1, rfl, o1, k1⟩
  · have d1 : decide ((65536 : Int) ≤ (v : Int)) = false := decide_eq_false (by omega)
    go_enter Try.func96, Try.ntmps96
    go_wp2_with fail
    refine (num_any 2 v (by omega) base bs A c _ HO.out (by omega) hbz).mono ?_
    rintro r w1 ⟨A1, c1, rfl, o1, k1⟩
    generalize bs ++ be 2 v = b1 at *
    go_wp2_with fail
    go_ret2
    exact ⟨A1, c1, rfl, o1, k1⟩
set_option maxHeartbeats 2000000 in
theorem rnumB_no (n : Nat) (v : Int) (hn : n = 1 ∧ ¬ (0 ≤ v ∧ v ≤ 255) ∨ n = 2 ∧ ¬ (0 ≤ v ∧ v ≤ 65535)) (s : Value) (w : World) :
    Calls Try.prog 96 #[s, .int .i64 n, .int .i64 v] w fun r w' => r = .returned (.tuple #[s, .bool false]) ∧ w = w' := by
  by_cases h0 : v < 0
  · have d0 := decide_eq_true h0
    go_enter Try.func96, Try.ntmps96
    go_wp2_with fail
    go_ret2
    exact ⟨rfl, rfl⟩
  · have d0 := decide_eq_false h0
    rcases hn with ⟨rfl, hs⟩ | ⟨rfl, hs⟩
    · have d1 : decide ((256 : Int) ≤ v) = true := decide_eq_true (by omega)
      go_enter Try.func96, Try.ntmps96
      go_wp2_with fail
      go_ret2
      exact ⟨rfl, rfl⟩
    · have d1 : decide ((65536 : Int) ≤ v) = true := decide_eq_true (by omega)
      go_enter Try.func96, Try.ntmps96
      go_wp2_with fail
      go_ret2
      exact ⟨rfl, rfl⟩

/-! ### long -/
def longB (t : TxD) : Bool := !(headOk t && branchOk t && t.moves.all moveOk)
set_option maxHeartbeats 4000000 in
set_option maxRecDepth 100000 in
theorem long_any (t : TxD) (mv tv ev : Value) (w : World) (hin : TxIn w w.heap.size t mv tv ev) :
    Calls Try.prog 75 #[.agg (txC t mv tv ev)] w fun r w' => r = .returned (.bool (longB t)) ∧ Keep Nothing w w' := by
  obtain ⟨Am, cm, rfl, rm, lm1, lm2⟩ := hin.mv
  unfold maxLen at lm2
  have q0 : Blk (w.alloc (.cells (txC t (.slice Am t.moves.length cm) tv ev) 70)) w.heap.size 70 (txC t (.slice Am t.moves.length cm) tv ev) := Blk.new _ _ _
  have k0 : Keep Nothing w (w.alloc (.cells (txC t (.slice Am t.moves.length cm) tv ev) 70)) := (Keep.refl _ _).alloc _
  have rm0 := rm.below k0.all
  clear hin rm
  have HLB := Lib.hid (show longB t = !((!t.hasHead || decide (t.head.size ≤ 255)) && (!asks t || decide (t.seq.branch.size ≤ 255)) && t.moves.all moveOk) from rfl)
  have HAS := Lib.hid (show asks t = (t.hasSeq && (t.seq.kind != 0)) from rfl)
  go_enter Try.func75, Try.ntmps75
  go_upto_region 1 with (first | (refine wpList_boxed rfl rfl (cs := txC t _ _ _) rfl ?_))
  generalize w.alloc (.cells (txC t (.slice Am t.moves.length cm) tv ev) 70) = w0 at *
  generalize w.heap.size = q at *
  have a0 := (q0.cell 0).trans txC_at.1
  have a1 := (q0.cell 1).trans txC_at.2.1
  have a2 := (q0.cell 2).trans txC_at.2.2.1
  have a3 := (q0.cell 3).trans txC_at.2.2.2.1
  have a4 := (q0.cell 4).trans txC_at.2.2.2.2.1
  have a5 := (q0.cell 5).trans (show (txC t (.slice Am t.moves.length cm) tv ev)[5]? = some (.string t.seq.branch) from by simp [txC, txL, seqL])
  go_cut [28] (fun s28 wx => s28 = .bool (!((!t.hasHead || decide (t.head.size ≤ 255)) && (!asks t || decide (t.seq.branch.size ≤ 255)))) ∧ w0 = wx)
  case first =>
    have HB := Lib.hid (show ∀ z, (!((!t.hasHead || decide (t.head.size ≤ 255)) && (!asks t || decide (t.seq.branch.size ≤ 255)))) = z → (Value.bool z = Value.bool (!((!t.hasHead || decide (t.head.size ≤ 255)) && (!asks t || decide (t.seq.branch.size ≤ 255))))) from fun z h => by rw [h])
    clear HLB q0 rm0 k0
    by_cases b1 : t.head.size ≤ 255
    all_goals by_cases b2 : t.seq.branch.size ≤ 255
    all_goals by_cases b3 : t.seq.kind = 0
    all_goals cases h1 : t.hasHead
    all_goals cases h2 : t.hasSeq
    all_goals
      rw [h1] at a0
      rw [h2] at a3 HAS
      have hk : (t.seq.kind != 0) = !decide (t.seq.kind = 0) := rfl
      have d1 : decide ((255 : Int) < (t.head.size : Int)) = !decide (t.head.size ≤ 255) := by rw [← decide_not]; exact decide_eq_decide.2 (by omega)
      have d2 : decide ((255 : Int) < (t.seq.branch.size : Int)) = !decide (t.seq.branch.size ≤ 255) := by rw [← decide_not]; exact decide_eq_decide.2 (by omega)
      have HK := Lib.hid hk
      simp only [b1, b2, b3, decide_true, decide_false, Bool.not_true, Bool.not_false] at hk d1 d2
      have H1 := Lib.hid h1
      clear h1 h2
      go_wp2_with fail
      go_meet
      refine ⟨HB.out _ ?_, rfl⟩
      rw [HAS.out, HK.out, H1.out]
      simp only [b1, b2, b3, decide_true, decide_false]
      rfl
  case rest =>
    obtain ⟨rfl, rfl⟩ := hcut
    generalize hz : (!((!t.hasHead || decide (t.head.size ≤ 255)) && (!asks t || decide (t.seq.branch.size ≤ 255)))) = z at *
    have HLB2 := Lib.hid (show longB t = (z || !t.moves.all moveOk) from by rw [HLB.out, ← hz]; generalize ((!t.hasHead || decide (t.head.size ≤ 255)) && (!asks t || decide (t.seq.branch.size ≤ 255))) = u; cases u <;> rfl)
    clear hz HLB a0 a1 a3 a4 a5 HAS
    cases z with
    | true =>
      go_wp2_with fail
      go_ret
      exact ⟨by rw [HLB2.out]; rfl, k0⟩
    | false =>
      go_wp2_with fail
      go_loopg [3] t.moves.length (fun f i wr => ∃ k, i = .int .i64 (k : Nat) ∧ k + f = t.moves.length ∧ (t.moves.take k).all moveOk = true ∧ w0 = wr)
      case atStart => exact ⟨0, rfl, by omega, rfl, rfl⟩
      case round =>
        obtain ⟨k, rfl, hkf, hall, rfl⟩ := hrel
        have HKF := Lib.hid hkf
        have HAL := Lib.hid hall
        have hkn : k ≤ t.moves.length := by omega
        clear hkf hall
        by_cases hlt : k < t.moves.length
        · cases gk with
          | zero => exact absurd HKF.out (by omega)
          | succ f =>
            obtain ⟨m, hm⟩ : ∃ m, t.moves[k]? = some m := ⟨t.moves[k], List.getElem?_eq_getElem hlt⟩
            obtain ⟨g0, off, rfl, _, hc0⟩ := rm0.at0 (by omega) (by omega)
            have e0 := hc0 _ _ (flat_at moveL_len t.moves k 0 m hm (.string m.name) (by simp [moveL]))
            have e65 := hc0 _ _ (flat_at moveL_len t.moves k 65 m hm (.string m.why) (by have := (moveC_at m).2; simpa [moveC] using this))
            rw [Nat.add_zero] at e0
            rw [← Nat.add_assoc] at e65
            have HALL := Lib.hid (show (t.moves.take (k + 1)).all moveOk = moveOk m from by rw [List.take_add_one, hm, List.all_append, HAL.out]; simp)
            have HNO := Lib.hid (show moveOk m = false → t.moves.all moveOk = false from fun h => by
              rw [List.all_eq_false]
              exact ⟨m, List.mem_of_getElem? hm, by rw [h]; decide⟩)
            have HMO := Lib.hid (show moveOk m = (decide (m.name.size ≤ 255) && decide (m.why.size ≤ 65535)) from rfl)
            clear hm hc0 HAL
            by_cases b1 : m.name.size ≤ 255
            · have d1 : decide ((255 : Int) < (m.name.size : Int)) = false := decide_eq_false (by omega)
              by_cases b2 : m.why.size ≤ 65535
              · have d2 : decide ((65535 : Int) < (m.why.size : Int)) = false := decide_eq_false (by omega)
                go_wp2_with fail
                go_roundg f
                case measure => omega
                case rel => exact ⟨k + 1, by go_num, by have := HKF.out; omega, by rw [HALL.out, HMO.out, decide_eq_true b1, decide_eq_true b2]; rfl, rfl⟩
              · have d2 : decide ((65535 : Int) < (m.why.size : Int)) = true := decide_eq_true (by omega)
                go_wp2_with fail
                go_ret
                exact ⟨by rw [HLB2.out, HNO.out (by rw [HMO.out, decide_eq_false b2, Bool.and_false])]; rfl, k0⟩
            · have d1 : decide ((255 : Int) < (m.name.size : Int)) = true := decide_eq_true (by omega)
              go_wp2_with fail
              go_ret
              exact ⟨by rw [HLB2.out, HNO.out (by rw [HMO.out, decide_eq_false b1, Bool.false_and])]; rfl, k0⟩
        · have hal : t.moves.all moveOk = true := by rw [← HAL.out, List.take_of_length_le (by omega)]
          have HA2 := Lib.hid hal
          clear hal
          go_wp2_with fail
          go_ret
          exact ⟨by rw [HLB2.out, HA2.out]; rfl, k0⟩
end Go.Proofs.Ytppmolneklidfaa
