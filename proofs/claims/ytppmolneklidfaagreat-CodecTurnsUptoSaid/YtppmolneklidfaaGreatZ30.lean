/-
  Texts of the codec joined (Tr1, Tr2). No statement of the seat is proved here.
-/
import Derived.Test.YtppmolneklidfaaGreatZ24
import Derived.Test.YtppmolneklidfaaGreatZ03
namespace Go.Proofs.YtppmolneklidfaaGreat
open Go.RowKit

/-! ### Bytes that are written by value, beside a struct's variable -/
structure SQ (w : World) (base x : Nat) (T : TypeId) (cs : Array Value) (bs : List UInt8) (A : Option Addr) (c : Nat) (wr : World) : Prop where
  own : Own wr base 5 1 A bs.length c (bs.map bv)
  blk : Blk wr x T cs
  kept : Kept base [5] [] w wr
  size : base ≤ wr.heap.size
  nt : T ≠ 5
section
variable {w : World} {base x : Nat} {T : TypeId} {cs : Array Value} {bs : List UInt8} {A : Option Addr} {c : Nat} {wr w' : World}
theorem SQ.next {bs' : List UInt8} {A' : Option Addr} {c' : Nat} (h : SQ w base x T cs bs A c wr) (ho : Own w' base 5 1 A' bs'.length c' (bs'.map bv)) (hk : Kept base [5] [] wr w') : SQ w base x T cs bs' A' c' w' :=
  ⟨ho, hk.blk h.blk (by simp) (by simpa using h.nt), h.kept.trans hk, Nat.le_trans h.size hk.size, h.nt⟩
theorem SQ.num (h : SQ w base x T cs bs A c wr) (n v : Nat) (hn : n ≤ 8) (hsz : bs.length + n ≤ 140737488355328) : Calls Tryz.prog 20 #[.slice A bs.length c, .int .i64 n, .int .u64 v] wr fun r w' =>
    ∃ A' c', r = .returned (.slice A' (bs ++ be n v).length c') ∧ SQ w base x T cs (bs ++ be n v) A' c' w' ∧ Kept base [5] [] wr w' :=
  (num_any n v hn base bs A c wr h.own hsz h.size).mono fun _ _ ⟨A', c', h1, h2, h3⟩ => ⟨A', c', h1, h.next h2 h3, h3⟩
theorem SQ.put (h : SQ w base x T cs bs A c wr) (i : Id) (hsz : bs.length + 32 ≤ 140737488355328) : Calls Tryz.prog 18 #[.slice A bs.length c, idV i] wr fun r w' =>
    ∃ A' c', r = .returned (.slice A' (bs ++ i.1).length c') ∧ SQ w base x T cs (bs ++ i.1) A' c' w' ∧ Kept base [5] [] wr w' :=
  (put_any i base bs A c wr h.own hsz h.size).mono fun _ _ ⟨A', c', h1, h2, h3⟩ => ⟨A', c', h1, h.next h2 h3, h3⟩
theorem SQ.keepN (h : SQ w base x T cs bs A c wr) (k : Keep Nothing wr w') : SQ w base x T cs bs A c w' :=
  h.next (h.own.kept (b' := 0) (E := []) (G := []) (Kept.ofKeep k (by unfold Nothing; simp)) (by simp) (by simp)) (Kept.ofKeep k (by unfold Nothing; simp))
theorem SQ.drew (h : SQ w base x T cs bs A c wr) : SQ w base x T cs bs A c wr.drew := h.keepN (Keep.refl _ _).drew
theorem SQ.below {B : Nat} (h : SQ w base x T cs bs A c wr) (hB : B ≤ base) (hz : B ≤ w.heap.size) : Below B w wr := h.kept.below hB hz (by simp)
end

def TextRPost (base : Nat) (l : List UInt8) (w : World) (r : Ending) (w' : World) : Prop :=
  ∃ A c, r = .returned (.tuple #[.slice A l.length c, .bool true]) ∧ Own w' base 5 1 A l.length c (l.map bv) ∧ Kept base [5] [] w w'

set_option maxHeartbeats 2000000 in
theorem rtextB_any (n : Nat) (s : ByteArray) (hn : n = 1 ∧ s.size ≤ 255 ∨ n = 2 ∧ s.size ≤ 65535 ∨ n = 4) (base : Nat) (bs : List UInt8) (A : Option Addr) (c : Nat) (w : World) (ho : Own w base 5 1 A bs.length c (bs.map bv)) (hsz : bs.length + n + s.size ≤ 140737488355328) (hbz : base ≤ w.heap.size) :
    Calls Tryz.prog 22 #[.slice A bs.length c, .int .i64 n, .string s] w (TextRPost base (bs ++ be n s.size ++ s.data.toList) w) := by
  have hwr : IntKind.u64.wrap (s.size : Int) = (s.size : Int) := conv_u64 _ (by omega)
  have HO := Lib.hid ho
  clear ho
  rcases hn with ⟨rfl, hs⟩ | ⟨rfl, hs⟩ | rfl
  · have d1 : decide ((256 : Int) ≤ (s.size : Int)) = false := decide_eq_false (by omega)
    go_enter Tryz.func22, Tryz.ntmps22
    go_wp2_with fail
    refine (num_any 1 s.size (by omega) base bs A c _ HO.out (by omega) hbz).mono ?_
    rintro r w1 ⟨A1, c1, rfl, o1, k1⟩
    have z1 := k1.size
    have le : (bs ++ be 1 s.size).length ≤ bs.length + 1 := by simp [be_len]
    generalize hb1 : bs ++ be 1 s.size = b1 at *
    clear hb1
    go_wp2_with (first | (at_builtin; refine wpList_append_str rfl elemU8 zeroU8 Tryz.underlying9 rfl rfl o1 rfl (by unfold maxLen; omega) (by omega) (by omega) ?_; intro A2 c2 w2 o2 k2))
    go_ret2
    rw [strCells_bv, ← List.map_append] at o2
    have el : b1.length + s.size = (b1 ++ s.data.toList).length := by rw [List.length_append, ← Lib.size_eq]
    rw [el] at o2 ⊢
    exact ⟨A2, c2, rfl, o2, k1.trans k2⟩
  · have d1 : decide ((65536 : Int) ≤ (s.size : Int)) = false := decide_eq_false (by omega)
    go_enter Tryz.func22, Tryz.ntmps22
    go_wp2_with fail
    refine (num_any 2 s.size (by omega) base bs A c _ HO.out (by omega) hbz).mono ?_
    rintro r w1 ⟨A1, c1, rfl, o1, k1⟩
    have z1 := k1.size
    have le : (bs ++ be 2 s.size).length ≤ bs.length + 2 := by simp [be_len]
    generalize hb1 : bs ++ be 2 s.size = b1 at *
    clear hb1
    go_wp2_with (first | (at_builtin; refine wpList_append_str rfl elemU8 zeroU8 Tryz.underlying9 rfl rfl o1 rfl (by unfold maxLen; omega) (by omega) (by omega) ?_; intro A2 c2 w2 o2 k2))
    go_ret2
    rw [strCells_bv, ← List.map_append] at o2
    have el : b1.length + s.size = (b1 ++ s.data.toList).length := by rw [List.length_append, ← Lib.size_eq]
    rw [el] at o2 ⊢
    exact ⟨A2, c2, rfl, o2, k1.trans k2⟩
  · go_enter Tryz.func22, Tryz.ntmps22
    go_wp2_with fail
    refine (num_any 4 s.size (by omega) base bs A c _ HO.out (by omega) hbz).mono ?_
    rintro r w1 ⟨A1, c1, rfl, o1, k1⟩
    have z1 := k1.size
    have le : (bs ++ be 4 s.size).length ≤ bs.length + 4 := by simp [be_len]
    generalize hb1 : bs ++ be 4 s.size = b1 at *
    clear hb1
    go_wp2_with (first | (at_builtin; refine wpList_append_str rfl elemU8 zeroU8 Tryz.underlying9 rfl rfl o1 rfl (by unfold maxLen; omega) (by omega) (by omega) ?_; intro A2 c2 w2 o2 k2))
    go_ret2
    rw [strCells_bv, ← List.map_append] at o2
    have el : b1.length + s.size = (b1 ++ s.data.toList).length := by rw [List.length_append, ← Lib.size_eq]
    rw [el] at o2 ⊢
    exact ⟨A2, c2, rfl, o2, k1.trans k2⟩

set_option maxHeartbeats 2000000 in
theorem rnumB_yes (n : Nat) (v : Nat) (hn : n = 1 ∧ v ≤ 255 ∨ n = 2 ∧ v ≤ 65535) (base : Nat) (bs : List UInt8) (A : Option Addr) (c : Nat) (w : World) (ho : Own w base 5 1 A bs.length c (bs.map bv)) (hsz : bs.length + n ≤ 140737488355328) (hbz : base ≤ w.heap.size) :
    Calls Tryz.prog 50 #[.slice A bs.length c, .int .i64 n, .int .i64 v] w (TextRPost base (bs ++ be n v) w) := by
  have hwr : IntKind.u64.wrap (v : Int) = (v : Int) := conv_u64 _ (by omega)
  have HO := Lib.hid ho
  clear ho
  have d0 : decide ((v : Int) < 0) = false := decide_eq_false (by omega)
  rcases hn with ⟨rfl, hs⟩ | ⟨rfl, hs⟩
  · have d1 : decide ((256 : Int) ≤ (v : Int)) = false := decide_eq_false (by omega)
    go_enter Tryz.func50, Tryz.ntmps50
    go_wp2_with fail
    refine (num_any 1 v (by omega) base bs A c _ HO.out (by omega) hbz).mono ?_
    rintro r w1 ⟨A1, c1, rfl, o1, k1⟩
    generalize bs ++ be 1 v = b1 at *
    go_wp2_with fail
    go_ret2
    exact ⟨A1, c1, rfl, o1, k1⟩
  · have d1 : decide ((65536 : Int) ≤ (v : Int)) = false := decide_eq_false (by omega)
    go_enter Tryz.func50, Tryz.ntmps50
    go_wp2_with fail
    refine (num_any 2 v (by omega) base bs A c _ HO.out (by omega) hbz).mono ?_
    rintro r w1 ⟨A1, c1, rfl, o1, k1⟩
    generalize bs ++ be 2 v = b1 at *
    go_wp2_with fail
    go_ret2
    exact ⟨A1, c1, rfl, o1, k1⟩
set_option maxHeartbeats 2000000 in
theorem rnumB_no (n : Nat) (v : Int) (hn : n = 1 ∧ ¬ (0 ≤ v ∧ v ≤ 255) ∨ n = 2 ∧ ¬ (0 ≤ v ∧ v ≤ 65535)) (s : Value) (w : World) :
    Calls Tryz.prog 50 #[s, .int .i64 n, .int .i64 v] w fun r w' => r = .returned (.tuple #[s, .bool false]) ∧ w = w' := by
  by_cases h0 : v < 0
  · have d0 := decide_eq_true h0
    go_enter Tryz.func50, Tryz.ntmps50
    go_wp2_with fail
    go_ret2
    exact ⟨rfl, rfl⟩
  · have d0 := decide_eq_false h0
    rcases hn with ⟨rfl, hs⟩ | ⟨rfl, hs⟩
    · have d1 : decide ((256 : Int) ≤ v) = true := decide_eq_true (by omega)
      go_enter Tryz.func50, Tryz.ntmps50
      go_wp2_with fail
      go_ret2
      exact ⟨rfl, rfl⟩
    · have d1 : decide ((65536 : Int) ≤ v) = true := decide_eq_true (by omega)
      go_enter Tryz.func50, Tryz.ntmps50
      go_wp2_with fail
      go_ret2
      exact ⟨rfl, rfl⟩

/-! ### long -/
def longB (t : TxD) : Bool := !(headOk t && branchOk t && t.moves.all moveOk)
set_option maxHeartbeats 4000000 in
set_option maxRecDepth 100000 in
theorem long_any (t : TxD) (mv tv ev : Value) (w : World) (hin : TxIn w w.heap.size t mv tv ev) :
    Calls Tryz.prog 21 #[.agg (txC t mv tv ev)] w fun r w' => r = .returned (.bool (longB t)) ∧ Keep Nothing w w' := by
  obtain ⟨Am, cm, rfl, rm, lm1, lm2⟩ := hin.mv
  unfold maxLen at lm2
  have q0 : Blk (w.alloc (.cells (txC t (.slice Am t.moves.length cm) tv ev) 34)) w.heap.size 34 (txC t (.slice Am t.moves.length cm) tv ev) := Blk.new _ _ _
  have k0 : Keep Nothing w (w.alloc (.cells (txC t (.slice Am t.moves.length cm) tv ev) 34)) := (Keep.refl _ _).alloc _
  have rm0 := rm.below k0.all
  clear hin rm
  have HLB := Lib.hid (show longB t = !((!t.hasHead || decide (t.head.size ≤ 255)) && (!asks t || decide (t.seq.branch.size ≤ 255)) && t.moves.all moveOk) from rfl)
  have HAS := Lib.hid (show asks t = (t.hasSeq && (t.seq.kind != 0)) from rfl)
  go_enter Tryz.func21, Tryz.ntmps21
  go_upto_region 1 with (first | (refine wpList_boxed rfl rfl (cs := txC t _ _ _) rfl ?_))
  generalize w.alloc (.cells (txC t (.slice Am t.moves.length cm) tv ev) 34) = w0 at *
  generalize w.heap.size = q at *
  have a0 := (q0.cell 0).trans txC_at.1
  have a1 := (q0.cell 1).trans txC_at.2.1
  have a2 := (q0.cell 2).trans txC_at.2.2.1
  have a3 := (q0.cell 3).trans txC_at.2.2.2.1
  have a4 := (q0.cell 4).trans txC_at.2.2.2.2.1
  have a5 := (q0.cell 5).trans (show (txC t (.slice Am t.moves.length cm) tv ev)[5]? = some (.string t.seq.branch) from by simp [txC, txL, seqL])
  go_cut [28] (fun s28 wx => s28 = .bool (!((!t.hasHead || decide (t.head.size ≤ 255)) && (!asks t || decide (t.seq.branch.size ≤ 255)))) ∧ w0 = wx)
  case first =>
    have HB := Lib.hid (show ∀ z, (!((!t.hasHead || decide (t.head.size ≤ 255)) && (!asks t || decide (t.seq.branch.size ≤ 255)))) = z → (Value.bool z = Value.bool (!((!t.hasHead || decide (t.head.size ≤ 255)) && (!asks t || decide (t.seq.branch.size ≤ 255))))) from fun z h => by rw [h])
    clear HLB q0 rm0 k0
    by_cases b1 : t.head.size ≤ 255
    all_goals by_cases b2 : t.seq.branch.size ≤ 255
    all_goals by_cases b3 : t.seq.kind = 0
    all_goals cases h1 : t.hasHead
    all_goals cases h2 : t.hasSeq
    all_goals
      rw [h1] at a0
      rw [h2] at a3 HAS
      have hk : (t.seq.kind != 0) = !decide (t.seq.kind = 0) := rfl
      have d1 : decide ((255 : Int) < (t.head.size : Int)) = !decide (t.head.size ≤ 255) := by rw [← decide_not]; exact decide_eq_decide.2 (by omega)
      have d2 : decide ((255 : Int) < (t.seq.branch.size : Int)) = !decide (t.seq.branch.size ≤ 255) := by rw [← decide_not]; exact decide_eq_decide.2 (by omega)
      have HK := Lib.hid hk
      simp only [b1, b2, b3, decide_true, decide_false, Bool.not_true, Bool.not_false] at hk d1 d2
      have H1 := Lib.hid h1
      clear h1 h2
      go_wp2_with fail
      go_meet
      refine ⟨HB.out _ ?_, rfl⟩
      rw [HAS.out, HK.out, H1.out]
      simp only [b1, b2, b3, decide_true, decide_false]
      rfl
  case rest =>
    obtain ⟨rfl, rfl⟩ := hcut
    generalize hz : (!((!t.hasHead || decide (t.head.size ≤ 255)) && (!asks t || decide (t.seq.branch.size ≤ 255)))) = z at *
    have HLB2 := Lib.hid (show longB t = (z || !t.moves.all moveOk) from by rw [HLB.out, ← hz]; generalize ((!t.hasHead || decide (t.head.size ≤ 255)) && (!asks t || decide (t.seq.branch.size ≤ 255))) = u; cases u <;> rfl)
    clear hz HLB a0 a1 a3 a4 a5 HAS
    cases z with
    | true =>
      go_wp2_with fail
      go_ret
      exact ⟨by rw [HLB2.out]; rfl, k0⟩
    | false =>
      go_wp2_with fail
      go_loopg [3] t.moves.length (fun f i wr => ∃ k, i = .int .i64 (k : Nat) ∧ k + f = t.moves.length ∧ (t.moves.take k).all moveOk = true ∧ w0 = wr)
      case atStart => exact ⟨0, rfl, by omega, rfl, rfl⟩
      case round =>
        obtain ⟨k, rfl, hkf, hall, rfl⟩ := hrel
        have HKF := Lib.hid hkf
        have HAL := Lib.hid hall
        have hkn : k ≤ t.moves.length := by omega
        clear hkf hall
        by_cases hlt : k < t.moves.length
        · cases gk with
          | zero => exact absurd HKF.out (by omega)
          | succ f =>
            obtain ⟨m, hm⟩ : ∃ m, t.moves[k]? = some m := ⟨t.moves[k], List.getElem?_eq_getElem hlt⟩
            obtain ⟨g0, off, rfl, _, hc0⟩ := rm0.at0 (by omega) (by omega)
            have e0 := hc0 _ _ (flat_at moveL_len t.moves k 0 m hm (.string m.name) (by simp [moveL]))
            have e65 := hc0 _ _ (flat_at moveL_len t.moves k 65 m hm (.string m.why) (by have := (moveC_at m).2; simpa [moveC] using this))
            rw [Nat.add_zero] at e0
            rw [← Nat.add_assoc] at e65
            have HALL := Lib.hid (show (t.moves.take (k + 1)).all moveOk = moveOk m from by rw [List.take_add_one, hm, List.all_append, HAL.out]; simp)
            have HNO := Lib.hid (show moveOk m = false → t.moves.all moveOk = false from fun h => by
              rw [List.all_eq_false]
              exact ⟨m, List.mem_of_getElem? hm, by rw [h]; decide⟩)
            have HMO := Lib.hid (show moveOk m = (decide (m.name.size ≤ 255) && decide (m.why.size ≤ 65535)) from rfl)
            clear hm hc0 HAL
            by_cases b1 : m.name.size ≤ 255
            · have d1 : decide ((255 : Int) < (m.name.size : Int)) = false := decide_eq_false (by omega)
              by_cases b2 : m.why.size ≤ 65535
              · have d2 : decide ((65535 : Int) < (m.why.size : Int)) = false := decide_eq_false (by omega)
                go_wp2_with fail
                go_roundg f
                case measure => omega
                case rel => exact ⟨k + 1, by go_num, by have := HKF.out; omega, by rw [HALL.out, HMO.out, decide_eq_true b1, decide_eq_true b2]; rfl, rfl⟩
              · have d2 : decide ((65535 : Int) < (m.why.size : Int)) = true := decide_eq_true (by omega)
                go_wp2_with fail
                go_ret
                exact ⟨by rw [HLB2.out, HNO.out (by rw [HMO.out, decide_eq_false b2, Bool.and_false])]; rfl, k0⟩
            · have d1 : decide ((255 : Int) < (m.name.size : Int)) = true := decide_eq_true (by omega)
              go_wp2_with fail
              go_ret
              exact ⟨by rw [HLB2.out, HNO.out (by rw [HMO.out, decide_eq_false b1, Bool.false_and])]; rfl, k0⟩
        · have hal : t.moves.all moveOk = true := by rw [← HAL.out, List.take_of_length_le (by omega)]
          have HA2 := Lib.hid hal
          clear hal
          go_wp2_with fail
          go_ret
          exact ⟨by rw [HLB2.out, HA2.out]; rfl, k0⟩
end Go.Proofs.YtppmolneklidfaaGreat

namespace Go.Proofs.YtppmolneklidfaaGreat
open Go.RowKit

def seqOk (q : SeqD) : Bool := numOk q.kind 255 && (decide (q.kind = 0) || (q.todo.all (fun x => numOk x.act 255) && (numOk q.done 65535 && numOk q.made 65535)))
def RSeqPost (q : SeqD) (bs : List UInt8) (base : Nat) (w : World) (r : Ending) (w' : World) : Prop :=
  ∃ A c n, r = .returned (.tuple #[.slice A n c, .bool (seqOk q)]) ∧ (seqOk q = true → n = (bs ++ seqB q).length ∧ Own w' base 5 1 A n c ((bs ++ seqB q).map bv)) ∧ Kept base [5] [] w w'
theorem RSeqPost.no {q : SeqD} {bs : List UInt8} {base : Nat} {w w' : World} {A : Option Addr} {n c : Nat} (h : seqOk q = false) (k : Kept base [5] [] w w') : RSeqPost q bs base w (.returned (.tuple #[.slice A n c, .bool false])) w' :=
  ⟨A, c, n, by rw [h], (by rw [h]; exact fun x => absurd x (by decide)), k⟩
theorem RSeqPost.yes {q : SeqD} {bs l : List UInt8} {base : Nat} {w w' : World} {A : Option Addr} {c : Nat} (h : seqOk q = true) (hl : bs ++ seqB q = l) (ho : Own w' base 5 1 A l.length c (l.map bv)) (k : Kept base [5] [] w w') : RSeqPost q bs base w (.returned (.tuple #[.slice A l.length c, .bool true])) w' :=
  ⟨A, c, l.length, by rw [h], fun _ => by rw [hl]; exact ⟨rfl, ho⟩, k⟩
section
variable {w : World} {base x : Nat} {T : TypeId} {cs : Array Value} {bs : List UInt8} {A : Option Addr} {c : Nat} {wr w' : World}
theorem SQ.text (h : SQ w base x T cs bs A c wr) (n : Nat) (s : ByteArray) (hn : n = 1 ∧ s.size ≤ 255 ∨ n = 2 ∧ s.size ≤ 65535 ∨ n = 4) (hsz : bs.length + n + s.size ≤ 140737488355328) : Calls Tryz.prog 22 #[.slice A bs.length c, .int .i64 n, .string s] wr fun r w' =>
    ∃ A' c', r = .returned (.tuple #[.slice A' (bs ++ be n s.size ++ s.data.toList).length c', .bool true]) ∧ SQ w base x T cs (bs ++ be n s.size ++ s.data.toList) A' c' w' ∧ Kept base [5] [] wr w' :=
  (rtextB_any n s hn base bs A c wr h.own hsz h.size).mono fun _ _ ⟨A', c', h1, h2, h3⟩ => ⟨A', c', h1, h.next h2 h3, h3⟩
theorem SQ.number (h : SQ w base x T cs bs A c wr) (n v : Nat) (hn : n = 1 ∧ v ≤ 255 ∨ n = 2 ∧ v ≤ 65535) (hsz : bs.length + n ≤ 140737488355328) : Calls Tryz.prog 50 #[.slice A bs.length c, .int .i64 n, .int .i64 v] wr fun r w' =>
    ∃ A' c', r = .returned (.tuple #[.slice A' (bs ++ be n v).length c', .bool true]) ∧ SQ w base x T cs (bs ++ be n v) A' c' w' ∧ Kept base [5] [] wr w' :=
  (rnumB_yes n v hn base bs A c wr h.own hsz h.size).mono fun _ _ ⟨A', c', h1, h2, h3⟩ => ⟨A', c', h1, h.next h2 h3, h3⟩
end
theorem numOk_of {n : Int} {k : Nat} (h1 : 0 ≤ n) (h2 : n ≤ k) : numOk n k = true := by
  unfold numOk
  rw [decide_eq_true h1, decide_eq_true h2]
  rfl
theorem numOk_no {n : Int} {k : Nat} (h : ¬ (0 ≤ n ∧ n ≤ k)) : numOk n k = false := by
  cases hq : numOk n k with
  | false => rfl
  | true => exact absurd (numOk_le hq) h
/-- A load of an Id in a row's element. -/
theorem ldId_row {w : World} {α : Type} {f : α → List Value} {C : Nat} (hf : ∀ a, (f a).length = C) {l : List α} {k j : Nat} {x : α} {i : Id} {g off : Nat} (hc : ∀ j u, (l.flatMap f)[j]? = some u → w.cell? ⟨g, off + j, none⟩ = some u) (hk : l[k]? = some x) (hi : ∀ r u, (idL i)[r]? = some u → (f x)[j + r]? = some u) :
    (Instr.loadAt 24 (.pointer (some ⟨g, off + k * C + j, none⟩))).run Tryz.prog w = .ok (idV i) w :=
  run_loadAt_cells (P := Tryz.prog) w _ (idC i) Tryz.underlying24 rfl (by rw [idC_size]; exact info42) (fun r v hr => by
    rw [add_at, Nat.add_assoc, Nat.add_assoc]
    exact hc _ _ (flat_at hf l k (j + r) x hk v (hi r v (by simpa [idC] using hr))))

attribute [local go_sem ↓] ld_id
set_option maxHeartbeats 8000000 in
set_option maxRecDepth 100000 in
theorem rseqB_any (q : SeqD) (A : Option Addr) (c B : Nat) (base : Nat) (bs : List UInt8) (A0 : Option Addr) (c0 : Nat) (w : World) (ho : Own w base 5 1 A0 bs.length c0 (bs.map bv)) (hB : B ≤ base) (hbz : base ≤ w.heap.size)
    (hr : Reads w B 33 A q.todo.length (todoLs q.todo)) (hc : q.todo.length ≤ c) (hcm : c ≤ 9223372036854775807) (hbr : q.kind ≠ 0 → q.branch.size ≤ 255) (hsz : bs.length + (seqB q).length ≤ 140737488355328) :
    Calls Tryz.prog 23 #[.slice A0 bs.length c0, .agg (seqC q (.slice A q.todo.length c))] w (RSeqPost q bs base w) := by
  have h0 : SQ w base w.heap.size 31 (seqC q (.slice A q.todo.length c)) bs A0 c0 (w.alloc (.cells (seqC q (.slice A q.todo.length c)) 31)) :=
    ⟨ho.alloc _, Blk.new _ _ _, (Kept.refl _ _ _ _).alloc _, by simp; omega, by decide⟩
  have HBL := Lib.hid (show ∀ bs' A' c' W, SQ w base w.heap.size 31 (seqC q (.slice A q.todo.length c)) bs' A' c' W → Below B w W from fun _ _ _ _ h => h.below hB (by omega))
  have HSB := Lib.hid (show seqB q = be 1 q.kind.toNat ++ if q.kind = 0 then [] else be 1 q.branch.size ++ (q.branch.data.toList ++ (q.orig.1 ++ (q.cur.1 ++ (be 2 q.todo.length ++ (q.todo.flatMap todoB ++ (be 2 q.done.toNat ++ (be 2 q.made.toNat ++ be 1 (if q.stopped then 1 else 0)))))))) from rfl)
  have HOK := Lib.hid (show seqOk q = (numOk q.kind 255 && (decide (q.kind = 0) || (q.todo.all (fun x => numOk x.act 255) && (numOk q.done 65535 && numOk q.made 65535)))) from rfl)
  have hlb : 1 ≤ (seqB q).length := by rw [HSB.out]; simp [be_len]
  have HR := Lib.hid hr
  clear ho hr
  go_enter Tryz.func23, Tryz.ntmps23
  go_upto_region 1 with (first | (refine wpList_boxed rfl rfl (cs := seqC q _) rfl ?_))
  generalize w.alloc (.cells (seqC q (.slice A q.todo.length c)) 31) = w0 at *
  generalize w.heap.size = x at *
  have a0 := (h0.blk.cell 0).trans (seqC_at _ _).1
  by_cases hk : 0 ≤ q.kind ∧ q.kind ≤ 255
  · obtain ⟨kn, hkn, hkt⟩ := nat_of hk.1
    have hk2 : kn ≤ 255 := by have := hk.2; omega
    have HK1 := Lib.hid (numOk_of hk.1 hk.2 : numOk q.kind 255 = true)
    have HK := Lib.hid hkn
    have HKT := Lib.hid hkt
    rw [hkn] at a0
    clear hkn hkt hk
    go_wp2_with fail
    refine (h0.number 1 kn (.inl ⟨rfl, hk2⟩) (by omega)).mono ?_
    rintro r w1 ⟨A1, c1, rfl, h1, _⟩
    have le1 : (bs ++ be 1 kn).length ≤ bs.length + 1 := by simp [be_len]
    generalize hb1 : bs ++ be 1 kn = b1 at *
    have B1 := Lib.hid hb1
    clear hb1 a0
    have a0 := (h1.blk.cell 0).trans (seqC_at _ _).1
    rw [HK.out] at a0
    by_cases hk0 : kn = 0
    · subst hk0
      go_wp2_with fail
      go_ret2
      exact RSeqPost.yes (by rw [HOK.out, HK1.out, decide_eq_true (by rw [HK.out]; rfl)]; rfl) (by rw [HSB.out, HKT.out, if_pos (by rw [HK.out]; rfl), List.append_nil]; exact B1.out) h1.own h1.kept
    · have d0 : ((kn : Int) == 0) = false := beq_eq_false_iff_ne.2 (by omega)
      have HOK2 := Lib.hid (show seqOk q = (q.todo.all (fun x => numOk x.act 255) && (numOk q.done 65535 && numOk q.made 65535)) from by rw [HOK.out, HK1.out, decide_eq_false (by rw [HK.out]; omega)]; rfl)
      have hbr' : q.branch.size ≤ 255 := hbr (by rw [HK.out]; omega)
      have HB2 := Lib.hid (show seqB q = be 1 kn ++ (be 1 q.branch.size ++ (q.branch.data.toList ++ (q.orig.1 ++ (q.cur.1 ++ (be 2 q.todo.length ++ (q.todo.flatMap todoB ++ (be 2 q.done.toNat ++ (be 2 q.made.toNat ++ be 1 (if q.stopped then 1 else 0))))))))) from by rw [HSB.out, if_neg (by rw [HK.out]; omega), HKT.out])
      have hlen : (seqB q).length = 1 + (1 + (q.branch.size + (32 + (32 + (2 + (q.todo.length * 33 + (2 + (2 + 1)))))))) := by
        rw [HB2.out]
        simp only [List.length_append, be_len, flat33 todoB_len, q.orig.2, q.cur.2, ← Lib.size_eq]
      generalize hsl : (seqB q).length = sl at *
      clear hsl HSB HOK hbr
      have a1 := (h1.blk.cell 1).trans (seqC_at _ _).2.1
      go_wp2_with fail
      refine (h1.text 1 q.branch (.inl ⟨rfl, hbr'⟩) (by omega)).mono ?_
      rintro r w2 ⟨A2, c2, rfl, h2, _⟩
      have le2 : (b1 ++ be 1 q.branch.size ++ q.branch.data.toList).length ≤ bs.length + 2 + q.branch.size := by simp only [List.length_append, be_len, ← Lib.size_eq]; omega
      generalize hb2 : b1 ++ be 1 q.branch.size ++ q.branch.data.toList = b2 at *
      have B2 := Lib.hid hb2
      clear hb2 a1 a0
      go_upto_region 5 with fail
      go_cut [0] (fun s0 wx => ∃ A4 c4, s0 = .slice A4 (b2 ++ q.orig.1 ++ q.cur.1).length c4 ∧ SQ w base x 31 (seqC q (.slice A q.todo.length c)) (b2 ++ q.orig.1 ++ q.cur.1) A4 c4 wx)
      case first =>
        have hd := h2.drew
        have L1 : (LdId (.pointer (some ⟨x, 2, none⟩))).run Tryz.prog w2.drew = _ := ldId_mid hd.blk (seqC_ids _ _).1
        have L2 : (LdId (.pointer (some ⟨x, 34, none⟩))).run Tryz.prog w2.drew = _ := ldId_mid hd.blk (seqC_ids _ _).2
        have P1 := Lib.hid (hd.put q.orig (by omega))
        have le3 : (b2 ++ q.orig.1).length ≤ bs.length + 34 + q.branch.size := by simp only [List.length_append, q.orig.2]; omega
        generalize hb3 : b2 ++ q.orig.1 = b3 at *
        clear hb3
        go_region_law (first | (go_simp; go_at_call 18; (with_reducible refine P1.out.mono ?_); rintro r w3 ⟨A3, c3, rfl, h3, _⟩; have L3 : (LdId (.pointer (some ⟨x, 34, none⟩))).run Tryz.prog w3 = _ := ldId_mid h3.blk (seqC_ids _ _).2) | (go_simp; go_at_call 18; (with_reducible refine (h3.put q.cur (by omega)).mono ?_); rintro r w4 ⟨A4, c4, rfl, h4, _⟩))
        all_goals
          go_wp2_with fail
          go_meet
          exact ⟨A4, c4, by rw [List.length_append], h4⟩
      case rest =>
        obtain ⟨A4, c4, rfl, h4⟩ := hcut
        generalize wc = w4 at *
        have le4 : (b2 ++ q.orig.1 ++ q.cur.1).length ≤ bs.length + 66 + q.branch.size := by simp only [List.length_append, q.orig.2, q.cur.2]; omega
        generalize hb4 : b2 ++ q.orig.1 ++ q.cur.1 = b4 at *
        have B4 := Lib.hid hb4
        clear hb4 h2 h1
        have hv3 := conv_u64 q.todo.length (by omega)
        have c66 := (h4.blk.cell 66).trans (seqC_at _ _).2.2.1
        go_wp2_with fail
        refine (h4.num 2 q.todo.length (by omega) (by omega)).mono ?_
        rintro r w5 ⟨A5, c5, rfl, h5, _⟩
        have le5 : (b4 ++ be 2 q.todo.length).length ≤ bs.length + 68 + q.branch.size := by simp only [List.length_append, be_len]; omega
        generalize hb5 : b4 ++ be 2 q.todo.length = b5 at *
        have B5 := Lib.hid hb5
        clear hb5 c66
        go_wp2_with fail
        go_loopg [0, 6, 7] q.todo.length (fun f s0 s6 i wr => ∃ k A6 c6, i = .int .i64 (k : Nat) ∧ s6 = .bool true ∧ k + f = q.todo.length ∧ s0 = .slice A6 (b5 ++ (q.todo.take k).flatMap todoB).length c6 ∧ SQ w base x 31 (seqC q (.slice A q.todo.length c)) (b5 ++ (q.todo.take k).flatMap todoB) A6 c6 wr ∧ (q.todo.take k).all (fun x => numOk x.act 255) = true)
        case atStart => exact ⟨0, A5, c5, rfl, rfl, by omega, by simp, by simpa using h5, rfl⟩
        case round =>
          obtain ⟨k, A6, c6, rfl, rfl, hkf, rfl, h6, hall⟩ := hrel
          have HKF := Lib.hid hkf
          have HAL := Lib.hid hall
          have hkn' : k ≤ q.todo.length := by omega
          clear hkf h5 h4 hall
          by_cases hlt : k < q.todo.length
          · cases gk with
            | zero => exact absurd HKF.out (by omega)
            | succ f =>
              obtain ⟨m, hm⟩ : ∃ m, q.todo[k]? = some m := ⟨q.todo[k], List.getElem?_eq_getElem hlt⟩
              have hrd := HR.out.below (HBL.out _ _ _ _ h6)
              obtain ⟨g0, off, rfl, _, hc0⟩ := hrd.at0 (by omega) (by omega)
              have e0 := hc0 _ _ (flat_at todoL_len q.todo k 0 m hm (.int .i64 m.act) (by simp [todoL]))
              rw [Nat.add_zero] at e0
              have HRID := Lib.hid (show ∀ bs' A' c' W, SQ w base x 31 (seqC q (.slice (some ⟨g0, off, none⟩) q.todo.length c)) bs' A' c' W → (Instr.loadAt 24 (.pointer (some ⟨g0, off + k * 33 + 1, none⟩))).run Tryz.prog W = .ok (idV m.id) W from fun bs' A' c' W h => by
                obtain ⟨ad, e, _, hc⟩ := (HR.out.below (HBL.out _ _ _ _ h)).2 (by omega)
                injection e with e
                subst e
                exact ldId_row todoL_len (fun j u hj => by rw [← add_at]; exact hc j u hj) hm (fun r u hr => by rw [Nat.add_comm]; simpa [todoL] using hr))
              have HS := Lib.hid (flat_snoc todoB q.todo k m hm)
              have HALL := Lib.hid (show (q.todo.take (k + 1)).all (fun x => numOk x.act 255) = numOk m.act 255 from by rw [List.take_add_one, hm, List.all_append, HAL.out]; simp)
              have HNO := Lib.hid (show numOk m.act 255 = false → q.todo.all (fun x => numOk x.act 255) = false from fun h => by
                rw [List.all_eq_false]
                exact ⟨m, List.mem_of_getElem? hm, by rw [h]; decide⟩)
              have le6 : (b5 ++ (q.todo.take k).flatMap todoB).length ≤ bs.length + 68 + q.branch.size + k * 33 := by rw [List.length_append, flat33 todoB_len, List.length_take]; have : min k q.todo.length * 33 ≤ k * 33 := Nat.mul_le_mul_right _ (Nat.min_le_left _ _); omega
              have HRD := Lib.hid hrd
              clear hm hc0 hrd HAL
              generalize hb6 : b5 ++ (q.todo.take k).flatMap todoB = b6 at *
              have B6 := Lib.hid hb6
              clear hb6
              have c66 := (h6.blk.cell 66).trans (seqC_at _ _).2.2.1
              by_cases hk : 0 ≤ m.act ∧ m.act ≤ 255
              · obtain ⟨an, han, hat⟩ := nat_of hk.1
                have an2 : an ≤ 255 := by have := hk.2; omega
                have HK1 := Lib.hid (numOk_of hk.1 hk.2 : numOk m.act 255 = true)
                have HAT := Lib.hid hat
                rw [han] at e0
                clear han hat hk
                go_wp2_with fail
                refine (h6.number 1 an (.inl ⟨rfl, an2⟩) (by omega)).mono ?_
                rintro r w7 ⟨A7, c7, rfl, h7, _⟩
                have le7 : (b6 ++ be 1 an).length ≤ bs.length + 69 + q.branch.size + k * 33 := by rw [List.length_append, be_len]; omega
                generalize hb7 : b6 ++ be 1 an = b7 at *
                have B7 := Lib.hid hb7
                clear hb7 c66 e0
                have c66 := (h7.blk.cell 66).trans (seqC_at _ _).2.2.1
                go_wp2_with (first | (refine wpList_load rfl rfl rfl (HRID.out _ _ _ _ h7) ?_))
                refine (h7.put m.id (by omega)).mono ?_
                rintro r w8 ⟨A8, c8, rfl, h8, _⟩
                have eqf : b5 ++ (q.todo.take (k + 1)).flatMap todoB = b7 ++ m.id.1 := by
                  rw [HS.out, show todoB m = be 1 an ++ m.id.1 from by unfold todoB; rw [HAT.out], ← List.append_assoc, ← List.append_assoc, B6.out, B7.out]
                have EQF := Lib.hid eqf
                clear eqf
                generalize b7 ++ m.id.1 = b8 at *
                go_wp2_with fail
                go_roundg f
                case measure => omega
                case rel => exact ⟨k + 1, A8, c8, by go_num, rfl, by have := HKF.out; omega, by rw [EQF.out], by rw [EQF.out]; exact h8, by rw [HALL.out]; exact HK1.out⟩
              · have HK1 := Lib.hid (numOk_no hk : numOk m.act 255 = false)
                go_wp2_with fail
                refine (rnumB_no 1 m.act (.inl ⟨rfl, hk⟩) _ _).mono ?_
                rintro r w7 ⟨rfl, rfl⟩
                go_wp2_with fail
                go_ret2
                exact RSeqPost.no (by rw [HOK2.out, HNO.out HK1.out]; rfl) h6.kept
          · have ek : q.todo.take k = q.todo := List.take_of_length_le (by omega)
            have HALL := Lib.hid (show q.todo.all (fun x => numOk x.act 255) = true from by rw [← HAL.out, ek])
            rw [ek] at h6 ⊢
            have le6 : (b5 ++ q.todo.flatMap todoB).length ≤ bs.length + 68 + q.branch.size + q.todo.length * 33 := by rw [List.length_append, flat33 todoB_len]; omega
            generalize hb6 : b5 ++ q.todo.flatMap todoB = b6 at *
            have B6 := Lib.hid hb6
            clear hb6 ek HAL HKF
            have c66 := (h6.blk.cell 66).trans (seqC_at _ _).2.2.1
            have c67 := (h6.blk.cell 67).trans (seqC_at _ _).2.2.2.1
            by_cases hd : 0 ≤ q.done ∧ q.done ≤ 65535
            · obtain ⟨dn, hdn, hdt⟩ := nat_of hd.1
              have dn2 : dn ≤ 65535 := by have := hd.2; omega
              have HD1 := Lib.hid (numOk_of hd.1 hd.2 : numOk q.done 65535 = true)
              have HDT := Lib.hid hdt
              rw [hdn] at c67
              clear hdn hdt hd
              go_wp2_with fail
              refine (h6.number 2 dn (.inr ⟨rfl, dn2⟩) (by omega)).mono ?_
              rintro r w7 ⟨A7, c7, rfl, h7, _⟩
              have le7 : (b6 ++ be 2 dn).length ≤ bs.length + 70 + q.branch.size + q.todo.length * 33 := by rw [List.length_append, be_len]; omega
              generalize hb7 : b6 ++ be 2 dn = b7 at *
              have B7 := Lib.hid hb7
              clear hb7 c66 c67
              have c68 := (h7.blk.cell 68).trans (seqC_at _ _).2.2.2.2.1
              by_cases hm : 0 ≤ q.made ∧ q.made ≤ 65535
              · obtain ⟨mn, hmn, hmt⟩ := nat_of hm.1
                have mn2 : mn ≤ 65535 := by have := hm.2; omega
                have HM1 := Lib.hid (numOk_of hm.1 hm.2 : numOk q.made 65535 = true)
                have HMT := Lib.hid hmt
                rw [hmn] at c68
                clear hmn hmt hm
                go_wp2_with fail
                refine (h7.number 2 mn (.inr ⟨rfl, mn2⟩) (by omega)).mono ?_
                rintro r w8 ⟨A8, c8, rfl, h8, _⟩
                have le8 : (b7 ++ be 2 mn).length ≤ bs.length + 72 + q.branch.size + q.todo.length * 33 := by rw [List.length_append, be_len]; omega
                generalize hb8 : b7 ++ be 2 mn = b8 at *
                have B8 := Lib.hid hb8
                clear hb8 c68
                have c69 := (h8.blk.cell 69).trans (seqC_at _ _).2.2.2.2.2
                have o8 := h8.own
                have z8 := h8.size
                have HFIN := Lib.hid (show seqOk q = true from by rw [HOK2.out, HALL.out, HD1.out, HM1.out]; rfl)
                have HEQ := Lib.hid (show bs ++ seqB q = b8 ++ be 1 (if q.stopped then 1 else 0) from by
                  rw [HB2.out, HDT.out, HMT.out, ← B8.out, ← B7.out, ← B6.out, ← B5.out, ← B4.out, ← B2.out, ← B1.out]
                  simp only [List.append_assoc])
                cases hst : q.stopped
                · rw [hst] at c69 HEQ
                  clear hst
                  go_wp2_with (first | (at_builtin; refine wpList_append_sl rfl elemU8 rfl rfl (o8.alloc _) rfl (Reads.of_cells (n := 1) (xs := [bv 0]) (heap_alloc_new _ _) rfl rfl) (bvs_one [0]) (by unfold maxLen; omega) (by omega) (by simp; omega) ?_; intro A9 c9 w9 o9 k9))
                  go_ret2
                  have o9' : Own w9 base 5 1 A9 (b8 ++ be 1 0).length c9 ((b8 ++ be 1 0).map bv) := by simpa [be, List.map_append] using o9
                  have := RSeqPost.yes (q := q) (w := w) HFIN.out HEQ.out o9' (h8.kept.trans (((Kept.refl _ _ _ _).alloc _).trans k9))
                  simpa [be] using this
                · rw [hst] at c69 HEQ
                  clear hst
                  go_wp2_with (first | (at_builtin; refine wpList_append_sl rfl elemU8 rfl rfl (o8.alloc _) rfl (Reads.of_cells (n := 1) (xs := [bv 1]) (heap_alloc_new _ _) rfl rfl) (bvs_one [1]) (by unfold maxLen; omega) (by omega) (by simp; omega) ?_; intro A9 c9 w9 o9 k9))
                  go_ret2
                  have o9' : Own w9 base 5 1 A9 (b8 ++ be 1 1).length c9 ((b8 ++ be 1 1).map bv) := by simpa [be, List.map_append] using o9
                  have := RSeqPost.yes (q := q) (w := w) HFIN.out HEQ.out o9' (h8.kept.trans (((Kept.refl _ _ _ _).alloc _).trans k9))
                  simpa [be] using this
              · have HM1 := Lib.hid (numOk_no hm : numOk q.made 65535 = false)
                go_wp2_with fail
                refine (rnumB_no 2 q.made (.inr ⟨rfl, hm⟩) _ _).mono ?_
                rintro r w8 ⟨rfl, rfl⟩
                have c69 := (h7.blk.cell 69).trans (seqC_at _ _).2.2.2.2.2
                have o8 := h7.own
                have z8 := h7.size
                have HFIN := Lib.hid (show seqOk q = false from by rw [HOK2.out, HM1.out, Bool.and_false, Bool.and_false])
                cases hst : q.stopped
                · rw [hst] at c69
                  clear hst
                  go_wp2_with (first | (at_builtin; refine wpList_append_sl rfl elemU8 rfl rfl (o8.alloc _) rfl (Reads.of_cells (n := 1) (xs := [bv 0]) (heap_alloc_new _ _) rfl rfl) (bvs_one [0]) (by unfold maxLen; omega) (by omega) (by simp; omega) ?_; intro A9 c9 w9 o9 k9))
                  go_ret2
                  exact RSeqPost.no HFIN.out (h7.kept.trans (((Kept.refl _ _ _ _).alloc _).trans k9))
                · rw [hst] at c69
                  clear hst
                  go_wp2_with (first | (at_builtin; refine wpList_append_sl rfl elemU8 rfl rfl (o8.alloc _) rfl (Reads.of_cells (n := 1) (xs := [bv 1]) (heap_alloc_new _ _) rfl rfl) (bvs_one [1]) (by unfold maxLen; omega) (by omega) (by simp; omega) ?_; intro A9 c9 w9 o9 k9))
                  go_ret2
                  exact RSeqPost.no HFIN.out (h7.kept.trans (((Kept.refl _ _ _ _).alloc _).trans k9))
            · have HD1 := Lib.hid (numOk_no hd : numOk q.done 65535 = false)
              go_wp2_with fail
              refine (rnumB_no 2 q.done (.inr ⟨rfl, hd⟩) _ _).mono ?_
              rintro r w7 ⟨rfl, rfl⟩
              go_wp2_with fail
              go_ret2
              exact RSeqPost.no (by rw [HOK2.out, HD1.out, Bool.false_and, Bool.and_false]) h6.kept
  · have HK1 := Lib.hid (numOk_no hk : numOk q.kind 255 = false)
    go_wp2_with fail
    refine (rnumB_no 1 q.kind (.inl ⟨rfl, hk⟩) _ _).mono ?_
    rintro r w1 ⟨rfl, rfl⟩
    go_wp2_with fail
    go_ret2
    exact RSeqPost.no (by rw [HOK.out, HK1.out]; rfl) h0.kept
end Go.Proofs.YtppmolneklidfaaGreat
