/-
  Contracts of codec's writer: number, text, id, done. No statement of the seat is proved here.
-/
import Derived.Test.YtppmolneklidfaaCdc1
import Derived.Test.YtppmolneklidfaaOwn
import Derived.Lib.Strings
import Derived.Maps.RangeWalk
namespace Go.Proofs.Ytppmolneklidfaa
open Go.RowKit

theorem elemU8 : Elem Try.prog 23 5 1 1 := by
  refine ⟨Try.underlying23, ?_, by decide⟩
  obtain ⟨i, hi, h1, h2, h3⟩ := info_parts (show (Try.prog.info? 5).map (fun i => (i.zero, i.size, i.bytes)) = some (some (.int .u8 0), 1, 1) by kernel_rfl)
  exact ⟨i, _, hi, h1, h2, h3, rfl⟩
theorem zeroU8 : (Try.prog.info? 5).bind (·.zero) = some (.int .u8 0) := by kernel_rfl
theorem bvs_one (bs : List UInt8) : ∀ v ∈ bs.map bv, v.oneCell' = true := by
  intro v hv
  obtain ⟨x, _, rfl⟩ := List.mem_map.1 hv
  rfl

/-- A number's n bytes, the highest first. -/
def be : Nat → Nat → List UInt8
  | 0, _ => []
  | n + 1, v => UInt8.ofNat (v / 256 ^ n) :: be n v
theorem be_len : ∀ n v, (be n v).length = n
  | 0, _ => rfl
  | n + 1, v => by simp [be, be_len n v]

/-- A writer's block: what was written, the first error. -/
def Wt (w : World) (g base : Nat) (bs : List UInt8) (e : Int) : Prop :=
  ∃ A c, Blk w g 92 #[.slice A bs.length c, .int .i64 0, .int .i64 e] ∧ Own w base 5 1 A bs.length c (bs.map bv) ∧ base ≤ g

def WtPost (w : World) (g base : Nat) (bs : List UInt8) (e : Int) (r : Ending) (w' : World) : Prop := r = .returned (.tuple #[]) ∧ Wt w' g base bs e ∧ Kept base [5] [g] w w'

theorem wrap_byte (x : Nat) : IntKind.u8.wrap (x : Int) = ((UInt8.ofNat x).toNat : Int) := by
  simp [IntKind.wrap, IntKind.signed, IntKind.bits]
theorem wrap_shr (v k : Nat) : IntKind.u8.wrap ((v : Int) / 2 ^ (8 * (k : Int)).toNat) = ((UInt8.ofNat (v / 256 ^ k)).toNat : Int) := by
  have e : (8 * (k : Int)).toNat = 8 * k := by omega
  rw [e, show (2 : Int) ^ (8 * k) = ((256 ^ k : Nat) : Int) from by rw [Int.pow_mul]; simp]
  exact wrap_byte _
theorem Reads.of_cells {w : World} {g : Nat} {cs : Array Value} {t : TypeId} {fz : Nat × Nat} {size n : Nat} {xs : List Value} (h : w.heap[g]? = some (.cells cs t fz)) (hx : cs.toList = xs) (hl : xs.length = n * size) : Reads w (g + 1) size (some ⟨g, 0, none⟩) n xs := by
  refine ⟨hl, fun _ => ⟨_, rfl, Nat.lt_succ_self _, fun j u hj => ?_⟩⟩
  rw [add_at, cell_of_row w g (0 + j) cs t fz h, Nat.zero_add, ← hj, ← hx]
  simp

theorem Wt.more {w w1 w2 : World} {g base : Nat} {bs new : List UInt8} {e : Int} {m : Nat} {A A' : Option Addr} {c c' : Nat} (hbg : base ≤ g) (hk1 : Kept base [5] [g] w w1)
    (hb1 : Blk w1 g 92 #[.slice A bs.length c, .int .i64 0, .int .i64 e]) (hm : m = new.length)
    (ho : Own w2 base 5 1 A' (bs.length + m) c' (bs.map bv ++ new.map bv)) (hk2 : Kept base [5] [] w1 w2) :
    Wt (w2.setCell ⟨g, 0, none⟩ (.slice A' (bs.length + m) c')) g base (bs ++ new) e ∧ Kept base [5] [g] w (w2.setCell ⟨g, 0, none⟩ (.slice A' (bs.length + m) c')) := by
  have hb2 := hk2.blk hb1 (by simp) (by decide)
  have hl : (bs ++ new).length = bs.length + m := by simp; omega
  refine ⟨⟨A', c', ?_, ?_, hbg⟩, (hk1.trans (hk2.mono (Nat.le_refl _) (by simp) (by simp))).setCell (p := ⟨g, 0, none⟩) (.inl (by simp)) _⟩
  · rw [hl]
    simpa using hb2.set_ 0 (.slice A' (bs.length + m) c')
  · rw [hl, List.map_append]
    exact ho.setCell (p := ⟨g, 0, none⟩) hb2 (by decide) _

set_option maxHeartbeats 1000000 in
theorem wnumber_any (n v : Nat) (hn : n ≤ 8) (g base : Nat) (bs : List UInt8) (e : Int) (w : World) (hw : Wt w g base bs e) (hsz : bs.length + n ≤ 140737488355328) (hbz : base ≤ w.heap.size) :
    Calls Try.prog 42 #[.pointer (some ⟨g, 0, none⟩), .int .i64 n, .int .u64 v] w (WtPost w g base (bs ++ be n v) e) := by
  go_enter Try.func42, Try.ntmps42
  go_wp2_with fail
  go_loopw [6] (fun i wr => ∃ k out, k ≤ n ∧ i = .int .i64 ((k : Int) - 1) ∧ out ++ be k v = bs ++ be n v ∧ Wt wr g base out e ∧ Kept base [5] [g] w wr) (fun i _ => (intOf i + 1).toNat)
  case atStart => exact ⟨n, bs, Nat.le_refl _, rfl, rfl, hw, Kept.refl _ _ _ _⟩
  case round =>
    obtain ⟨k, out, hk, rfl, hpre, hwt, hkp⟩ := hrel
    have hl : out.length + k = bs.length + n := by have := congrArg List.length hpre; simpa [be_len] using this
    have HP := Lib.hid hpre
    have hz := hkp.size
    clear hpre
    cases k with
    | zero =>
      clear hl
      go_wp2
      go_end0
      refine ⟨rfl, ?_, hkp⟩
      have := HP.out
      simp only [be, List.append_nil] at this
      rw [← this]
      exact hwt
    | succ k =>
      obtain ⟨A, c, hb, ho, hbg⟩ := hwt
      have hm1 : out.length + 1 ≤ maxLen := by unfold maxLen; omega
      have hm2 : (out.length + 1) * 1 ≤ 140737488355328 := by omega
      have c0 := hb.cell 0
      have f0 := hb.frozen 0
      simp at c0
      have lg := hb.lt
      have k8 : k < 8 := by omega
      have hw8 : IntKind.i64.wrap (8 * (k : Int)) = 8 * (k : Int) := IntWalk.i64_in _ (by omega)
      have hbe : be (k + 1) v = UInt8.ofNat (v / 256 ^ k) :: be k v := rfl
      have hcv := wrap_shr v k
      generalize UInt8.ofNat (v / 256 ^ k) = y at *
      have HB := Lib.hid hbe
      have HL := Lib.hid hl
      clear hbe hl
      rw [show ((k + 1 : Nat) : Int) - 1 = (k : Int) from by omega]
      go_wp2_with fail
      go_region_law (first | ((refine step_append_sl (by rfl) elemU8 (by rfl) (by rfl) (by exact ho.alloc _) (by rfl) (Reads.of_cells (xs := [bv y]) (heap_alloc_new _ _) rfl rfl) (bvs_one [y]) hm1 hm2 (by simp; omega) ?_); intro A' c' w2 ho2 hk2; have hb2 := hk2.blk (hb.drew.alloc _) (by simp) (by decide); have c2 := hb2.cell 0; have f2 := hb2.frozen 0; simp at c2))
      all_goals
        go_wp2_with fail
        go_roundw
        case rel =>
          have T := Wt.more (new := [y]) hbg (hkp.drew.alloc _) (hb.drew.alloc _) rfl ho2 hk2
          exact ⟨k, out ++ [y], by omega, by go_num, by rw [← HP.out, HB.out]; simp, T.1, T.2⟩
        case measure => first | (simp [intOf]; done) | (simp [intOf]; omega)

theorem strCells_bv (s : ByteArray) : Lib.strCells s = s.data.toList.map bv := by
  simp [Lib.strCells, bv]

set_option maxHeartbeats 1000000 in
theorem wtext_any (n : Nat) (s : ByteArray) (hn : n ≤ 8) (g base : Nat) (bs : List UInt8) (e : Int) (w : World) (hw : Wt w g base bs e) (hsz : bs.length + n + s.size ≤ 140737488355328) (hbz : base ≤ w.heap.size) :
    Calls Try.prog 43 #[.pointer (some ⟨g, 0, none⟩), .int .i64 n, .string s] w (WtPost w g base (bs ++ be n s.size ++ s.data.toList) e) := by
  have hwr : IntKind.u64.wrap (s.size : Int) = (s.size : Int) := by simp [IntKind.wrap, IntKind.signed, IntKind.bits]; omega
  go_enter Try.func43, Try.ntmps43
  go_wp2_with fail
  refine (wnumber_any n s.size hn g base bs e _ hw (by omega) hbz).mono ?_
  rintro r w1 ⟨rfl, hw1, hk1⟩
  have hz := hk1.size
  have hlen : (bs ++ be n s.size).length ≤ bs.length + n := by simp [be_len]
  generalize bs ++ be n s.size = b1 at *
  obtain ⟨A, c, hb, ho, hbg⟩ := hw1
  have c0 := hb.cell 0
  have f0 := hb.frozen 0
  simp at c0
  go_wp2_with (first | (at_builtin; refine wpList_append_str rfl elemU8 zeroU8 Try.underlying9 rfl rfl ho rfl (by unfold maxLen; omega) (by omega) (by omega) ?_; intro A' c' w2 ho2 hk2; have hb2 := hk2.blk hb (by simp) (by decide); have c2 := hb2.cell 0; have f2 := hb2.frozen 0; simp at c2))
  go_end0
  rw [strCells_bv] at ho2
  have T := Wt.more (new := s.data.toList) hbg hk1 hb (Lib.size_eq s) ho2 hk2
  exact ⟨rfl, T.1, T.2⟩

set_option maxHeartbeats 1000000 in
theorem wid_any (i : Id) (g base : Nat) (bs : List UInt8) (e : Int) (w : World) (hw : Wt w g base bs e) (hsz : bs.length + 32 ≤ 140737488355328) (hbz : base ≤ w.heap.size) :
    Calls Try.prog 44 #[.pointer (some ⟨g, 0, none⟩), idV i] w (WtPost w g base (bs ++ i.1) e) := by
  obtain ⟨A, c, hb, ho, hbg⟩ := hw
  have c0 := hb.cell 0
  have f0 := hb.frozen 0
  simp at c0
  have lg := hb.lt
  go_enter Try.func44, Try.ntmps44
  go_wp2_with (first | (refine wpList_boxed rfl rfl (cs := idC i) rfl ?_))
  go_frame
  have hbi : Blk (w.alloc (.cells (idC i) 42)) w.heap.size 42 (idC i) := Blk.new _ _ _
  have hb1 := hb.alloc (.cells (idC i) 42)
  have ho1 := ho.alloc (.cells (idC i) 42)
  have hk1 : Kept base [5] [g] w (w.alloc (.cells (idC i) 42)) := (Kept.refl _ _ _ _).alloc _
  have hz1 : base ≤ (w.alloc (.cells (idC i) 42)).heap.size := by simp; omega
  have hg1 : g < (w.alloc (.cells (idC i) 42)).heap.size := by simp; omega
  have hn1 : w.heap.size < (w.alloc (.cells (idC i) 42)).heap.size := by simp
  generalize w.alloc (.cells (idC i) 42) = w1 at *
  generalize w.heap.size = q at *
  clear c0 f0
  have c1 := hb1.cell 0
  have f1 := hb1.frozen 0
  simp at c1
  go_region_law (first | ((refine step_append_sl (by rfl) elemU8 (by rfl) (by rfl) ho1.drew (by rfl) (Reads.of_cells (xs := i.1.map bv) (n := 32) hbi.drew rfl (idL_len i)) (bvs_one i.1) (by unfold maxLen; omega) (by omega) hz1 ?_); intro A' c' w2 ho2 hk2; have hb2 := hk2.blk hb1.drew (by simp) (by decide); have c2 := hb2.cell 0; have f2 := hb2.frozen 0; simp at c2))
  all_goals
    go_wp2_with fail
    go_end0
    have T := Wt.more (new := i.1) hbg hk1.drew hb1.drew i.2.symm ho2 hk2
    exact ⟨rfl, T.1, T.2⟩

def doneL (bs : List UInt8) (e : Int) : List UInt8 := if e = 0 then bs else []
def DonePost (base : Nat) (l : List UInt8) (e : Int) (w : World) (r : Ending) (w' : World) : Prop := ∃ A c, r = .returned (.tuple #[.slice A l.length c, .int .i64 e]) ∧ Own w' base 5 1 A l.length c (l.map bv) ∧ Keep Nothing w w'
set_option maxHeartbeats 1000000 in
theorem wdone_any (g base : Nat) (bs : List UInt8) (e : Int) (w : World) (hw : Wt w g base bs e) :
    Calls Try.prog 45 #[.pointer (some ⟨g, 0, none⟩)] w fun r w' => DonePost base (doneL bs e) e w r w' := by
  obtain ⟨A, c, hb, ho, hbg⟩ := hw
  have c0 := hb.cell 0
  have c2 := hb.cell 2
  simp at c0 c2
  by_cases he : e = 0
  · subst he
    go_enter Try.func45, Try.ntmps45
    go_wp2_with fail
    go_ret2
    exact ⟨A, c, rfl, ho, Keep.refl _ _⟩
  · have he1 : (e != 0) = true := by simpa using he
    have hd : doneL bs e = [] := if_neg he
    rw [hd]
    clear hd
    go_enter Try.func45, Try.ntmps45
    go_wp2_with fail
    go_quiet (fail)
    go_wp2_with fail
    go_ret2
    exact ⟨none, 0, rfl, Own.nil _ _ _ _, (Keep.refl _ _).drewN _⟩
end Go.Proofs.Ytppmolneklidfaa
