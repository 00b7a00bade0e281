/-
  Contracts of the reference's Put, Num, Get, At. No statement of the seat is proved here.
-/
import Derived.Test.YtppmolneklidfaaRd
import Derived.Laws.BitsAllLaws
namespace Go.Proofs.Ytppmolneklidfaa
open Go.RowKit

/-- What the functions that write behind bytes answer: a slice that the caller owns. -/
def OwnPost (base : Nat) (l : List UInt8) (w : World) (r : Ending) (w' : World) : Prop :=
  ∃ A c, r = .returned (.slice A l.length c) ∧ Own w' base 5 1 A l.length c (l.map bv) ∧ Kept base [5] [] w w'

set_option maxHeartbeats 1000000 in
theorem put_any (i : Id) (base : Nat) (bs : List UInt8) (A : Option Addr) (c : Nat) (w : World) (ho : Own w base 5 1 A bs.length c (bs.map bv)) (hsz : bs.length + 32 ≤ 140737488355328) (hbz : base ≤ w.heap.size) :
    Calls Try.prog 47 #[.slice A bs.length c, idV i] w (OwnPost base (bs ++ i.1) w) := by
  go_enter Try.func47, Try.ntmps47
  go_wp2_with (first | (refine wpList_boxed rfl rfl (cs := idC i) rfl ?_))
  have hb0 : Blk (w.alloc (.cells (idC i) 42)) w.heap.size 42 (idC i) := Blk.new _ _ _
  have ho0 := ho.alloc (.cells (idC i) 42)
  have hk0 : Kept base [5] [] w (w.alloc (.cells (idC i) 42)) := (Kept.refl _ _ _ _).alloc _
  generalize w.alloc (.cells (idC i) 42) = w0 at *
  generalize w.heap.size = q at *
  go_loopw [0, 5] (fun b k wr => ∃ n out A' c', n ≤ 32 ∧ k = .int .i64 (n : Nat) ∧ b = .slice A' out.length c' ∧ out = bs ++ i.1.take n ∧ Own wr base 5 1 A' out.length c' (out.map bv) ∧ Kept base [5] [] w wr ∧ Blk wr q 42 (idC i)) (fun _ k _ => 32 - (intOf k).toNat)
  case atStart => exact ⟨0, bs, A, c, by omega, rfl, rfl, by simp, ho0, hk0, hb0⟩
  case round =>
    obtain ⟨n, out, A', c', hn, rfl, rfl, hout, hown, hkp, hb⟩ := hrel
    have hol : out.length ≤ bs.length + 32 := by rw [hout]; simp; omega
    have hz := hkp.size
    have HO := Lib.hid hout
    have hi := i.2
    by_cases hlt : n < 32
    · have hlt' : n < i.1.length := by omega
      have hol : out.length ≤ bs.length + 31 := by rw [hout]; simp; omega
      have c1 := hb.cell n
      rw [show (idC i)[n]? = some (bv i.1[n]) from by simp [idC, idL, hlt']] at c1
      have hs : bs ++ i.1.take (n + 1) = out ++ [i.1[n]] := by rw [hout, List.take_succ_eq_append_getElem hlt', List.append_assoc]
      have HS := Lib.hid hs
      have hlq := hb.lt
      generalize i.1[n] = y at *
      unfold bv at c1
      clear hs hout hi hlt'
      go_wp2_with (first | (at_builtin; refine wpList_append_sl rfl elemU8 rfl rfl (hown.alloc _) rfl (Reads.of_cells (n := 1) (xs := [bv y]) (heap_alloc_new _ _) rfl rfl) (bvs_one [y]) (by unfold maxLen; omega) (by omega) (by simp; omega) ?_; intro A2 c2 w2 ho2 hk2))
      go_roundw
      case rel =>
        exact ⟨n + 1, out ++ [y], A2, c2, by omega, by go_num, by simp, HS.out.symm, by simpa using ho2, (hkp.alloc _).trans hk2, hk2.blk (hb.alloc _) (by simp) (by decide)⟩
      case measure => simp [intOf]; omega
    · obtain rfl : n = 32 := by omega
      clear hout hi
      go_wp2
      go_ret
      have e : bs ++ i.1 = out := by rw [HO.out, List.take_of_length_le (by rw [i.2]; exact Nat.le_refl _)]
      exact ⟨A', c', by rw [e]; rfl, by rw [e]; exact hown, hkp⟩

theorem mod_shr (v k : Nat) : (v : Int) / 2 ^ (8 * k) % 256 = ((UInt8.ofNat (v / 256 ^ k)).toNat : Int) := by
  rw [show (2 : Int) ^ (8 * k) = ((256 ^ k : Nat) : Int) from by rw [Int.pow_mul]; simp]
  simp
set_option maxHeartbeats 1000000 in
theorem num_any (n v : Nat) (hn : n ≤ 8) (base : Nat) (bs : List UInt8) (A : Option Addr) (c : Nat) (w : World) (ho : Own w base 5 1 A bs.length c (bs.map bv)) (hsz : bs.length + n ≤ 140737488355328) (hbz : base ≤ w.heap.size) :
    Calls Try.prog 59 #[.slice A bs.length c, .int .i64 n, .int .u64 v] w (OwnPost base (bs ++ be n v) w) := by
  go_enter Try.func59, Try.ntmps59
  go_wp2_with fail
  go_loopw [0, 7] (fun b i wr => ∃ k out A' c', k ≤ n ∧ i = .int .i64 ((k : Int) - 1) ∧ b = .slice A' out.length c' ∧ out ++ be k v = bs ++ be n v ∧ Own wr base 5 1 A' out.length c' (out.map bv) ∧ Kept base [5] [] w wr) (fun _ i _ => (intOf i + 1).toNat)
  case atStart => exact ⟨n, bs, A, c, Nat.le_refl _, rfl, rfl, rfl, ho, Kept.refl _ _ _ _⟩
  case round =>
    obtain ⟨k, out, A', c', hk, rfl, rfl, hpre, hown, hkp⟩ := hrel
    have hl : out.length + k = bs.length + n := by have := congrArg List.length hpre; simpa [be_len] using this
    have HP := Lib.hid hpre
    have hz := hkp.size
    clear hpre
    cases k with
    | zero =>
      clear hl
      go_wp2
      go_ret
      have := HP.out
      simp only [be, List.append_nil] at this
      exact ⟨A', c', by rw [← this]; rfl, by rw [← this]; exact hown, hkp⟩
    | succ k =>
      have k8 : k < 8 := by omega
      have hw8 : IntKind.i64.wrap (8 * (k : Int)) = 8 * (k : Int) := IntWalk.i64_in _ (by omega)
      have hbe : be (k + 1) v = UInt8.ofNat (v / 256 ^ k) :: be k v := rfl
      have hcv := mod_shr v k
      generalize UInt8.ofNat (v / 256 ^ k) = y at *
      have HB := Lib.hid hbe
      have hl2 : out.length + 1 ≤ 140737488355328 := by omega
      clear hbe hl
      rw [show ((k + 1 : Nat) : Int) - 1 = (k : Int) from by omega]
      go_wp2_with (first | (at_builtin; refine wpList_append_sl rfl elemU8 rfl rfl (hown.alloc _) rfl (Reads.of_cells (n := 1) (xs := [bv y]) (heap_alloc_new _ _) rfl rfl) (bvs_one [y]) (by unfold maxLen; omega) (by omega) (by simp; omega) ?_; intro A2 c2 w2 ho2 hk2))
      go_roundw
      case rel => exact ⟨k, out ++ [y], A2, c2, by omega, by go_num, by simp, by rw [← HP.out, HB.out]; simp, by simpa using ho2, (hkp.alloc _).trans hk2⟩
      case measure => first | (simp [intOf]; done) | (simp [intOf]; omega)

theorem or_byte_i (v : Nat) (x : UInt8) (hv : v < 36028797018963968) : bits .or .i64 ((v : Int) * 256) (x.toNat : Int) = ((v * 256 + x.toNat : Nat) : Int) := by
  have hx := x.toNat_lt
  have e : ∀ a : Nat, a < 9223372036854775808 → (BitVec.ofInt 64 (a : Int)).toNat = a := fun a ha => by
    rw [BitVec.ofInt_natCast, BitVec.toNat_ofNat]; exact Nat.mod_eq_of_lt (by omega)
  have hor : v * 256 ||| x.toNat = v * 256 + x.toNat := by
    have := Nat.shiftLeft_add_eq_or_of_lt (a := v) (b := x.toNat) (i := 8) (by omega)
    rw [Nat.shiftLeft_eq] at this
    exact this.symm
  rw [show (v : Int) * 256 = ((v * 256 : Nat) : Int) from by omega]
  show IntKind.i64.wrap ((BitVec.ofInt 64 ((v * 256 : Nat) : Int) ||| BitVec.ofInt 64 (x.toNat : Int)).toNat : Int) = _
  rw [BitVec.toNat_or, e _ (by omega), e _ (by omega), hor, IntKind.wrap_i64]
  omega
theorem num_lt7 (l : List UInt8) (h : l.length ≤ 6) : num l < 281474976710656 :=
  Nat.lt_of_lt_of_le (num_lt l) (Nat.le_trans (Nat.pow_le_pow_right (by omega) h) (by decide))

/-- Get's answer, a number of at most 8 bytes (its sign where 8). -/
def getV (l : List UInt8) : Int := IntKind.i64.wrap (num l : Int)
set_option maxHeartbeats 1000000 in
theorem get_any (b : List UInt8) (at_ n : Nat) (hn : at_ + n ≤ b.length) (h8 : n ≤ 7) (B : Nat) (A : Option Addr) (c : Nat) (w : World) (hr : Reads w B 1 A b.length (b.map bv)) (hb : b.length ≤ 9223372036854775807) :
    Calls Try.prog 71 #[.slice A b.length c, .int .i64 at_, .int .i64 n] w fun r w' => r = .returned (.int .i64 (num ((b.drop at_).take n))) ∧ w = w' := by
  go_enter Try.func71, Try.ntmps71
  go_wp2_with fail
  go_loop [7, 8] (fun v i => ∃ k : Nat, k ≤ n ∧ i = .int .i64 k ∧ v = .int .i64 (num ((b.drop at_).take k))) (fun _ i => n - (intOf i).toNat)
  case atStart => exact ⟨0, Nat.zero_le _, rfl, rfl⟩
  case round =>
    obtain ⟨k, hk', rfl, rfl⟩ := hrel
    by_cases hlt : k < n
    · have hlk : at_ + k < b.length := by omega
      obtain ⟨ad, u, rfl, _, hx, hc⟩ := hr.at_ hlk
      have hu : u = bv b[at_ + k] := by simpa [hlk] using hx.symm
      subst hu
      unfold bv at hc
      have hv := num_lt7 ((b.drop at_).take k) (by simp; omega)
      have hor := or_byte_i (num ((b.drop at_).take k)) b[at_ + k] (by omega)
      have hs : num ((b.drop at_).take (k + 1)) = num ((b.drop at_).take k) * 256 + b[at_ + k].toNat := by rw [List.take_succ_eq_append_getElem (by simp; omega), num_snoc]; simp
      rw [← hs] at hor
      have hv2 := num_lt8 ((b.drop at_).take (k + 1)) (by simp; omega)
      generalize num ((b.drop at_).take k) = v at *
      have hx0 := b[at_ + k].toNat_lt
      generalize b[at_ + k].toNat = x at *
      have HS := Lib.hid hs
      clear hs hx
      go_wp2
      go_round
      case rel => exact ⟨k + 1, by omega, by go_num, rfl⟩
      case measure => simp [intOf]; omega
    · obtain rfl : k = n := by omega
      go_wp2
      go_ret
      exact ⟨rfl, rfl⟩

theorem spl_snoc (cs : Array Value) (l : List Value) (v : Value) (h : l.length < cs.size) : (spl cs 0 l).setIfInBounds l.length v = spl cs 0 (l ++ [v]) := by
  apply Array.ext'
  simp only [spl, Array.toList_setIfInBounds, List.take_zero, List.nil_append, Nat.zero_add, List.length_append, List.length_singleton]
  rw [List.set_append_right _ _ (Nat.le_refl _), Nat.sub_self, List.drop_eq_getElem_cons (by simpa using h), List.set_cons_zero, List.append_assoc]
  rfl
set_option maxHeartbeats 1000000 in
theorem at_any (b : List UInt8) (hb : b.length = 32) (B : Nat) (A : Option Addr) (c : Nat) (w : World) (hr : Reads w B 1 A b.length (b.map bv)) (hB : B ≤ w.heap.size) :
    Calls Try.prog 88 #[.slice A b.length c, .int .i64 0] w fun r w' => r = .returned (idV (idOf b)) ∧ Below w.heap.size w w' := by
  go_enter Try.func88, Try.ntmps88
  go_wp2_with (first | (refine wpList_allocAgg rfl rfl (zero_noId _) ?_))
  have hb1 : Blk ((w.alloc (.cells (idC noId) 42)).alloc (.cells (idC noId) 42)) w.heap.size 42 (idC noId) := (Blk.new _ _ _).alloc _
  have hb2 : Blk ((w.alloc (.cells (idC noId) 42)).alloc (.cells (idC noId) 42)) (w.heap.size + 1) 42 (idC noId) := by have := Blk.new (w.alloc (.cells (idC noId) 42)) 42 (idC noId); simpa using this
  have hk1 : Keep Nothing w ((w.alloc (.cells (idC noId) 42)).alloc (.cells (idC noId) 42)) := ((Keep.refl _ _).alloc _).alloc _
  generalize (w.alloc (.cells (idC noId) 42)).alloc (.cells (idC noId) 42) = w1 at *
  go_loopw [6] (fun i wr => ∃ k : Nat, k ≤ 32 ∧ i = .int .i64 k ∧ Blk wr (w.heap.size + 1) 42 (spl (idC noId) 0 ((b.take k).map bv)) ∧ Blk wr w.heap.size 42 (idC noId) ∧ Keep Nothing w wr) (fun i _ => 32 - (intOf i).toNat)
  case atStart => exact ⟨0, by omega, rfl, by simpa [spl] using hb2, hb1, hk1⟩
  case round =>
    obtain ⟨k, hk', rfl, hq2, hq1, hkw⟩ := hrel
    have hrw := hr.kept hkw hB (fun _ _ q => q)
    by_cases hlt : k < 32
    · obtain ⟨ad, u, rfl, _, hx, hc⟩ := hrw.at_ (k := k) (by omega)
      have hu : u = bv b[k] := by simpa [show k < b.length by omega] using hx.symm
      subst hu
      have e1 := hq2.cell k
      have e2 := hq2.frozen k
      have hsz : (spl (idC noId) 0 ((b.take k).map bv)).size = 32 := by simp [spl, idC_size]; omega
      obtain ⟨v0, hv0⟩ : ∃ v0, (spl (idC noId) 0 ((b.take k).map bv))[k]? = some v0 := ⟨_, Array.getElem?_eq_getElem (by omega)⟩
      rw [hv0] at e1
      have hset : (spl (idC noId) 0 ((b.take k).map bv)).setIfInBounds k (bv b[k]) = spl (idC noId) 0 ((b.take (k + 1)).map bv) := by
        have := spl_snoc (idC noId) ((b.take k).map bv) (bv b[k]) (by simp [idC_size]; omega)
        rw [show ((b.take k).map bv).length = k by simp; omega] at this
        rw [this, List.take_succ_eq_append_getElem (by omega), List.map_append, List.map_singleton]
      unfold bv at hc
      have HS := Lib.hid hset
      clear hset hv0 hsz hx
      have hlq := hq2.lt
      go_wp2_with fail
      go_roundw
      case rel =>
        refine ⟨k + 1, by omega, by go_num, ?_, hq1.far (p := ⟨w.heap.size + 1, k, none⟩) (by simp) _, hkw.setCell (p := ⟨w.heap.size + 1, k, none⟩) (.inr (by simp)) _⟩
        rw [← HS.out]
        exact hq2.set_ k (bv b[k])
      case measure => simp [intOf]; omega
    · obtain rfl : k = 32 := by omega
      rw [List.take_of_length_le (by omega), spl_id b (.inl hb)] at hq2
      go_wp2_with (first | (refine wpList_load rfl rfl rfl (load_id hq2) ?_) | (refine wpList_storeBlk rfl rfl (vs := idC (idOf b)) rfl rfl hq1 (by rw [idC_size, idC_size]) (by rw [idC_size]; exact info42) (idL_one _) ?_; intro w4 hq4 hk4 hz4))
      refine bodyPost_ret (v := idV (idOf b)) (results_cell rfl _ _ rfl (run_loadVar_cells w4 _ (idC (idOf b)) Try.underlying42 rfl (by rw [idC_size]; exact info42) (fun j v hj => by rw [add_at, hq4.cell, ← hj]; simp))) rfl ⟨rfl, ?_⟩
      exact Keep.all (hkw.then_ hk4 (by unfold Only; intro i hi q; omega))
end Go.Proofs.Ytppmolneklidfaa
