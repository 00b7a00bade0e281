/- The sum (SHA-256) in plain words; contracts of sum's and the reference's turn, of sum's word and rounds. No statement of the seat is proved here. -/
import Derived.Test.YtmlmbkelpjmafaaGreatPT03
import Derived.Laws.BitsAllLaws
import Derived.BigQuiet
namespace Go.Proofs.YtmlmbkelpjmafaaGreat
open Go.RowKit
def OwnPost (base : Nat) (l : List UInt8) (w : World) (r : Ending) (w' : World) : Prop :=
 ∃ A c, r = .returned (.slice A l.length c) ∧ Own w' base 5 1 A l.length c (l.map bv) ∧ Kept base [5] [] w w'
theorem mod_shr (v k : Nat) : (v : Int) / 2 ^ (8 * k) % 256 = ((UInt8.ofNat (v / 256 ^ k)).toNat : Int) := by
 rw [show (2 : Int) ^ (8 * k) = ((256 ^ k : Nat) : Int) from by rw [Int.pow_mul]; simp]
 simp
set_option maxHeartbeats 1000000 in
theorem num_any (n v : Nat) (hn : n ≤ 8) (base : Nat) (bs : List UInt8) (A : Option Addr) (c : Nat) (w : World) (ho : Own w base 5 1 A bs.length c (bs.map bv)) (hsz : bs.length + n ≤ 140737488355328) (hbz : base ≤ w.heap.size) :
    Calls Tryz.prog 17 #[.slice A bs.length c, .int .i64 n, .int .u64 v] w (OwnPost base (bs ++ be n v) w) := by
 go_enter Tryz.func17, Tryz.ntmps17
 go_wp2_with fail
 go_loopw [0, 7] (fun b i wr => ∃ k out A' c', k ≤ n ∧ i = .int .i64 ((k : Int) - 1) ∧ b = .slice A' out.length c' ∧ out ++ be k v = bs ++ be n v ∧ Own wr base 5 1 A' out.length c' (out.map bv) ∧ Kept base [5] [] w wr) (fun _ i _ => (intOf i + 1).toNat)
 case atStart => exact ⟨n, bs, A, c, Nat.le_refl _, rfl, rfl, rfl, ho, Kept.refl _ _ _ _⟩
 case round =>
  obtain ⟨k, out, A', c', hk, rfl, rfl, hpre, hown, hkp⟩ := hrel
  have hl : out.length + k = bs.length + n := by have := congrArg List.length hpre; simpa [be_len] using this
  have HP := Lib.hid hpre
  have hz := hkp.size
  clear hpre
  cases k with
  | zero =>
   clear hl
   go_wp2
   go_ret
   have := HP.out
   simp only [be, List.append_nil] at this
   exact ⟨A', c', by rw [← this]; rfl, by rw [← this]; exact hown, hkp⟩
  | succ k =>
   have k8 : k < 8 := by omega
   have hw8 : IntKind.i64.wrap (8 * (k : Int)) = 8 * (k : Int) := IntWalk.i64_in _ (by omega)
   have hbe : be (k + 1) v = UInt8.ofNat (v / 256 ^ k) :: be k v := rfl
   have hcv := mod_shr v k
   generalize UInt8.ofNat (v / 256 ^ k) = y at *
   have HB := Lib.hid hbe
   have hl2 : out.length + 1 ≤ 140737488355328 := by omega
   clear hbe hl
   rw [show ((k + 1 : Nat) : Int) - 1 = (k : Int) from by omega]
   go_wp2_with (first | (at_builtin; refine wpList_append_sl rfl elemU8 rfl rfl (hown.alloc _) rfl (Reads.of_cells (n := 1) (xs := [bv y]) (heap_alloc_new _ _) rfl rfl) (bvs_one [y]) (by unfold maxLen; omega) (by omega) (by simp; omega) ?_; intro A2 c2 w2 ho2 hk2))
   go_roundw
   case rel => exact ⟨k, out ++ [y], A2, c2, by omega, by go_num, by simp, by rw [← HP.out, HB.out]; simp, by simpa using ho2, (hkp.alloc _).trans hk2⟩
   case measure => first | (simp [intOf]; done) | (simp [intOf]; omega)
theorem or_byte_i (v : Nat) (x : UInt8) (hv : v < 36028797018963968) : bits .or .i64 ((v : Int) * 256) (x.toNat : Int) = ((v * 256 + x.toNat : Nat) : Int) := by
 have hx := x.toNat_lt
 have e : ∀ a : Nat, a < 9223372036854775808 → (BitVec.ofInt 64 (a : Int)).toNat = a := fun a ha => by
  rw [BitVec.ofInt_natCast, BitVec.toNat_ofNat]; exact Nat.mod_eq_of_lt (by omega)
 have hor : v * 256 ||| x.toNat = v * 256 + x.toNat := by
  have := Nat.shiftLeft_add_eq_or_of_lt (a := v) (b := x.toNat) (i := 8) (by omega)
  rw [Nat.shiftLeft_eq] at this
  exact this.symm
 rw [show (v : Int) * 256 = ((v * 256 : Nat) : Int) from by omega]
 show IntKind.i64.wrap ((BitVec.ofInt 64 ((v * 256 : Nat) : Int) ||| BitVec.ofInt 64 (x.toNat : Int)).toNat : Int) = _
 rw [BitVec.toNat_or, e _ (by omega), e _ (by omega), hor, IntKind.wrap_i64]
 omega
theorem num_lt7 (l : List UInt8) (h : l.length ≤ 6) : num l < 281474976710656 :=
 Nat.lt_of_lt_of_le (num_lt l) (Nat.le_trans (Nat.pow_le_pow_right (by omega) h) (by decide))
set_option maxHeartbeats 1000000 in
theorem get_any (b : List UInt8) (at_ n : Nat) (hn : at_ + n ≤ b.length) (h8 : n ≤ 7) (B : Nat) (A : Option Addr) (c : Nat) (w : World) (hr : Reads w B 1 A b.length (b.map bv)) (hb : b.length ≤ 9223372036854775807) :
    Calls Tryz.prog 67 #[.slice A b.length c, .int .i64 at_, .int .i64 n] w fun r w' => r = .returned (.int .i64 (num ((b.drop at_).take n))) ∧ w = w' := by
 go_enter Tryz.func67, Tryz.ntmps67
 go_wp2_with fail
 go_loop [7, 8] (fun v i => ∃ k : Nat, k ≤ n ∧ i = .int .i64 k ∧ v = .int .i64 (num ((b.drop at_).take k))) (fun _ i => n - (intOf i).toNat)
 case atStart => exact ⟨0, Nat.zero_le _, rfl, rfl⟩
 case round =>
  obtain ⟨k, hk', rfl, rfl⟩ := hrel
  by_cases hlt : k < n
  · have hlk : at_ + k < b.length := by omega
    obtain ⟨ad, u, rfl, _, hx, hc⟩ := hr.at_ hlk
    have hu : u = bv b[at_ + k] := by simpa [hlk] using hx.symm
    subst hu
    unfold bv at hc
    have hv := num_lt7 ((b.drop at_).take k) (by simp; omega)
    have hor := or_byte_i (num ((b.drop at_).take k)) b[at_ + k] (by omega)
    have hs : num ((b.drop at_).take (k + 1)) = num ((b.drop at_).take k) * 256 + b[at_ + k].toNat := by rw [List.take_succ_eq_append_getElem (by simp; omega), num_snoc]; simp
    rw [← hs] at hor
    have hv2 := num_lt8 ((b.drop at_).take (k + 1)) (by simp; omega)
    generalize num ((b.drop at_).take k) = v at *
    have hx0 := b[at_ + k].toNat_lt
    generalize b[at_ + k].toNat = x at *
    have HS := Lib.hid hs
    clear hs hx
    go_wp2
    go_round
    case rel => exact ⟨k + 1, by omega, by go_num, rfl⟩
    case measure => simp [intOf]; omega
  · obtain rfl : k = n := by omega
    go_wp2
    go_ret
    exact ⟨rfl, rfl⟩
theorem spl_snoc (cs : Array Value) (l : List Value) (v : Value) (h : l.length < cs.size) : (spl cs 0 l).setIfInBounds l.length v = spl cs 0 (l ++ [v]) := by
 apply Array.ext'
 simp only [spl, Array.toList_setIfInBounds, List.take_zero, List.nil_append, Nat.zero_add, List.length_append, List.length_singleton]
 rw [List.set_append_right _ _ (Nat.le_refl _), Nat.sub_self, List.drop_eq_getElem_cons (by simpa using h), List.set_cons_zero, List.append_assoc]
 rfl
set_option maxHeartbeats 1000000 in
theorem at_any (b : List UInt8) (hb : b.length = 32) (B : Nat) (A : Option Addr) (c : Nat) (w : World) (hr : Reads w B 1 A b.length (b.map bv)) (hB : B ≤ w.heap.size) :
    Calls Tryz.prog 68 #[.slice A b.length c, .int .i64 0] w fun r w' => r = .returned (idV (idOf b)) ∧ Below w.heap.size w w' := by
 go_enter Tryz.func68, Tryz.ntmps68
 go_wp2_with (first | (refine wpList_allocAgg rfl rfl (zero_noId _) ?_))
 have hb1 : Blk ((w.alloc (.cells (idC noId) 29)).alloc (.cells (idC noId) 29)) w.heap.size 29 (idC noId) := (Blk.new _ _ _).alloc _
 have hb2 : Blk ((w.alloc (.cells (idC noId) 29)).alloc (.cells (idC noId) 29)) (w.heap.size + 1) 29 (idC noId) := by have := Blk.new (w.alloc (.cells (idC noId) 29)) 29 (idC noId); simpa using this
 have hk1 : Keep Nothing w ((w.alloc (.cells (idC noId) 29)).alloc (.cells (idC noId) 29)) := ((Keep.refl _ _).alloc _).alloc _
 generalize (w.alloc (.cells (idC noId) 29)).alloc (.cells (idC noId) 29) = w1 at *
 go_loopw [6] (fun i wr => ∃ k : Nat, k ≤ 32 ∧ i = .int .i64 k ∧ Blk wr (w.heap.size + 1) 29 (spl (idC noId) 0 ((b.take k).map bv)) ∧ Blk wr w.heap.size 29 (idC noId) ∧ Keep Nothing w wr) (fun i _ => 32 - (intOf i).toNat)
 case atStart => exact ⟨0, by omega, rfl, by simpa [spl] using hb2, hb1, hk1⟩
 case round =>
  obtain ⟨k, hk', rfl, hq2, hq1, hkw⟩ := hrel
  have hrw := hr.kept hkw hB (fun _ _ q => q)
  by_cases hlt : k < 32
  · obtain ⟨ad, u, rfl, _, hx, hc⟩ := hrw.at_ (k := k) (by omega)
    have hu : u = bv b[k] := by simpa [show k < b.length by omega] using hx.symm
    subst hu
    have e1 := hq2.cell k
    have e2 := hq2.frozen k
    have hsz : (spl (idC noId) 0 ((b.take k).map bv)).size = 32 := by simp [spl, idC_size]; omega
    obtain ⟨v0, hv0⟩ : ∃ v0, (spl (idC noId) 0 ((b.take k).map bv))[k]? = some v0 := ⟨_, Array.getElem?_eq_getElem (by omega)⟩
    rw [hv0] at e1
    have hset : (spl (idC noId) 0 ((b.take k).map bv)).setIfInBounds k (bv b[k]) = spl (idC noId) 0 ((b.take (k + 1)).map bv) := by
     have := spl_snoc (idC noId) ((b.take k).map bv) (bv b[k]) (by simp [idC_size]; omega)
     rw [show ((b.take k).map bv).length = k by simp; omega] at this
     rw [this, List.take_succ_eq_append_getElem (by omega), List.map_append, List.map_singleton]
    unfold bv at hc
    have HS := Lib.hid hset
    clear hset hv0 hsz hx
    have hlq := hq2.lt
    go_wp2_with fail
    go_roundw
    case rel =>
     refine ⟨k + 1, by omega, by go_num, ?_, hq1.far (p := ⟨w.heap.size + 1, k, none⟩) (by simp) _, hkw.setCell (p := ⟨w.heap.size + 1, k, none⟩) (.inr (by simp)) _⟩
     rw [← HS.out]
     exact hq2.set_ k (bv b[k])
    case measure => simp [intOf]; omega
  · obtain rfl : k = 32 := by omega
    rw [List.take_of_length_le (by omega), spl_id b (.inl hb)] at hq2
    go_wp2_with (first | (refine wpList_load rfl rfl rfl (load_id hq2) ?_) | (refine wpList_storeBlk rfl rfl (vs := idC (idOf b)) rfl rfl hq1 (by rw [idC_size, idC_size]) (by rw [idC_size]; exact info42) (idL_one _) ?_; intro w4 hq4 hk4 hz4))
    refine bodyPost_ret (v := idV (idOf b)) (results_cell rfl _ _ rfl (run_loadVar_cells w4 _ (idC (idOf b)) Tryz.underlying29 rfl (by rw [idC_size]; exact info42) (fun j v hj => by rw [add_at, hq4.cell, ← hj]; simp))) rfl ⟨rfl, ?_⟩
    exact Keep.all (hkw.then_ hk4 (by unfold Only; intro i hi q; omega))
end Go.Proofs.YtmlmbkelpjmafaaGreat
namespace Go.Proofs.YtmlmbkelpjmafaaGreat
open Go.RowKit
def shaK : List UInt32 := [1116352408, 1899447441, 3049323471, 3921009573, 961987163, 1508970993, 2453635748, 2870763221, 3624381080, 310598401, 607225278, 1426881987, 1925078388, 2162078206, 2614888103, 3248222580, 3835390401, 4022224774, 264347078, 604807628, 770255983, 1249150122, 1555081692, 1996064986, 2554220882, 2821834349, 2952996808, 3210313671, 3336571891, 3584528711, 113926993, 338241895, 666307205, 773529912, 1294757372, 1396182291, 1695183700, 1986661051, 2177026350, 2456956037, 2730485921, 2820302411, 3259730800, 3345764771, 3516065817, 3600352804, 4094571909, 275423344, 430227734, 506948616, 659060556, 883997877, 958139571, 1322822218, 1537002063, 1747873779, 1955562222, 2024104815, 2227730452, 2361852424, 2428436474, 2756734187, 3204031479, 3329325298]
def wv (x : UInt32) : Value := .int .u32 (x.toNat : Int)
def u32L (l : List UInt32) : List Value := l.map wv
def kParts : Array (Nat × Value) := #[(0, .int .u32 1116352408), (1, .int .u32 1899447441), (2, .int .u32 3049323471), (3, .int .u32 3921009573), (4, .int .u32 961987163), (5, .int .u32 1508970993), (6, .int .u32 2453635748), (7, .int .u32 2870763221), (8, .int .u32 3624381080), (9, .int .u32 310598401), (10, .int .u32 607225278), (11, .int .u32 1426881987), (12, .int .u32 1925078388), (13, .int .u32 2162078206), (14, .int .u32 2614888103), (15, .int .u32 3248222580), (16, .int .u32 3835390401), (17, .int .u32 4022224774), (18, .int .u32 264347078), (19, .int .u32 604807628), (20, .int .u32 770255983), (21, .int .u32 1249150122), (22, .int .u32 1555081692), (23, .int .u32 1996064986), (24, .int .u32 2554220882), (25, .int .u32 2821834349), (26, .int .u32 2952996808), (27, .int .u32 3210313671), (28, .int .u32 3336571891), (29, .int .u32 3584528711), (30, .int .u32 113926993), (31, .int .u32 338241895), (32, .int .u32 666307205), (33, .int .u32 773529912), (34, .int .u32 1294757372), (35, .int .u32 1396182291), (36, .int .u32 1695183700), (37, .int .u32 1986661051), (38, .int .u32 2177026350), (39, .int .u32 2456956037), (40, .int .u32 2730485921), (41, .int .u32 2820302411), (42, .int .u32 3259730800), (43, .int .u32 3345764771), (44, .int .u32 3516065817), (45, .int .u32 3600352804), (46, .int .u32 4094571909), (47, .int .u32 275423344), (48, .int .u32 430227734), (49, .int .u32 506948616), (50, .int .u32 659060556), (51, .int .u32 883997877), (52, .int .u32 958139571), (53, .int .u32 1322822218), (54, .int .u32 1537002063), (55, .int .u32 1747873779), (56, .int .u32 1955562222), (57, .int .u32 2024104815), (58, .int .u32 2227730452), (59, .int .u32 2361852424), (60, .int .u32 2428436474), (61, .int .u32 2756734187), (62, .int .u32 3204031479), (63, .int .u32 3329325298)]
def hParts : Array (Nat × Value) := #[(0, .int .u32 1779033703), (1, .int .u32 3144134277), (2, .int .u32 1013904242), (3, .int .u32 2773480762), (4, .int .u32 1359893119), (5, .int .u32 2600822924), (6, .int .u32 528734635), (7, .int .u32 1541459225)]
theorem shaK_len : shaK.length = 64 := rfl
end Go.Proofs.YtmlmbkelpjmafaaGreat
namespace Go.Proofs.YtmlmbkelpjmafaaGreat
open Go.RowKit
def addU (a b : UInt32) : UInt32 := a + b
def xorU (a b : UInt32) : UInt32 := a ^^^ b
def andU (a b : UInt32) : UInt32 := a &&& b
def notU (a : UInt32) : UInt32 := xorU 4294967295 a
def shr3 (a : UInt32) : UInt32 := a >>> 3
def shr10 (a : UInt32) : UInt32 := a >>> 10
def rotU (a : UInt32) (n : Nat) : UInt32 := (a >>> UInt32.ofNat n) ||| (a <<< UInt32.ofNat (32 - n))
def word4 (a b c d : UInt8) : UInt32 := ((a.toUInt32 <<< 24 ||| b.toUInt32 <<< 16) ||| c.toUInt32 <<< 8) ||| d.toUInt32
theorem u32_lt (a : UInt32) : a.toNat < 4294967296 := a.toNat_lt
theorem add_u32 (a b : UInt32) : IntKind.u32.wrap ((a.toNat : Int) + (b.toNat : Int)) = ((addU a b).toNat : Int) := by
 rw [IntKind.wrap_u32']
 unfold addU
 rw [UInt32.toNat_add]
 omega
theorem xor_u32 (a b : UInt32) : bits .xor .u32 (a.toNat : Int) (b.toNat : Int) = ((xorU a b).toNat : Int) := by
 rw [u32_xor_nat _ _ (u32_lt a) (u32_lt b)]
 unfold xorU
 rw [UInt32.toNat_xor]
theorem and_u32 (a b : UInt32) : bits .and .u32 (a.toNat : Int) (b.toNat : Int) = ((andU a b).toNat : Int) := by
 rw [u32_and_nat _ _ (u32_lt a) (u32_lt b)]
 unfold andU
 rw [UInt32.toNat_and]
theorem not_u32 (a : UInt32) : bits .xor .u32 IntKind.u32.max (a.toNat : Int) = ((notU a).toNat : Int) := xor_u32 4294967295 a
theorem shr3_u32 (a : UInt32) : (a.toNat : Int) / 8 = ((shr3 a).toNat : Int) := by
 unfold shr3
 rw [UInt32.toNat_shiftRight]
 simp [Nat.shiftRight_eq_div_pow]
theorem shr10_u32 (a : UInt32) : (a.toNat : Int) / 1024 = ((shr10 a).toNat : Int) := by
 unfold shr10
 rw [UInt32.toNat_shiftRight]
 simp [Nat.shiftRight_eq_div_pow]
theorem rot_u32 (a : UInt32) (n : Nat) (hn : 1 ≤ n) (hn' : n ≤ 31) : bits .or .u32 ((a.toNat : Int) / (2 ^ n : Nat)) ((a.toNat : Int) * (2 ^ (32 - n) : Nat) % 4294967296) = ((rotU a n).toNat : Int) := by
 have h1 : (a.toNat : Int) / (2 ^ n : Nat) = ((a.toNat / 2 ^ n : Nat) : Int) := by omega
 have h2 : (a.toNat : Int) * (2 ^ (32 - n) : Nat) % 4294967296 = ((a.toNat * 2 ^ (32 - n) % 4294967296 : Nat) : Int) := by omega
 rw [h1, h2, u32_or_nat _ _ (Nat.lt_of_le_of_lt (Nat.div_le_self _ _) (u32_lt a)) (Nat.mod_lt _ (by omega))]
 unfold rotU
 rw [UInt32.toNat_or, UInt32.toNat_shiftRight, UInt32.toNat_shiftLeft]
 simp only [UInt32.toNat_ofNat', Nat.shiftRight_eq_div_pow, Nat.shiftLeft_eq]
 rw [Nat.mod_eq_of_lt (a := n) (by omega), Nat.mod_eq_of_lt (a := n) (by omega), Nat.mod_eq_of_lt (a := 32 - n) (by omega), Nat.mod_eq_of_lt (a := 32 - n) (by omega)]
theorem or_comm32 (x y : Int) : bits .or .u32 x y = bits .or .u32 y x := by
 show IntKind.u32.wrap ((BitVec.ofInt 32 x ||| BitVec.ofInt 32 y).toNat : Int) = IntKind.u32.wrap ((BitVec.ofInt 32 y ||| BitVec.ofInt 32 x).toNat : Int)
 rw [BitVec.or_comm]
def Turns (n : Nat) : Prop := n = 2 ∨ n = 6 ∨ n = 7 ∨ n = 11 ∨ n = 13 ∨ n = 17 ∨ n = 18 ∨ n = 19 ∨ n = 22 ∨ n = 25
theorem nwrap (n : Nat) (h : Turns n) : bits .and .u64 (IntKind.u64.wrap (-(n : Int))) 31 = ((32 - n : Nat) : Int) := by
 rcases h with rfl | rfl | rfl | rfl | rfl | rfl | rfl | rfl | rfl | rfl <;> decide +kernel
set_option maxHeartbeats 1000000 in
theorem turn_any (x : UInt32) (n : Nat) (hn : Turns n) (w : World) :
    Calls Tryz.prog 58 #[.int .u32 (x.toNat : Int), .int .i64 (n : Int)] w fun r w' => r = .returned (.int .u32 ((rotU x n).toNat : Int)) ∧ w = w' := by
 have hs := nwrap n hn
 have hr := rot_u32 x n (by unfold Turns at hn; omega) (by unfold Turns at hn; omega)
 rw [or_comm32] at hr
 have h1 := u32_lt x
 rcases hn with rfl | rfl | rfl | rfl | rfl | rfl | rfl | rfl | rfl | rfl
 all_goals
  simp at hs hr
  generalize rotU x _ = z at *
  generalize x.toNat = y at *
  go_enter Tryz.func58, Tryz.ntmps58
  go_wp2
  go_ret
  exact ⟨rfl, rfl⟩
set_option maxHeartbeats 1000000 in
theorem rturn_any (x : UInt32) (n : Nat) (hn : Turns n) (w : World) :
    Calls Tryz.prog 18 #[.int .u32 (x.toNat : Int), .int .i64 (n : Int)] w fun r w' => r = .returned (.int .u32 ((rotU x n).toNat : Int)) ∧ ∃ k, w' = w.drewN k := by
 have hr := rot_u32 x n (by unfold Turns at hn; omega) (by unfold Turns at hn; omega)
 have h1 := u32_lt x
 rcases hn with rfl | rfl | rfl | rfl | rfl | rfl | rfl | rfl | rfl | rfl
 all_goals
  simp at hr
  generalize rotU x _ = z at *
  generalize x.toNat = y at *
  go_enter Tryz.func18, Tryz.ntmps18
  go_wp2_with fail
  go_quiet (fail)
  go_wp2
  go_ret
  exact ⟨rfl, _, rfl⟩
theorem word_u32 (a b c d : UInt8) : bits .or .u32 (bits .or .u32 (bits .or .u32 ((a.toNat : Int) * 16777216) ((b.toNat : Int) * 65536)) ((c.toNat : Int) * 256)) (d.toNat : Int) = ((word4 a b c d).toNat : Int) := by
 have ha := a.toNat_lt
 have hb := b.toNat_lt
 have hc := c.toNat_lt
 have hd := d.toNat_lt
 have e1 : (a.toNat : Int) * 16777216 = ((a.toNat * 16777216 : Nat) : Int) := by omega
 have e2 : (b.toNat : Int) * 65536 = ((b.toNat * 65536 : Nat) : Int) := by omega
 have e3 : (c.toNat : Int) * 256 = ((c.toNat * 256 : Nat) : Int) := by omega
 have l1 : a.toNat * 16777216 ||| b.toNat * 65536 < 2 ^ 32 := Nat.or_lt_two_pow (by omega) (by omega)
 have l2 : (a.toNat * 16777216 ||| b.toNat * 65536) ||| c.toNat * 256 < 2 ^ 32 := Nat.or_lt_two_pow l1 (by omega)
 rw [e1, e2, e3, u32_or_nat _ _ (by omega) (by omega), u32_or_nat _ _ (by omega) (by omega), u32_or_nat _ _ (by omega) (by omega)]
 unfold word4
 simp only [UInt32.toNat_or, UInt32.toNat_shiftLeft, UInt8.toNat_toUInt32, Nat.shiftLeft_eq]
 rw [show (24 : UInt32).toNat % 32 = 24 from rfl, show (16 : UInt32).toNat % 32 = 16 from rfl, show (8 : UInt32).toNat % 32 = 8 from rfl]
 rw [Nat.mod_eq_of_lt (by omega), Nat.mod_eq_of_lt (by omega), Nat.mod_eq_of_lt (by omega)]
set_option maxHeartbeats 1000000 in
theorem word_any (b0 b1 b2 b3 : UInt8) (g off n c : Nat) (w : World) (h0 : w.cell? ⟨g, off, none⟩ = some (bv b0)) (h1 : w.cell? ⟨g, off + 1, none⟩ = some (bv b1)) (h2 : w.cell? ⟨g, off + 2, none⟩ = some (bv b2)) (h3 : w.cell? ⟨g, off + 3, none⟩ = some (bv b3)) (hn : 4 ≤ n) :
    Calls Tryz.prog 57 #[.slice (some ⟨g, off, none⟩) n c] w fun r w' => r = .returned (.int .u32 ((word4 b0 b1 b2 b3).toNat : Int)) ∧ ∃ k, w' = w.drewN k := by
 have hw := word_u32 b0 b1 b2 b3
 unfold bv at h0 h1 h2 h3
 have x0 := b0.toNat_lt
 have x1 := b1.toNat_lt
 have x2 := b2.toNat_lt
 have x3 := b3.toNat_lt
 generalize word4 b0 b1 b2 b3 = z at *
 generalize b0.toNat = y0 at *
 generalize b1.toNat = y1 at *
 generalize b2.toNat = y2 at *
 generalize b3.toNat = y3 at *
 go_enter Tryz.func57, Tryz.ntmps57
 go_wp2_with fail
 go_quiet (fail)
 go_wp2
 go_ret
 exact ⟨rfl, _, rfl⟩
def kC : Array Value := (u32L shaK).toArray
theorem kC_size : kC.size = 64 := by simp [kC, u32L, shaK_len]
theorem build_k (w : World) : (Instr.build 71 kParts).run Tryz.prog w = .ok (.agg kC) w := by kernel_rfl
def zeroW : List UInt32 := List.replicate 64 0
theorem zero_w (w : World) : (zeroValue 71).run Tryz.prog w = .ok (.agg (u32L zeroW).toArray) w := by kernel_rfl
theorem info_w : (Tryz.prog.info? 71).map (·.size) = some 64 := by kernel_rfl
theorem u32_one (l : List UInt32) : ∀ v ∈ u32L l, v.oneCell' = true := by
 intro v hv
 obtain ⟨x, _, rfl⟩ := List.mem_map.1 hv
 rfl
theorem u32L_len (l : List UInt32) : (u32L l).length = l.length := by simp [u32L]
set_option maxHeartbeats 1000000 in
set_option maxRecDepth 100000 in
theorem rounds_any (w : World) : Calls Tryz.prog 59 #[] w fun r w' => r = .returned (.agg kC) ∧ Keep Nothing w w' := by
 go_enter Tryz.func59, Tryz.ntmps59
 go_wp2_with (first | (refine wpList_allocAgg rfl rfl (zero_w _) ?_) | (refine wpList_built rfl rfl (vs := kParts) rfl (build_k _) ?_) | (refine wpList_storeBlk rfl rfl (vs := kC) rfl rfl (Blk.new _ _ _) (by rw [kC_size]; simp [u32L, zeroW]) (by rw [kC_size]; exact info_w) (by simpa [kC] using u32_one shaK) ?_; intro w2 hb2 hk2 hz2))
 refine bodyPost_ret (v := .agg kC) (results_cell rfl _ _ rfl (run_loadVar_cells w2 _ kC Tryz.underlying71 rfl (by rw [kC_size]; exact info_w) (fun j v hj => by rw [add_at, hb2.cell, ← hj]; simp))) rfl ⟨rfl, ?_⟩
 exact Keep.ofNew hk2
end Go.Proofs.YtmlmbkelpjmafaaGreat
