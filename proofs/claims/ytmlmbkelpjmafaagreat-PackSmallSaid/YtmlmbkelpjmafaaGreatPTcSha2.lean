/- Contract of sum's block: a block of 64 bytes worked into the state. No statement of the seat is proved here. -/
import Derived.Test.YtmlmbkelpjmafaaGreatPT04
import Derived.Deep.LoopGhost
import Derived.Test.YtmlmbkelpjmafaaGreatPT10
namespace Go.Proofs.YtmlmbkelpjmafaaGreat
open Go.RowKit
structure St where
 a : UInt32
 b : UInt32
 c : UInt32
 d : UInt32
 e : UInt32
 f : UInt32
 g : UInt32
 h : UInt32
def stU (s : St) : List UInt32 := [s.a, s.b, s.c, s.d, s.e, s.f, s.g, s.h]
def sg0 (x : UInt32) : UInt32 := xorU (xorU (rotU x 7) (rotU x 18)) (shr3 x)
def sg1 (x : UInt32) : UInt32 := xorU (xorU (rotU x 17) (rotU x 19)) (shr10 x)
def newW (l : List UInt32) (i : Nat) : UInt32 := addU (addU (addU (l.getD (i - 16) 0) (sg0 (l.getD (i - 15) 0))) (l.getD (i - 7) 0)) (sg1 (l.getD (i - 2) 0))
def words (b : List UInt8) : Nat → List UInt32
 | 0 => []
 | k + 1 => words b k ++ [if k < 16 then word4 (b.getD (4 * k) 0) (b.getD (4 * k + 1) 0) (b.getD (4 * k + 2) 0) (b.getD (4 * k + 3) 0) else newW (words b k) k]
theorem words_len (b : List UInt8) : ∀ k, (words b k).length = k
 | 0 => rfl
 | k + 1 => by rw [words, List.length_append, words_len b k]; rfl
def one_ (s : St) (k w : UInt32) : UInt32 := addU (addU (addU (addU s.h (xorU (xorU (rotU s.e 6) (rotU s.e 11)) (rotU s.e 25))) (xorU (andU s.e s.f) (andU (notU s.e) s.g))) k) w
def sig_ (s : St) : UInt32 := xorU (xorU (rotU s.a 2) (rotU s.a 13)) (rotU s.a 22)
def maj_ (s : St) : UInt32 := xorU (xorU (andU s.a s.b) (andU s.a s.c)) (andU s.b s.c)
def rnd (s : St) (k w : UInt32) : St := ⟨addU (one_ s k w) (addU (sig_ s) (maj_ s)), s.a, s.b, s.c, addU s.d (one_ s k w), s.e, s.f, s.g⟩
def rnds (s : St) (ws : List UInt32) : Nat → St
 | 0 => s
 | k + 1 => rnd (rnds s ws k) (shaK.getD k 0) (ws.getD k 0)
def addSt (s t : St) : St := ⟨addU s.a t.a, addU s.b t.b, addU s.c t.c, addU s.d t.d, addU s.e t.e, addU s.f t.f, addU s.g t.g, addU s.h t.h⟩
def compress (s : St) (b : List UInt8) : St := addSt s (rnds s (words b 64) 64)
def hashL (s : St) (wt : List UInt8) (n all : Int) : List Value := u32L (stU s) ++ wt.map bv ++ [.int .i64 n, .int .u64 all]
def hashC (s : St) (wt : List UInt8) (n all : Int) : Array Value := (hashL s wt n all).toArray
theorem stU_len (s : St) : (u32L (stU s)).length = 8 := rfl
theorem hashL_len (s : St) (wt : List UInt8) (n all : Int) (h : wt.length = 64) : (hashL s wt n all).length = 74 := by simp [hashL, stU_len, h]
theorem hashC_size (s : St) (wt : List UInt8) (n all : Int) (h : wt.length = 64) : (hashC s wt n all).size = 74 := by simp [hashC, hashL_len _ _ _ _ h]
theorem hashC_wait {s : St} {wt : List UInt8} {n all : Int} (h : wt.length = 64) (i : Nat) (hi : i < 64) : (hashC s wt n all)[8 + i]? = some (bv (wt.getD i 0)) := by
 have : i < wt.length := by omega
 unfold hashC hashL
 rw [List.getElem?_toArray, List.append_assoc, List.getElem?_append_right (by rw [stU_len]; omega), stU_len, Nat.add_sub_cancel_left, List.getElem?_append_left (by simpa using this)]
 simp [this]
theorem hashC_n {s : St} {wt : List UInt8} {n all : Int} (h : wt.length = 64) : (hashC s wt n all)[72]? = some (.int .i64 n) ∧ (hashC s wt n all)[73]? = some (.int .u64 all) := by
 unfold hashC hashL
 constructor
 all_goals
  rw [List.getElem?_toArray, List.append_assoc, List.getElem?_append_right (by rw [stU_len]; omega), stU_len, List.getElem?_append_right (by simp [h])]
  simp [h]
theorem hashC_setn {s : St} {wt : List UInt8} {n all : Int} (h : wt.length = 64) (n' : Int) : (hashC s wt n all).setIfInBounds 72 (.int .i64 n') = hashC s wt n' all := by
 apply Array.ext'
 simp only [hashC, hashL, Array.toList_setIfInBounds]
 rw [List.append_assoc, List.append_assoc, List.set_append_right _ _ (by rw [stU_len]; omega), stU_len, List.set_append_right _ _ (by simp [h])]
 simp [h]
theorem hashC_seta {s : St} {wt : List UInt8} {n all : Int} (h : wt.length = 64) (n' : Int) : (hashC s wt n all).setIfInBounds 73 (.int .u64 n') = hashC s wt n n' := by
 apply Array.ext'
 simp only [hashC, hashL, Array.toList_setIfInBounds]
 rw [List.append_assoc, List.append_assoc, List.set_append_right _ _ (by rw [stU_len]; omega), stU_len, List.set_append_right _ _ (by simp [h])]
 simp [h]
theorem row_set (l : List UInt32) (r : UInt32) (rest : List UInt32) (x : UInt32) : (u32L (l ++ r :: rest)).toArray.setIfInBounds l.length (wv x) = (u32L ((l ++ [x]) ++ rest)).toArray := by
 apply Array.ext'
 simp [u32L]
theorem row_get (l rest : List UInt32) (i : Nat) (hi : i < l.length) : (u32L (l ++ rest)).toArray[i]? = some (.int .u32 ((l.getD i 0).toNat : Int)) := by
 simp [u32L, List.getElem?_append_left, hi, wv]
theorem row_at (l : List UInt32) (r : UInt32) (rest : List UInt32) : (u32L (l ++ r :: rest)).toArray[l.length]? = some (wv r) := by
 simp [u32L]
theorem row_at' (l : List UInt32) (r : UInt32) (rest : List UInt32) (k : Nat) (h : l.length = k) : (u32L (l ++ r :: rest)).toArray[k]? = some (wv r) := by subst h; exact row_at l r rest
theorem row_set' (l : List UInt32) (r : UInt32) (rest : List UInt32) (x : UInt32) (k : Nat) (h : l.length = k) : (u32L (l ++ r :: rest)).toArray.setIfInBounds k (.int .u32 (x.toNat : Int)) = (u32L ((l ++ [x]) ++ rest)).toArray := by subst h; exact row_set l r rest x
theorem elem_wait : Tryz.prog.elem 101 = 5 := by kernel_rfl
theorem len_wait : Tryz.prog.arrayLen 101 = 64 := by kernel_rfl
theorem under_wait : Tryz.prog.underlying 101 = some (.array (Tryz.prog.arrayLen 101) (Tryz.prog.elem 101)) := by kernel_rfl
theorem size_u8 (w : World) : (sizeOf 5).run Tryz.prog w = .ok 1 w := by kernel_rfl
theorem slice64 (w : World) (g off lo : Nat) (h : lo < 64) (z : Int) (hz : z = (lo : Int)) : (Instr.sliceAt 101 (.pointer (some ⟨g, off, none⟩)) (some (.int .i64 z)) none none).run Tryz.prog w = .ok (.slice (some ⟨g, off + lo, none⟩) (64 - lo) (64 - lo)) w := by
 subst hz
 rw [run_sliceAt_array_l w 101 _ under_wait .i64 (lo : Int) (by omega) (by rw [len_wait]; omega), elem_wait, size_u8, len_wait]
 simp only [Result.andThen_ok, slicedAt, Int.toNat_natCast, Nat.mul_one, add_at]
 rw [if_neg (by omega)]
theorem turn_st (x : UInt32) (n : Nat) (z : Int) (hz : z = (n : Int)) (hn : Turns n) (w : World) :
    Calls Tryz.prog 58 #[.int .u32 (x.toNat : Int), .int .i64 z] w fun r w' => r = .returned (.int .u32 ((rotU x n).toNat : Int)) ∧ w' = w := by
 subst hz
 exact (turn_any x n hn w).mono fun _ _ h => ⟨h.1, h.2.symm⟩
theorem turns_all : Turns 2 ∧ Turns 6 ∧ Turns 7 ∧ Turns 11 ∧ Turns 13 ∧ Turns 17 ∧ Turns 18 ∧ Turns 19 ∧ Turns 22 ∧ Turns 25 := by unfold Turns; omega
def stC (s : St) : Array Value := (u32L (stU s)).toArray
theorem info_st : (Tryz.prog.info? 72).map (·.size) = some 8 := by kernel_rfl
def st0 : St := ⟨0, 0, 0, 0, 0, 0, 0, 0⟩
theorem zero_st (w : World) : (zeroValue 72).run Tryz.prog w = .ok (.agg (stC st0)) w := by kernel_rfl
theorem st_one (s : St) : ∀ v ∈ (stC s).toList, v.oneCell' = true := u32_one _
theorem load_st {w : World} {g : Nat} {t : TypeId} {s : St} {wt : List UInt8} {n all : Int} (h : Blk w g t (hashC s wt n all)) (_hw : wt.length = 64) : (Instr.loadAt 72 (.pointer (some ⟨g, 0, none⟩))).run Tryz.prog w = .ok (.agg (stC s)) w :=
 run_loadAt_blk (P := Tryz.prog) h 0 (stC s) Tryz.underlying72 rfl info_st (by
  apply Array.ext'
  simp [hashC, hashL, stC, u32L, stU])
theorem index_arr (w : World) (t : TypeId) (n : Nat) (cs : Array Value) (i : Nat) (hi : i < n) (h : Tryz.prog.underlying t = some (.array n 56)) (v : Value) (hv : cs[i]? = some v) : (Instr.index t (.agg cs) (.int .i64 (i : Int))).run Tryz.prog w = .ok v w := by
 have h0 : (0 : Int) ≤ (i : Int) ∧ (i : Int) < (n : Int) := by omega
 have hp := run_part_one (P := Tryz.prog) w Tryz.underlying56 rfl cs i v hv
 simp [Instr.index, run_underlying h, asIntOf, hp]
 exact fun q => absurd q (by omega)
theorem kC_at (k : Nat) (hk : k < 64) : kC[k]? = some (.int .u32 ((shaK.getD k 0).toNat : Int)) := by
 have hk' : k < shaK.length := by rw [shaK_len]; exact hk
 simp [kC, u32L, wv, List.getElem?_eq_getElem hk']
theorem index_k (w : World) (k : Nat) (hk : k < 64) : (Instr.index 71 (.agg kC) (.int .i64 (k : Int))).run Tryz.prog w = .ok (.int .u32 ((shaK.getD k 0).toNat : Int)) w :=
 index_arr w _ 64 kC k hk Tryz.underlying71 _ (kC_at k hk)
def hashW (L : List UInt32) (wt : List UInt8) (n all : Int) : Array Value := (u32L L ++ wt.map bv ++ [Value.int .i64 n, Value.int .u64 all]).toArray
theorem hashW_at {L : List UInt32} {wt : List UInt8} {n all : Int} (k : Nat) (hk : k < L.length) : (hashW L wt n all)[k]? = some (.int .u32 ((L.getD k 0).toNat : Int)) := by
 unfold hashW
 rw [List.getElem?_toArray, List.append_assoc, List.getElem?_append_left (by rw [u32L_len]; exact hk)]
 simp [u32L, wv, List.getElem?_eq_getElem hk]
theorem hashW_set {L : List UInt32} {wt : List UInt8} {n all : Int} (k : Nat) (hk : k < L.length) (x : UInt32) : (hashW L wt n all).setIfInBounds k (.int .u32 (x.toNat : Int)) = hashW (L.set k x) wt n all := by
 apply Array.ext'
 simp only [hashW, Array.toList_setIfInBounds]
 rw [List.append_assoc, List.append_assoc, List.set_append_left _ _ (by rw [u32L_len]; exact hk)]
 simp [u32L, wv, List.map_set]
theorem mix_next (Z S : List UInt32) (k : Nat) (hz : Z.length = 8) (hs : S.length = 8) (hk : k < 8) : (Z.take k ++ S.drop k).set k (Z.getD k 0) = Z.take (k + 1) ++ S.drop (k + 1) := by
 have hl : (Z.take k).length = k := by rw [List.length_take]; omega
 have hk' : k < Z.length := by omega
 rw [List.set_append_right _ _ (by omega), hl, Nat.sub_self, List.drop_eq_getElem_cons (by omega), List.set_cons_zero, List.take_succ_eq_append_getElem hk', List.append_assoc]
 simp [List.getElem?_eq_getElem hk']
theorem mix_at (Z S : List UInt32) (k : Nat) (hz : Z.length = 8) (_hs : S.length = 8) (hk : k < 8) : (Z.take k ++ S.drop k).getD k 0 = S.getD k 0 := by
 have hl : (Z.take k).length = k := by rw [List.length_take]; omega
 simp [List.getElem?_append_right, hl]
theorem addSt_at (s t : St) (k : Nat) (hk : k < 8) : (stU (addSt s t)).getD k 0 = addU ((stU s).getD k 0) ((stU t).getD k 0) := by
 match k, hk with
 | 0, _ | 1, _ | 2, _ | 3, _ | 4, _ | 5, _ | 6, _ | 7, _ => rfl
theorem index_st (w : World) (s : St) (k : Nat) (hk : k < 8) : (Instr.index 72 (.agg (stC s)) (.int .i64 (k : Int))).run Tryz.prog w = .ok (.int .u32 (((stU s).getD k 0).toNat : Int)) w :=
 index_arr w _ 8 (stC s) k hk Tryz.underlying72 _ (by
  match k, hk with
  | 0, _ | 1, _ | 2, _ | 3, _ | 4, _ | 5, _ | 6, _ | 7, _ => rfl)
theorem load_stC {w : World} {g : Nat} {t : TypeId} {s : St} (h : Blk w g t (stC s)) : (Instr.loadAt 72 (.pointer (some ⟨g, 0, none⟩))).run Tryz.prog w = .ok (.agg (stC s)) w :=
 run_loadAt_blk (P := Tryz.prog) h 0 (stC s) Tryz.underlying72 rfl info_st (by simp)
structure RoundsOf (s : St) (ws : List UInt32) (R : Nat → St) : Prop where
 zero : R 0 = s
 next : ∀ k, R (k + 1) = rnd (R k) (shaK.getD k 0) (ws.getD k 0)
 all : rnds s ws 64 = R 64
theorem rounds_of (s : St) (ws : List UInt32) : ∃ R, RoundsOf s ws R := ⟨rnds s ws, rfl, fun _ => rfl, rfl⟩
theorem build_st (a b c d e f g h : UInt32) (w : World) : (Instr.build 72 #[(0, .int .u32 (a.toNat : Int)), (1, .int .u32 (b.toNat : Int)), (2, .int .u32 (c.toNat : Int)), (3, .int .u32 (d.toNat : Int)), (4, .int .u32 (e.toNat : Int)), (5, .int .u32 (f.toNat : Int)), (6, .int .u32 (g.toNat : Int)), (7, .int .u32 (h.toNat : Int))]).run Tryz.prog w = .ok (.agg (stC ⟨a, b, c, d, e, f, g, h⟩)) w := by kernel_rfl
structure WordsOf (b : List UInt8) (W : Nat → List UInt32) : Prop where
 len : ∀ k, (W k).length = k
 zero : W 0 = []
 low : ∀ k, k < 16 → W (k + 1) = W k ++ [word4 (b.getD (4 * k) 0) (b.getD (4 * k + 1) 0) (b.getD (4 * k + 2) 0) (b.getD (4 * k + 3) 0)]
 high : ∀ m, W (m + 16 + 1) = W (m + 16) ++ [addU (addU (addU ((W (m + 16)).getD m 0) (sg0 ((W (m + 16)).getD (m + 1) 0))) ((W (m + 16)).getD (m + 9) 0)) (sg1 ((W (m + 16)).getD (m + 14) 0))]
 all : words b 64 = W 64
theorem words_of (b : List UInt8) : ∃ W, WordsOf b W :=
 ⟨words b, words_len b, rfl, fun k h => by rw [words, if_pos h], fun m => by rw [words, if_neg (by omega)]; rfl, rfl⟩
set_option maxHeartbeats 4000000 in
set_option maxRecDepth 100000 in
theorem block_any (s : St) (wt : List UInt8) (n all : Int) (hwt : wt.length = 64) (g : Nat) (w : World) (hb : Blk w g 103 (hashC s wt n all)) :
    Calls Tryz.prog 40 #[.pointer (some ⟨g, 0, none⟩)] w fun r w' => r = .returned (.tuple #[]) ∧ Blk w' g 103 (hashC (compress s wt) wt 0 all) ∧ Keep (Only g) w w' := by
 have lg := hb.lt
 have HWT := Lib.hid hwt
 clear hwt
 obtain ⟨WS, hWS⟩ := words_of wt
 obtain ⟨CS, hCS⟩ : ∃ CS, addSt s (rnds s (WS 64) 64) = CS := ⟨_, rfl⟩
 have HCC := Lib.hid (show compress s wt = CS from by unfold compress; rw [hWS.all, hCS])
 have HCS := Lib.hid hCS
 rw [HCC.out]
 clear hCS HCC
 obtain ⟨ZW, hZW⟩ : ∃ ZW, zeroW = ZW := ⟨_, rfl⟩
 have hzl : ZW.length = 64 := by rw [← hZW]; simp [zeroW]
 have hzw := fun W => zero_w W
 rw [hZW] at hzw
 have HZ := Lib.hid hzw
 have HZL := Lib.hid hzl
 clear hZW hzw hzl
 have p0 : Blk (w.alloc (.cells (u32L ZW).toArray 71)) w.heap.size 71 (u32L ZW).toArray := Blk.new _ _ _
 have k0 : Keep (Only g) w (w.alloc (.cells (u32L ZW).toArray 71)) := (Keep.refl _ _).alloc _
 have b0 := hb.alloc (.cells (u32L ZW).toArray 71)
 go_enter Tryz.func40, Tryz.ntmps40
 go_wp2_with (first | (refine wpList_allocAgg rfl rfl (HZ.out _) ?_))
 generalize w.alloc (.cells (u32L ZW).toArray 71) = w0 at *
 generalize hp : w.heap.size = p at *
 have HP := Lib.hid hp
 have hpl : w.heap.size ≤ p := by omega
 clear hp hb
 go_loopw [14] (fun i wr => ∃ k rest, k ≤ 16 ∧ i = .int .i64 (k : Nat) ∧ Blk wr p 71 (u32L (WS k ++ rest)).toArray ∧ rest.length = 64 - k ∧ Blk wr g 103 (hashC s wt n all) ∧ Keep (Only g) w wr) (fun i _ => 16 - (intOf i).toNat)
 case atStart => exact ⟨0, ZW, by omega, rfl, by rw [hWS.zero]; exact p0, HZL.out, b0, k0⟩
 case round =>
  clear p0 k0 b0
  obtain ⟨k, rest, hk, rfl, hpb, hrl, hgb, hkw⟩ := hrel
  have HRL := Lib.hid hrl
  have hrp : 0 < rest.length := by omega
  clear hrl
  by_cases hlt : k < 16
  · obtain ⟨r0, rest, rfl⟩ : ∃ r0 r1, rest = r0 :: r1 := by cases rest with | nil => simp at hrp | cons a b => exact ⟨a, b, rfl⟩
    have hw4 := fun W (h : Blk W g 103 (hashC s wt n all)) c => word_any (wt.getD (4 * k) 0) (wt.getD (4 * k + 1) 0) (wt.getD (4 * k + 2) 0) (wt.getD (4 * k + 3) 0) g (8 + 4 * k) (64 - 4 * k) c W
     ((h.cell (8 + 4 * k)).trans (hashC_wait HWT.out (4 * k) (by omega)))
     (by rw [Nat.add_assoc]; exact (h.cell (8 + (4 * k + 1))).trans (hashC_wait HWT.out (4 * k + 1) (by omega)))
     (by rw [Nat.add_assoc]; exact (h.cell (8 + (4 * k + 2))).trans (hashC_wait HWT.out (4 * k + 2) (by omega)))
     (by rw [Nat.add_assoc]; exact (h.cell (8 + (4 * k + 3))).trans (hashC_wait HWT.out (4 * k + 3) (by omega))) (by omega)
    have hset := fun x => row_set' (WS k) r0 rest x k (hWS.len k)
    have hlow := hWS.low k hlt
    generalize word4 (wt.getD (4 * k) 0) (wt.getD (4 * k + 1) 0) (wt.getD (4 * k + 2) 0) (wt.getD (4 * k + 3) 0) = x at *
    have hset' := hset x
    rw [← hlow] at hset'
    have HST := Lib.hid hset'
    have HW4 := Lib.hid hw4
    have hsl := fun W => slice64 W g 8 (4 * k) (by omega) (4 * (k : Int)) (by omega)
    clear hw4 hrp hset hset' hlow
    go_wp2_with fail
    refine (HW4.out _ hgb _).mono ?_
    rintro r w2 ⟨rfl, nn, rfl⟩
    have hpb2 := hpb.drewN nn
    have hgb2 := hgb.drewN nn
    have hkw2 := hkw.drewN nn
    generalize wr.drewN nn = w2 at *
    clear hsl HW4 hpb hgb hkw
    have c1 := (hpb2.cell k).trans (row_at' (WS k) r0 rest k (hWS.len k))
    have f1 := hpb2.frozen k
    go_wp2_with fail
    go_roundw
    case rel =>
     refine ⟨k + 1, rest, by omega, by go_num, ?_, by have := HRL.out; simp at this; omega, hgb2.far (p := ⟨p, k, none⟩) (by simp; omega) _, hkw2.setCell (p := ⟨p, k, none⟩) (.inr (by simp; omega)) _⟩
     rw [← HST.out]
     exact hpb2.set_ k _
    case measure => simp [intOf]; omega
  · obtain rfl : k = 16 := by omega
    clear hlt hrp
    go_wp2_with fail
    go_loopg [4] 48 (fun f i wr => ∃ m rest, m + f = 48 ∧ i = .int .i64 ((m : Nat) + 16 : Int) ∧ Blk wr p 71 (u32L (WS (m + 16) ++ rest)).toArray ∧ rest.length = 48 - m ∧ Blk wr g 103 (hashC s wt n all) ∧ Keep (Only g) w wr)
    case atStart => exact ⟨0, rest, by omega, rfl, hpb, by rw [HRL.out], hgb, hkw⟩
    case round =>
     clear hpb HRL hgb hkw
     obtain ⟨m, rest, hm, rfl, hpb, hrl, hgb, hkw⟩ := hrel
     have HRL := Lib.hid hrl
     have HM := Lib.hid hm
     have hm' : m ≤ 48 := by omega
     clear hm
     have hrp : m < 48 → 0 < rest.length := fun _ => by omega
     clear hrl
     by_cases hlt : m < 48
     · obtain ⟨r0, rest, rfl⟩ : ∃ r0 r1, rest = r0 :: r1 := by cases rest with | nil => simp at hrp; omega | cons a b => exact ⟨a, b, rfl⟩
       clear hrp
       have wl := hWS.len (m + 16)
       have c0 := (hpb.cell m).trans (row_get (WS (m + 16)) (r0 :: rest) m (by omega))
       have c1 := (hpb.cell (m + 1)).trans (row_get (WS (m + 16)) (r0 :: rest) (m + 1) (by omega))
       have c9 := (hpb.cell (m + 9)).trans (row_get (WS (m + 16)) (r0 :: rest) (m + 9) (by omega))
       have c14 := (hpb.cell (m + 14)).trans (row_get (WS (m + 16)) (r0 :: rest) (m + 14) (by omega))
       have hc0 := row_get (WS (m + 16)) (r0 :: rest) m (by omega)
       have hc9 := row_get (WS (m + 16)) (r0 :: rest) (m + 9) (by omega)
       have hc16 := row_at' (WS (m + 16)) r0 rest (m + 16) wl
       have c16 := (hpb.cell (m + 16)).trans hc16
       have f16 := hpb.frozen (m + 16)
       have hset := fun x => row_set' (WS (m + 16)) r0 rest x (m + 16) wl
       have hhi := hWS.high m
       generalize (WS (m + 16)).getD m 0 = x0 at *
       generalize (WS (m + 16)).getD (m + 1) 0 = x1 at *
       generalize (WS (m + 16)).getD (m + 9) 0 = x9 at *
       generalize (WS (m + 16)).getD (m + 14) 0 = x14 at *
       have HST := Lib.hid (show (u32L (WS (m + 16) ++ r0 :: rest)).toArray.setIfInBounds (m + 16) (.int .u32 ((addU (addU (addU x0 (sg0 x1)) x9) (sg1 x14)).toNat : Int)) = (u32L (WS (m + 16 + 1) ++ rest)).toArray from by rw [hset, hhi])
       clear wl hset hhi
       have H0 := Lib.hid hc0
       have H9 := Lib.hid hc9
       have H16 := Lib.hid hc16
       clear hc0 hc9 hc16
       go_wp2_with fail
       go_quiet (fail)
       go_wp2_with fail
       have hpb2 := hpb.drewN nq
       have hgb2 := hgb.drewN nq
       have hkw2 := hkw.drewN nq
       generalize wr.drewN nq = w2 at *
       clear c0 c1 c9 c14 c16 f16 hpb hgb hkw
       have c0 := hpb2.cell m
       have c9 := hpb2.cell (m + 9)
       rw [H0.out] at c0
       rw [H9.out] at c9
       have i0 : (0 : Int) ≤ (m : Int) := by omega
       have i1 : (m : Int) < 64 := by omega
       have i2 : (0 : Int) ≤ (m : Int) + 9 := by omega
       have i3 : (m : Int) + 9 < 64 := by omega
       have i4 : ((m : Int) + 9).toNat = m + 9 := by omega
       have j0 : IntKind.i64.wrap (m : Int) = (m : Int) := IntWalk.i64_in _ (by omega)
       have j9 : IntKind.i64.wrap ((m : Int) + 16 - 7) = (m : Int) + 9 := (IntWalk.i64_in _ (by omega)).trans (by omega)
       have i5 : (0 : Int) ≤ (m : Int) + 16 := by omega
       have i6 : (m : Int) + 16 < 64 := by omega
       have i7 : ((m : Int) + 16).toNat = m + 16 := by omega
       have Lx := xor_u32
       have La := add_u32
       have L3 := shr3_u32 x1
       have L10 := shr10_u32 x14
       go_still_tail 29, (by kernel_rfl)
       still_call (turn_st x1 7 7 rfl turns_all.2.2.1 _)
       repeat still_step
       still_call (turn_st x1 18 18 rfl turns_all.2.2.2.2.2.2.1 _)
       repeat still_step
       still_call (turn_st x14 17 17 rfl turns_all.2.2.2.2.2.1 _)
       repeat still_step
       still_call (turn_st x14 19 19 rfl turns_all.2.2.2.2.2.2.2.1 _)
       repeat still_step
       refine wpStill_nil ?_
       change wpList _ _ _ _ _ w2.drew
       have hpb3 := hpb2.drew
       have hgb3 := hgb2.drew
       have hkw3 := hkw2.drew
       generalize w2.drew = w3 at *
       clear c0 c9 hpb2 hgb2 hkw2 Lx La L3 L10 j0 j9 i4
       have c16 := hpb3.cell (m + 16)
       rw [H16.out] at c16
       have f16 := hpb3.frozen (m + 16)
       go_wp2_with fail
       go_roundg (gk - 1)
       case measure => have := HM.out; omega
       case rel =>
        refine ⟨m + 1, rest, by have := HM.out; omega, by go_num, ?_, by have := HRL.out; simp at this; omega, hgb3.far (p := ⟨p, m + 16, none⟩) (by simp; omega) _, hkw3.setCell (p := ⟨p, m + 16, none⟩) (.inr (by simp; omega)) _⟩
        rw [show m + 1 + 16 = m + 16 + 1 by omega, ← HST.out]
        exact hpb3.set_ (m + 16) _
     · obtain rfl : m = 48 := by omega
       clear hlt hrp
       have hr0 : rest = [] := List.eq_nil_of_length_eq_zero (by rw [HRL.out])
       subst hr0
       rw [List.append_nil] at hpb
       go_wp2_with (first | (refine wpList_load rfl rfl rfl (load_st hgb HWT.out) ?_) | (refine wpList_allocAgg rfl rfl (zero_st _) ?_) | (refine wpList_storeBlk rfl rfl (vs := stC s) rfl rfl (Blk.new _ _ _) rfl info_st (st_one s) ?_; intro w4 hs4 hkc hzc))
       have hkN : Keep Nothing wr w4 := Keep.ofNew hkc
       have hp4 := hpb.keep hkN (fun h => h)
       have hg4 := hgb.keep hkN (fun h => h)
       have hk4 : Keep (Only g) w w4 := hkw.trans (hkN.mono (fun _ _ h => h.elim))
       have lp := hpb.lt
       generalize wr.heap.size = q at *
       clear hkc hzc hkN hpb hgb hkw
       rw [show 48 + 16 = 64 from rfl] at hp4
       obtain ⟨RS, hRS⟩ := rounds_of s (WS 64)
       have HCS2 := Lib.hid (show addSt s (RS 64) = CS from by rw [← hRS.all]; exact HCS.out)
       clear HCS
       have hwl := hWS.len 64
       have HWL := Lib.hid hwl
       generalize WS 64 = ws at *
       clear hwl hWS
       refine (rounds_any _).mono ?_
       rintro r w5 ⟨rfl, hk5⟩
       have hp5 := hp4.keep hk5 (fun h => h)
       have hg5 := hg4.keep hk5 (fun h => h)
       have hs5 := hs4.keep hk5 (fun h => h)
       have hkw5 : Keep (Only g) w w5 := hk4.trans (hk5.mono (fun _ _ h => h.elim))
       clear hk5 hp4 hg4 hs4 hk4
       obtain ⟨KC, hKC⟩ : ∃ KC, kC = KC := ⟨_, rfl⟩
       have hidx := fun W k hk => index_k W k hk
       rw [hKC] at hidx ⊢
       have HIX := Lib.hid hidx
       clear hKC hidx
       go_wp2_with fail
       go_loopg [73] 64 (fun f i wr => ∃ k : Nat, k + f = 64 ∧ i = .int .i64 k ∧ Blk wr q 72 (stC (RS k)) ∧ Blk wr p 71 (u32L ws).toArray ∧ Blk wr g 103 (hashC s wt n all) ∧ Keep (Only g) w wr)
       case atStart => exact ⟨0, by omega, rfl, by rw [hRS.zero]; exact hs5, hp5, hg5, hkw5⟩
       case round =>
        clear hp5 hg5 hs5 hkw5
        obtain ⟨k, hkf, rfl, hs, hp, hg, hk⟩ := hrel
        have HKF := Lib.hid hkf
        have hk64 : k ≤ 64 := by omega
        clear hkf
        by_cases hlt : k < 64
        · have hix := fun W => HIX.out W k hlt
          have hnx := hRS.next k
          have hrg := row_get ws [] k (by have := HWL.out; omega)
          rw [List.append_nil] at hrg
          have hpk := (hp.cell k).trans hrg
          clear hrg
          generalize shaK.getD k 0 = kk at *
          generalize ws.getD k 0 = wk at *
          have HNX := Lib.hid hnx
          clear hnx
          obtain ⟨S, hS⟩ : ∃ S, RS k = S := ⟨_, rfl⟩
          rw [hS] at hs HNX
          clear hS
          obtain ⟨a, b, c, d, e, f, gg, h⟩ := S
          have s0 := hs.cell 0
          have s1 := hs.cell 1
          have s2 := hs.cell 2
          have s3 := hs.cell 3
          have s4 := hs.cell 4
          have s5 := hs.cell 5
          have s6 := hs.cell 6
          have s7 := hs.cell 7
          simp [stC, u32L, stU, wv] at s0 s1 s2 s3 s4 s5 s6 s7
          have Lx := xor_u32
          have La := add_u32
          have Ln := and_u32
          have Lt := not_u32
          have Lg : IntKind.u32.signed = false := rfl
          have i0 : (0 : Int) ≤ (k : Int) := by omega
          have i1 : (k : Int) < 64 := by omega
          go_wp2_with fail
          go_quiet ((first | (go_at_call 58; exact Calls.quiet_of_same (turn_st e 6 6 rfl turns_all.2.1 _)) | (go_at_call 58; exact Calls.quiet_of_same (turn_st e 11 11 rfl turns_all.2.2.2.1 _)) | (go_at_call 58; exact Calls.quiet_of_same (turn_st e 25 25 rfl turns_all.2.2.2.2.2.2.2.2.2 _))))
          go_wp2_with fail
          have hs2 := hs.drewN nq
          have hp2 := hp.drewN nq
          have hg2 := hg.drewN nq
          have hk2 := hk.drewN nq
          generalize wr.drewN nq = w6 at *
          clear hs hp hg hk s0 s1 s2 s3 s4 s5 s6 s7 hpk hix
          have s0 := hs2.cell 0
          have s1 := hs2.cell 1
          have s2 := hs2.cell 2
          simp [stC, u32L, stU, wv] at s0 s1 s2
          have HNX2 := Lib.hid (show RS (k + 1) = ⟨addU (one_ ⟨a, b, c, d, e, f, gg, h⟩ kk wk) (addU (xorU (xorU (rotU a 2) (rotU a 13)) (rotU a 22)) (xorU (xorU (andU a b) (andU a c)) (andU b c))), a, b, c, addU d (one_ ⟨a, b, c, d, e, f, gg, h⟩ kk wk), e, f, gg⟩ from HNX.out)
          have hone : addU (addU (addU (addU h (xorU (xorU (rotU e 6) (rotU e 11)) (rotU e 25))) (xorU (andU e f) (andU (notU e) gg))) kk) wk = one_ ⟨a, b, c, d, e, f, gg, h⟩ kk wk := rfl
          rw [hone]
          generalize one_ ⟨a, b, c, d, e, f, gg, h⟩ kk wk = o1 at *
          clear hone HNX
          go_quiet ((first | (go_at_call 58; exact Calls.quiet_of_same (turn_st a 2 2 rfl turns_all.1 _)) | (go_at_call 58; exact Calls.quiet_of_same (turn_st a 13 13 rfl turns_all.2.2.2.2.1 _)) | (go_at_call 58; exact Calls.quiet_of_same (turn_st a 22 22 rfl turns_all.2.2.2.2.2.2.2.2.1 _))))
          have hs3 := hs2.drewN nq
          have hp3 := hp2.drewN nq
          have hg3 := hg2.drewN nq
          have hk3 := hk2.drewN nq
          generalize w6.drewN nq = w7 at *
          clear hs2 hp2 hg2 hk2 s0 s1 s2 Lx Ln Lt Lg
          have s0 := hs3.cell 0
          have s1 := hs3.cell 1
          have s2 := hs3.cell 2
          have s3 := hs3.cell 3
          have s4 := hs3.cell 4
          have s5 := hs3.cell 5
          have s6 := hs3.cell 6
          simp [stC, u32L, stU, wv] at s0 s1 s2 s3 s4 s5 s6
          go_wp2_with (first | (refine wpList_built rfl rfl (vs := #[(0, _), (1, _), (2, _), (3, _), (4, _), (5, _), (6, _), (7, _)]) rfl (build_st _ _ _ _ _ _ _ _ _) ?_) | (refine wpList_storeBlk rfl rfl (vs := stC _) rfl rfl hs3 rfl info_st (st_one _) ?_; intro w8 hs8 hk8 hz8))
          go_roundg (gk - 1)
          case measure => have := HKF.out; omega
          case rel =>
           have lq := hs3.lt
           have lp3 := hp3.lt
           refine ⟨k + 1, by have := HKF.out; omega, by go_num, ?_, hp3.keep hk8 (by unfold Only; omega), hg3.keep hk8 (by unfold Only; omega), hk3.then_ hk8 (by unfold Only; intro i hi h; omega)⟩
           rw [HNX2.out]
           exact hs8
        · obtain rfl : k = 64 := by omega
          generalize RS 64 = T at *
          obtain ⟨Z, hZ⟩ : ∃ Z, stU (addSt s T) = Z := ⟨_, rfl⟩
          have hZl : Z.length = 8 := by rw [← hZ]; rfl
          have hZa : ∀ j, j < 8 → Z.getD j 0 = addU ((stU s).getD j 0) ((stU T).getD j 0) := fun j hj => by rw [← hZ]; exact addSt_at s T j hj
          have HZa := Lib.hid hZa
          have HZl := Lib.hid hZl
          have HZe := Lib.hid (show hashW Z wt n all = hashC CS wt n all from by rw [← hZ, HCS2.out]; rfl)
          have hix := fun W j hj => index_st W T j hj
          have HIX2 := Lib.hid hix
          have hg9 : Blk wr g 103 (hashW (stU s) wt n all) := hg
          have hSl : (stU s).length = 8 := rfl
          have HSl := Lib.hid hSl
          clear hZ hZl hZa hix hg HIX hSl
          generalize stU s = S at *
          generalize stU T = TT at *
          go_wp2_with (first | (refine wpList_load rfl rfl rfl (load_stC hs) ?_))
          generalize stC T = TC at *
          go_loopg [161] 8 (fun f i wr => ∃ j : Nat, j + f = 8 ∧ i = .int .i64 j ∧ Blk wr g 103 (hashW (Z.take j ++ S.drop j) wt n all) ∧ Keep (Only g) w wr)
          case atStart => exact ⟨0, by omega, rfl, by simpa using hg9, hk⟩
          case round =>
           clear hg9 hk hs hp
           obtain ⟨j, hjf, rfl, hg, hk⟩ := hrel
           have HJF := Lib.hid hjf
           have hj8 : j ≤ 8 := by omega
           clear hjf
           by_cases hlt : j < 8
           · have hml : (Z.take j ++ S.drop j).length = 8 := by rw [List.length_append, List.length_take, List.length_drop, HZl.out, HSl.out]; omega
             have hst := hashW_set (wt := wt) (n := n) (all := all) j (by omega : j < (Z.take j ++ S.drop j).length) (Z.getD j 0)
             rw [mix_next Z S j HZl.out HSl.out hlt, HZa.out j hlt] at hst
             have hat := hashW_at (wt := wt) (n := n) (all := all) j (by omega : j < (Z.take j ++ S.drop j).length)
             rw [mix_at Z S j HZl.out HSl.out hlt] at hat
             have HST := Lib.hid hst
             have HAT := Lib.hid hat
             have hix := fun W => HIX2.out W j hlt
             have c1 := (hg.cell j).trans hat
             clear hml hst hat
             generalize S.getD j 0 = x at *
             generalize TT.getD j 0 = y at *
             have La := add_u32
             have i0 : (0 : Int) ≤ (j : Int) := by omega
             have i1 : (j : Int) < 8 := by omega
             go_wp2_with fail
             go_still_tail 11, (by kernel_rfl)
             change wpList _ _ _ _ _ wr.drew
             have hg2 := hg.drew
             have hk2 := hk.drew
             generalize wr.drew = w6 at *
             clear c1 hg hk
             have c1 := (hg2.cell j).trans HAT.out
             have f1 := hg2.frozen j
             go_wp2_with fail
             go_roundg (gk - 1)
             case measure => have := HJF.out; omega
             case rel =>
              refine ⟨j + 1, by have := HJF.out; omega, by go_num, ?_, hk2.setCell (p := ⟨g, j, none⟩) (.inl rfl) _⟩
              rw [← HST.out]
              exact hg2.set_ j _
           · obtain rfl : j = 8 := by omega
             have hg2 : Blk wr g 103 (hashC CS wt n all) := by
              rw [List.take_of_length_le (by rw [HZl.out]; omega), List.drop_eq_nil_of_le (by rw [HSl.out]; omega), List.append_nil, HZe.out] at hg
              exact hg
             have c1 := (hg2.cell 72).trans (hashC_n HWT.out).1
             have f1 := hg2.frozen 72
             clear hg
             go_wp2_with fail
             go_end0
             refine ⟨rfl, ?_, hk.setCell (p := ⟨g, 72, none⟩) (.inl rfl) _⟩
             rw [← hashC_setn (n := n) HWT.out 0]
             exact hg2.set_ 72 _
end Go.Proofs.YtmlmbkelpjmafaaGreat
