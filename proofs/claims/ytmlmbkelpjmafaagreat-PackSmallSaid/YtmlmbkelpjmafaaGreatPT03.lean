/- Contracts of codec's reader: number, text, id, short, end. No statement of the seat is proved here. -/
import Derived.Test.YtmlmbkelpjmafaaGreatPT01
import Derived.Test.YtmlmbkelpjmafaaGreatPTOwn
import Derived.Lib.Strings
import Derived.Maps.RangeWalk
import Derived.Laws.BitsAllLaws
namespace Go.Proofs.YtmlmbkelpjmafaaGreat
open Go.RowKit
theorem elemU8 : Elem Tryz.prog 22 5 1 1 := by
 refine ⟨Tryz.underlying22, ?_, by decide⟩
 obtain ⟨i, hi, h1, h2, h3⟩ := info_parts (show (Tryz.prog.info? 5).map (fun i => (i.zero, i.size, i.bytes)) = some (some (.int .u8 0), 1, 1) by kernel_rfl)
 exact ⟨i, _, hi, h1, h2, h3, rfl⟩
theorem bvs_one (bs : List UInt8) : ∀ v ∈ bs.map bv, v.oneCell' = true := by
 intro v hv
 obtain ⟨x, _, rfl⟩ := List.mem_map.1 hv
 rfl
def be : Nat → Nat → List UInt8
 | 0, _ => []
 | n + 1, v => UInt8.ofNat (v / 256 ^ n) :: be n v
theorem be_len : ∀ n v, (be n v).length = n
 | 0, _ => rfl
 | n + 1, v => by simp [be, be_len n v]
def Wt (w : World) (g base : Nat) (bs : List UInt8) (e : Int) : Prop :=
 ∃ A c, Blk w g 126 #[.slice A bs.length c, .int .i64 0, .int .i64 e] ∧ Own w base 5 1 A bs.length c (bs.map bv) ∧ base ≤ g
def WtPost (w : World) (g base : Nat) (bs : List UInt8) (e : Int) (r : Ending) (w' : World) : Prop := r = .returned (.tuple #[]) ∧ Wt w' g base bs e ∧ Kept base [5] [g] w w'
theorem wrap_byte (x : Nat) : IntKind.u8.wrap (x : Int) = ((UInt8.ofNat x).toNat : Int) := by
 simp [IntKind.wrap, IntKind.signed, IntKind.bits]
theorem wrap_shr (v k : Nat) : IntKind.u8.wrap ((v : Int) / 2 ^ (8 * (k : Int)).toNat) = ((UInt8.ofNat (v / 256 ^ k)).toNat : Int) := by
 have e : (8 * (k : Int)).toNat = 8 * k := by omega
 rw [e, show (2 : Int) ^ (8 * k) = ((256 ^ k : Nat) : Int) from by rw [Int.pow_mul]; simp]
 exact wrap_byte _
theorem Reads.of_cells {w : World} {g : Nat} {cs : Array Value} {t : TypeId} {fz : Nat × Nat} {size n : Nat} {xs : List Value} (h : w.heap[g]? = some (.cells cs t fz)) (hx : cs.toList = xs) (hl : xs.length = n * size) : Reads w (g + 1) size (some ⟨g, 0, none⟩) n xs := by
 refine ⟨hl, fun _ => ⟨_, rfl, Nat.lt_succ_self _, fun j u hj => ?_⟩⟩
 rw [add_at, cell_of_row w g (0 + j) cs t fz h, Nat.zero_add, ← hj, ← hx]
 simp
theorem Wt.more {w w1 w2 : World} {g base : Nat} {bs new : List UInt8} {e : Int} {m : Nat} {A A' : Option Addr} {c c' : Nat} (hbg : base ≤ g) (hk1 : Kept base [5] [g] w w1)
    (hb1 : Blk w1 g 126 #[.slice A bs.length c, .int .i64 0, .int .i64 e]) (hm : m = new.length)
    (ho : Own w2 base 5 1 A' (bs.length + m) c' (bs.map bv ++ new.map bv)) (hk2 : Kept base [5] [] w1 w2) :
    Wt (w2.setCell ⟨g, 0, none⟩ (.slice A' (bs.length + m) c')) g base (bs ++ new) e ∧ Kept base [5] [g] w (w2.setCell ⟨g, 0, none⟩ (.slice A' (bs.length + m) c')) := by
 have hb2 := hk2.blk hb1 (by simp) (by decide)
 have hl : (bs ++ new).length = bs.length + m := by simp; omega
 refine ⟨⟨A', c', ?_, ?_, hbg⟩, (hk1.trans (hk2.mono (Nat.le_refl _) (by simp) (by simp))).setCell (p := ⟨g, 0, none⟩) (.inl (by simp)) _⟩
 · rw [hl]
   simpa using hb2.set_ 0 (.slice A' (bs.length + m) c')
 · rw [hl, List.map_append]
   exact ho.setCell (p := ⟨g, 0, none⟩) hb2 (by decide) _
set_option maxHeartbeats 1000000 in
theorem wnumber_any (n v : Nat) (hn : n ≤ 8) (g base : Nat) (bs : List UInt8) (e : Int) (w : World) (hw : Wt w g base bs e) (hsz : bs.length + n ≤ 140737488355328) (hbz : base ≤ w.heap.size) :
    Calls Tryz.prog 53 #[.pointer (some ⟨g, 0, none⟩), .int .i64 n, .int .u64 v] w (WtPost w g base (bs ++ be n v) e) := by
 go_enter Tryz.func53, Tryz.ntmps53
 go_wp2_with fail
 go_loopw [6] (fun i wr => ∃ k out, k ≤ n ∧ i = .int .i64 ((k : Int) - 1) ∧ out ++ be k v = bs ++ be n v ∧ Wt wr g base out e ∧ Kept base [5] [g] w wr) (fun i _ => (intOf i + 1).toNat)
 case atStart => exact ⟨n, bs, Nat.le_refl _, rfl, rfl, hw, Kept.refl _ _ _ _⟩
 case round =>
  obtain ⟨k, out, hk, rfl, hpre, hwt, hkp⟩ := hrel
  have hl : out.length + k = bs.length + n := by have := congrArg List.length hpre; simpa [be_len] using this
  have HP := Lib.hid hpre
  have hz := hkp.size
  clear hpre
  cases k with
  | zero =>
   clear hl
   go_wp2
   go_end0
   refine ⟨rfl, ?_, hkp⟩
   have := HP.out
   simp only [be, List.append_nil] at this
   rw [← this]
   exact hwt
  | succ k =>
   obtain ⟨A, c, hb, ho, hbg⟩ := hwt
   have hm1 : out.length + 1 ≤ maxLen := by unfold maxLen; omega
   have hm2 : (out.length + 1) * 1 ≤ 140737488355328 := by omega
   have c0 := hb.cell 0
   have f0 := hb.frozen 0
   simp at c0
   have lg := hb.lt
   have k8 : k < 8 := by omega
   have hw8 : IntKind.i64.wrap (8 * (k : Int)) = 8 * (k : Int) := IntWalk.i64_in _ (by omega)
   have hbe : be (k + 1) v = UInt8.ofNat (v / 256 ^ k) :: be k v := rfl
   have hcv := wrap_shr v k
   generalize UInt8.ofNat (v / 256 ^ k) = y at *
   have HB := Lib.hid hbe
   have HL := Lib.hid hl
   clear hbe hl
   rw [show ((k + 1 : Nat) : Int) - 1 = (k : Int) from by omega]
   go_wp2_with fail
   go_region_law (first | ((refine step_append_sl (by rfl) elemU8 (by rfl) (by rfl) (by exact ho.alloc _) (by rfl) (Reads.of_cells (xs := [bv y]) (heap_alloc_new _ _) rfl rfl) (bvs_one [y]) hm1 hm2 (by simp; omega) ?_); intro A' c' w2 ho2 hk2; have hb2 := hk2.blk (hb.drew.alloc _) (by simp) (by decide); have c2 := hb2.cell 0; have f2 := hb2.frozen 0; simp at c2))
   all_goals
    go_wp2_with fail
    go_roundw
    case rel =>
     have T := Wt.more (new := [y]) hbg (hkp.drew.alloc _) (hb.drew.alloc _) rfl ho2 hk2
     exact ⟨k, out ++ [y], by omega, by go_num, by rw [← HP.out, HB.out]; simp, T.1, T.2⟩
    case measure => first | (simp [intOf]; done) | (simp [intOf]; omega)
def doneL (bs : List UInt8) (e : Int) : List UInt8 := if e = 0 then bs else []
def DonePost (base : Nat) (l : List UInt8) (e : Int) (w : World) (r : Ending) (w' : World) : Prop := ∃ A c, r = .returned (.tuple #[.slice A l.length c, .int .i64 e]) ∧ Own w' base 5 1 A l.length c (l.map bv) ∧ Keep Nothing w w'
set_option maxHeartbeats 1000000 in
theorem wdone_any (g base : Nat) (bs : List UInt8) (e : Int) (w : World) (hw : Wt w g base bs e) :
    Calls Tryz.prog 54 #[.pointer (some ⟨g, 0, none⟩)] w fun r w' => DonePost base (doneL bs e) e w r w' := by
 obtain ⟨A, c, hb, ho, hbg⟩ := hw
 have c0 := hb.cell 0
 have c2 := hb.cell 2
 simp at c0 c2
 by_cases he : e = 0
 · subst he
   go_enter Tryz.func54, Tryz.ntmps54
   go_wp2_with fail
   go_ret2
   exact ⟨A, c, rfl, ho, Keep.refl _ _⟩
 · have he1 : (e != 0) = true := by simpa using he
   have hd : doneL bs e = [] := if_neg he
   rw [hd]
   clear hd
   go_enter Tryz.func54, Tryz.ntmps54
   go_wp2_with fail
   go_quiet (fail)
   go_wp2_with fail
   go_ret2
   exact ⟨none, 0, rfl, Own.nil _ _ _ _, (Keep.refl _ _).drewN _⟩
end Go.Proofs.YtmlmbkelpjmafaaGreat
namespace Go.Proofs.YtmlmbkelpjmafaaGreat
open Go.RowKit
def num (l : List UInt8) : Nat := l.foldl (fun v x => v * 256 + x.toNat) 0
theorem num_snoc (l : List UInt8) (x : UInt8) : num (l ++ [x]) = num l * 256 + x.toNat := by simp [num]
theorem num_lt (l : List UInt8) : num l < 256 ^ l.length := by
 have key : ∀ (l : List UInt8) (v k : Nat), v < 256 ^ k → l.foldl (fun v x => v * 256 + x.toNat) v < 256 ^ (k + l.length) := by
  intro l
  induction l with
  | nil => intro v k h; simpa using h
  | cons x l ih =>
   intro v k h
   have hx := x.toNat_lt
   have := ih (v * 256 + x.toNat) (k + 1) (by rw [Nat.pow_succ]; omega)
   simpa [Nat.add_assoc, Nat.add_comm, Nat.add_left_comm] using this
 simpa [num] using key l 0 0 (by simp)
theorem num_lt8 (l : List UInt8) (h : l.length ≤ 7) : num l < 72057594037927936 :=
 Nat.lt_of_lt_of_le (num_lt l) (Nat.le_trans (Nat.pow_le_pow_right (by omega) h) (by decide))
theorem or_byte (v : Nat) (x : UInt8) (hv : v < 72057594037927936) : bits .or .u64 (IntKind.u64.wrap ((v : Int) * 256)) (x.toNat : Int) = ((v * 256 + x.toNat : Nat) : Int) := by
 have hx := x.toNat_lt
 have e : IntKind.u64.wrap ((v : Int) * 256) = ((v * 256 : Nat) : Int) := by
  simp [IntKind.wrap, IntKind.signed, IntKind.bits]; omega
 rw [e, u64_or_nat _ _ (by omega) (by omega)]
 have := Nat.shiftLeft_add_eq_or_of_lt (a := v) (b := x.toNat) (i := 8) (by omega)
 rw [Nat.shiftLeft_eq] at this
 rw [show v * 256 = v * 2 ^ 8 from rfl, ← this]
def NumPost (g B : Nat) (b : List UInt8) (at_ : Nat) (e n : Int) (w : World) (r : Ending) (w' : World) : Prop :=
 r = .returned (.int .u64 (num (takeL b at_ e n))) ∧ Rd w' g B b (takeAt b at_ e n) (takeE b at_ e n) ∧ Keep (Only g) w w'
theorem takeL_le (b : List UInt8) (at_ : Nat) (e : Int) (n : Nat) : (takeL b at_ e n).length ≤ n := by
 unfold takeL
 split
 · simp; omega
 · simp
set_option maxHeartbeats 1000000 in
theorem rnumber_any (n : Nat) (hn : n ≤ 8) (g B : Nat) (b : List UInt8) (at_ : Nat) (e : Int) (w : World) (hr : Rd w g B b at_ e) (hB : B ≤ w.heap.size) :
    Calls Tryz.prog 82 #[.pointer (some ⟨g, 0, none⟩), .int .i64 n] w (NumPost g B b at_ e n w) := by
 have hl8 := takeL_le b at_ e n
 go_enter Tryz.func82, Tryz.ntmps82
 go_wp2_with fail
 refine (take_any g B b at_ e n _ hr hB).mono ?_
 rintro r w1 ⟨A, c, rfl, hrd, hlc, hcm, hR, hk⟩
 generalize hl : takeL b at_ e n = l at *
 have HL := Lib.hid hl
 clear hl
 unfold maxLen at hcm
 go_wp2_with fail
 go_loop [5, 12] (fun v i => ∃ k : Nat, k ≤ l.length ∧ i = .int .i64 k ∧ v = .int .u64 (num (l.take k))) (fun _ i => l.length - (intOf i).toNat)
 case atStart => exact ⟨0, Nat.zero_le _, rfl, rfl⟩
 case round =>
  obtain ⟨k, hk', rfl, rfl⟩ := hrel
  by_cases hlt : k < l.length
  · obtain ⟨ad, u, rfl, _, hx, hc⟩ := hrd.at_ hlt
    have hu : u = bv l[k] := by simpa [hlt] using hx.symm
    subst hu
    unfold bv at hc
    have hor := or_byte (num (l.take k)) l[k] (num_lt8 _ (by simp; omega))
    have hs : num (l.take (k + 1)) = num (l.take k) * 256 + l[k].toNat := by rw [List.take_succ_eq_append_getElem hlt, num_snoc]
    rw [← hs] at hor
    generalize num (l.take k) = v at *
    have hx0 := l[k].toNat_lt
    generalize l[k].toNat = x at *
    have HS := Lib.hid hs
    clear hs hx
    go_wp2
    go_round
    case rel => exact ⟨k + 1, by omega, by go_num, rfl⟩
    case measure => simp [intOf]; omega
  · obtain rfl : k = l.length := by omega
    go_wp2
    go_ret
    exact ⟨by rw [HL.out]; rfl, hR, hk⟩
def textL (b : List UInt8) (at_ : Nat) (e n : Int) : List UInt8 := takeL b (takeAt b at_ e n) (takeE b at_ e n) (num (takeL b at_ e n))
def textAt (b : List UInt8) (at_ : Nat) (e n : Int) : Nat := takeAt b (takeAt b at_ e n) (takeE b at_ e n) (num (takeL b at_ e n))
def textE (b : List UInt8) (at_ : Nat) (e n : Int) : Int := takeE b (takeAt b at_ e n) (takeE b at_ e n) (num (takeL b at_ e n))
def str (l : List UInt8) : ByteArray := ⟨l.toArray⟩
def TextPost (g B : Nat) (b : List UInt8) (at_ : Nat) (e n : Int) (w : World) (r : Ending) (w' : World) : Prop :=
 r = .returned (.string (str (textL b at_ e n))) ∧ Rd w' g B b (textAt b at_ e n) (textE b at_ e n) ∧ Keep (Only g) w w'
set_option maxHeartbeats 1000000 in
theorem rtext_any (n : Nat) (hn : n ≤ 7) (g B : Nat) (b : List UInt8) (at_ : Nat) (e : Int) (w : World) (hr : Rd w g B b at_ e) (hB : B ≤ w.heap.size) :
    Calls Tryz.prog 83 #[.pointer (some ⟨g, 0, none⟩), .int .i64 n] w (TextPost g B b at_ e n w) := by
 have hl8 := takeL_le b at_ e n
 have hv := num_lt8 (takeL b at_ e n) (by omega)
 go_enter Tryz.func83, Tryz.ntmps83
 go_wp2_with fail
 refine (rnumber_any n (by omega) g B b at_ e _ hr hB).mono ?_
 rintro r w1 ⟨rfl, hR, hk⟩
 have hz := hk.size
 go_wp2_with fail
 refine (take_any g B b _ _ _ _ hR (by omega)).mono ?_
 rintro r w2 ⟨A, c, rfl, hrd, hlc, hcm, hR2, hk2⟩
 go_wp2_with (first | (refine wpList_convStr rfl rfl Tryz.underlying22 Tryz.underlying5 Tryz.underlying9 rfl hrd ?_))
 go_ret
 exact ⟨rfl, hR2, hk.trans hk2⟩
def shortE (b : List UInt8) (at_ : Nat) (e : Int) : Int := note (takeE b at_ e 2) (decide ((num (takeL b at_ e 2) : Int) ≤ 1000)) 5
def shortL (b : List UInt8) (at_ : Nat) (e : Int) : List UInt8 := takeL b (takeAt b at_ e 2) (shortE b at_ e) (num (takeL b at_ e 2))
def shortAt (b : List UInt8) (at_ : Nat) (e : Int) : Nat := takeAt b (takeAt b at_ e 2) (shortE b at_ e) (num (takeL b at_ e 2))
def shortE2 (b : List UInt8) (at_ : Nat) (e : Int) : Int := takeE b (takeAt b at_ e 2) (shortE b at_ e) (num (takeL b at_ e 2))
def ShortPost (g B : Nat) (b : List UInt8) (at_ : Nat) (e : Int) (w : World) (r : Ending) (w' : World) : Prop :=
 r = .returned (.string (str (shortL b at_ e))) ∧ Rd w' g B b (shortAt b at_ e) (shortE2 b at_ e) ∧ Keep (Only g) w w'
theorem Rd.blk {w : World} {g B : Nat} {b : List UInt8} {at_ : Nat} {e : Int} (h : Rd w g B b at_ e) : ∃ A c, Blk w g 155 #[.slice A b.length c, .int .i64 at_, .int .i64 e] ∧ ∀ w' e', Blk w' g 155 #[.slice A b.length c, .int .i64 at_, .int .i64 e'] → (B ≤ w.heap.size → Keep (Only g) w w' → Rd w' g B b at_ e') := by
 obtain ⟨A, c, hb, hrd, h1, h2, h3, h4⟩ := h
 exact ⟨A, c, hb, fun w' e' hb' hB hk => ⟨A, c, hb', hrd.kept hk hB (fun i hi q => by unfold Only at q; omega), h1, h2, h3, h4⟩⟩
theorem Rd.alloc {w : World} {g B : Nat} {b : List UInt8} {at_ : Nat} {e : Int} (h : Rd w g B b at_ e) (hB : B ≤ w.heap.size) (o : Obj) : Rd (w.alloc o) g B b at_ e := by
 obtain ⟨A, c, hb, hrd, h1, h2, h3, h4⟩ := h
 exact ⟨A, c, hb.alloc o, hrd.alloc hB o, h1, h2, h3, h4⟩
theorem Rd.drew {w : World} {g B : Nat} {b : List UInt8} {at_ : Nat} {e : Int} (h : Rd w g B b at_ e) : Rd w.drew g B b at_ e := h
theorem Rd.keep {S : Nat → Prop} {w w' : World} {g B : Nat} {b : List UInt8} {at_ : Nat} {e : Int} (h : Rd w g B b at_ e) (hB : B ≤ w.heap.size) (hk : Keep S w w') (hS : ∀ i, S i → B ≤ i ∧ i ≠ g) : Rd w' g B b at_ e := by
 obtain ⟨A, c, hb, hrd, h1, h2, h3, h4⟩ := h
 exact ⟨A, c, hb.keep hk (fun q => (hS g q).2 rfl), hrd.kept hk hB (fun i hi q => by have := (hS i q).1; omega), h1, h2, h3, h4⟩
set_option maxHeartbeats 1000000 in
theorem rshort_any (g B : Nat) (b : List UInt8) (at_ : Nat) (e : Int) (w : World) (hr : Rd w g B b at_ e) (hB : B ≤ w.heap.size) :
    Calls Tryz.prog 89 #[.pointer (some ⟨g, 0, none⟩)] w (ShortPost g B b at_ e w) := by
 have hl8 := takeL_le b at_ e 2
 have hv := num_lt8 (takeL b at_ e 2) (by simp at hl8; omega)
 go_enter Tryz.func89, Tryz.ntmps89
 go_wp2_with fail
 refine (rnumber_any 2 (by omega) g B b at_ e _ hr hB).mono ?_
 rintro r w1 ⟨rfl, hR, hk⟩
 have hz := hk.size
 obtain ⟨A1, c1, hb1, hR1⟩ := hR.blk
 go_wp2_with fail
 refine (must_any g _ _ _ _ 5 _ _ hb1).mono ?_
 rintro r w2 ⟨rfl, hb2, hk2⟩
 have hz2 := hk2.size
 have hR2 := hR1 _ _ hb2 (by omega) hk2
 go_wp2_with fail
 refine (take_any g B b _ _ _ _ hR2 (by omega)).mono ?_
 rintro r w3 ⟨A, c, rfl, hrd, hlc, hcm, hR3, hk3⟩
 go_wp2_with (first | (refine wpList_convStr rfl rfl Tryz.underlying22 Tryz.underlying5 Tryz.underlying9 rfl hrd ?_))
 go_ret
 exact ⟨rfl, hR3, (hk.trans hk2).trans hk3⟩
def endE (b : List UInt8) (at_ : Nat) (e : Int) : Int := note e ((at_ : Int) == (b.length : Int)) 15
def EndPost (g B : Nat) (b : List UInt8) (at_ : Nat) (e : Int) (w : World) (r : Ending) (w' : World) : Prop :=
 r = .returned (.tuple #[]) ∧ Rd w' g B b at_ (endE b at_ e) ∧ Keep (Only g) w w'
set_option maxHeartbeats 1000000 in
set_option maxRecDepth 100000 in
theorem rend_any (g B : Nat) (b : List UInt8) (at_ : Nat) (e : Int) (w : World) (hr : Rd w g B b at_ e) (hB : B ≤ w.heap.size) :
    Calls Tryz.prog 90 #[.pointer (some ⟨g, 0, none⟩)] w (EndPost g B b at_ e w) := by
 obtain ⟨A, c, hb, hR⟩ := hr.blk
 have c0 := hb.cell 0
 have c1 := hb.cell 1
 simp at c0 c1
 go_enter Tryz.func90, Tryz.ntmps90
 go_wp2_with fail
 go_still_tail 15, (by kernel_rfl)
 change wpList _ _ _ _ _ w.drew
 have hb' := hb.drew
 have hR' := fun w' e' h k => hR w' e' h hB ((Keep.drew (Keep.refl (Only g) w)).trans k)
 have hk0 : Keep (Only g) w w.drew := (Keep.refl _ _).drew
 generalize w.drew = w1 at *
 go_wp2_with fail
 refine (must_any g _ _ _ _ 15 _ _ hb').mono ?_
 rintro r w2 ⟨rfl, hb2, hk2⟩
 go_wp2_with fail
 go_end0
 refine ⟨rfl, ?_, hk0.trans hk2⟩
 have T := hR' _ _ hb2 hk2
 unfold endE
 first | exact T | (simpa using T)
def idOf (l : List UInt8) : Id := if h : l.length = 32 then ⟨l, h⟩ else noId
def IdPost (g B : Nat) (b : List UInt8) (at_ : Nat) (e : Int) (w : World) (r : Ending) (w' : World) : Prop :=
 r = .returned (idV (idOf (takeL b at_ e 32))) ∧ Rd w' g B b (takeAt b at_ e 32) (takeE b at_ e 32) ∧ Keep (Only g) w w'
theorem takeL_or (b : List UInt8) (at_ : Nat) (e : Int) (n : Nat) : (takeL b at_ e n).length = n ∨ takeL b at_ e n = [] := by
 unfold takeL
 split
 · left; simp; omega
 · right; rfl
theorem spl_id (l : List UInt8) (h : l.length = 32 ∨ l = []) : spl (idC noId) 0 (l.map bv) = idC (idOf l) := by
 rcases h with h | h
 · have e : idOf l = ⟨l, h⟩ := dif_pos h
   rw [e]
   apply Array.ext'
   simp [spl, idC, idL, noId, h]
 · subst h
   have e : idOf [] = noId := dif_neg (by decide)
   rw [e]
   apply Array.ext'
   simp [spl]
set_option maxHeartbeats 1000000 in
set_option maxRecDepth 100000 in
theorem rid_any (g B : Nat) (b : List UInt8) (at_ : Nat) (e : Int) (w : World) (hr : Rd w g B b at_ e) (hB : B ≤ w.heap.size) :
    Calls Tryz.prog 84 #[.pointer (some ⟨g, 0, none⟩)] w (IdPost g B b at_ e w) := by
 have hlg : g < w.heap.size := by obtain ⟨_, _, hb, _⟩ := hr; exact hb.lt
 have hA1 : Rd ((w.alloc (.cells (idC noId) 29)).alloc (.cells (idC noId) 29)) g B b at_ e := (hr.alloc hB _).alloc (by simp; omega) _
 have hq1 : Blk ((w.alloc (.cells (idC noId) 29)).alloc (.cells (idC noId) 29)) w.heap.size 29 (idC noId) := (Blk.new _ _ _).alloc _
 have hq2 : Blk ((w.alloc (.cells (idC noId) 29)).alloc (.cells (idC noId) 29)) (w.heap.size + 1) 29 (idC noId) := by have := Blk.new (w.alloc (.cells (idC noId) 29)) 29 (idC noId); simpa using this
 have hk1 : Keep (Only g) w ((w.alloc (.cells (idC noId) 29)).alloc (.cells (idC noId) 29)) := ((Keep.refl _ _).alloc _).alloc _
 go_enter Tryz.func84, Tryz.ntmps84
 go_wp2_with (first | (refine wpList_allocAgg rfl rfl (zero_noId _) ?_))
 go_frame
 have hz1 : B ≤ ((w.alloc (.cells (idC noId) 29)).alloc (.cells (idC noId) 29)).heap.size := by simp; omega
 generalize (w.alloc (.cells (idC noId) 29)).alloc (.cells (idC noId) 29) = w1 at *
 have h32 := takeL_le b at_ e 32
 go_region_law (first | ((refine step_copy_blk (by rfl) (by rfl) Tryz.underlying22 infoU8 (by rfl) hq2' (by rw [idC_size]) (by rfl) hrd (bvs_one _) h32 ?_); intro w3 hq3 hk3) | (go_simp; go_at_call 101; refine (take_any g B b at_ e 32 _ hA1.drew hz1).mono ?_; rintro r w2 ⟨A, c, rfl, hrd, hlc, hcm, hR2, hk2⟩; have hq2' := hq2.drew.keep hk2 (by unfold Only; omega)))
 all_goals
  have hor : (takeL b at_ e 32).length = 32 ∨ takeL b at_ e 32 = [] := takeL_or b at_ e 32
  rw [spl_id _ hor] at hq3
  clear hor
  have hz2 := hk2.size
  have hq1' := (hq1.drew.keep hk2 (by unfold Only; omega)).keep hk3 (by unfold Only; omega)
  have hR3 := hR2.keep (by have : w1.drew.heap.size = w1.heap.size := rfl; omega) hk3 (by unfold Only; intro i hi; omega)
  have hz3 := hk3.size
  have hk3' : Keep (Only g) w w3 := (hk1.drew.trans hk2).then_ hk3 (by unfold Only; intro i hi q; omega)
  go_wp2_with (first | (refine wpList_load rfl rfl rfl (load_id hq3) ?_) | (refine wpList_storeBlk rfl rfl (vs := idC (idOf (takeL b at_ e 32))) rfl rfl hq1' (by rw [idC_size, idC_size]) (by rw [idC_size]; exact info42) (idL_one _) ?_; intro w4 hq4 hk4 hz4))
  refine bodyPost_ret (v := idV (idOf (takeL b at_ e 32))) (results_cell rfl _ _ rfl (run_loadVar_cells w4 _ (idC (idOf (takeL b at_ e 32))) Tryz.underlying29 rfl (by rw [idC_size]; exact info42) (fun j v hj => by rw [add_at, hq4.cell, ← hj]; simp))) rfl ⟨rfl, ?_, ?_⟩
  · exact hR3.keep (by have : w1.drew.heap.size = w1.heap.size := rfl; omega) hk4 (by unfold Only; intro i hi; omega)
  · exact hk3'.then_ hk4 (by unfold Only; intro i hi q; omega)
end Go.Proofs.YtmlmbkelpjmafaaGreat
