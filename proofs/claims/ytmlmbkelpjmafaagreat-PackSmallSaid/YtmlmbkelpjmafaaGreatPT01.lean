/- Contracts of codec's reader: take. No statement of the seat is proved here. -/
import Derived.Test.YtmlmbkelpjmafaaGreatRows
import Derived.Test.YtmlmbkelpjmafaaGreatPTLib
import Derived.BigQuiet
import Derived.Deep.QuietTactic
namespace Go.Proofs.YtmlmbkelpjmafaaGreat
open Go.RowKit
def bv (x : UInt8) : Value := .int .u8 (x.toNat : Int)
abbrev Id := {l : List UInt8 // l.length = 32}
def idL (i : Id) : List Value := i.1.map bv
def idC (i : Id) : Array Value := (idL i).toArray
def idV (i : Id) : Value := .agg (idC i)
theorem idL_len (i : Id) : (idL i).length = 32 := by simp [idL, i.2]
theorem idC_size (i : Id) : (idC i).size = 32 := by simp [idC, idL_len]
theorem idL_one (i : Id) : ∀ v ∈ idL i, v.oneCell' = true := by
 intro v hv
 obtain ⟨x, _, rfl⟩ := List.mem_map.1 hv
 rfl
def noId : Id := ⟨List.replicate 32 0, by simp⟩
def isNone (i : Id) : Bool := i == noId
theorem idC_ints (i : Id) : idC i = ((i.1.map fun x => (x.toNat : Int)).map (Value.int .u8)).toArray := by
 unfold idC idL
 rw [List.map_map]
 rfl
theorem ids_beq (i j : Id) : ((i.1.map fun x => (x.toNat : Int)) == (j.1.map fun x => (x.toNat : Int))) = (i == j) := by
 rw [Bool.eq_iff_iff]
 simp only [beq_iff_eq]
 constructor
 · intro h
   apply Subtype.ext
   have hinj : ∀ a b : List UInt8, a.map (fun x => (x.toNat : Int)) = b.map (fun x => (x.toNat : Int)) → a = b := by
    intro a
    induction a with
    | nil => intro b h; cases b <;> simp_all
    | cons x a ih =>
     intro b h
     cases b with
     | nil => simp at h
     | cons y b =>
      simp only [List.map_cons, List.cons.injEq] at h
      rw [ih b h.2, UInt8.toNat_inj.1 (Int.ofNat_inj.1 h.1)]
   exact hinj _ _ h
 · rintro rfl; rfl
theorem info42 : (Tryz.prog.info? 29).map (·.size) = some 32 := by kernel_rfl
theorem infoU8 : (Tryz.prog.info? 5).map (·.size) = some 1 := by kernel_rfl
theorem run_eql_id (w : World) (i j : Id) : (binOp .eql 29 (idV i) (idV j)).run Tryz.prog w = .ok (.bool (i == j)) w := by
 obtain ⟨inf, hi, hs⟩ : ∃ inf, Tryz.prog.info? 5 = some inf ∧ inf.size = 1 := by
  have := infoU8
  cases h : Tryz.prog.info? 5 with
  | none => rw [h] at this; cases this
  | some inf => exact ⟨inf, rfl, by rw [h] at this; simpa using this⟩
 have h := run_equalIn_row (P := Tryz.prog) w 9998 (t := 29) (len := 32) Tryz.underlying29 Tryz.underlying5 hi hs (i.1.map fun x => (x.toNat : Int)) (j.1.map fun x => (x.toNat : Int)) (by simp [i.2]) (by simp [j.2])
 rw [← idC_ints, ← idC_ints, ids_beq] at h
 show (binOp .eql 29 (.agg (idC i)) (.agg (idC j))).run Tryz.prog w = _
 rw [run_eql_struct, h]
 rfl
theorem plain_id : Tryz.prog.eqGuardType Tryz.prog.depth 29 = false := by kernel_rfl
theorem guard_id (op : BinOp) (x y : Operand) (i j : Id) (w : World) : (eqGuard op 29 x y (idV i) (idV j)).run Tryz.prog w = .ok () w :=
 run_eqGuard_agg (P := Tryz.prog) w op 29 x y (idC i) (idC j) plain_id
theorem load_id {w : World} {g : Nat} {t : TypeId} {i : Id} (h : Blk w g t (idC i)) : (Instr.loadAt 29 (.pointer (some ⟨g, 0, none⟩))).run Tryz.prog w = .ok (idV i) w :=
 run_loadAt_blk (P := Tryz.prog) h 0 (idC i) Tryz.underlying29 rfl (by rw [idC_size]; exact info42) (by simp)
theorem zero_noId (w : World) : (zeroValue 29).run Tryz.prog w = .ok (idV noId) w := by kernel_rfl
theorem build_noId (w : World) : (Instr.build 29 #[]).run Tryz.prog w = .ok (idV noId) w := by kernel_rfl
set_option maxHeartbeats 400000 in
theorem none_any (i : Id) (w : World) : Calls Tryz.prog 87 #[idV i] w fun r w' => r = .returned (.bool (isNone i)) ∧ Keep Nothing w w' := by
 unfold isNone
 go_enter Tryz.func87, Tryz.ntmps87
 go_wp2_with (first | (refine wpList_boxed rfl rfl (cs := idC i) rfl ?_) | (refine wpList_load rfl rfl rfl (load_id (Blk.new _ _ _)) ?_) | (refine wpList_built rfl rfl (vs := #[]) rfl (build_noId _) ?_) | (refine wpList_bin rfl rfl (u := idV i) rfl (v := idV noId) rfl (guard_id _ _ _ i noId _) (run_eql_id _ i noId) ?_))
 go_ret
 exact ⟨rfl, (Keep.refl _ _).alloc _⟩
def note (e0 : Int) (is : Bool) (e : Int) : Int := if e0 = 0 then (if is then 0 else e) else e0
set_option maxHeartbeats 400000 in
theorem fail_any (g : Nat) (t : TypeId) (b p : Value) (e0 e : Int) (w : World) (hb : Blk w g t #[b, p, .int .i64 e0]) :
    Calls Tryz.prog 102 #[.pointer (some ⟨g, 0, none⟩), .int .i64 e] w fun r w' => r = .returned (.tuple #[]) ∧ Blk w' g t #[b, p, .int .i64 (note e0 false e)] ∧ Keep (Only g) w w' := by
 have c2 := hb.cell 2
 have f2 := hb.frozen 2
 simp at c2
 by_cases h : e0 = 0
 · have h1 : (e0 == 0) = true := by simpa using h
   have hn : note e0 false e = e := by simp [note, h]
   rw [hn]
   clear h hn
   go_enter Tryz.func102, Tryz.ntmps102
   go_wp2
   go_end0
   exact ⟨rfl, by simpa using hb.set_ 2 (.int .i64 e), (Keep.refl (Only g) _).setCell (p := ⟨g, 2, none⟩) (.inl rfl) _⟩
 · have h1 : (e0 == 0) = false := by simpa using h
   have hn : note e0 false e = e0 := by simp [note, h]
   rw [hn]
   clear h hn
   go_enter Tryz.func102, Tryz.ntmps102
   go_wp2
   go_end0
   exact ⟨rfl, hb, Keep.refl _ _⟩
set_option maxHeartbeats 400000 in
theorem must_any (g : Nat) (t : TypeId) (b p : Value) (e0 e : Int) (is : Bool) (w : World) (hb : Blk w g t #[b, p, .int .i64 e0]) :
    Calls Tryz.prog 85 #[.pointer (some ⟨g, 0, none⟩), .bool is, .int .i64 e] w fun r w' => r = .returned (.tuple #[]) ∧ Blk w' g t #[b, p, .int .i64 (note e0 is e)] ∧ Keep (Only g) w w' := by
 cases is with
 | false =>
  go_enter Tryz.func85, Tryz.ntmps85
  go_wp2_with (go_at_call 102; refine (fail_any g t b p e0 e _ hb).mono ?_; rintro r w' ⟨rfl, hb', hk⟩)
  go_end0
  exact ⟨rfl, hb', hk⟩
 | true =>
  have hn : note e0 true e = e0 := by unfold note; split <;> simp_all
  rw [hn]
  clear hn
  go_enter Tryz.func85, Tryz.ntmps85
  go_wp2
  go_end0
  exact ⟨rfl, hb, Keep.refl _ _⟩
end Go.Proofs.YtmlmbkelpjmafaaGreat
namespace Go.Proofs.YtmlmbkelpjmafaaGreat
open Go.RowKit
def Rd (w : World) (g B : Nat) (b : List UInt8) (at_ : Nat) (e : Int) : Prop :=
 ∃ A cap, Blk w g 155 #[.slice A b.length cap, .int .i64 at_, .int .i64 e] ∧ Reads w B 1 A b.length (b.map bv) ∧ at_ ≤ b.length ∧ b.length ≤ cap ∧ cap ≤ maxLen ∧ B ≤ g
def takeL (b : List UInt8) (at_ : Nat) (e n : Int) : List UInt8 := if e = 0 ∧ 0 ≤ n ∧ n ≤ b.length - at_ then (b.drop at_).take n.toNat else []
def takeAt (b : List UInt8) (at_ : Nat) (e n : Int) : Nat := if e = 0 ∧ 0 ≤ n ∧ n ≤ b.length - at_ then at_ + n.toNat else at_
def takeE (b : List UInt8) (at_ : Nat) (e n : Int) : Int := if 0 ≤ n ∧ n ≤ b.length - at_ then e else note e false 14
def TakePost (g B : Nat) (b : List UInt8) (at_ : Nat) (e n : Int) (w : World) (r : Ending) (w' : World) : Prop :=
 ∃ A c, r = .returned (.slice A (takeL b at_ e n).length c) ∧ Reads w' B 1 A (takeL b at_ e n).length ((takeL b at_ e n).map bv) ∧ (takeL b at_ e n).length ≤ c ∧ c ≤ maxLen ∧
  Rd w' g B b (takeAt b at_ e n) (takeE b at_ e n) ∧ Keep (Only g) w w'
theorem note_ne (e : Int) : (note e false 14 != 0) = true := by
 unfold note
 split <;> simp_all
theorem take_bad {g B : Nat} {b : List UInt8} {at_ : Nat} {e n : Int} {w w1 : World} {A : Option Addr} {cap : Nat} (hout : ¬ (0 ≤ n ∧ n ≤ (b.length : Int) - at_))
    (hb : Blk w1 g 155 #[.slice A b.length cap, .int .i64 at_, .int .i64 (note e false 14)]) (hrd : Reads w B 1 A b.length (b.map bv)) (hat : at_ ≤ b.length) (hcap : b.length ≤ cap) (hmax : cap ≤ maxLen) (hBg : B ≤ g) (hB : B ≤ w.heap.size)
    (hk : Keep (Only g) w w1) : TakePost g B b at_ e n w (.returned (.slice none 0 0)) w1 := by
 have h1 : takeL b at_ e n = [] := by unfold takeL; rw [if_neg (fun q => hout q.2)]
 have h2 : takeAt b at_ e n = at_ := by unfold takeAt; rw [if_neg (fun q => hout q.2)]
 have h3 : takeE b at_ e n = note e false 14 := by unfold takeE; rw [if_neg hout]
 refine ⟨none, 0, ?_, ?_, ?_, Nat.zero_le _, ?_, hk⟩
 · rw [h1]; rfl
 · rw [h1]; exact Reads.none_
 · rw [h1]; exact Nat.le_refl _
 · rw [h2, h3]
   exact ⟨A, cap, hb, hrd.kept hk hB (fun i hi q => by unfold Only at q; omega), hat, hcap, hmax, hBg⟩
theorem take_err {g B : Nat} {b : List UInt8} {at_ : Nat} {e n : Int} {w w1 : World} {A : Option Addr} {cap : Nat} (hin : 0 ≤ n ∧ n ≤ (b.length : Int) - at_) (he : ¬ e = 0)
    (hb : Blk w1 g 155 #[.slice A b.length cap, .int .i64 at_, .int .i64 e]) (hrd : Reads w B 1 A b.length (b.map bv)) (hat : at_ ≤ b.length) (hcap : b.length ≤ cap) (hmax : cap ≤ maxLen) (hBg : B ≤ g) (hB : B ≤ w.heap.size)
    (hk : Keep (Only g) w w1) : TakePost g B b at_ e n w (.returned (.slice none 0 0)) w1 := by
 have h1 : takeL b at_ e n = [] := by unfold takeL; rw [if_neg (fun q => he q.1)]
 have h2 : takeAt b at_ e n = at_ := by unfold takeAt; rw [if_neg (fun q => he q.1)]
 have h3 : takeE b at_ e n = e := by unfold takeE; rw [if_pos hin]
 refine ⟨none, 0, ?_, ?_, ?_, Nat.zero_le _, ?_, hk⟩
 · rw [h1]; rfl
 · rw [h1]; exact Reads.none_
 · rw [h1]; exact Nat.le_refl _
 · rw [h2, h3]
   exact ⟨A, cap, hb, hrd.kept hk hB (fun i hi q => by unfold Only at q; omega), hat, hcap, hmax, hBg⟩
theorem take_ok {g B : Nat} {b : List UInt8} {at_ k : Nat} {w w1 : World} {A : Option Addr} {cap : Nat} (hin : k ≤ b.length - at_)
    (hb : Blk w1 g 155 #[.slice A b.length cap, .int .i64 ((at_ : Int) + (k : Int)), .int .i64 0]) (hrd : Reads w B 1 A b.length (b.map bv)) (hat : at_ ≤ b.length) (hcap : b.length ≤ cap) (hmax : cap ≤ maxLen) (hBg : B ≤ g) (hB : B ≤ w.heap.size)
    (hk : Keep (Only g) w w1) : TakePost g B b at_ 0 k w (.returned (.slice (if cap = at_ then A else A.map (·.add at_)) k (cap - at_))) w1 := by
 have hin' : (0 : Int) = 0 ∧ 0 ≤ (k : Int) ∧ (k : Int) ≤ (b.length : Int) - at_ := ⟨rfl, by omega, by omega⟩
 have h1 : takeL b at_ 0 k = (b.drop at_).take k := by unfold takeL; rw [if_pos hin']; simp
 have h2 : takeAt b at_ 0 k = at_ + k := by unfold takeAt; rw [if_pos hin']; simp
 have h3 : takeE b at_ 0 k = 0 := by unfold takeE; rw [if_pos hin'.2]
 have hl : ((b.drop at_).take k).length = k := by simp; omega
 have hr1 : Reads w1 B 1 A b.length (b.map bv) := hrd.kept hk hB (fun i hi q => by unfold Only at q; omega)
 have hr2 := (hr1.cut (k := at_) (cap := cap) hat hcap).front (k := k) hin
 refine ⟨_, _, by rw [h1, hl], ?_, by rw [h1, hl]; omega, by omega, ?_, hk⟩
 · rw [h1, hl, List.map_take, List.map_drop]
   simpa using hr2
 · rw [h2, h3]
   exact ⟨A, cap, by simpa using hb, hr1, by omega, hcap, hmax, hBg⟩
set_option maxHeartbeats 1000000 in
theorem take_any (g B : Nat) (b : List UInt8) (at_ : Nat) (e n : Int) (w : World) (hr : Rd w g B b at_ e) (hB : B ≤ w.heap.size) :
    Calls Tryz.prog 101 #[.pointer (some ⟨g, 0, none⟩), .int .i64 n] w (TakePost g B b at_ e n w) := by
 obtain ⟨A, cap, hb, hrd, hat, hcap, hmax', hBg⟩ := hr
 have hmax := hmax'
 unfold maxLen at hmax
 have c0 := hb.cell 0
 have c1 := hb.cell 1
 have c2 := hb.cell 2
 have f1 := hb.frozen 1
 simp at c0 c1 c2
 have hl63 : (b.length : Int) ≤ 9223372036854775807 := by omega
 by_cases hneg : n < 0
 · have hd : decide (n < 0) = true := by simpa using hneg
   have hne := note_ne e
   go_enter Tryz.func101, Tryz.ntmps101
   go_wp2_with fail
   go_quiet (fail)
   go_wp2_with (go_at_call 102; refine (fail_any g _ _ _ e 14 _ (hb.drewN _)).mono ?_; rintro r w1 ⟨rfl, hb1, hk⟩; have d2 := hb1.cell 2; simp at d2)
   go_ret
   exact take_bad (by omega) hb1 hrd hat hcap hmax' hBg hB hk.ofDrewN
 · by_cases hbig : (b.length : Int) - at_ < n
   · have hd : decide (n < 0) = false := by simpa using hneg
     have hd2 : decide ((b.length : Int) - at_ < n) = true := by simpa using hbig
     have hne := note_ne e
     go_enter Tryz.func101, Tryz.ntmps101
     go_wp2_with fail
     go_quiet (fail)
     go_wp2_with (go_at_call 102; refine (fail_any g _ _ _ e 14 _ (hb.drewN _)).mono ?_; rintro r w1 ⟨rfl, hb1, hk⟩; have d2 := hb1.cell 2; simp at d2)
     go_ret
     exact take_bad (by omega) hb1 hrd hat hcap hmax' hBg hB hk.ofDrewN
   · have hd : decide (n < 0) = false := by simpa using hneg
     have hd2 : decide ((b.length : Int) - at_ < n) = false := by simpa using hbig
     by_cases he : e = 0
     · subst he
       obtain ⟨k, rfl⟩ := Int.eq_ofNat_of_zero_le (show 0 ≤ n by omega)
       have k1 : at_ + k ≤ b.length := by omega
       by_cases hca : cap = at_
       all_goals
        try subst hca
        go_enter Tryz.func101, Tryz.ntmps101
        go_wp2_with fail
        go_quiet (fail)
        go_wp2_with fail
        obtain ⟨nq_0, rfl⟩ : ∃ n0, n0 = nq := ⟨_, rfl⟩
        go_quiet (fail)
        go_wp2_with fail
        go_ret
        have T := take_ok (k := k) (by omega) ((((hb.drewN nq_0).set_ 1 (.int .i64 (_ + (k : Int)))).drewN nq)) hrd hat hcap hmax' hBg hB ((((Keep.refl (Only g) w).drewN nq_0).setCell (p := ⟨g, 1, none⟩) (.inl rfl) _).drewN nq)
        refine post_congr T ?_
        simp_all
     · have he1 : (e != 0) = true := by simpa using he
       go_enter Tryz.func101, Tryz.ntmps101
       go_wp2_with fail
       go_quiet (fail)
       go_wp2_with fail
       go_ret
       exact take_err (by omega) he (hb.drewN _) hrd hat hcap hmax' hBg hB ((Keep.refl _ _).drewN _)
end Go.Proofs.YtmlmbkelpjmafaaGreat
