/- Commits in memory; contracts of slices.Index and slices.Contains on Ids. No statement of the seat is proved here. -/
import Derived.Test.YtmlmbkelpjmafaaGreatPT09
import Derived.Test.YtmlmbkelpjmafaaGreatPTOwn
import Derived.Deep.LoopGhost
namespace Go.Proofs.YtmlmbkelpjmafaaGreat
open Go.RowKit
set_option maxHeartbeats 1000000 in
theorem body_tree (b : List UInt8) (A : Option Addr) (c : Nat) (w : World) (hr : Reads w w.heap.size 1 A b.length (b.map bv)) (hl : b.length ≤ 1000000) (hc1 : b.length ≤ c) (hc2 : c ≤ maxLen) :
    Calls Tryz.prog 52 #[.int .i64 2, .slice A b.length c] w fun r w' => r = .returned (.int .i64 (parseTree b).2) ∧ Below w.heap.size w w' := by
 go_enter Tryz.func52, Tryz.ntmps52
 go_wp2_with fail
 refine (parseTree_any b A c _ hr hl hc1 hc2).mono ?_
 rintro r w2 ⟨A2, c2, rfl, ho2, hb2⟩
 go_wp2_with fail
 go_ret
 exact ⟨rfl, hb2⟩
end Go.Proofs.YtmlmbkelpjmafaaGreat
namespace Go.Proofs.YtmlmbkelpjmafaaGreat
open Go.RowKit
section
variable {P : Program}
theorem run_part_one (w : World) {ty : TypeId} {d : TypeDesc} (hu : P.underlying ty = some d) (hd : (match d with | .struct _ | .array _ _ => true | _ => false) = false) (cs : Array Value) (i : Nat) (v : Value) (hv : cs[i]? = some v) : (part ty cs i).run P w = .ok v w := by
 have : (isAgg ty).run P w = .ok false w := by
  unfold isAgg
  rw [Sem.run_bind, run_underlying hu w]
  cases d <;> simp_all
 simp [part, Sem.run_bind, this, hv]
end
end Go.Proofs.YtmlmbkelpjmafaaGreat
namespace Go.Proofs.YtmlmbkelpjmafaaGreat
open Go.RowKit
def LdId (v : Value) : Sem Value := Instr.loadAt 29 v
theorem ld_id (v : Value) : Instr.loadAt 29 v = LdId v := rfl
theorem LdId.blk {w : World} {g : Nat} {t : TypeId} {i : Id} (h : Blk w g t (idC i)) : (LdId (.pointer (some ⟨g, 0, none⟩))).run Tryz.prog w = .ok (idV i) w := load_id h
def idLs (l : List Id) : List Value := l.flatMap idL
theorem idLs_at (l : List Id) (k j : Nat) (x : Id) (hk : l[k]? = some x) (u : Value) (hj : (idL x)[j]? = some u) : (idLs l)[k * 32 + j]? = some u := by
 induction l generalizing k with
 | nil => simp at hk
 | cons y l ih =>
  have hj' : j < 32 := by
   rcases Nat.lt_or_ge j 32 with q | q
   · exact q
   · rw [List.getElem?_eq_none (by rw [idL_len]; exact q)] at hj; cases hj
  cases k with
  | zero =>
   simp only [List.getElem?_cons_zero, Option.some.injEq] at hk
   subst hk
   simp only [idLs, List.flatMap_cons, Nat.zero_mul, Nat.zero_add]
   rw [List.getElem?_append_left (by rw [idL_len]; exact hj')]
   exact hj
  | succ k =>
   simp only [List.getElem?_cons_succ] at hk
   have := ih k hk
   simp only [idLs, List.flatMap_cons]
   rw [List.getElem?_append_right (by rw [idL_len]; omega), idL_len]
   rw [show (k + 1) * 32 + j - 32 = k * 32 + j by omega]
   exact this
theorem ldId_at {w : World} {l : List Id} {k : Nat} {x : Id} {g off : Nat} (hc : ∀ j u, (idLs l)[j]? = some u → w.cell? ⟨g, off + j, none⟩ = some u) (hk : l[k]? = some x) :
    (LdId (.pointer (some ⟨g, off + k * 32, none⟩))).run Tryz.prog w = .ok (idV x) w :=
 run_loadAt_cells (P := Tryz.prog) w _ (idC x) Tryz.underlying29 rfl (by rw [idC_size]; exact info42) (fun j v hj => by rw [add_at, Nat.add_assoc]; exact hc _ _ (idLs_at l k j x hk v hj))
def EqId (u v : Value) : Sem Value := binOp .eql 29 u v
theorem eq_id (u v : Value) : binOp .eql 29 u v = EqId u v := rfl
theorem run_EqId (w : World) (i j : Id) : (EqId (idV i) (idV j)).run Tryz.prog w = .ok (.bool (i == j)) w := run_eql_id w i j
attribute [local go_sem ↓] ld_id eq_id
set_option maxHeartbeats 1000000 in
set_option maxRecDepth 100000 in
theorem index_any (l : List Id) (x : Id) (A : Option Addr) (c : Nat) (B : Nat) (w : World) (hr : Reads w B 32 A l.length (idLs l)) (hB : B ≤ w.heap.size) (hl : l.length ≤ 9223372036854775807) :
    Calls Tryz.prog 104 #[.slice A l.length c, idV x] w fun r w' => ∃ n : Int, r = .returned (.int .i64 n) ∧ decide (0 ≤ n) = l.contains x ∧ Keep Nothing w w' := by
 go_enter Tryz.func104, Tryz.ntmps104
 go_wp2_with (first | (refine wpList_boxed rfl rfl (cs := idC x) rfl ?_))
 have hb0 : Blk (w.alloc (.cells (idC x) 29)) w.heap.size 29 (idC x) := Blk.new _ _ _
 have hk0 : Keep Nothing w (w.alloc (.cells (idC x) 29)) := (Keep.refl _ _).alloc _
 have hrk : ∀ W, Keep Nothing w W → Reads W B 32 A l.length (idLs l) := fun W h => hr.kept h hB (fun _ _ q => q)
 have HR := Lib.hid hrk
 clear hrk
 generalize w.alloc (.cells (idC x) 29) = w0 at *
 generalize w.heap.size = q at *
 go_loopw [8] (fun i wr => ∃ k : Nat, k ≤ l.length ∧ i = .int .i64 k ∧ (l.take k).contains x = false ∧ Keep Nothing w wr ∧ Blk wr q 29 (idC x)) (fun i _ => l.length - (intOf i).toNat)
 case atStart => exact ⟨0, Nat.zero_le _, rfl, rfl, hk0, hb0⟩
 case round =>
  obtain ⟨k, hk, rfl, hno, hkw, hbx⟩ := hrel
  have HN := Lib.hid hno
  clear hno
  by_cases hlt : k < l.length
  · obtain ⟨y, hy⟩ : ∃ y, l[k]? = some y := ⟨_, List.getElem?_eq_getElem hlt⟩
    have hts : l.take (k + 1) = l.take k ++ [y] := by rw [List.take_succ_eq_append_getElem hlt]; congr 2; rw [List.getElem?_eq_getElem hlt] at hy; simpa using hy
    obtain ⟨g1, o1, rfl, _, hc1⟩ := (HR.out _ hkw).at0 (by omega) (by omega)
    have L1 := fun n => LdId.blk (hbx.drewN n)
    have L2 := fun n => ldId_at (w := wr.drewN n) (fun j u hj => hc1 j u hj) hy
    have G1 := fun (a b : Operand) (W : World) => guard_id .eql a b x y W
    have HT := Lib.hid hts
    have HY := Lib.hid hy
    have hi0 : (0 : Int) ≤ (k : Int) := Int.natCast_nonneg _
    have hi1 : (k : Int) < (l.length : Int) := by omega
    clear hc1 hts hy
    cases hxy : (x == y) with
    | true =>
     have E1 := fun W => run_EqId W x y
     rw [hxy] at E1
     have HF := Lib.hid hxy
     clear hxy
     go_wp2_with fail
     go_quiet (fail)
     go_wp2_with fail
     go_ret
     refine ⟨k, rfl, ?_, hkw.drewN _⟩
     have e1 : x = y := eq_of_beq HF.out
     subst e1
     rw [show l.contains x = true from List.contains_iff_mem.2 (List.mem_of_getElem? HY.out)]
     simp
    | false =>
     have E1 := fun W => run_EqId W x y
     rw [hxy] at E1
     have HF := Lib.hid hxy
     clear hxy
     go_wp2_with fail
     go_quiet (fail)
     go_wp2_with fail
     go_roundw
     case rel =>
      refine ⟨k + 1, by omega, by go_num, ?_, hkw.drewN _, hbx.drewN _⟩
      rw [HT.out, List.contains_eq_any_beq, List.any_append, ← List.contains_eq_any_beq, HN.out]
      simpa using HF.out
     case measure => simp [intOf]; omega
  · obtain rfl : k = l.length := by omega
    go_wp2_with fail
    go_ret
    refine ⟨-1, rfl, ?_, hkw⟩
    have := HN.out
    rw [List.take_length] at this
    rw [this]
    rfl
def hasId (l : List Id) (x : Id) : Bool := l.contains x
set_option maxHeartbeats 1000000 in
theorem contains_any (l : List Id) (x : Id) (A : Option Addr) (c : Nat) (B : Nat) (w : World) (hr : Reads w B 32 A l.length (idLs l)) (hB : B ≤ w.heap.size) (hl : l.length ≤ 9223372036854775807) :
    Calls Tryz.prog 88 #[.slice A l.length c, idV x] w fun r w' => r = .returned (.bool (hasId l x)) ∧ Keep Nothing w w' := by
 go_enter Tryz.func88, Tryz.ntmps88
 have hb0 : Blk (w.alloc (.cells (idC x) 29)) w.heap.size 29 (idC x) := Blk.new _ _ _
 have hk0 : Keep Nothing w (w.alloc (.cells (idC x) 29)) := (Keep.refl _ _).alloc _
 have hr0 := hr.alloc hB (.cells (idC x) 29)
 have hB0 : B ≤ (w.alloc (.cells (idC x) 29)).heap.size := by simp; omega
 have L1 := LdId.blk hb0
 go_wp2_with (first | (refine wpList_boxed rfl rfl (cs := idC x) rfl ?_; generalize w.alloc (.cells (idC x) 29) = w0 at *; generalize w.heap.size = q at *))
 refine (index_any l x A c B _ hr0 hB0 hl).mono ?_
 rintro r w1 ⟨n, rfl, hn, hk1⟩
 have HN := Lib.hid hn
 clear hn
 go_wp2_with fail
 go_ret
 exact ⟨by unfold hasId; rw [← HN.out]; rfl, hk0.trans hk1⟩
structure ComD where
 tree : Id
 parents : List Id
 author : ByteArray
 time : Int
 msg : ByteArray
def comL (tree : Id) (pv : Value) (author : ByteArray) (time : Int) (msg : ByteArray) : List Value := idL tree ++ [pv, .string author, .int .i64 time, .string msg]
def comC (tree : Id) (pv : Value) (author : ByteArray) (time : Int) (msg : ByteArray) : Array Value := (comL tree pv author time msg).toArray
theorem comL_len (t : Id) (p : Value) (a : ByteArray) (n : Int) (m : ByteArray) : (comL t p a n m).length = 36 := by simp [comL, idL_len]
theorem comC_size (t : Id) (p : Value) (a : ByteArray) (n : Int) (m : ByteArray) : (comC t p a n m).size = 36 := by simp [comC, comL_len]
theorem comC_at {t : Id} {p : Value} {a : ByteArray} {n : Int} {m : ByteArray} : (comC t p a n m)[32]? = some p ∧ (comC t p a n m)[33]? = some (.string a) ∧ (comC t p a n m)[34]? = some (.int .i64 n) ∧ (comC t p a n m)[35]? = some (.string m) := by
 have h := idL_len t
 simp [comC, comL, h]
theorem comC_id (t : Id) (p : Value) (a : ByteArray) (n : Int) (m : ByteArray) : idC t = (comC t p a n m).extract 0 (0 + (idC t).size) := by
 apply Array.ext'
 have h := idL_len t
 simp [comC, comL, idC, h]
theorem comC_set (t : Id) (p : Value) (a : ByteArray) (n : Int) (m : ByteArray) : (∀ p', (comC t p a n m).setIfInBounds 32 p' = comC t p' a n m) ∧ (∀ a', (comC t p a n m).setIfInBounds 33 (.string a') = comC t p a' n m) ∧
    (∀ n', (comC t p a n m).setIfInBounds 34 (.int .i64 n') = comC t p a n' m) ∧ (∀ m', (comC t p a n m).setIfInBounds 35 (.string m') = comC t p a n m') := by
 have h := idL_len t
 refine ⟨fun _ => ?_, fun _ => ?_, fun _ => ?_, fun _ => ?_⟩ <;> (apply Array.ext'; simp [comC, comL, List.set_append_right, h])
theorem info_com : (Tryz.prog.info? 94).map (·.size) = some 36 := by kernel_rfl
theorem ldId_com {w : World} {g : Nat} {tt : TypeId} {t : Id} {p : Value} {a : ByteArray} {n : Int} {m : ByteArray} (h : Blk w g tt (comC t p a n m)) : (LdId (.pointer (some ⟨g, 0, none⟩))).run Tryz.prog w = .ok (idV t) w :=
 run_loadAt_blk (P := Tryz.prog) h 0 (idC t) Tryz.underlying29 rfl (by rw [idC_size]; exact info42) (comC_id t p a n m)
theorem load_com {w : World} {g : Nat} {tt : TypeId} {t : Id} {p : Value} {a : ByteArray} {n : Int} {m : ByteArray} (h : Blk w g tt (comC t p a n m)) : (Instr.loadAt 94 (.pointer (some ⟨g, 0, none⟩))).run Tryz.prog w = .ok (.agg (comC t p a n m)) w :=
 run_loadAt_blk (P := Tryz.prog) h 0 (comC t p a n m) Tryz.underlying94 rfl (by rw [comC_size]; exact info_com) (by simp)
def nilS : Value := .slice none 0 0
theorem zero_com (w : World) : (zeroValue 94).run Tryz.prog w = .ok (.agg (comC noId nilS ByteArray.empty 0 ByteArray.empty)) w := by kernel_rfl
theorem build_com0 (w : World) : (Instr.build 94 #[]).run Tryz.prog w = .ok (.agg (comC noId nilS ByteArray.empty 0 ByteArray.empty)) w := by kernel_rfl
theorem elemId : Elem Tryz.prog 65 29 32 32 := by
 refine ⟨Tryz.underlying65, ?_, by decide⟩
 obtain ⟨i, hi, h1, h2, h3⟩ := info_parts (show (Tryz.prog.info? 29).map (fun i => (i.zero, i.size, i.bytes)) = some (some (idV noId), 32, 32) by kernel_rfl)
 exact ⟨i, _, hi, h1, h2, h3, idC_size _⟩
end Go.Proofs.YtmlmbkelpjmafaaGreat
