/-
  Contracts of the small functions of package codec: fail, must, none. No statement of the seat is proved here.
-/
import Derived.Test.YtppmolneklidfaaRows
import Derived.Test.YtppmolneklidfaaLib
import Derived.BigQuiet
import Derived.Deep.QuietTactic
namespace Go.Proofs.Ytppmolneklidfaa
open Go.RowKit

/-! ### Bytes and Ids -/
def bv (x : UInt8) : Value := .int .u8 (x.toNat : Int)
abbrev Id := {l : List UInt8 // l.length = 32}
def idL (i : Id) : List Value := i.1.map bv
def idC (i : Id) : Array Value := (idL i).toArray
def idV (i : Id) : Value := .agg (idC i)
theorem idL_len (i : Id) : (idL i).length = 32 := by simp [idL, i.2]
theorem idC_size (i : Id) : (idC i).size = 32 := by simp [idC, idL_len]
theorem bv_one (x : UInt8) : (bv x).oneCell' = true := rfl
theorem idL_one (i : Id) : ∀ v ∈ idL i, v.oneCell' = true := by
  intro v hv
  obtain ⟨x, _, rfl⟩ := List.mem_map.1 hv
  rfl
def noId : Id := ⟨List.replicate 32 0, by simp⟩
def isNone (i : Id) : Bool := i == noId

theorem idC_ints (i : Id) : idC i = ((i.1.map fun x => (x.toNat : Int)).map (Value.int .u8)).toArray := by
  unfold idC idL
  rw [List.map_map]
  rfl
theorem ids_beq (i j : Id) : ((i.1.map fun x => (x.toNat : Int)) == (j.1.map fun x => (x.toNat : Int))) = (i == j) := by
  rw [Bool.eq_iff_iff]
  simp only [beq_iff_eq]
  constructor
  · intro h
    apply Subtype.ext
    have hinj : ∀ a b : List UInt8, a.map (fun x => (x.toNat : Int)) = b.map (fun x => (x.toNat : Int)) → a = b := by
      intro a
      induction a with
      | nil => intro b h; cases b <;> simp_all
      | cons x a ih =>
        intro b h
        cases b with
        | nil => simp at h
        | cons y b =>
          simp only [List.map_cons, List.cons.injEq] at h
          rw [ih b h.2, UInt8.toNat_inj.1 (Int.ofNat_inj.1 h.1)]
    exact hinj _ _ h
  · rintro rfl; rfl

theorem info42 : (Try.prog.info? 42).map (·.size) = some 32 := by kernel_rfl
theorem infoU8 : (Try.prog.info? 5).map (·.size) = some 1 := by kernel_rfl

theorem run_eql_id (w : World) (i j : Id) : (binOp .eql 42 (idV i) (idV j)).run Try.prog w = .ok (.bool (i == j)) w := by
  obtain ⟨inf, hi, hs⟩ : ∃ inf, Try.prog.info? 5 = some inf ∧ inf.size = 1 := by
    have := infoU8
    cases h : Try.prog.info? 5 with
    | none => rw [h] at this; cases this
    | some inf => exact ⟨inf, rfl, by rw [h] at this; simpa using this⟩
  have h := run_equalIn_row (P := Try.prog) w 9998 (t := 42) (len := 32) Try.underlying42 Try.underlying5 hi hs (i.1.map fun x => (x.toNat : Int)) (j.1.map fun x => (x.toNat : Int)) (by simp [i.2]) (by simp [j.2])
  rw [← idC_ints, ← idC_ints, ids_beq] at h
  show (binOp .eql 42 (.agg (idC i)) (.agg (idC j))).run Try.prog w = _
  rw [run_eql_struct, h]
  rfl

theorem plain_id : Try.prog.eqGuardType Try.prog.depth 42 = false := by kernel_rfl
theorem guard_id (op : BinOp) (x y : Operand) (i j : Id) (w : World) : (eqGuard op 42 x y (idV i) (idV j)).run Try.prog w = .ok () w :=
  run_eqGuard_agg (P := Try.prog) w op 42 x y (idC i) (idC j) plain_id

theorem load_id {w : World} {g : Nat} {t : TypeId} {i : Id} (h : Blk w g t (idC i)) : (Instr.loadAt 42 (.pointer (some ⟨g, 0, none⟩))).run Try.prog w = .ok (idV i) w :=
  run_loadAt_blk (P := Try.prog) h 0 (idC i) Try.underlying42 rfl (by rw [idC_size]; exact info42) (by simp)
theorem zero_noId (w : World) : (zeroValue 42).run Try.prog w = .ok (idV noId) w := by kernel_rfl
theorem build_noId (w : World) : (Instr.build 42 #[]).run Try.prog w = .ok (idV noId) w := by kernel_rfl

set_option maxHeartbeats 400000 in
theorem none_any (i : Id) (w : World) : Calls Try.prog 56 #[idV i] w fun r w' => r = .returned (.bool (isNone i)) ∧ Keep Nothing w w' := by
  unfold isNone
  go_enter Try.func56, Try.ntmps56
  go_wp2_with (first | (refine wpList_boxed rfl rfl (cs := idC i) rfl ?_) | (refine wpList_load rfl rfl rfl (load_id (Blk.new _ _ _)) ?_) | (refine wpList_built rfl rfl (vs := #[]) rfl (build_noId _) ?_) | (refine wpList_bin rfl rfl (u := idV i) rfl (v := idV noId) rfl (guard_id _ _ _ i noId _) (run_eql_id _ i noId) ?_))
  go_ret
  exact ⟨rfl, (Keep.refl _ _).alloc _⟩

/-! ### The source's error -/
def note (e0 : Int) (is : Bool) (e : Int) : Int := if e0 = 0 then (if is then 0 else e) else e0

set_option maxHeartbeats 400000 in
theorem fail_any (g : Nat) (t : TypeId) (b p : Value) (e0 e : Int) (w : World) (hb : Blk w g t #[b, p, .int .i64 e0]) :
    Calls Try.prog 70 #[.pointer (some ⟨g, 0, none⟩), .int .i64 e] w fun r w' => r = .returned (.tuple #[]) ∧ Blk w' g t #[b, p, .int .i64 (note e0 false e)] ∧ Keep (Only g) w w' := by
  have c2 := hb.cell 2
  have f2 := hb.frozen 2
  simp at c2
  by_cases h : e0 = 0
  · have h1 : (e0 == 0) = true := by simpa using h
    have hn : note e0 false e = e := by simp [note, h]
    rw [hn]
    clear h hn
    go_enter Try.func70, Try.ntmps70
    go_wp2
    go_end0
    exact ⟨rfl, by simpa using hb.set_ 2 (.int .i64 e), (Keep.refl (Only g) _).setCell (p := ⟨g, 2, none⟩) (.inl rfl) _⟩
  · have h1 : (e0 == 0) = false := by simpa using h
    have hn : note e0 false e = e0 := by simp [note, h]
    rw [hn]
    clear h hn
    go_enter Try.func70, Try.ntmps70
    go_wp2
    go_end0
    exact ⟨rfl, hb, Keep.refl _ _⟩

set_option maxHeartbeats 400000 in
theorem must_any (g : Nat) (t : TypeId) (b p : Value) (e0 e : Int) (is : Bool) (w : World) (hb : Blk w g t #[b, p, .int .i64 e0]) :
    Calls Try.prog 40 #[.pointer (some ⟨g, 0, none⟩), .bool is, .int .i64 e] w fun r w' => r = .returned (.tuple #[]) ∧ Blk w' g t #[b, p, .int .i64 (note e0 is e)] ∧ Keep (Only g) w w' := by
  cases is with
  | false =>
    go_enter Try.func40, Try.ntmps40
    go_wp2_with (go_at_call 70; refine (fail_any g t b p e0 e _ hb).mono ?_; rintro r w' ⟨rfl, hb', hk⟩)
    go_end0
    exact ⟨rfl, hb', hk⟩
  | true =>
    have hn : note e0 true e = e0 := by unfold note; split <;> simp_all
    rw [hn]
    clear hn
    go_enter Try.func40, Try.ntmps40
    go_wp2
    go_end0
    exact ⟨rfl, hb, Keep.refl _ _⟩
end Go.Proofs.Ytppmolneklidfaa
