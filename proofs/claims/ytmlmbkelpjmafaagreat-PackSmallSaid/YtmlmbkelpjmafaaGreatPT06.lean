/- Contract of codec.EncodeTree. No statement of the seat is proved here. -/
import Derived.Test.YtmlmbkelpjmafaaGreatPT03
import Derived.Test.YtmlmbkelpjmafaaGreatPTcName
import Derived.Deep.LoopGhost
namespace Go.Proofs.YtmlmbkelpjmafaaGreat
open Go.RowKit
structure Ent where
 name : ByteArray
 kind : Int
 id : Id
def entL (x : Ent) : List Value := .string x.name :: .int .i64 x.kind :: idL x.id
def entC (x : Ent) : Array Value := (entL x).toArray
def entV (x : Ent) : Value := .agg (entC x)
theorem entL_len (x : Ent) : (entL x).length = 34 := by simp [entL, idL_len]
theorem entC_size (x : Ent) : (entC x).size = 34 := by simp [entC, entL_len]
theorem entC_id (x : Ent) : idC x.id = (entC x).extract 2 (2 + (idC x.id).size) := by
 apply Array.ext'
 simp [entC, entL, idC, idL_len, List.take_of_length_le]
theorem info_ent : (Tryz.prog.info? 117).map (·.size) = some 34 := by kernel_rfl
def above (a b : ByteArray) : Bool := !Op.bytesLess a.toList b.toList && !(a.toList == b.toList)
def kindOk (k : Int) : Bool := decide (1 ≤ k) && decide (k ≤ 4)
def entE (e0 : Int) (x : Ent) (was : ByteArray) (first : Bool) : Int :=
 note (note (note (note e0 (kindOk x.kind) 3) (nameOk x.name.data.toList) 7) (!isNone x.id) 1) (first || above x.name was) 18
theorem load_ent_id {w : World} {q : Nat} {x : Ent} (h : Blk w q 117 (entC x)) : (Instr.loadAt 29 (.pointer (some ⟨q, 2, none⟩))).run Tryz.prog w = .ok (idV x.id) w :=
 run_loadAt_blk (P := Tryz.prog) h 2 (idC x.id) Tryz.underlying29 rfl (by rw [idC_size]; exact info42) (entC_id x)
theorem load_ent {w : World} {q : Nat} {t : TypeId} {x : Ent} (h : Blk w q t (entC x)) : (Instr.loadAt 117 (.pointer (some ⟨q, 0, none⟩))).run Tryz.prog w = .ok (entV x) w :=
 run_loadAt_blk (P := Tryz.prog) h 0 (entC x) Tryz.underlying117 rfl (by rw [entC_size]; exact info_ent) (by simp)
def EntPost (g : Nat) (t : TypeId) (b p : Value) (e : Int) (w : World) (r : Ending) (w' : World) : Prop := r = .returned (.tuple #[]) ∧ Blk w' g t #[b, p, .int .i64 e] ∧ Keep (Only g) w w'
set_option maxHeartbeats 2000000 in
theorem entry_any (g : Nat) (t : TypeId) (b p : Value) (e0 : Int) (x : Ent) (was : ByteArray) (first : Bool) (w : World) (hb : Blk w g t #[b, p, .int .i64 e0]) :
    Calls Tryz.prog 86 #[.pointer (some ⟨g, 0, none⟩), entV x, .string was, .bool first] w (EntPost g t b p (entE e0 x was first) w) := by
 have lg := hb.lt
 obtain ⟨k0, hk0⟩ : ∃ k : Bool, kindOk x.kind = k := ⟨_, rfl⟩
 have hb1 := hb.alloc (.cells (entC x) 117)
 have hq1 : Blk (w.alloc (.cells (entC x) 117)) w.heap.size 117 (entC x) := Blk.new _ _ _
 have hk1 : Keep (Only g) w (w.alloc (.cells (entC x) 117)) := (Keep.refl _ _).alloc _
 have hne : w.heap.size ≠ g := by omega
 unfold entE
 rw [hk0]
 by_cases h1 : 1 ≤ x.kind
 all_goals by_cases h2 : x.kind ≤ 4
 all_goals try (exfalso; omega)
 all_goals cases first
 all_goals
  simp only [kindOk, h1, h2, decide_true, decide_false, Bool.and_true, Bool.and_false, Bool.and_self] at hk0
  subst hk0
  try have d1 := decide_eq_false h1
  try have d2 := decide_eq_false h2
  go_enter Tryz.func86, Tryz.ntmps86
  go_wp2_with (first | (refine wpList_boxed rfl rfl (cs := entC x) rfl ?_; generalize w.alloc (.cells (entC x) 117) = w1 at *; generalize w.heap.size = q at *; have a1 := hq1.cell 1; have a2 := hq1.cell 0; simp [entC, entL] at a1 a2))
  refine (must_any g t b p e0 3 _ _ hb1).mono ?_
  rintro r w2 ⟨rfl, hb2, hkk2⟩
  have hq2 := hq1.keep hkk2 hne
  have hk2 := hk1.trans hkk2
  have b2 := hq2.cell 0
  simp [entC, entL] at b2
  clear hkk2 hk1 hq1 hb1 a1 a2
  go_wp2_with fail
  refine (name_any x.name _).mono ?_
  rintro r w3 ⟨rfl, hbe3⟩
  have hb3 := hb2.below hbe3 hb2.lt
  have hq3 := hq2.below hbe3 hq2.lt
  have hk3 := hk2.trans (Below.keep_ hbe3 _)
  clear hbe3 hk2 hq2 hb2 b2
  go_wp2_with fail
  refine (must_any g t b p _ 7 _ _ hb3).mono ?_
  rintro r w4 ⟨rfl, hb4, hkk4⟩
  have hq4 := hq3.keep hkk4 hne
  have hk4 := hk3.trans hkk4
  clear hkk4 hk3 hq3 hb3
  go_wp2_with (first | (refine wpList_load rfl rfl rfl (load_ent_id hq4) ?_))
  refine (none_any x.id _).mono ?_
  rintro r w5 ⟨rfl, hkk5⟩
  have hb5 := hb4.keep hkk5 (fun q => q)
  have hq5 := hq4.keep hkk5 (fun q => q)
  have hk5 := hk4.trans (hkk5.mono (fun _ _ q => q.elim))
  clear hkk5 hk4 hq4 hb4
  go_wp2_with fail
  refine (must_any g t b p _ 1 _ _ hb5).mono ?_
  rintro r w6 ⟨rfl, hb6, hkk6⟩
  have hq6 := hq5.keep hkk6 hne
  have hk6 := hk5.trans hkk6
  clear hkk6 hk5 hq5 hb5
  have b6 := hq6.cell 0
  simp [entC, entL] at b6
  go_wp2_with fail
  refine (must_any g t b p _ 18 _ _ hb6).mono ?_
  rintro r w7 ⟨rfl, hb7, hkk7⟩
  have hk7 := hk6.trans hkk7
  go_wp2_with fail
  go_end0
  refine ⟨rfl, ?_, hk7⟩
  first | exact hb7 | (simp only [Bool.false_or, above]; exact hb7)
end Go.Proofs.YtmlmbkelpjmafaaGreat
namespace Go.Proofs.YtmlmbkelpjmafaaGreat
open Go.RowKit
def entLs (l : List Ent) : List Value := l.flatMap entL
theorem entL_one (x : Ent) : ∀ v ∈ (entC x).toList, v.oneCell' = true := by
 intro v hv
 simp only [entC, entL, List.mem_cons] at hv
 rcases hv with rfl | rfl | hv
 · rfl
 · rfl
 · exact idL_one _ v hv
theorem note_zero {e0 e : Int} {is : Bool} (he : e ≠ 0) : note e0 is e = 0 ↔ e0 = 0 ∧ is = true := by
 unfold note
 split
 · split <;> simp_all
 · simp_all
theorem kindOk_le {k : Int} (h : kindOk k = true) : 1 ≤ k ∧ k ≤ 4 := by
 unfold kindOk at h
 simpa using h
end Go.Proofs.YtmlmbkelpjmafaaGreat
