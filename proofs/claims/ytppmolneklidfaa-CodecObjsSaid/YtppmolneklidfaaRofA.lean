/-
  Words for the reference's Of. No statement of the seat is proved here.
-/
import Derived.Test.YtppmolneklidfaaSha4
import Derived.Deep.DeepCutAuto
namespace Go.Proofs.Ytppmolneklidfaa
open Go.RowKit

theorem rturn_q (x : UInt32) (n : Nat) (z : Int) (hz : z = (n : Int)) (hn : Turns n) (w : World) (k : Nat) :
    Calls Try.prog 94 #[.int .u32 (x.toNat : Int), .int .i64 z] (w.drewN k) fun r w' => r = .returned (.int .u32 ((rotU x n).toNat : Int)) ∧ ∃ m, w' = w.drewN m := by
  subst hz
  exact Calls.quiet_of (rturn_any x n hn _)
theorem build_hp (w : World) : (Instr.build 159 hParts).run Try.prog w = .ok (.agg (stC sha0)) w := by kernel_rfl
theorem kC_one : ∀ v ∈ kC.toList, v.oneCell' = true := by simpa [kC] using u32_one shaK
/-- What stands beside the words while the reference works. -/
structure RO (w wr : World) (q kb hb bb : Nat) (KC HC : Array Value) (A : Option Addr) (c : Nat) (M : List UInt8) : Prop where
  own : Own wr bb 5 1 A M.length c (M.map bv)
  hs : Blk wr hb 159 HC
  ks : Blk wr kb 158 KC
  qs : Blk wr q 42 (idC noId)
  keep : Keep Nothing w wr
section
variable {w wr : World} {q kb hb bb : Nat} {KC HC : Array Value} {A : Option Addr} {c : Nat} {M : List UInt8}
theorem RO.drew (h : RO w wr q kb hb bb KC HC A c M) : RO w wr.drew q kb hb bb KC HC A c M := ⟨h.own.drew, h.hs.drew, h.ks.drew, h.qs.drew, h.keep.drew⟩
theorem RO.drewN (h : RO w wr q kb hb bb KC HC A c M) (n : Nat) : RO w (wr.drewN n) q kb hb bb KC HC A c M := ⟨h.own.drewN n, h.hs.drewN n, h.ks.drewN n, h.qs.drewN n, h.keep.drewN n⟩
theorem RO.set_ (h : RO w wr q kb hb bb KC HC A c M) {p o : Nat} {t : TypeId} {cs : Array Value} (hp : Blk wr p t cs) (ht : t ≠ 5) (h1 : hb ≠ p) (h2 : kb ≠ p) (h3 : q ≠ p) (h4 : w.heap.size ≤ p) (v : Value) : RO w (wr.setCell ⟨p, o, none⟩ v) q kb hb bb KC HC A c M :=
  ⟨h.own.setCell (p := ⟨p, o, none⟩) hp ht v, h.hs.far (p := ⟨p, o, none⟩) h1 v, h.ks.far (p := ⟨p, o, none⟩) h2 v, h.qs.far (p := ⟨p, o, none⟩) h3 v, h.keep.setCell (p := ⟨p, o, none⟩) (.inr h4) v⟩
theorem RO.setH (h : RO w wr q kb hb bb KC HC A c M) {o : Nat} (h2 : kb ≠ hb) (h3 : q ≠ hb) (h4 : w.heap.size ≤ hb) (v : Value) : RO w (wr.setCell ⟨hb, o, none⟩ v) q kb hb bb KC (HC.setIfInBounds o v) A c M :=
  ⟨h.own.setCell (p := ⟨hb, o, none⟩) h.hs (by decide) v, h.hs.set_ o v, h.ks.far (p := ⟨hb, o, none⟩) h2 v, h.qs.far (p := ⟨hb, o, none⟩) h3 v, h.keep.setCell (p := ⟨hb, o, none⟩) (.inr h4) v⟩
theorem RO.nothing (h : RO w wr q kb hb bb KC HC A c M) {w' : World} (hk : Keep Nothing wr w') : RO w w' q kb hb bb KC HC A c M :=
  ⟨h.own.kept (b' := 0) (E := []) (G := []) (Kept.ofKeep hk (by unfold Nothing; simp)) (by simp) (by simp), h.hs.keep hk (fun q => q), h.ks.keep hk (fun q => q), h.qs.keep hk (fun q => q), h.keep.trans hk⟩
theorem RO.byte {mg mo : Nat} (h : RO w wr q kb hb bb KC HC (some ⟨mg, mo, none⟩) c M) (j : Nat) (hj : j < M.length) : wr.cell? ⟨mg, mo + j, none⟩ = some (bv (M.getD j 0)) := by
  obtain ⟨g', o', e, _, hc⟩ := h.own.reads.at0 (by omega) (by omega)
  injection e with e
  injection e with e1 e2
  subst e1 e2
  exact hc j _ (by simp [hj])
end
theorem addU_assoc (a b c : UInt32) : addU (addU a b) c = addU a (addU b c) := UInt32.add_assoc a b c
theorem row_at8 (L : List UInt32) (k : Nat) (hk : k < L.length) : (u32L L).toArray[k]? = some (.int .u32 ((L.getD k 0).toNat : Int)) := by
  have := row_get L [] k hk
  rwa [List.append_nil] at this
theorem row_set8 (L : List UInt32) (k : Nat) (x : UInt32) : (u32L L).toArray.setIfInBounds k (.int .u32 (x.toNat : Int)) = (u32L (L.set k x)).toArray := by
  apply Array.ext'
  simp [u32L, wv, List.map_set]
def m1 (b : List UInt8) (z : Nat) : List UInt8 := b ++ (128 :: List.replicate z 0)
theorem m1_len (b : List UInt8) (z : Nat) : (m1 b z).length = b.length + 1 + z := by simp [m1]; omega
theorem m1_succ (b : List UInt8) (z : Nat) : m1 b (z + 1) = m1 b z ++ [0] := by
  unfold m1
  rw [List.replicate_succ', ← List.cons_append, List.append_assoc]

/-- The bodies of a text's loops, in the text's order. -/
def loopsOf : Code → List Code
  | .loop c => c :: loopsOf c
  | .seq a b => loopsOf a ++ loopsOf b
  | .block _ c => loopsOf c
  | .scope c => loopsOf c
  | .cond _ a b => loopsOf a ++ loopsOf b
  | _ => []
end Go.Proofs.Ytppmolneklidfaa
