/- Contract of codec.EncodeCommit. No statement of the seat is proved here. -/
import Derived.Test.YtmlmbkelpjmafaaGreatPTcPcom
namespace Go.Proofs.YtmlmbkelpjmafaaGreat
open Go.RowKit
theorem note_err {e : Int} (h : e ≠ 0) (b : Bool) (k : Int) : note e b k = e := if_neg h
attribute [local go_sem ↓] ld_id eq_id bd_com st_com
theorem Wt.drew {w : World} {g base : Nat} {bs : List UInt8} {e : Int} (h : Wt w g base bs e) : Wt w.drew g base bs e := h
theorem Wt.keep {w w' : World} {g base : Nat} {bs : List UInt8} {e : Int} (h : Wt w g base bs e) (hk : Keep Nothing w w') : Wt w' g base bs e := by
 obtain ⟨A, c, hb, ho, hbg⟩ := h
 exact ⟨A, c, hb.keep hk (fun q => q), ho.kept (b' := 0) (E := []) (G := []) (Kept.ofKeep hk (by unfold Nothing; simp)) (by simp) (by simp), hbg⟩
theorem Wt.lt {w : World} {g base : Nat} {bs : List UInt8} {e : Int} (h : Wt w g base bs e) : g < w.heap.size := by
 obtain ⟨A, c, hb, ho, hbg⟩ := h
 exact hb.lt
theorem Kept.only {base : Nat} {E : List TypeId} {w a b : World} (h : Kept base E [] w a) {g : Nat} (k : Keep (Only g) a b) (hg : w.heap.size ≤ g) : Kept base E [] w b :=
 h.lift (Kept.ofKeep (base := base) (E := []) (G := [g]) k (by unfold Only; simp)) (Nat.le_refl _) (by simp) (by simp; exact hg)
theorem Kept.nothing {base : Nat} {E : List TypeId} {w a b : World} (h : Kept base E [] w a) (k : Keep Nothing a b) : Kept base E [] w b :=
 h.lift (Kept.ofKeep (base := base) (E := []) (G := []) k (by unfold Nothing; simp)) (Nat.le_refl _) (by simp) (by simp)
end Go.Proofs.YtmlmbkelpjmafaaGreat
