/- Contracts of codec's kind, of slices.Clone at bytes. No statement of the seat is proved here. -/
import Derived.Test.YtmlmbkelpjmafaaGreatPTcPcom
namespace Go.Proofs.YtmlmbkelpjmafaaGreat
open Go.RowKit
def bodyE (k : Int) (b : List UInt8) : Int := if k = 1 then (if 65536 < b.length then 5 else 0) else if k = 2 then (parseTree b).2 else if k = 3 then (parseCommit b).2 else 3
theorem bodyE_kind {k : Int} {b : List UInt8} (h : bodyE k b = 0) : 1 ≤ k ∧ k ≤ 3 := by
 unfold bodyE at h
 by_cases h1 : k = 1
 · omega
 · by_cases h2 : k = 2
   · omega
   · by_cases h3 : k = 3
     · omega
     · rw [if_neg h1, if_neg h2, if_neg h3] at h
       omega
attribute [local go_sem ↓] ld_id eq_id bd_com st_com
set_option maxHeartbeats 2000000 in
set_option maxRecDepth 100000 in
theorem body_any (k : Int) (b : List UInt8) (A : Option Addr) (c : Nat) (w : World) (hr : Reads w w.heap.size 1 A b.length (b.map bv)) (hl : b.length ≤ 1000000) (hc1 : b.length ≤ c) (hc2 : c ≤ maxLen) :
    Calls Tryz.prog 52 #[.int .i64 k, .slice A b.length c] w fun r w' => r = .returned (.int .i64 (bodyE k b)) ∧ Below w.heap.size w w' := by
 by_cases h1 : k = 1
 · subst h1
   by_cases hb : 65536 < b.length
   · have HE := Lib.hid (show bodyE 1 b = 5 from by unfold bodyE; rw [if_pos rfl, if_pos hb])
     have d : decide ((65536 : Int) < (b.length : Int)) = true := decide_eq_true (by omega)
     go_enter Tryz.func52, Tryz.ntmps52
     go_wp2_with fail
     go_ret
     exact ⟨by rw [HE.out]; rfl, Below.refl _ _⟩
   · have HE := Lib.hid (show bodyE 1 b = 0 from by unfold bodyE; rw [if_pos rfl, if_neg hb])
     have d : decide ((65536 : Int) < (b.length : Int)) = false := decide_eq_false (by omega)
     go_enter Tryz.func52, Tryz.ntmps52
     go_wp2_with fail
     go_ret
     exact ⟨by rw [HE.out]; rfl, Below.refl _ _⟩
 · have e1 : (k == 1) = false := beq_eq_false_iff_ne.2 h1
   by_cases h2 : k = 2
   · subst h2
     exact body_tree b A c w hr hl hc1 hc2
   · have e2 : (k == 2) = false := beq_eq_false_iff_ne.2 h2
     by_cases h3 : k = 3
     · subst h3
       go_enter Tryz.func52, Tryz.ntmps52
       go_wp2_with fail
       refine (parseCommit_any b A c _ hr hl hc1 hc2).mono ?_
       rintro r w1 ⟨A1, c1, rfl, ho1, hb1⟩
       have HE := Lib.hid (show bodyE 3 b = (parseCommit b).2 from rfl)
       generalize (parseCommit b).2 = e at *
       generalize (parseCommit b).1 = d at *
       go_wp2_with (first | (refine wpList_allocAgg rfl rfl (zero_com _) ?_) | (refine wpList_storeBlk rfl rfl (vs := comC d.tree (.slice A1 d.parents.length c1) d.author d.time d.msg) rfl rfl (Blk.new _ _ _) (by rw [comC_size, comC_size]) (by rw [comC_size]; exact info_com) (comL_one _ _ _ _ _ rfl) ?_; intro w2 hx2 hk2 hz2))
       go_ret
       exact ⟨by rw [HE.out]; rfl, hb1.trans ((Keep.ofNew (S := Nothing) hk2).all.mono hb1.size)⟩
     · have e3 : (k == 3) = false := beq_eq_false_iff_ne.2 h3
       have HE := Lib.hid (show bodyE k b = 3 from by unfold bodyE; rw [if_neg h1, if_neg h2, if_neg h3])
       go_enter Tryz.func52, Tryz.ntmps52
       go_wp2_with fail
       go_ret
       exact ⟨by rw [HE.out]; rfl, Below.refl _ _⟩
theorem encodeObj_any (k : Int) (b : List UInt8) (A : Option Addr) (c : Nat) (w : World) (hr : Reads w w.heap.size 1 A b.length (b.map bv)) (hl : b.length ≤ 1000000) (hc1 : b.length ≤ c) (hc2 : c ≤ maxLen) :
    Calls Tryz.prog 33 #[.agg #[.int .i64 k, .slice A b.length c]] w (BytesPost (encObj (bodyE k b) k b) w) :=
 encodeObj_of k b (bodyE k b) A c w hr hl bodyE_kind (fun W hR hz => body_any k b A c W (hR.more hz) hl hc1 hc2)
end Go.Proofs.YtmlmbkelpjmafaaGreat
namespace Go.Proofs.YtmlmbkelpjmafaaGreat
open Go.RowKit
theorem encObj_e (k : Int) (b : List UInt8) : (encObj (bodyE k b) k b).2 = bodyE k b := by unfold encObj; split <;> simp_all
theorem load_obj {w : World} {g : Nat} {t : TypeId} {k : Int} {v : Value} (h : Blk w g t #[.int .i64 k, v]) : (Instr.loadAt 27 (.pointer (some ⟨g, 0, none⟩))).run Tryz.prog w = .ok (.agg #[.int .i64 k, v]) w :=
 run_loadAt_blk (P := Tryz.prog) h 0 #[.int .i64 k, v] Tryz.underlying27 rfl (by kernel_rfl) (by simp)
end Go.Proofs.YtmlmbkelpjmafaaGreat
