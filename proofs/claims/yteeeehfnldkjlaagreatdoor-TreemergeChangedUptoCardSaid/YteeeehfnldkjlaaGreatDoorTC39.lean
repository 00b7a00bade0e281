/- A merge told with what it says. No statement of the seat is proved here. -/
import Derived.Test.YteeeehfnldkjlaaGreatDoorTCGf
import Derived.Test.YteeeehfnldkjlaaGreatDoorTC07
import Derived.Test.YteeeehfnldkjlaaGreatDoorTC14
import Derived.BigRegion
namespace Go.Proofs.YteeeehfnldkjlaaGreatDoor
open Go.RowKit Go.Maps
theorem nmFrom_short : ∀ (p cur : Pth), (∀ s ∈ nmFrom cur p, s.length ≤ 40) → cur.length + p.length + 1 ≤ (nmFrom cur p).length * 41
 | [], cur, h => by
  have := h cur (by unfold nmFrom; exact List.mem_singleton.2 rfl)
  unfold nmFrom
  simp only [List.length_nil, List.length_cons]
  omega
 | x :: p, cur, h => by
  unfold nmFrom at h ⊢
  split at h
  · rename_i hx
    rw [if_pos hx]
    have h1 := h cur List.mem_cons_self
    have h2 := nmFrom_short p [] fun s hs => h s (List.mem_cons_of_mem _ hs)
    simp only [List.length_nil, List.length_cons] at h2 ⊢
    omega
  · rename_i hx
    rw [if_neg hx]
    have h2 := nmFrom_short p (cur ++ [x]) h
    simp only [List.length_append, List.length_cons, List.length_nil] at h2 ⊢
    omega
theorem fileE_short {f : FileD} (h : fileE f = 0) : f.p.length ≤ 1000000 := by
 obtain ⟨_, _, h8, hn⟩ := fileE_kind h
 have := nmFrom_short f.p [] fun s hs => by
  have := hn s hs
  unfold nameOk at this
  simp only [Bool.and_eq_true, decide_eq_true_eq] at this
  exact this.2.1
 unfold nmP at h8
 simp only [List.length_nil] at this
 omega
theorem good_paths (l : List FileD) : ∀ f ∈ goodP l, f.p.length ≤ 1000000 := fun f hf => fileE_short ((goodP_good l).1.tree.file f hf)
theorem goodP_ok (l : List FileD) : checkT (goodP l) = 0 := good_check (goodP_good l).1 (Nat.le_trans (goodP_good l).2 (by decide))
attribute [local go_sem ↓] ld_f
end Go.Proofs.YteeeehfnldkjlaaGreatDoor
namespace Go.Proofs.YteeeehfnldkjlaaGreatDoor
open Go.RowKit Go.Maps
def clashV (x : ClashD) : Value := .agg (clashL x).toArray
theorem flat2 : ∀ (v : List ClashD) (k : Nat) (x : ClashD), v[k]? = some x → ∀ j, j < 2 → (v.flatMap clashL)[k * 2 + j]? = (clashL x)[j]?
 | [], _, _, h, _, _ => by cases h
 | y :: v, 0, x, h, j, hj => by
  obtain rfl : y = x := Option.some.inj h
  rw [List.flatMap_cons, Nat.zero_mul, Nat.zero_add, List.getElem?_append_left (by simpa [clashL] using hj)]
 | y :: v, k + 1, x, h, j, hj => by
  rw [List.flatMap_cons, List.getElem?_append_right (by simp [clashL]; omega), show (k + 1) * 2 + j - (clashL y).length = k * 2 + j from by simp [clashL]; omega]
  exact flat2 v k x h j hj
end Go.Proofs.YteeeehfnldkjlaaGreatDoor
namespace Go.Proofs.YteeeehfnldkjlaaGreatDoor
open Go.RowKit Go.Maps
theorem neqClash (x y : ClashD) (W : World) : (binOp .neq 44 (clashV x) (clashV y)).run Tryz.prog W = .ok (.bool (decide (x ≠ y))) W := by
 have e : decide (x ≠ y) = !(decide (x.p = y.p) && decide (x.why = y.why)) := by
  rw [decide_not]
  congr 1
  rw [← Bool.decide_and]
  exact decide_eq_decide.2 ⟨fun h => by rw [h]; exact ⟨rfl, rfl⟩, fun h => by cases x; cases y; simp_all⟩
 rw [e]
 unfold clashV clashL strC
 go_simp
 by_cases h1 : x.p = y.p
 · by_cases h2 : x.why = y.why
   · simp [h1, h2]
   · have : ¬ (x.why : Int) = (y.why : Int) := by omega
     simp [h1, h2, this]
 · simp [h1]
theorem neqClashG (a b : Operand) (x y : ClashD) (W : World) : (eqGuard .neq 44 a b (clashV x) (clashV y)).run Tryz.prog W = .ok () W := by
 unfold clashV clashL strC
 go_simp
attribute [local go_sem] neqClash neqClashG
attribute [local go_sem ↓] ld_cl
end Go.Proofs.YteeeehfnldkjlaaGreatDoor
namespace Go.Proofs.YteeeehfnldkjlaaGreatDoor
open Go.RowKit Go.Maps
def MergeSays (x : List FileD) (v : List ClashD) (n : Nat) (w : World) (e : Ending) (w' : World) : Prop := ∃ A c A' c', e = .returned (.tuple #[.slice A x.length c, .slice A' v.length c', .int .i64 (n : Nat)]) ∧ FI w' w'.heap.size A x ∧ Reads w' w'.heap.size 2 A' v.length (v.flatMap clashL) ∧ v.length ≤ 9223372036854775807 ∧ Below w.heap.size w w'
def SaysP (r : Except Nat (List FileD × List ClashD)) (x : List FileD) (v : List ClashD) (n : Nat) : Prop := r = .error n ∧ x = [] ∧ v = [] ∨ r = .ok (x, v) ∧ n = 0
theorem merge_says {b o t x : List FileD} {v : List ClashD} {n : Nat} (A1 A2 A3 : Option Addr) (c1 c2 c3 B : Nat) (w : World) (hB : B ≤ w.heap.size) (h1 : FI w B A1 b) (h2 : FI w B A2 o) (h3 : FI w B A3 t) (hv : VarM w) (l1 : ∀ f ∈ b, f.p.length ≤ 1000000) (l2 : ∀ f ∈ o, f.p.length ≤ 1000000) (l3 : ∀ f ∈ t, f.p.length ≤ 1000000)
    (hm : SaysP (treemergeP b o t) x v n) : Calls Tryz.prog 16 #[.slice A1 b.length c1, .slice A2 o.length c2, .slice A3 t.length c3] w (MergeSays x v n w) := by
 refine (merge_any b o t A1 A2 A3 c1 c2 c3 B w hB h1 h2 h3 hv l1 l2 l3).mono ?_
 rintro e w' ⟨hb, ⟨m, h, he⟩ | ⟨x', v', A, c, A', c', h, he, hf, ho⟩⟩
 · rcases hm with ⟨hm, rfl, rfl⟩ | ⟨hm, _⟩
   · rw [hm] at h
     injection h with h
     subst h
     exact ⟨none, 0, none, 0, he, FI.nil_ _ _ _, Reads.none_, Nat.zero_le _, hb⟩
   · rw [hm] at h; cases h
 · rcases hm with ⟨hm, _⟩ | ⟨hm, rfl⟩
   · rw [hm] at h; cases h
   · rw [hm] at h
     injection h with h
     injection h with e1 e2
     subst e1 e2
     have := ho.cap_le
     exact ⟨A, c, A', c', he, hf, ho.reads, Nat.le_trans this.1 this.2, hb⟩
end Go.Proofs.YteeeehfnldkjlaaGreatDoor
