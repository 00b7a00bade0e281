/-
  Contracts of the reference's cursor: num, bytes, text, id; of its entry. No statement of the seat is proved here.
-/
import Derived.Test.YtppmolneklidfaaRef1
import Derived.Test.YtppmolneklidfaaPtree
namespace Go.Proofs.Ytppmolneklidfaa
open Go.RowKit

/-- A cursor's block: the bytes b, how far they were read, whether they ended too early (e is not 0). -/
def Cu (w : World) (g B : Nat) (b : List UInt8) (at_ : Nat) (e : Int) : Prop :=
  ∃ A cap, Blk w g 109 #[.slice A b.length cap, .int .i64 at_, .bool (e != 0)] ∧ Reads w B 1 A b.length (b.map bv) ∧ at_ ≤ b.length ∧ b.length ≤ cap ∧ cap ≤ maxLen ∧ B ≤ g

section
variable {w w' : World} {g B : Nat} {b : List UInt8} {at_ : Nat} {e : Int}
theorem Cu.alloc (h : Cu w g B b at_ e) (hB : B ≤ w.heap.size) (o : Obj) : Cu (w.alloc o) g B b at_ e := by
  obtain ⟨A, c, hb, hrd, h1, h2, h3, h4⟩ := h
  exact ⟨A, c, hb.alloc o, hrd.alloc hB o, h1, h2, h3, h4⟩
theorem Cu.drew (h : Cu w g B b at_ e) : Cu w.drew g B b at_ e := h
theorem Cu.keep {S : Nat → Prop} (h : Cu w g B b at_ e) (hB : B ≤ w.heap.size) (hk : Keep S w w') (hS : ∀ i, S i → B ≤ i ∧ i ≠ g) : Cu w' g B b at_ e := by
  obtain ⟨A, c, hb, hrd, h1, h2, h3, h4⟩ := h
  exact ⟨A, c, hb.keep hk (fun q => (hS g q).2 rfl), hrd.kept hk hB (fun i hi q => by have := (hS i q).1; omega), h1, h2, h3, h4⟩
theorem Cu.lt (h : Cu w g B b at_ e) : g < w.heap.size := by obtain ⟨_, _, hb, _⟩ := h; exact hb.lt
theorem Cu.same {e' : Int} (h : Cu w g B b at_ e) (he : (e != 0) = (e' != 0)) : Cu w g B b at_ e' := by
  unfold Cu
  rw [← he]
  exact h
end

theorem take_e (b : List UInt8) (at_ : Nat) (e n : Int) (he : (e != 0) = true) : takeL b at_ e n = [] ∧ takeAt b at_ e n = at_ ∧ takeE b at_ e n = e := by
  have h : e ≠ 0 := by simpa using he
  refine ⟨if_neg (fun q => h q.1), if_neg (fun q => h q.1), ?_⟩
  unfold takeE note
  rw [if_neg h]
  split <;> rfl
theorem take_cut (b : List UInt8) (at_ : Nat) (n : Int) (h : (b.length : Int) - at_ < n) : takeL b at_ 0 n = [] ∧ takeAt b at_ 0 n = at_ ∧ takeE b at_ 0 n = 14 := by
  refine ⟨if_neg (fun q => by omega), if_neg (fun q => by omega), ?_⟩
  unfold takeE
  rw [if_neg (fun q => by omega)]
  rfl
theorem take_good (b : List UInt8) (at_ n : Nat) (h : at_ + n ≤ b.length) : takeL b at_ 0 n = (b.drop at_).take n ∧ takeAt b at_ 0 n = at_ + n ∧ takeE b at_ 0 n = 0 := by
  have h' : (0 : Int) ≤ (n : Int) ∧ (n : Int) ≤ (b.length : Int) - at_ := by omega
  refine ⟨?_, ?_, ?_⟩
  · unfold takeL; rw [if_pos ⟨rfl, h'⟩]; simp
  · unfold takeAt; rw [if_pos ⟨rfl, h'⟩]; simp
  · unfold takeE; rw [if_pos h']

theorem Own.fresh0 {w : World} {g base : Nat} {e : TypeId} {size : Nat} (h : w.heap[g]? = some (.cells #[] e (0, 0))) (hb : base ≤ g) : Own w base e size (some ⟨g, 0, none⟩) 0 0 [] :=
  ⟨by simp, .inr ⟨g, 0, #[], rfl, hb, h, Nat.le_refl _, Nat.zero_le _, by simp, by simp⟩⟩
def CNumPost (g B : Nat) (b : List UInt8) (at_ : Nat) (e n : Int) (w : World) (r : Ending) (w' : World) : Prop :=
  r = .returned (.int .i64 (num (takeL b at_ e n))) ∧ Cu w' g B b (takeAt b at_ e n) (takeE b at_ e n) ∧ Keep (Only g) w w'
def CBytesPost (g B : Nat) (b : List UInt8) (at_ : Nat) (e n : Int) (w : World) (r : Ending) (w' : World) : Prop :=
  ∃ A c, r = .returned (.slice A (takeL b at_ e n).length c) ∧ Own w' w.heap.size 5 1 A (takeL b at_ e n).length c ((takeL b at_ e n).map bv) ∧
    Cu w' g B b (takeAt b at_ e n) (takeE b at_ e n) ∧ Keep (Only g) w w'

set_option maxHeartbeats 1000000 in
theorem cnum_any (n : Nat) (hn : n ≤ 7) (g B : Nat) (b : List UInt8) (at_ : Nat) (e : Int) (w : World) (hr : Cu w g B b at_ e) (_hB : B ≤ w.heap.size) :
    Calls Try.prog 51 #[.pointer (some ⟨g, 0, none⟩), .int .i64 n] w (CNumPost g B b at_ e n w) := by
  obtain ⟨A, cap, hb, hrd, hat, hcap, hmax', hBg⟩ := hr
  have hmax := hmax'
  unfold maxLen at hmax
  have c0 := hb.cell 0
  have c1 := hb.cell 1
  have c2 := hb.cell 2
  have f1 := hb.frozen 1
  have f2 := hb.frozen 2
  simp at c0 c1 c2
  cases he : e != 0 with
  | true =>
    rw [he] at c2
    obtain ⟨t1, t2, t3⟩ := take_e b at_ e n he
    have HT := Lib.hid (And.intro t1 (And.intro t2 t3))
    have HE := Lib.hid he
    clear t1 t2 t3 he
    go_enter Try.func51, Try.ntmps51
    go_wp2_with fail
    go_quiet (fail)
    go_wp2_with fail
    go_ret
    refine ⟨by rw [HT.out.1]; rfl, ?_, ((Keep.refl (Only g) w).drewN nq).setCell (p := ⟨g, 2, none⟩) (.inl rfl) _⟩
    rw [HT.out.2.1, HT.out.2.2]
    refine ⟨A, cap, ?_, hrd.setCell (p := ⟨g, 2, none⟩) hBg _, hat, hcap, hmax', hBg⟩
    rw [HE.out]
    simpa using (hb.drewN nq).set_ 2 (.bool true)
  | false =>
    rw [he] at c2
    obtain rfl : e = 0 := by simpa using he
    by_cases hbig : (b.length : Int) - at_ < n
    · have hd : decide ((b.length : Int) - at_ < n) = true := decide_eq_true hbig
      obtain ⟨t1, t2, t3⟩ := take_cut b at_ n hbig
      have HT := Lib.hid (And.intro t1 (And.intro t2 t3))
      clear t1 t2 t3 he
      go_enter Try.func51, Try.ntmps51
      go_wp2_with fail
      go_quiet (fail)
      go_wp2_with fail
      go_ret
      refine ⟨by rw [HT.out.1]; rfl, ?_, ((Keep.refl (Only g) w).drewN nq).setCell (p := ⟨g, 2, none⟩) (.inl rfl) _⟩
      rw [HT.out.2.1, HT.out.2.2]
      refine ⟨A, cap, ?_, hrd.setCell (p := ⟨g, 2, none⟩) hBg _, hat, hcap, hmax', hBg⟩
      simpa using (hb.drewN nq).set_ 2 (.bool true)
    · have hd : decide ((b.length : Int) - at_ < n) = false := decide_eq_false hbig
      obtain ⟨t1, t2, t3⟩ := take_good b at_ n (by omega)
      have HT := Lib.hid (And.intro t1 (And.intro t2 t3))
      have hb63 : (at_ : Int) + n ≤ 9223372036854775807 := by omega
      clear t1 t2 t3 he
      go_enter Try.func51, Try.ntmps51
      go_wp2_with fail
      go_quiet (fail)
      go_wp2_with fail
      have hbq := hb.drewN nq
      have hrq := hrd.drewN nq
      have hkq : Keep (Only g) w (w.drewN nq) := (Keep.refl _ _).drewN nq
      generalize w.drewN nq = w1 at *
      clear c0 c1 c2 f1 f2
      have c0 := hbq.cell 0
      have c1 := hbq.cell 1
      have f1 := hbq.frozen 1
      simp at c0 c1
      go_quiet ((go_at_call 71; exact (get_any b at_ n (by omega) hn B A cap _ (hrq.drewN _) (by omega)).mono fun _ _ h => ⟨h.1, _, h.2.symm⟩))
      go_wp2_with fail
      go_ret
      refine ⟨by rw [HT.out.1]; rfl, ?_, (hkq.drewN nq).setCell (p := ⟨g, 1, none⟩) (.inl rfl) _⟩
      rw [HT.out.2.1, HT.out.2.2]
      refine ⟨A, cap, ?_, (hrq.drewN nq).setCell (p := ⟨g, 1, none⟩) hBg _, by omega, hcap, hmax', hBg⟩
      simpa using (hbq.drewN nq).set_ 1 (.int .i64 ((at_ : Int) + (n : Int)))

set_option maxHeartbeats 2000000 in
theorem cbytes_any (n : Nat) (g B : Nat) (b : List UInt8) (at_ : Nat) (e : Int) (w : World) (hr : Cu w g B b at_ e) (hB : B ≤ w.heap.size) (hbl : b.length ≤ 140737488355328) :
    Calls Try.prog 63 #[.pointer (some ⟨g, 0, none⟩), .int .i64 n] w (CBytesPost g B b at_ e n w) := by
  obtain ⟨A, cap, hb, hrd, hat, hcap, hmax', hBg⟩ := hr
  have hmax := hmax'
  unfold maxLen at hmax
  have c0 := hb.cell 0
  have c1 := hb.cell 1
  have c2 := hb.cell 2
  have f1 := hb.frozen 1
  have f2 := hb.frozen 2
  simp at c0 c1 c2
  cases he : e != 0 with
  | true =>
    rw [he] at c2
    obtain ⟨t1, t2, t3⟩ := take_e b at_ e n he
    have HT := Lib.hid (And.intro t1 (And.intro t2 t3))
    have HE := Lib.hid he
    clear t1 t2 t3 he
    go_enter Try.func63, Try.ntmps63
    go_wp2_with fail
    go_quiet (fail)
    go_wp2_with fail
    go_ret
    refine ⟨none, 0, by rw [HT.out.1]; rfl, by rw [HT.out.1]; exact Own.nil _ _ _ _, ?_, ((Keep.refl (Only g) w).drewN nq).setCell (p := ⟨g, 2, none⟩) (.inl rfl) _⟩
    rw [HT.out.2.1, HT.out.2.2]
    refine ⟨A, cap, ?_, hrd.setCell (p := ⟨g, 2, none⟩) hBg _, hat, hcap, hmax', hBg⟩
    rw [HE.out]
    simpa using (hb.drewN nq).set_ 2 (.bool true)
  | false =>
    rw [he] at c2
    obtain rfl : e = 0 := by simpa using he
    by_cases hbig : (b.length : Int) - at_ < n
    · have hd : decide ((b.length : Int) - at_ < n) = true := decide_eq_true hbig
      obtain ⟨t1, t2, t3⟩ := take_cut b at_ n hbig
      have HT := Lib.hid (And.intro t1 (And.intro t2 t3))
      clear t1 t2 t3 he
      go_enter Try.func63, Try.ntmps63
      go_wp2_with fail
      go_quiet (fail)
      go_wp2_with fail
      go_ret
      refine ⟨none, 0, by rw [HT.out.1]; rfl, by rw [HT.out.1]; exact Own.nil _ _ _ _, ?_, ((Keep.refl (Only g) w).drewN nq).setCell (p := ⟨g, 2, none⟩) (.inl rfl) _⟩
      rw [HT.out.2.1, HT.out.2.2]
      refine ⟨A, cap, ?_, hrd.setCell (p := ⟨g, 2, none⟩) hBg _, hat, hcap, hmax', hBg⟩
      simpa using (hb.drewN nq).set_ 2 (.bool true)
    · have hd : decide ((b.length : Int) - at_ < n) = false := decide_eq_false hbig
      have han : at_ + n ≤ b.length := by omega
      obtain ⟨t1, t2, t3⟩ := take_good b at_ n han
      have HT := Lib.hid (And.intro t1 (And.intro t2 t3))
      have hb63 : (at_ : Int) + n ≤ 9223372036854775807 := by omega
      have hw8 : IntKind.i64.wrap ((at_ : Int) + (n : Int)) = (at_ : Int) + (n : Int) := IntWalk.i64_in _ (by omega)
      have hl : ((b.drop at_).take n).length = n := by simp; omega
      have HL := Lib.hid hl
      clear t1 t2 t3 he hl
      have hs1 : (0 : Int) ≤ (at_ : Int) + (n : Int) := by omega
      have hs2 : (at_ : Int) + (n : Int) ≤ (cap : Int) := by omega
      have hs3 : ((at_ : Int) + (n : Int)).toNat = at_ + n := by omega
      obtain ⟨S, hS, hSr⟩ : ∃ S, (if cap = at_ then A else A.map (·.add at_)) = S ∧ ((cap = at_) = True ∧ A = S ∨ (cap = at_) = False ∧ A.map (·.add at_) = S) := by
        refine ⟨_, rfl, ?_⟩
        by_cases h : cap = at_
        · exact .inl ⟨eq_true h, (if_pos h).symm⟩
        · exact .inr ⟨eq_false h, (if_neg h).symm⟩
      have HSS := Lib.hid hS
      clear hS
      rcases hSr with ⟨hca, hS2⟩ | ⟨hca, hS2⟩
      all_goals
        go_enter Try.func63, Try.ntmps63
        go_wp2_with fail
        go_quiet (fail)
        go_wp2_with fail
        have hbq := hb.drewN nq
        have hrq := hrd.drewN nq
        have hkq : Keep (Only g) w (w.drewN nq) := (Keep.refl _ _).drewN nq
        have hwz1 : (w.drewN nq).heap.size ≤ w.heap.size := Nat.le_refl _
        have hwz2 : w.heap.size ≤ (w.drewN nq).heap.size := Nat.le_refl _
        have hlg := hbq.lt
        generalize w.drewN nq = w1 at *
        clear c0 c1 c2 f1 f2
        have c0 := hbq.cell 0
        have c1 := hbq.cell 1
        have f1 := hbq.frozen 1
        simp at c0 c1
        have hsrc := (hrq.cut (k := at_) (cap := cap) hat hcap).front (k := n) (by omega)
        simp only [Nat.mul_one] at hsrc
        rw [HSS.out] at hsrc
        rw [← List.map_drop, ← List.map_take] at hsrc
        have hsub := fun m : Nat => Nat.add_sub_cancel_left (n := m) (m := n)
        have hBz : B ≤ w1.heap.size := by omega
        have hm1 : 0 + n ≤ maxLen := by unfold maxLen; omega
        have hm2 : (0 + n) * 1 ≤ 140737488355328 := by omega
        go_region_held3 (fun w' => w'.cell? ⟨g, 0, none⟩ = some (.slice A b.length cap) ∧ w'.cell? ⟨g, 1, none⟩ = some (.int .i64 (at_ : Int))) (first | go_keep) (first | ((refine step_append_sl (by rfl) elemU8 (by rfl) (by rfl) (Own.fresh0 (heap_alloc_new _ _) (Nat.le_refl _)) (by rfl) (hsrc.drew.alloc hBz _) (bvs_one _) hm1 hm2 (by simp) ?_); intro A2 c2 w2 ho2 hk2; have hb2 := hk2.blk (hbq.drew.alloc _) (by simp) (by decide); have d0 := hb2.cell 0; have d1 := hb2.cell 1; have g1 := hb2.frozen 1; simp at d0 d1))
        go_wp2_with fail
        go_ret
        have o3 := ((ho2.setCell (p := ⟨g, 1, none⟩) hb2 (by decide) (.int .i64 ((at_ : Int) + (n : Int)))).mono hwz2)
        simp only [Nat.zero_add, List.nil_append] at o3
        have k2 : Keep (Only g) w1 w2 := (((Keep.refl (Only g) w1).drew.alloc _).then_ hk2 (fun i hi q => by
          rcases q with q | ⟨h1, _⟩
          · simp at q
          · have : i < w1.heap.size := hi
            have : w1.heap.size ≤ i := h1
            omega))
        refine ⟨A2, c2, ?_, ?_, ?_, (hkq.trans k2).setCell (p := ⟨g, 1, none⟩) (.inl rfl) _⟩
        · rw [HT.out.1, HL.out]; simp
        · rw [HT.out.1, HL.out]; exact o3
        · rw [HT.out.2.1, HT.out.2.2]
          refine ⟨A, cap, ?_, (hrq.kept k2 hBz (fun i hi q => by unfold Only at q; omega)).setCell (p := ⟨g, 1, none⟩) hBg _, han, hcap, hmax', hBg⟩
          simpa using hb2.set_ 1 (.int .i64 ((at_ : Int) + (n : Int)))
end Go.Proofs.Ytppmolneklidfaa
