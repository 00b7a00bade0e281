/-
  CodecApart: objects that are not the same have not the same bytes; the same body of another kind is another object. No condition.
-/
import Derived.Test.YtppmolneklidfaaRow0
import Derived.Test.YtppmolneklidfaaBody
import Derived.Lib.SmallJoins
namespace Go.Proofs.Ytppmolneklidfaa
open Go.ChangeShapes Go.WideShapes Go.ChangeAt Go.RowKit Go.Deep Go.Joins

theorem str_beq (a b : List UInt8) : ((⟨a.toArray⟩ : ByteArray).toList == (⟨b.toArray⟩ : ByteArray).toList) = (a == b) := by
  rw [Lib.toList_data, Lib.toList_data]

theorem cells_obj : Try.prog.cellsOf 38 = 2 := by kernel_rfl
theorem slice_form {H : Type} {enc : TypeId × Value → H} {w : World} {base : Nat} {spare : Nat → Bool} {held : Bool} {t e : TypeId} {fuel : Nat} {v : Value} {x : DataW H × List MemPlace} (ht : Try.prog.underlying t = some (.slice e)) (h : DataW.trod enc Try.prog w base spare held fuel t [v] = some x) : ∃ A len cap, v = .slice A len cap := by
  rcases open_slice ht h with ⟨hcs, _⟩ | ⟨a, len, cap, m, n, D, Pl, hcs, _⟩
  · simp at hcs; exact ⟨_, _, _, hcs⟩
  · simp at hcs; exact ⟨_, _, _, hcs⟩
set_option maxRecDepth 100000 in
theorem opened_obj {H : Type} {enc : TypeId × Value → H} {w : World} {base b0 : Nat} {r : Reach} {spare : Nat → Bool} {held : Bool} {v : Value} {d : DataW H} {p : List MemPlace} (hv : Value.okWide Try.prog w r b0 38 v) (h : DataW.Trod enc Try.prog w base spare held 38 v d p) :
    ∃ (k : Int) (A : Option Addr) (l : List UInt8) (c : Nat), v = .agg #[.int .i64 k, .slice A l.length c] ∧ Reads w w.heap.size 1 A l.length (l.map bv) ∧ l.length ≤ c ∧ c ≤ maxLen := by
  obtain ⟨c0, c1, y0, y1, m, rfl, rfl, rfl, hy0, hy1⟩ := open_agg2 Try.underlying38 (by kernel_rfl) cells_obj hv h
  obtain ⟨k, e0, _, _⟩ := DataW.trod_int Try.underlying3 hy0
  obtain ⟨A, len, cap, rfl⟩ := slice_form Try.underlying23 hy1
  obtain ⟨l, rfl, h2, h3, h4⟩ := open_bytes hy1
  simp at e0
  subst e0
  exact ⟨k, A, l, cap, rfl, h2, h3, h4⟩

set_option maxHeartbeats 4000000 in
set_option maxRecDepth 100000 in
theorem apart_walk (j k : Int) (a b : List UInt8) (A A' : Option Addr) (c c' : Nat) (w : World) (hra : Reads w w.heap.size 1 A a.length (a.map bv)) (hrb : Reads w w.heap.size 1 A' b.length (b.map bv)) (ha1 : a.length ≤ c) (ha2 : c ≤ maxLen) (hb1 : b.length ≤ c') (hb2 : c' ≤ maxLen) :
    Calls Try.prog 5 #[.agg #[.int .i64 j, .slice A a.length c], .agg #[.int .i64 k, .slice A' b.length c']] w (TruePost w) := by
  have ha3 := ha2
  have hb3 := hb2
  unfold maxLen at ha3 hb3
  have q1 : Blk ((w.alloc (.cells #[.int .i64 j, .slice A a.length c] 38)).alloc (.cells #[.int .i64 k, .slice A' b.length c'] 38)) w.heap.size 38 #[.int .i64 j, .slice A a.length c] := (Blk.new _ _ _).alloc _
  have q2 : Blk ((w.alloc (.cells #[.int .i64 j, .slice A a.length c] 38)).alloc (.cells #[.int .i64 k, .slice A' b.length c'] 38)) (w.heap.size + 1) 38 #[.int .i64 k, .slice A' b.length c'] := by
    have := Blk.new (w.alloc (.cells #[.int .i64 j, .slice A a.length c] 38)) 38 #[.int .i64 k, .slice A' b.length c']
    simpa using this
  have k0 : Below w.heap.size w ((w.alloc (.cells #[.int .i64 j, .slice A a.length c] 38)).alloc (.cells #[.int .i64 k, .slice A' b.length c'] 38)) := ((Below.refl _ _).alloc (Nat.le_refl _) _).alloc (by simp) _
  go_enter Try.func5, Try.ntmps5
  go_wp2_with fail
  generalize (w.alloc (.cells #[.int .i64 j, .slice A a.length c] 38)).alloc (.cells #[.int .i64 k, .slice A' b.length c'] 38) = w0 at *
  refine (known_any _).mono ?_
  rintro r w1 ⟨rfl, hbe1⟩
  have q1' := q1.below hbe1 q1.lt
  have q2' := q2.below hbe1 q2.lt
  have k1 := k0.trans (hbe1.mono k0.size)
  generalize hq : w.heap.size = q at *
  have HQ := Lib.hid hq
  have hqle : q ≤ w.heap.size := by omega
  have hqge : w.heap.size ≤ q := by omega
  have z1 := k1.size
  clear hq q1 q2 k0 hbe1
  have a0 := q1'.cell 0
  have a1 := q1'.cell 1
  have b0 := q2'.cell 0
  have b1 := q2'.cell 1
  simp at a0 a1 b0 b1
  have fin : ∀ W : World, Below q w W → TruePost w (.returned (.bool true)) W := fun W h => ⟨rfl, by rw [HQ.out]; exact h⟩
  have HF := Lib.hid fin
  clear fin
  by_cases h1 : 5000 < a.length
  · have d1 : decide ((5000 : Int) < (a.length : Int)) = true := decide_eq_true (by omega)
    go_wp2_with fail
    go_ret
    exact HF.out _ k1
  · have d1 : decide ((5000 : Int) < (a.length : Int)) = false := decide_eq_false (by omega)
    by_cases h2 : 5000 < b.length
    · have d2 : decide ((5000 : Int) < (b.length : Int)) = true := decide_eq_true (by omega)
      go_wp2_with fail
      go_ret
      exact HF.out _ k1
    · have d2 : decide ((5000 : Int) < (b.length : Int)) = false := decide_eq_false (by omega)
      go_wp2_with fail
      refine (encodeObj_any j a A c _ ((hra.below k1).more (by omega)) (by omega) ha1 ha2).mono ?_
      rintro r w2 ⟨A2, c2, rfl, o2, be2⟩
      have k2 := k1.trans (be2.mono (by omega))
      have z2 := be2.size
      have p1 := q1'.below be2 q1'.lt
      have p2 := q2'.below be2 q2'.lt
      clear a0 a1 b0 b1 q1' q2'
      have a0 := p1.cell 0
      have a1 := p1.cell 1
      have b0 := p2.cell 0
      have b1 := p2.cell 1
      simp at a0 a1 b0 b1
      go_wp2_with fail
      refine (encodeObj_any k b A' c' _ ((hrb.below k2).more (by omega)) (by omega) hb1 hb2).mono ?_
      rintro r w3 ⟨A3, c3, rfl, o3, be3⟩
      have k3 := k2.trans (be3.mono (by omega))
      have z3 := be3.size
      have o23 := (o2.kept (b' := 0) (E := []) (G := []) (Kept.ofBelow be3) (by simp) (by simp)).reads
      have s1 := p1.below be3 p1.lt
      have s2 := p2.below be3 p2.lt
      have o33 := o3.reads
      have r3a := hra.below k3
      have r3b := hrb.below k3
      clear a0 a1 b0 b1 p1 p2 o2 o3 be2 be3
      have a0 := s1.cell 0
      have a1 := s1.cell 1
      have b0 := s2.cell 0
      have b1 := s2.cell 1
      simp at a0 a1 b0 b1
      have e1 : (encObj (bodyE j a) j a).2 = bodyE j a := by unfold encObj; split <;> simp_all
      have e2 : (encObj (bodyE k b) k b).2 = bodyE k b := by unfold encObj; split <;> simp_all
      rw [e1, e2]
      clear e1 e2
      have INJ : bodyE j a = 0 → bodyE k b = 0 → ((encObj (bodyE j a) j a).1 == (encObj (bodyE k b) k b).1) = ((j == k) && (a == b)) := fun x y => by
        rw [Bool.eq_iff_iff]
        simp only [beq_iff_eq, Bool.and_eq_true]
        exact encObj_inj x y
      have HI := Lib.hid INJ
      clear INJ
      generalize (encObj (bodyE j a) j a).1 = x at *
      generalize (encObj (bodyE k b) k b).1 = y at *
      generalize bodyE j a = e at *
      generalize bodyE k b = f at *
      by_cases he : e = 0
      · subst he
        by_cases hf : f = 0
        · subst hf
          have h3 := HI.out rfl rfl
          have t1 : True := trivial
          have t2 : True := trivial
          have t3 : True := trivial
          have t4 : True := trivial
          cases hjk : (j == k) with
          | false =>
            rw [hjk] at h3
            simp only [Bool.false_and] at h3
            clear HI
            go_wp2_with (first | (have _t := t1; refine wpList_convStr (o := ⟨some 38, _, _, _, _, _⟩) rfl rfl Try.underlying23 Try.underlying5 Try.underlying9 (l := x) rfl o23 ?_; clear t1) | (have _t := t2; refine wpList_convStr (o := ⟨some 40, _, _, _, _, _⟩) rfl rfl Try.underlying23 Try.underlying5 Try.underlying9 (l := y) rfl o33 ?_; clear t2))
            go_ret
            exact HF.out _ k3
          | true =>
            rw [hjk] at h3
            simp only [Bool.true_and] at h3
            cases hab : (a == b)
            all_goals
              rw [hab] at h3
              go_wp2_with (first | (have _t := t1; refine wpList_convStr (o := ⟨some 38, _, _, _, _, _⟩) rfl rfl Try.underlying23 Try.underlying5 Try.underlying9 (l := x) rfl o23 ?_; clear t1) | (have _t := t2; refine wpList_convStr (o := ⟨some 40, _, _, _, _, _⟩) rfl rfl Try.underlying23 Try.underlying5 Try.underlying9 (l := y) rfl o33 ?_; clear t2) | (have _t := t3; refine wpList_convStr_g (o := ⟨some 50, _, _, _, _, _⟩) (by rfl) rfl Try.underlying23 Try.underlying5 Try.underlying9 (l := a) rfl r3a ?_; clear t3) | (have _t := t4; refine wpList_convStr_g (o := ⟨some 53, _, _, _, _, _⟩) (by rfl) rfl Try.underlying23 Try.underlying5 Try.underlying9 (l := b) rfl r3b ?_; clear t4))
              go_ret
              exact HF.out _ k3
        · have h02 : (f != 0) = true := by simpa using hf
          go_wp2_with fail
          go_ret
          exact HF.out _ k3
      · have h01 : (e != 0) = true := by simpa using he
        go_wp2_with fail
        go_ret
        exact HF.out _ k3
set_option maxRecDepth 100000 in
theorem codecApart_lifted (os : Os) (started : os.Started) (H : Type) (enc : TypeId × Value → H) :
    ReturnsInHanded {} Try.checked os 5 .any (Rows.codecApartSpec.pre6 enc Try.prog Try.f5 Rows.codecApartRow.domain false) (Rows.codecApartSpec.post enc Try.prog Try.f5 false true false false) := by
  refine returnsInHanded_of_change (C := Try.checked) own started (by kernel_rfl) Try.func5
    (ChangeSpec.witness6 (enc := enc) (C := Try.checked) false ⟨#[], #[(.agg #[.int .i64 0, .slice none 0 0]), (.agg #[.int .i64 0, .slice none 0 0])], []⟩ 8 (by kernel_rfl) (by kernel_rfl) (by kernel_rfl) (by kernel_rfl)) ?_
  intro W base args ds gs before hval0 hW hcnd _
  have hval : ∀ (j : Nat) t v, Try.f5.params[j]? = some t → args[j]? = some v → Value.okWide Try.prog W .any base t v := hval0
  have hW' := hW
  obtain ⟨p, q, hA0, hV, rfl, hfz, hnd⟩ := hW
  have hA : DataW.TrodAll enc Try.prog W 0 (fun _ => true) true Try.f5.params.toList args.toList ds p := hA0
  rw [Try.params5] at hA hval
  obtain ⟨v0, vs0, d0, ds0, p0, q0, hargs, rfl, rfl, h0, r0⟩ := trodAll_cons hA
  obtain ⟨v1, vs1, d1, ds1, p1, q1, rfl, rfl, rfl, h1, r1⟩ := trodAll_cons r0
  obtain ⟨rfl, rfl, rfl⟩ := trodAll_nil r1
  obtain rfl : args = #[v0, v1] := by cases args; simp_all
  obtain ⟨rfl, rfl⟩ := trodVars_none hV
  have k0 := h0
  have lt0 : ∀ x ∈ p0, x.block < W.heap.size := by obtain ⟨m, hm⟩ := k0; exact DataW.trod_lt m _ _ _ hm
  have k1 := h1
  have lt1 : ∀ x ∈ p1, x.block < W.heap.size := by obtain ⟨m, hm⟩ := k1; exact DataW.trod_lt m _ _ _ hm
  obtain ⟨n0, a0, l0, c0, rfl, hr0, hc0, hm0⟩ := opened_obj (hval 0 38 v0 rfl rfl) h0
  obtain ⟨n1, a1, l1, c1, rfl, hr1, hc1, hm1⟩ := opened_obj (hval 1 38 v1 rfl rfl) h1
  clear hA0 hval0
  refine (apart_walk n0 n1 l0 l1 a0 a1 c0 c1 W hr0 hr1 hc0 hm0 hc1 hm1).mono fun e W' ⟨he, bel⟩ => ?_
  subst he
  exact ⟨_, rfl, _, _, _, [], _, [], hW', trodAll_mk1 (shut_bool Try.underlying4 _), (trodAll_cons_mk (Below.trod laidOut (by kernel_rfl) (of_decide_eq_true (by kernel_rfl)) k0 bel lt0) (trodAll_cons_mk (Below.trod laidOut (by kernel_rfl) (of_decide_eq_true (by kernel_rfl)) k1 bel lt1) trodAll_mk0)), rfl, bel.frame _, fun h => by cases h⟩

theorem codecApart_over : Rows.codecApartRow.holds Try.pinned (OpenSpec.ofChange Rows.codecApartSpec) :=
  OpenClaim.holds_of_wide 5 Try.f5 rfl rfl rfl rfl rfl rfl rfl ⟨rfl, rfl, rfl, rfl, rfl⟩ rfl rfl rfl rfl rfl (by kernel_rfl) Try.func5 (by kernel_rfl)
    (of_decide_eq_true (by kernel_rfl)) (by unfold Func.isWrapper; first | (rw [if_pos (by decide +kernel)]; kernel_rfl) | (rw [if_neg (by decide +kernel)]; exact ⟨rfl, rfl⟩))
    (fun os started H enc _ => codecApart_lifted os started H enc)

theorem codecApart_holds : Rows.CodecApartSaid := codecApart_over
#print axioms codecApart_holds
end Go.Proofs.Ytppmolneklidfaa
