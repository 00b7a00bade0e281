/-
  Contracts of the reference's Get and of its cursor's num at eight bytes; append of a string in a region that draws. No statement of the seat is proved here.
-/
import Derived.Test.YtppmolneklidfaaRef4b
namespace Go.Proofs.Ytppmolneklidfaa
open Go.RowKit

section
variable {P : Program}
theorem step_append_str {ops : Array Oper} {o : Oper} {a : Act} {w : World} {K : Act → World → Prop} {Q : Exit → Act → World → Prop} {E : Prop} (hgd : o.guard = none) {s x : Operand} {t u e : TypeId} (H : Elem P t e 1 1) (hz0 : (P.info? e).bind (·.zero) = some (.int .u8 0)) (hu : P.underlying u = some .string)
    (ho : o.op = .call { callee := .builtin .append, args := #[s, x], argTypes := #[t, u] }) {base : Nat} {A : Option Addr} {n c : Nat} {xs : List Value} (hs : a.eval s = .slice A n c) (hown : Own w base e 1 A n c xs)
    {st : ByteArray} (hx : a.eval x = .string st) (h63 : n + st.size ≤ maxLen) (hbytes : n + st.size ≤ 140737488355328) (hbase : base ≤ w.heap.size)
    (h : ∀ A' c' w', Own w' base e 1 A' (n + st.size) c' (xs ++ Lib.strCells st) → Kept base [e] [] w w' → K (a.put o.dst (.slice A' (n + st.size) c')) w') : if Region.wanted o (yielded ops a.tmps) = true then Oper.wp P o a w K Q else E := by
  have hw : Region.wanted o (yielded ops a.tmps) = true := by simp [Region.wanted, hgd]
  rw [if_pos hw]
  obtain ⟨A', c', w', hrun, h2, h3⟩ := run_append_str (ty := o.type) (u := u) H hz0 hu hown (s := st) h63 hbytes hbase
  exact wp_append_run ho hs hx hrun (h A' c' w' h2 h3)
end

theorem or_byte_8 (v : Nat) (x : UInt8) (hv : v < 72057594037927936) : bits .or .i64 (wrap64 ((v : Int) * 256)) (x.toNat : Int) = wrap64 ((v * 256 + x.toNat : Nat) : Int) := by
  have hx := x.toNat_lt
  have e : ∀ a : Nat, a < 18446744073709551616 → (BitVec.ofInt 64 (wrap64 (a : Int))).toNat = a := fun a ha => by
    rw [BitVec.toNat_ofInt]
    unfold wrap64
    omega
  have e2 : (BitVec.ofInt 64 (x.toNat : Int)).toNat = x.toNat := by
    rw [BitVec.ofInt_natCast, BitVec.toNat_ofNat]; exact Nat.mod_eq_of_lt (by omega)
  have hor : v * 256 ||| x.toNat = v * 256 + x.toNat := by
    have := Nat.shiftLeft_add_eq_or_of_lt (a := v) (b := x.toNat) (i := 8) (by omega)
    rw [Nat.shiftLeft_eq] at this
    exact this.symm
  rw [show (v : Int) * 256 = ((v * 256 : Nat) : Int) from by omega]
  show IntKind.i64.wrap ((BitVec.ofInt 64 (wrap64 ((v * 256 : Nat) : Int)) ||| BitVec.ofInt 64 (x.toNat : Int)).toNat : Int) = _
  rw [BitVec.toNat_or, e _ (by omega), e2, hor, IntWalk.i64_left]
/-- A number of up to eight bytes as an int64. -/
def numS (l : List UInt8) : Int := wrap64 (num l : Int)
theorem numS_in (l : List UInt8) (h : l.length ≤ 7) : numS l = (num l : Int) := by
  have := num_lt8 l h
  unfold numS
  exact IntWalk.wrap64_in _ (by omega)
theorem numS_nil : numS [] = 0 := (numS_in [] (by simp)).trans rfl

set_option maxHeartbeats 1000000 in
theorem get8_any (b : List UInt8) (at_ : Nat) (hn : at_ + 8 ≤ b.length) (B : Nat) (A : Option Addr) (c : Nat) (w : World) (hr : Reads w B 1 A b.length (b.map bv)) (hb : b.length ≤ 9223372036854775807) :
    Calls Try.prog 71 #[.slice A b.length c, .int .i64 at_, .int .i64 8] w fun r w' => r = .returned (.int .i64 (numS ((b.drop at_).take 8))) ∧ w = w' := by
  go_enter Try.func71, Try.ntmps71
  go_wp2_with fail
  go_loop [7, 8] (fun v i => ∃ k : Nat, k ≤ 8 ∧ i = .int .i64 k ∧ v = .int .i64 (numS ((b.drop at_).take k))) (fun _ i => 8 - (intOf i).toNat)
  case atStart => exact ⟨0, Nat.zero_le _, rfl, by rw [List.take_zero, numS_nil]⟩
  case round =>
    obtain ⟨k, hk', rfl, rfl⟩ := hrel
    by_cases hlt : k < 8
    · have hlk : at_ + k < b.length := by omega
      obtain ⟨ad, u, rfl, _, hx, hc⟩ := hr.at_ hlk
      have hu : u = bv b[at_ + k] := by simpa [hlk] using hx.symm
      subst hu
      unfold bv at hc
      have hv := num_lt8 ((b.drop at_).take k) (by simp; omega)
      have h7 := numS_in ((b.drop at_).take k) (by simp; omega)
      have hor := or_byte_8 (num ((b.drop at_).take k)) b[at_ + k] hv
      have hs : num ((b.drop at_).take (k + 1)) = num ((b.drop at_).take k) * 256 + b[at_ + k].toNat := by rw [List.take_succ_eq_append_getElem (by simp; omega), num_snoc]; simp
      rw [← hs] at hor
      change _ = numS ((b.drop at_).take (k + 1)) at hor
      rw [← h7] at hor
      have hv2 : 0 ≤ numS ((b.drop at_).take k) ∧ numS ((b.drop at_).take k) < 72057594037927936 := by rw [h7]; omega
      obtain ⟨hv3, hv4⟩ := hv2
      generalize numS ((b.drop at_).take k) = v at *
      obtain ⟨v', hv'⟩ : ∃ v', numS ((b.drop at_).take (k + 1)) = v' := ⟨_, rfl⟩
      rw [hv'] at hor
      have HV := Lib.hid hv'
      clear hv'
      have hx0 := b[at_ + k].toNat_lt
      generalize b[at_ + k].toNat = x at *
      clear hs hx h7 hv
      go_wp2
      go_round
      case rel => exact ⟨k + 1, by omega, by go_num, by rw [HV.out]⟩
      case measure => simp [intOf]; omega
    · obtain rfl : k = 8 := by omega
      go_wp2
      go_ret
      exact ⟨rfl, rfl⟩

def CNum8Post (g B : Nat) (b : List UInt8) (at_ : Nat) (e : Int) (w : World) (r : Ending) (w' : World) : Prop :=
  r = .returned (.int .i64 (numS (takeL b at_ e 8))) ∧ Cu w' g B b (takeAt b at_ e 8) (takeE b at_ e 8) ∧ Keep (Only g) w w'
set_option maxHeartbeats 1000000 in
theorem cnum8_any (g B : Nat) (b : List UInt8) (at_ : Nat) (e : Int) (w : World) (hr : Cu w g B b at_ e) (_hB : B ≤ w.heap.size) :
    Calls Try.prog 51 #[.pointer (some ⟨g, 0, none⟩), .int .i64 8] w (CNum8Post g B b at_ e w) := by
  obtain ⟨A, cap, hb, hrd, hat, hcap, hmax', hBg⟩ := hr
  have hmax := hmax'
  unfold maxLen at hmax
  have c0 := hb.cell 0
  have c1 := hb.cell 1
  have c2 := hb.cell 2
  have f1 := hb.frozen 1
  have f2 := hb.frozen 2
  simp at c0 c1 c2
  cases he : e != 0 with
  | true =>
    rw [he] at c2
    obtain ⟨t1, t2, t3⟩ := take_e b at_ e 8 he
    have HT := Lib.hid (And.intro t1 (And.intro t2 t3))
    have HE := Lib.hid he
    clear t1 t2 t3 he
    go_enter Try.func51, Try.ntmps51
    go_wp2_with fail
    go_quiet (fail)
    go_wp2_with fail
    go_ret
    refine ⟨by rw [HT.out.1, numS_nil]; rfl, ?_, ((Keep.refl (Only g) w).drewN nq).setCell (p := ⟨g, 2, none⟩) (.inl rfl) _⟩
    rw [HT.out.2.1, HT.out.2.2]
    refine ⟨A, cap, ?_, hrd.setCell (p := ⟨g, 2, none⟩) hBg _, hat, hcap, hmax', hBg⟩
    rw [HE.out]
    simpa using (hb.drewN nq).set_ 2 (.bool true)
  | false =>
    rw [he] at c2
    obtain rfl : e = 0 := by simpa using he
    by_cases hbig : (b.length : Int) - at_ < 8
    · have hd : decide ((b.length : Int) - at_ < 8) = true := decide_eq_true hbig
      obtain ⟨t1, t2, t3⟩ := take_cut b at_ 8 hbig
      have HT := Lib.hid (And.intro t1 (And.intro t2 t3))
      clear t1 t2 t3 he
      go_enter Try.func51, Try.ntmps51
      go_wp2_with fail
      go_quiet (fail)
      go_wp2_with fail
      go_ret
      refine ⟨by rw [HT.out.1, numS_nil]; rfl, ?_, ((Keep.refl (Only g) w).drewN nq).setCell (p := ⟨g, 2, none⟩) (.inl rfl) _⟩
      rw [HT.out.2.1, HT.out.2.2]
      refine ⟨A, cap, ?_, hrd.setCell (p := ⟨g, 2, none⟩) hBg _, hat, hcap, hmax', hBg⟩
      simpa using (hb.drewN nq).set_ 2 (.bool true)
    · have hd : decide ((b.length : Int) - at_ < 8) = false := decide_eq_false hbig
      obtain ⟨t1, t2, t3⟩ := take_good b at_ 8 (by omega)
      change takeL b at_ 0 8 = _ at t1
      change takeAt b at_ 0 8 = _ at t2
      change takeE b at_ 0 8 = _ at t3
      have HT := Lib.hid (And.intro t1 (And.intro t2 t3))
      have hb63 : (at_ : Int) + 8 ≤ 9223372036854775807 := by omega
      clear t1 t2 t3 he
      go_enter Try.func51, Try.ntmps51
      go_wp2_with fail
      go_quiet (fail)
      go_wp2_with fail
      have hbq := hb.drewN nq
      have hrq := hrd.drewN nq
      have hkq : Keep (Only g) w (w.drewN nq) := (Keep.refl _ _).drewN nq
      generalize w.drewN nq = w1 at *
      clear c0 c1 c2 f1 f2
      have c0 := hbq.cell 0
      have c1 := hbq.cell 1
      have f1 := hbq.frozen 1
      simp at c0 c1
      go_quiet ((go_at_call 71; exact (get8_any b at_ (by omega) B A cap _ (hrq.drewN _) (by omega)).mono fun _ _ h => ⟨h.1, _, h.2.symm⟩))
      go_wp2_with fail
      go_ret
      refine ⟨by rw [HT.out.1]; rfl, ?_, (hkq.drewN nq).setCell (p := ⟨g, 1, none⟩) (.inl rfl) _⟩
      rw [HT.out.2.1, HT.out.2.2]
      refine ⟨A, cap, ?_, (hrq.drewN nq).setCell (p := ⟨g, 1, none⟩) hBg _, by omega, hcap, hmax', hBg⟩
      simpa using (hbq.drewN nq).set_ 1 (.int .i64 ((at_ : Int) + 8))
end Go.Proofs.Ytppmolneklidfaa
