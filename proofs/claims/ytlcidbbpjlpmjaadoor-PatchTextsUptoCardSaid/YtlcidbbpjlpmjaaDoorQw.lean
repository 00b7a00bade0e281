/-
  Hunks with any numbers in memory; contracts of Same, SameEdits and SameHunks on rows that are alike. No statement of the seat is proved here.
-/
import Derived.Test.YtlcidbbpjlpmjaaDoorQs
namespace Go.Proofs.YtlcidbbpjlpmjaaDoor
open Go.RowKit

structure EdI where
  op : Int
  n : Int
structure HkI where
  a : Int
  b : Int
  eds : List EdI
  ls : List (List UInt8)
def edI (e : EdI) : List Value := [.int .i64 e.op, .int .i64 e.n]
def edIs (l : List EdI) : List Value := l.flatMap edI
def EdD.toI (e : EdD) : EdI := ⟨e.op, e.n⟩
def HkD.toI (h : HkD) : HkI := ⟨h.a, h.b, h.eds.map EdD.toI, h.ls⟩
theorem edI_len (e : EdI) : (edI e).length = 2 := rfl
theorem edIs_len (l : List EdI) : (edIs l).length = l.length * 2 := flatn_len edI_len l
theorem edLs_toI (l : List EdD) : edLs l = edIs (l.map EdD.toI) := by
  induction l with
  | nil => rfl
  | cons x l ih => simp only [edLs, edIs, List.flatMap_cons, List.map_cons] at ih ⊢; rw [ih]; rfl
def hkI (h : HkI) (ev lv : Value) : List Value := [.int .i64 h.a, .int .i64 h.b, ev, lv]
def hkIs (hs : List HkI) (tv : List (Value × Value)) : List Value := (hs.zip tv).flatMap fun x => hkI x.1 x.2.1 x.2.2
def RowsI (w : World) (B : Nat) (h : HkI) (ev lv : Value) : Prop := ∃ A c A' c', ev = .slice A h.eds.length c ∧ lv = .slice A' h.ls.length c' ∧ h.eds.length ≤ c ∧ h.ls.length ≤ c' ∧ c' ≤ maxLen ∧ Reads w B 2 A h.eds.length (edIs h.eds) ∧ Reads w B 1 A' h.ls.length (strL h.ls)
/-- A slice that reads as hunks with any numbers. -/
def HII (w : World) (B : Nat) (A : Option Addr) (hs : List HkI) : Prop := ∃ tv : List (Value × Value), tv.length = hs.length ∧ Reads w B 4 A hs.length (hkIs hs tv) ∧ ∀ (k : Nat) x y z, hs[k]? = some x → tv[k]? = some (y, z) → RowsI w B x y z
theorem RowsI.keep {w w' : World} {B : Nat} {h : HkI} {ev lv : Value} (hr : RowsI w B h ev lv) (hk : ∀ p : Addr, p.block < B → w'.cell? p = w.cell? p) : RowsI w' B h ev lv := by
  obtain ⟨A, c, A', c', h1, h2, h3, h4, h5, h6, h7⟩ := hr
  exact ⟨A, c, A', c', h1, h2, h3, h4, h5, h6.keep hk, h7.keep hk⟩
theorem HII.keep {w w' : World} {B : Nat} {A : Option Addr} {hs : List HkI} (h : HII w B A hs) (hk : ∀ p : Addr, p.block < B → w'.cell? p = w.cell? p) : HII w' B A hs := by
  obtain ⟨tv, h1, h2, h3⟩ := h
  exact ⟨tv, h1, h2.keep hk, fun k x y z e1 e2 => (h3 k x y z e1 e2).keep hk⟩
theorem HII.below {w w' : World} {B : Nat} {A : Option Addr} {hs : List HkI} (h : HII w B A hs) (hb : Below B w w') : HII w' B A hs := h.keep fun _ hp => hb.cell hp
theorem HII.drewN {w : World} {B : Nat} {A : Option Addr} {hs : List HkI} (h : HII w B A hs) (n : Nat) : HII (w.drewN n) B A hs := h.keep fun _ _ => rfl
theorem HII.more {w : World} {B B' : Nat} {A : Option Addr} {hs : List HkI} (h : HII w B A hs) (hB : B ≤ B') : HII w B' A hs := by
  obtain ⟨tv, h1, h2, h3⟩ := h
  refine ⟨tv, h1, h2.more hB, fun k x y z e1 e2 => ?_⟩
  obtain ⟨A, c, A', c', q1, q2, q3, q4, q5, q6, q7⟩ := h3 k x y z e1 e2
  exact ⟨A, c, A', c', q1, q2, q3, q4, q5, q6.more hB, q7.more hB⟩
theorem hkIs_toI (hs : List HkD) (tv : List (Value × Value)) : hkLs hs tv = hkIs (hs.map HkD.toI) tv := by
  induction hs generalizing tv with
  | nil => simp [hkLs, hkIs]
  | cons x hs ih =>
    cases tv with
    | nil => simp [hkLs, hkIs]
    | cons y tv =>
      simp only [hkLs, hkIs, List.zip_cons_cons, List.flatMap_cons, List.map_cons] at ih ⊢
      rw [ih]
      rfl
theorem HIn.toI {w : World} {B : Nat} {A : Option Addr} {hs : List HkD} (h : HIn w B A hs) : HII w B A (hs.map HkD.toI) := by
  obtain ⟨tv, h1, h2, h3⟩ := h
  refine ⟨tv, by simpa using h1, by simpa [hkIs_toI] using h2, fun k x y z e1 e2 => ?_⟩
  rw [List.getElem?_map, Option.map_eq_some_iff] at e1
  obtain ⟨u, e3, rfl⟩ := e1
  obtain ⟨A, c, A', c', q1, q2, q3, q4, q5, q6, q7⟩ := h3 k u y z e3 e2
  exact ⟨A, c, A', c', by simpa [HkD.toI] using q1, q2, by simpa [HkD.toI] using q3, q4, q5, by simpa [HkD.toI, edLs_toI] using q6, q7⟩
theorem edIs_at {l : List EdI} {k : Nat} {e : EdI} (h : l[k]? = some e) : (edIs l)[k * 2]? = some (.int .i64 e.op) ∧ (edIs l)[k * 2 + 1]? = some (.int .i64 e.n) :=
  ⟨by simpa [edIs] using flatn_at edI_len l k 0 e h (.int .i64 e.op) rfl, flatn_at edI_len l k 1 e h (.int .i64 e.n) rfl⟩
theorem hkIs_at {hs : List HkI} {tv : List (Value × Value)} {k : Nat} {h : HkI} {ev lv : Value} (h1 : hs[k]? = some h) (h2 : tv[k]? = some (ev, lv)) (j : Nat) (u : Value) (hj : (hkI h ev lv)[j]? = some u) : (hkIs hs tv)[k * 4 + j]? = some u :=
  flatn_at (f := fun x : HkI × Value × Value => hkI x.1 x.2.1 x.2.2) (C := 4) (fun _ => rfl) (hs.zip tv) k j (h, ev, lv) (by rw [List.getElem?_zip_eq_some]; exact ⟨h1, h2⟩) u hj
/-- The hunk at a place: its cells, its rows. -/
theorem HII.at_ {w : World} {B : Nat} {A : Option Addr} {hs : List HkI} (h : HII w B A hs) {k : Nat} {x : HkI} (hk : hs[k]? = some x) : ∃ g off EA ec LA lc, A = some ⟨g, off, none⟩ ∧ g < B ∧
    w.cell? ⟨g, off + k * 4, none⟩ = some (.int .i64 x.a) ∧ w.cell? ⟨g, off + k * 4 + 1, none⟩ = some (.int .i64 x.b) ∧ w.cell? ⟨g, off + k * 4 + 2, none⟩ = some (.slice EA x.eds.length ec) ∧ w.cell? ⟨g, off + k * 4 + 3, none⟩ = some (.slice LA x.ls.length lc) ∧
    x.eds.length ≤ ec ∧ x.ls.length ≤ lc ∧ lc ≤ maxLen ∧ Reads w B 2 EA x.eds.length (edIs x.eds) ∧ Reads w B 1 LA x.ls.length (strL x.ls) := by
  obtain ⟨tv, h1, h2, h3⟩ := h
  have hlt : k < hs.length := (List.getElem?_eq_some_iff.1 hk).1
  obtain ⟨⟨y, z⟩, hy⟩ : ∃ y, tv[k]? = some y := ⟨_, List.getElem?_eq_getElem (by omega)⟩
  obtain ⟨EA, ec, LA, lc, rfl, rfl, q3, q4, q5, q6, q7⟩ := h3 k x y z hk hy
  obtain ⟨g, off, rfl, hg, hc⟩ := h2.at0 (by omega) (by omega)
  have e0 := hc _ _ (hkIs_at hk hy 0 _ rfl)
  have e1 := hc _ _ (hkIs_at hk hy 1 _ rfl)
  have e2 := hc _ _ (hkIs_at hk hy 2 _ rfl)
  have e3 := hc _ _ (hkIs_at hk hy 3 _ rfl)
  rw [← Nat.add_assoc] at e1 e2 e3
  exact ⟨g, off, EA, ec, LA, lc, rfl, hg, by simpa using e0, e1, e2, e3, q3, q4, q5, q6, q7⟩
def edIC (e : EdI) : Array Value := #[.int .i64 e.op, .int .i64 e.n]
theorem edIC_one (e : EdI) : ∀ v ∈ (edIC e).toList, v.oneCell' = true := by
  intro v hv
  simp only [edIC, List.mem_cons, List.not_mem_nil, or_false] at hv
  rcases hv with rfl | rfl <;> rfl
theorem load_edI_at {w : World} {l : List EdI} {g off k : Nat} {e : EdI} (h : ∀ j u, (edIs l)[j]? = some u → w.cell? ⟨g, off + j, none⟩ = some u) (hk : l[k]? = some e) : (Instr.loadAt 67 (.pointer (some ⟨g, off + k * 2, none⟩))).run Tryd.prog w = .ok (.agg (edIC e)) w := by
  refine run_loadAt_cells w _ (edIC e) Tryd.underlying67 rfl info_edit (fun j v hj => ?_)
  rw [add_at]
  obtain ⟨h1, h2⟩ := edIs_at hk
  have hj2 : j = 0 ∨ j = 1 := by
    rcases Nat.lt_or_ge j 2 with q | q
    · omega
    · rw [List.getElem?_eq_none (by simpa [edIC] using q)] at hj; cases hj
  rcases hj2 with rfl | rfl
  · simp [edIC] at hj
    subst hj
    simpa using h _ _ h1
  · simp [edIC] at hj
    subst hj
    simpa [Nat.add_assoc] using h _ _ h2

section
variable {P : Program}
theorem run_part_one (w : World) {ty : TypeId} {d : TypeDesc} (hu : P.underlying ty = some d) (hd : (match d with | .struct _ | .array _ _ => true | _ => false) = false) (cs : Array Value) (i : Nat) (v : Value) (hv : cs[i]? = some v) : (part ty cs i).run P w = .ok v w := by
  have : (isAgg ty).run P w = .ok false w := by
    unfold isAgg
    rw [Sem.run_bind, run_underlying hu w]
    cases d <;> simp_all
  simp [part, Sem.run_bind, this, hv]
theorem still_bin {ops : Array Oper} {o : Oper} {a : Act} {w : World} {rest : List Oper} {Q : Act → Prop} (hgd : o.guard = none) {op : BinOp} {t t' : TypeId} {x y : Operand} (ho : o.op = .binOp op t x y t') {u v r : Value} (hx : a.eval x = u) (hy : a.eval y = v) (hg : (eqGuard op t x y u v).run P w = .ok () w) (hrun : (binOp op t u v).run P w = .ok r w)
    (h : wpStill P ops w Q rest (a.put o.dst r)) : wpStill P ops w Q (o :: rest) a := by
  refine wpStill_step fun K hK => ?_
  have hw : Region.wanted o (yielded ops a.tmps) = true := by simp [Region.wanted, hgd]
  rw [if_pos hw]
  unfold Oper.still execOp
  simp only [ho, hx, hy, Sem.run_bind, hg, hrun, Result.andThen_ok, Sem.run_pure]
  exact ⟨rfl, hK _ h⟩
theorem run_eqFields_nil (w : World) (d : Nat) (xs ys : Array Value) : (Op.eqFields d xs ys []).run P w = .ok true w := rfl
theorem run_eqFields_cons (w : World) (d : Nat) (xs ys : Array Value) (f : Field) (fs : List Field) (hf : f.name ≠ "_") {a b : Value} {r r2 : Bool} (h1 : (part f.type xs f.offset).run P w = .ok a w) (h2 : (part f.type ys f.offset).run P w = .ok b w) (h3 : (Op.equalIn d f.type a b).run P w = .ok r w)
    (h4 : (Op.eqFields d xs ys fs).run P w = .ok r2 w) : (Op.eqFields d xs ys (f :: fs)).run P w = .ok (r && r2) w := by
  unfold Op.eqFields
  rw [if_pos hf]
  simp only [Sem.run_bind, h1, h2, h3, Result.andThen_ok]
  cases r
  · rfl
  · simp [h4]
end
theorem stood_edit : Tryd.prog.stoodInHeld 67 = false := by kernel_rfl
theorem plain_edit : Tryd.prog.eqGuardType Tryd.prog.depth 67 = false := by kernel_rfl
theorem fields_edit : Tryd.prog.underlying 67 = some (.struct (Tryd.prog.fieldsOf 67)) := by kernel_rfl
theorem run_equalIn_edit (w : World) (d : Nat) (x y : EdI) : (Op.equalIn (d + 3) 67 (.agg (edIC x)) (.agg (edIC y))).run Tryd.prog w = .ok ((x.op == y.op) && ((x.n == y.n) && true)) w := by
  rw [run_equalIn_struct w (d + 2) 67 (edIC x) (edIC y) fields_edit stood_edit]
  unfold Program.fieldsOf
  rw [Tryd.underlying67]
  refine run_eqFields_cons w _ _ _ _ _ (by decide) (run_part_one w Tryd.underlying3 rfl _ _ _ (by simp [edIC])) (run_part_one w Tryd.underlying3 rfl _ _ _ (by simp [edIC])) (run_equalIn_int w _ _ .i64 _ _ _ Tryd.underlying3) ?_
  refine run_eqFields_cons w _ _ _ _ _ (by decide) (run_part_one w Tryd.underlying3 rfl _ _ _ (by simp [edIC])) (run_part_one w Tryd.underlying3 rfl _ _ _ (by simp [edIC])) (run_equalIn_int w _ _ .i64 _ _ _ Tryd.underlying3) ?_
  exact run_eqFields_nil w _ _ _
theorem run_neq_edit (w : World) (x : EdI) : (binOp .neq 67 (.agg (edIC x)) (.agg (edIC x))).run Tryd.prog w = .ok (.bool false) w := by
  rw [run_neq_struct]
  have := run_equalIn_edit w 9997 x x
  rw [this]
  simp
theorem guard_edit (op : BinOp) (a b : Operand) (x y : EdI) (w : World) : (eqGuard op 67 a b (.agg (edIC x)) (.agg (edIC y))).run Tryd.prog w = .ok () w :=
  run_eqGuard_agg (P := Tryd.prog) w op 67 a b (edIC x) (edIC y) plain_edit

set_option maxHeartbeats 1000000 in
set_option maxRecDepth 100000 in
theorem sameEdits_refl (l : List EdI) (A A' : Option Addr) (c c' : Nat) (B : Nat) (w : World) (hr : Reads w B 2 A l.length (edIs l)) (hr' : Reads w B 2 A' l.length (edIs l)) (hl : l.length ≤ 9223372036854775807) :
    Calls Tryd.prog 31 #[.slice A l.length c, .slice A' l.length c'] w fun r w' => r = .returned (.bool true) ∧ ∃ n, w' = w.drewN n := by
  go_enter Tryd.func31, Tryd.ntmps31
  go_wp2_with fail
  go_loopw [5] (fun i wr => ∃ k n : Nat, k ≤ l.length ∧ i = .int .i64 k ∧ wr = w.drewN n) (fun i _ => l.length - (intOf i).toNat)
  case atStart => exact ⟨0, 0, Nat.zero_le _, rfl, rfl⟩
  case round =>
    obtain ⟨k, n, hk, rfl, rfl⟩ := hrel
    by_cases hlt : k < l.length
    · obtain ⟨x, hx⟩ : ∃ x, l[k]? = some x := ⟨_, List.getElem?_eq_getElem hlt⟩
      obtain ⟨g1, o1, rfl, _, hc1⟩ := hr.at0 (by omega) (by omega)
      obtain ⟨g2, o2, rfl, _, hc2⟩ := hr'.at0 (by omega) (by omega)
      have L1 := Lib.hid (load_edI_at (w := (w.drewN n).drew) (fun j u hj => hc1 j u hj) hx)
      have L2 := Lib.hid (load_edI_at (w := (w.drewN n).drew) (fun j u hj => hc2 j u hj) hx)
      have hi0 : (0 : Int) ≤ (k : Int) := Int.natCast_nonneg _
      have hi1 : (k : Int) < (l.length : Int) := by omega
      clear hc1 hc2 hx
      go_wp2_with fail
      refine wp_region_still_lit (by kernel_rfl) (by kernel_rfl) ?_
      still_step
      still_step
      still_step
      refine still_load rfl rfl rfl L1.out ?_
      go_frame
      still_step
      still_step
      still_step
      refine still_load rfl rfl rfl L2.out ?_
      go_frame
      refine still_bin rfl rfl (u := .agg (edIC x)) rfl (v := .agg (edIC x)) rfl (guard_edit _ _ _ x x _) (run_neq_edit _ x) ?_
      go_frame
      refine wpStill_nil ?_
      change Exit.then _ _ _ _ (w.drewN n).drew
      go_wp2_with fail
      go_roundw
      case rel => exact ⟨k + 1, n + 1, by omega, by go_num, rfl⟩
      case measure => simp [intOf]; omega
    · obtain rfl : k = l.length := by omega
      go_wp2_with fail
      go_ret
      exact ⟨rfl, n, rfl⟩
theorem strL_at' {l : List (List UInt8)} {k : Nat} {s : List UInt8} (h : l[k]? = some s) : (strL l)[k]? = some (strC s) := by
  unfold strL
  rw [List.getElem?_map, h]
  rfl
set_option maxHeartbeats 1000000 in
set_option maxRecDepth 100000 in
theorem sameLines_refl (l : List (List UInt8)) (A A' : Option Addr) (c c' : Nat) (B : Nat) (w : World) (hr : Reads w B 1 A l.length (strL l)) (hr' : Reads w B 1 A' l.length (strL l)) (hl : l.length ≤ 9223372036854775807) :
    Calls Tryd.prog 22 #[.slice A l.length c, .slice A' l.length c'] w fun r w' => r = .returned (.bool true) ∧ ∃ n, w' = w.drewN n := by
  go_enter Tryd.func22, Tryd.ntmps22
  go_wp2_with fail
  go_loopw [5] (fun i wr => ∃ k n : Nat, k ≤ l.length ∧ i = .int .i64 k ∧ wr = w.drewN n) (fun i _ => l.length - (intOf i).toNat)
  case atStart => exact ⟨0, 0, Nat.zero_le _, rfl, rfl⟩
  case round =>
    obtain ⟨k, n, hk, rfl, rfl⟩ := hrel
    by_cases hlt : k < l.length
    · obtain ⟨x, hx⟩ : ∃ x, l[k]? = some x := ⟨_, List.getElem?_eq_getElem hlt⟩
      obtain ⟨g1, o1, rfl, _, hc1⟩ := hr.at0 (by omega) (by omega)
      obtain ⟨g2, o2, rfl, _, hc2⟩ := hr'.at0 (by omega) (by omega)
      have d1 := hc1 _ _ (strL_at' hx)
      have d2 := hc2 _ _ (strL_at' hx)
      unfold strC at d1 d2
      have hi0 : (0 : Int) ≤ (k : Int) := Int.natCast_nonneg _
      have hi1 : (k : Int) < (l.length : Int) := by omega
      clear hc1 hc2 hx
      go_wp2_with fail
      go_quiet (fail)
      go_wp2_with fail
      go_roundw
      case rel => exact ⟨k + 1, n + nq, by omega, by go_num, rfl⟩
      case measure => simp [intOf]; omega
    · obtain rfl : k = l.length := by omega
      go_wp2_with fail
      go_ret
      exact ⟨rfl, n, rfl⟩
set_option maxHeartbeats 2000000 in
set_option maxRecDepth 100000 in
theorem sameHunks_refl (l : List HkI) (A A' : Option Addr) (c c' : Nat) (B : Nat) (w : World) (hr : HII w B A l) (hr' : HII w B A' l) (hl : l.length ≤ 9223372036854775807) (hel : ∀ h ∈ l, h.eds.length ≤ 9223372036854775807 ∧ h.ls.length ≤ 9223372036854775807) :
    Calls Tryd.prog 15 #[.slice A l.length c, .slice A' l.length c'] w fun r w' => r = .returned (.bool true) ∧ ∃ n, w' = w.drewN n := by
  go_enter Tryd.func15, Tryd.ntmps15
  go_wp2_with fail
  go_loopw [5] (fun i wr => ∃ k n : Nat, k ≤ l.length ∧ i = .int .i64 k ∧ wr = w.drewN n) (fun i _ => l.length - (intOf i).toNat)
  case atStart => exact ⟨0, 0, Nat.zero_le _, rfl, rfl⟩
  case round =>
    obtain ⟨k, n, hk, rfl, hw⟩ := hrel
    by_cases hlt : k < l.length
    · obtain ⟨x, hx⟩ : ∃ x, l[k]? = some x := ⟨_, List.getElem?_eq_getElem hlt⟩
      have hlen := hel x (List.mem_of_getElem? hx)
      obtain ⟨g1, o1, E1, e1, L1, l1, rfl, _, a0, a1, a2, a3, _, _, _, a4, a5⟩ := (hr.drewN n).at_ hx
      obtain ⟨g2, o2, E2, e2, L2, l2, rfl, _, b0, b1, b2, b3, _, _, _, b4, b5⟩ := (hr'.drewN n).at_ hx
      rw [← hw] at a0 a1 a2 a3 a4 a5 b0 b1 b2 b3 b4 b5
      have Q1 := Lib.hid (fun (m : Nat) => Calls.quiet_of (sameEdits_refl x.eds E1 E2 e1 e2 B (wr.drewN m) (a4.drewN m) (b4.drewN m) hlen.1))
      have Q2 := Lib.hid (fun (m : Nat) => Calls.quiet_of (sameLines_refl x.ls L1 L2 l1 l2 B (wr.drewN m) (a5.drewN m) (b5.drewN m) hlen.2))
      have HW := Lib.hid hw
      have hi0 : (0 : Int) ≤ (k : Int) := Int.natCast_nonneg _
      have hi1 : (k : Int) < (l.length : Int) := by omega
      clear hx hlen a4 a5 b4 b5 hw
      go_wp2_with fail
      go_quiet ((first | (go_at_call 31; with_reducible exact Q1.out _) | (go_at_call 22; with_reducible exact Q2.out _)))
      go_wp2_with fail
      go_roundw
      case rel => exact ⟨k + 1, n + nq, by omega, by go_num, by rw [HW.out, World.drewN_drewN]⟩
      case measure => simp [intOf]; omega
    · obtain rfl : k = l.length := by omega
      go_wp2_with fail
      go_ret
      exact ⟨rfl, n, by first | rfl | exact hw⟩
end Go.Proofs.YtlcidbbpjlpmjaaDoor
