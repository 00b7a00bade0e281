/-
  Texts of the codec joined (Body, LawApart, Obj1, Obj2, Obj3). No statement of the seat is proved here.
-/
import Derived.Test.YtppmolneklidfaaGreatZ08
import Derived.Test.YtppmolneklidfaaGreatZ07
import Derived.Lib.SmallJoins
import Derived.Test.YtppmolneklidfaaGreatZ09
import Derived.Deep.DeepCutAuto
import Derived.Test.YtppmolneklidfaaGreatZ11
namespace Go.Proofs.YtppmolneklidfaaGreat
open Go.RowKit

def bodyE (k : Int) (b : List UInt8) : Int := if k = 1 then (if 65536 < b.length then 5 else 0) else if k = 2 then (parseTree b).2 else if k = 3 then (parseCommit b).2 else 3
theorem bodyE_kind {k : Int} {b : List UInt8} (h : bodyE k b = 0) : 1 ≤ k ∧ k ≤ 3 := by
  unfold bodyE at h
  by_cases h1 : k = 1
  · omega
  · by_cases h2 : k = 2
    · omega
    · by_cases h3 : k = 3
      · omega
      · rw [if_neg h1, if_neg h2, if_neg h3] at h
        omega

attribute [local go_sem ↓] ld_id eq_id bd_com st_com
set_option maxHeartbeats 2000000 in
set_option maxRecDepth 100000 in
theorem body_any (k : Int) (b : List UInt8) (A : Option Addr) (c : Nat) (w : World) (hr : Reads w w.heap.size 1 A b.length (b.map bv)) (hl : b.length ≤ 1000000) (hc1 : b.length ≤ c) (hc2 : c ≤ maxLen) :
    Calls Tryz.prog 41 #[.int .i64 k, .slice A b.length c] w fun r w' => r = .returned (.int .i64 (bodyE k b)) ∧ Below w.heap.size w w' := by
  by_cases h1 : k = 1
  · subst h1
    by_cases hb : 65536 < b.length
    · have HE := Lib.hid (show bodyE 1 b = 5 from by unfold bodyE; rw [if_pos rfl, if_pos hb])
      have d : decide ((65536 : Int) < (b.length : Int)) = true := decide_eq_true (by omega)
      go_enter Tryz.func41, Tryz.ntmps41
      go_wp2_with fail
      go_ret
      exact ⟨by rw [HE.out]; rfl, Below.refl _ _⟩
    · have HE := Lib.hid (show bodyE 1 b = 0 from by unfold bodyE; rw [if_pos rfl, if_neg hb])
      have d : decide ((65536 : Int) < (b.length : Int)) = false := decide_eq_false (by omega)
      go_enter Tryz.func41, Tryz.ntmps41
      go_wp2_with fail
      go_ret
      exact ⟨by rw [HE.out]; rfl, Below.refl _ _⟩
  · have e1 : (k == 1) = false := beq_eq_false_iff_ne.2 h1
    by_cases h2 : k = 2
    · subst h2
      exact body_tree b A c w hr hl hc1 hc2
    · have e2 : (k == 2) = false := beq_eq_false_iff_ne.2 h2
      by_cases h3 : k = 3
      · subst h3
        go_enter Tryz.func41, Tryz.ntmps41
        go_wp2_with fail
        refine (parseCommit_any b A c _ hr hl hc1 hc2).mono ?_
        rintro r w1 ⟨A1, c1, rfl, ho1, hb1⟩
        have HE := Lib.hid (show bodyE 3 b = (parseCommit b).2 from rfl)
        generalize (parseCommit b).2 = e at *
        generalize (parseCommit b).1 = d at *
        go_wp2_with (first | (refine wpList_allocAgg rfl rfl (zero_com _) ?_) | (refine wpList_storeBlk rfl rfl (vs := comC d.tree (.slice A1 d.parents.length c1) d.author d.time d.msg) rfl rfl (Blk.new _ _ _) (by rw [comC_size, comC_size]) (by rw [comC_size]; exact info_com) (comL_one _ _ _ _ _ rfl) ?_; intro w2 hx2 hk2 hz2))
        go_ret
        exact ⟨by rw [HE.out]; rfl, hb1.trans ((Keep.ofNew (S := Nothing) hk2).all.mono hb1.size)⟩
      · have e3 : (k == 3) = false := beq_eq_false_iff_ne.2 h3
        have HE := Lib.hid (show bodyE k b = 3 from by unfold bodyE; rw [if_neg h1, if_neg h2, if_neg h3])
        go_enter Tryz.func41, Tryz.ntmps41
        go_wp2_with fail
        go_ret
        exact ⟨by rw [HE.out]; rfl, Below.refl _ _⟩

theorem encodeObj_any (k : Int) (b : List UInt8) (A : Option Addr) (c : Nat) (w : World) (hr : Reads w w.heap.size 1 A b.length (b.map bv)) (hl : b.length ≤ 1000000) (hc1 : b.length ≤ c) (hc2 : c ≤ maxLen) :
    Calls Tryz.prog 15 #[.agg #[.int .i64 k, .slice A b.length c]] w (BytesPost (encObj (bodyE k b) k b) w) :=
  encodeObj_of k b (bodyE k b) A c w hr hl bodyE_kind (fun W hR hz => body_any k b A c W (hR.more hz) hl hc1 hc2)

/-! ### Objects that are not the same have not the same bytes -/
theorem letter_inj {j k : Int} (hj : 1 ≤ j ∧ j ≤ 3) (hk : 1 ≤ k ∧ k ≤ 3) (h : letter j = letter k) : j = k := by
  have h1 : j = 1 ∨ j = 2 ∨ j = 3 := by omega
  have h2 : k = 1 ∨ k = 2 ∨ k = 3 := by omega
  rcases h1 with rfl | rfl | rfl <;> rcases h2 with rfl | rfl | rfl <;> first | rfl | (revert h; decide)
theorem encObj_inj {j k : Int} {a b : List UInt8} (ha : bodyE j a = 0) (hb : bodyE k b = 0) : (encObj (bodyE j a) j a).1 = (encObj (bodyE k b) k b).1 ↔ (j = k ∧ a = b) := by
  constructor
  · intro h
    rw [ha, hb] at h
    simp only [encObj, if_true, List.cons.injEq] at h
    refine ⟨letter_inj (bodyE_kind ha) (bodyE_kind hb) h.1, ?_⟩
    exact (List.append_inj h.2 (by rw [be_len, be_len])).2
  · rintro ⟨rfl, rfl⟩
    rfl
end Go.Proofs.YtppmolneklidfaaGreat

namespace Go.Proofs.YtppmolneklidfaaGreat
open Go.ChangeShapes Go.WideShapes Go.ChangeAt Go.RowKit Go.Deep Go.Joins

theorem str_beq (a b : List UInt8) : ((⟨a.toArray⟩ : ByteArray).toList == (⟨b.toArray⟩ : ByteArray).toList) = (a == b) := by
  rw [Lib.toList_data, Lib.toList_data]

theorem cells_obj : Tryz.prog.cellsOf 45 = 2 := by kernel_rfl
theorem slice_form {H : Type} {enc : TypeId × Value → H} {w : World} {base : Nat} {spare : Nat → Bool} {held : Bool} {t e : TypeId} {fuel : Nat} {v : Value} {x : DataW H × List MemPlace} (ht : Tryz.prog.underlying t = some (.slice e)) (h : DataW.trod enc Tryz.prog w base spare held fuel t [v] = some x) : ∃ A len cap, v = .slice A len cap := by
  rcases open_slice ht h with ⟨hcs, _⟩ | ⟨a, len, cap, m, n, D, Pl, hcs, _⟩
  · simp at hcs; exact ⟨_, _, _, hcs⟩
  · simp at hcs; exact ⟨_, _, _, hcs⟩
set_option maxRecDepth 100000 in
theorem opened_obj {H : Type} {enc : TypeId × Value → H} {w : World} {base b0 : Nat} {r : Reach} {spare : Nat → Bool} {held : Bool} {v : Value} {d : DataW H} {p : List MemPlace} (hv : Value.okWide Tryz.prog w r b0 45 v) (h : DataW.Trod enc Tryz.prog w base spare held 45 v d p) :
    ∃ (k : Int) (A : Option Addr) (l : List UInt8) (c : Nat), v = .agg #[.int .i64 k, .slice A l.length c] ∧ Reads w w.heap.size 1 A l.length (l.map bv) ∧ l.length ≤ c ∧ c ≤ maxLen := by
  obtain ⟨c0, c1, y0, y1, m, rfl, rfl, rfl, hy0, hy1⟩ := open_agg2 Tryz.underlying45 (by kernel_rfl) cells_obj hv h
  obtain ⟨k, e0, _, _⟩ := DataW.trod_int Tryz.underlying3 hy0
  obtain ⟨A, len, cap, rfl⟩ := slice_form Tryz.underlying36 hy1
  obtain ⟨l, rfl, h2, h3, h4⟩ := open_bytes hy1
  simp at e0
  subst e0
  exact ⟨k, A, l, cap, rfl, h2, h3, h4⟩

end Go.Proofs.YtppmolneklidfaaGreat

namespace Go.Proofs.YtppmolneklidfaaGreat
open Go.RowKit

def kindOf (x : UInt8) : Int := if x = 99 then 3 else if x = 116 then 2 else if x = 98 then 1 else 0
set_option maxHeartbeats 1000000 in
theorem kind_any (x : UInt8) (w : World) : Calls Tryz.prog 64 #[.int .u8 (x.toNat : Int)] w fun r w' => r = .returned (.int .i64 (kindOf x)) ∧ w = w' := by
  have hne : ∀ y : UInt8, x ≠ y → ((x.toNat : Int) == (y.toNat : Int)) = false := fun y h => beq_eq_false_iff_ne.2 (fun q => h (UInt8.toNat_inj.1 (by omega)))
  by_cases h1 : x = 99
  · subst h1
    have HK := Lib.hid (show kindOf 99 = 3 from rfl)
    clear hne
    go_enter Tryz.func64, Tryz.ntmps64
    go_wp2
    go_ret
    exact ⟨by rw [HK.out]; rfl, rfl⟩
  · have d1 : ((x.toNat : Int) == 99) = false := hne 99 h1
    by_cases h2 : x = 116
    · subst h2
      have HK := Lib.hid (show kindOf 116 = 2 from rfl)
      clear hne d1
      go_enter Tryz.func64, Tryz.ntmps64
      go_wp2
      go_ret
      exact ⟨by rw [HK.out]; rfl, rfl⟩
    · have d2 : ((x.toNat : Int) == 116) = false := hne 116 h2
      by_cases h3 : x = 98
      · subst h3
        have HK := Lib.hid (show kindOf 98 = 1 from rfl)
        clear hne d1 d2
        go_enter Tryz.func64, Tryz.ntmps64
        go_wp2
        go_ret
        exact ⟨by rw [HK.out]; rfl, rfl⟩
      · have d3 : ((x.toNat : Int) == 98) = false := hne 98 h3
        have HK := Lib.hid (show kindOf x = 0 from by unfold kindOf; rw [if_neg h1, if_neg h2, if_neg h3])
        clear hne h1 h2 h3
        generalize x.toNat = y at *
        go_enter Tryz.func64, Tryz.ntmps64
        go_wp2
        go_ret
        exact ⟨by rw [HK.out]; rfl, rfl⟩

theorem nil_none (w : World) (n c : Nat) : (binOp .eql 36 (.slice none n c) (.slice none 0 0)).run Tryz.prog w = .ok (.bool true) w := by kernel_rfl
theorem nil_some (w : World) (a : Addr) (n c : Nat) : (binOp .eql 36 (.slice (some a) n c) (.slice none 0 0)).run Tryz.prog w = .ok (.bool false) w := by kernel_rfl
theorem guard_nil (w : World) (x y : Operand) (A : Option Addr) (n c : Nat) : (eqGuard .eql 36 x y (.slice A n c) (.slice none 0 0)).run Tryz.prog w = .ok () w := by kernel_rfl
def ClonePost (b : List UInt8) (w : World) (r : Ending) (w' : World) : Prop := ∃ A c, r = .returned (.slice A b.length c) ∧ Own w' w.heap.size 5 1 A b.length c (b.map bv) ∧ Keep Nothing w w'
set_option maxHeartbeats 1000000 in
set_option maxRecDepth 100000 in
theorem clone_any (b : List UInt8) (A : Option Addr) (c : Nat) (B : Nat) (w : World) (hr : Reads w B 1 A b.length (b.map bv)) (hB : B ≤ w.heap.size) (hl : b.length ≤ 140737488355328) :
    Calls Tryz.prog 65 #[.slice A b.length c] w (ClonePost b w) := by
  cases A with
  | none =>
    have h0 : b = [] := by
      rcases Nat.eq_zero_or_pos b.length with h | h
      · exact List.eq_nil_of_length_eq_zero h
      · obtain ⟨ad, e, _⟩ := hr.2 h
        cases e
    subst h0
    go_enter Tryz.func65, Tryz.ntmps65
    go_wp2_with (first | (refine wpList_bin rfl rfl rfl rfl (guard_nil _ _ _ _ _ _) (nil_none _ _ _) ?_))
    go_ret
    exact ⟨none, 0, rfl, Own.nil _ _ _ _, Keep.refl _ _⟩
  | some ad =>
    go_enter Tryz.func65, Tryz.ntmps65
    go_wp2_with (first | (refine wpList_bin (o := ⟨some 4, _, _, _, _, _⟩) rfl rfl rfl rfl (guard_nil _ _ _ _ _ _) (nil_some _ _ _ _) ?_) | (at_builtin; refine wpList_append_sl rfl elemU8 rfl rfl (Own.fresh0 (heap_alloc_new _ _) (Nat.le_refl _)) rfl (hr.alloc hB _) (bvs_one b) (by unfold maxLen; omega) (by omega) (by simp) ?_; intro A2 c2 w2 ho2 hk2))
    go_ret
    simp only [Nat.zero_add, List.nil_append] at ho2
    refine ⟨A2, c2, by simp, ho2, ?_⟩
    exact ((Keep.refl Nothing w).alloc _).then_ hk2 (fun i hi h => by
      rcases h with h | ⟨h, _⟩
      · simp at h
      · omega)

theorem encObj_e (k : Int) (b : List UInt8) : (encObj (bodyE k b) k b).2 = bodyE k b := by unfold encObj; split <;> simp_all
theorem load_obj {w : World} {g : Nat} {t : TypeId} {k : Int} {v : Value} (h : Blk w g t #[.int .i64 k, v]) : (Instr.loadAt 45 (.pointer (some ⟨g, 0, none⟩))).run Tryz.prog w = .ok (.agg #[.int .i64 k, v]) w :=
  run_loadAt_blk (P := Tryz.prog) h 0 #[.int .i64 k, v] Tryz.underlying45 rfl (by kernel_rfl) (by simp)
end Go.Proofs.YtppmolneklidfaaGreat

namespace Go.Proofs.YtppmolneklidfaaGreat
open Go.RowKit

/-! ### Plain -/
def poK (b : List UInt8) : Int := kindOf (UInt8.ofNat (num (takeL b 0 0 1)))
def poE1 (b : List UInt8) : Int := note (takeE b 0 0 1) (poK b != 0) 3
def poAt1 (b : List UInt8) : Nat := takeAt b 0 0 1
def poE4 (b : List UInt8) (at_ : Nat) (e : Int) : Int := endE b (textAt b at_ e 4) (textE b at_ e 4)
def poE5 (b : List UInt8) (k : Int) (at_ : Nat) (e : Int) : Int := if poE4 b at_ e = 0 then bodyE k (textL b at_ e 4) else poE4 b at_ e
def poTail (b : List UInt8) (k : Int) (at_ : Nat) (e : Int) : (Int × List UInt8) × Int := if poE5 b k at_ e = 0 then ((k, textL b at_ e 4), 0) else ((0, []), poE5 b k at_ e)
def parseObj (b : List UInt8) : (Int × List UInt8) × Int := if b.length < 5 then ((0, []), 14) else poTail b (poK b) (poAt1 b) (poE1 b)
theorem textE_err {b : List UInt8} {at_ : Nat} {e n : Int} (h : (e != 0) = true) : textE b at_ e n = e := by
  unfold textE
  rw [(take_e b at_ e n h).2.2]
  exact (take_e b _ e _ h).2.2
theorem poE4_err {b : List UInt8} {at_ : Nat} {e : Int} (h : (e != 0) = true) : poE4 b at_ e = e := by
  unfold poE4 endE
  rw [textE_err h]
  exact if_neg (by simpa using h)
theorem poE5_err {b : List UInt8} {k : Int} {at_ : Nat} {e : Int} (h : (e != 0) = true) : poE5 b k at_ e = e := by
  have h0 : e ≠ 0 := by simpa using h
  unfold poE5
  rw [poE4_err h, if_neg h0]
theorem poTail_err {b : List UInt8} {k : Int} {at_ : Nat} {e : Int} (h : (e != 0) = true) : poTail b k at_ e = ((0, []), e) := by
  have h0 : e ≠ 0 := by simpa using h
  unfold poTail
  rw [poE5_err h, if_neg h0]
def ObjPost (b : List UInt8) (w : World) (r : Ending) (w' : World) : Prop :=
  ∃ A c, r = .returned (.tuple #[.agg #[.int .i64 (parseObj b).1.1, .slice A (parseObj b).1.2.length c], .int .i64 (parseObj b).2]) ∧ Own w' w.heap.size 5 1 A (parseObj b).1.2.length c ((parseObj b).1.2.map bv) ∧ Below w.heap.size w w'

theorem info_obj : (Tryz.prog.info? 45).map (·.size) = some 2 := by kernel_rfl
theorem obj_one : ∀ v ∈ (#[Value.int .i64 0, Value.slice none 0 0] : Array Value).toList, v.oneCell' = true := by
  intro v hv
  simp at hv
  rcases hv with rfl | rfl <;> rfl
theorem obj_one2 {k : Int} {A : Option Addr} {n c : Nat} : ∀ v ∈ (#[Value.int .i64 k, Value.slice A n c] : Array Value).toList, v.oneCell' = true := by
  intro v hv
  simp at hv
  rcases hv with rfl | rfl <;> rfl
theorem loadVar_obj {w : World} {g : Nat} {tt : TypeId} {k : Int} {v : Value} (h : Blk w g tt #[.int .i64 k, v]) : (loadVar 45 ⟨g, 0, none⟩).run Tryz.prog w = .ok (.agg #[.int .i64 k, v]) w :=
  run_loadVar_cells (P := Tryz.prog) w _ #[.int .i64 k, v] Tryz.underlying45 rfl info_obj (fun j x hj => by rw [add_at, h.cell, ← hj]; simp)
set_option maxHeartbeats 4000000 in
set_option maxRecDepth 100000 in
theorem parseObj_any (b : List UInt8) (A : Option Addr) (c : Nat) (w : World) (hr : Reads w w.heap.size 1 A b.length (b.map bv)) (hl : b.length ≤ 1000000) (hc1 : b.length ≤ c) (hc2 : c ≤ maxLen) :
    Calls Tryz.prog 34 #[.slice A b.length c] w (ObjPost b w) := by
  have hq0 : Blk ((w.alloc (.cells #[.int .i64 0, .slice none 0 0] 45)).alloc (.cells #[.slice A b.length c, .int .i64 0, .int .i64 0] 115)) w.heap.size 45 #[.int .i64 0, .slice none 0 0] := (Blk.new _ _ _).alloc _
  have hR0 : Rd ((w.alloc (.cells #[.int .i64 0, .slice none 0 0] 45)).alloc (.cells #[.slice A b.length c, .int .i64 0, .int .i64 0] 115)) (w.heap.size + 1) w.heap.size b 0 0 := by
    refine ⟨A, c, ?_, (hr.alloc (Nat.le_refl _) _).alloc (by simp) _, Nat.zero_le _, hc1, hc2, by omega⟩
    have := Blk.new (w.alloc (.cells #[.int .i64 0, .slice none 0 0] 45)) 115 #[.slice A b.length c, .int .i64 0, .int .i64 0]
    simpa using this
  have hk0 : Keep Nothing w ((w.alloc (.cells #[.int .i64 0, .slice none 0 0] 45)).alloc (.cells #[.slice A b.length c, .int .i64 0, .int .i64 0] 115)) := ((Keep.refl _ _).alloc _).alloc _
  go_enter Tryz.func34, Tryz.ntmps34
  go_wp2_with fail
  generalize (w.alloc (.cells #[.int .i64 0, .slice none 0 0] 45)).alloc (.cells #[.slice A b.length c, .int .i64 0, .int .i64 0] 115) = w0 at *
  have hz0 := hk0.size
  generalize hq : w.heap.size = q at *
  have HQ := Lib.hid hq
  have hqle : q ≤ w.heap.size := by omega
  have hqge : w.heap.size ≤ q := by omega
  have l0 := hq0.lt
  clear hq
  obtain ⟨A0, c0, hb0, hR0'⟩ := hR0.blk
  refine (must_any (q + 1) _ _ _ _ 14 _ _ hb0).mono ?_
  rintro r w1 ⟨rfl, hb1, hk1⟩
  have hR1 := hR0' _ _ hb1 (by omega) hk1
  have hq1 := hq0.keep hk1 (by unfold Only; omega)
  have kw1 : Keep (Only (q + 1)) w w1 := (hk0.mono (fun _ _ h => h.elim)).trans hk1
  have z1 := hk1.size
  have l1 := hb1.lt
  clear hk1 hR0 hR0' hb0 hb1 hq0 hk0
  have q2 : Blk (w1.alloc (.cells #[.int .i64 0, .slice none 0 0] 45)) w1.heap.size 45 #[.int .i64 0, .slice none 0 0] := Blk.new _ _ _
  have hR2 := hR1.alloc (by omega) (.cells #[.int .i64 0, .slice none 0 0] 45)
  have hq2 := hq1.alloc (.cells #[.int .i64 0, .slice none 0 0] 45)
  have kw2 := kw1.alloc (.cells #[.int .i64 0, .slice none 0 0] 45)
  have z2 : w1.heap.size ≤ (w1.alloc (.cells #[.int .i64 0, .slice none 0 0] 45)).heap.size := by simp
  clear hR1 hq1 kw1
  go_upto_region 4 with fail
  generalize w1.alloc (.cells #[.int .i64 0, .slice none 0 0] 45) = w2 at *
  generalize w1.heap.size = p at *
  obtain ⟨db, hdb⟩ : ∃ db, decide ((5 : Int) ≤ (b.length : Int)) = db := ⟨_, rfl⟩
  rw [hdb] at hR2
  rw [hdb]
  have HDB := Lib.hid hdb
  clear hdb
  go_cut [23] (fun s23 wx => w2 = wx ∧ s23 = .bool db)
  case first =>
    obtain ⟨Ar, cr, hbr, _⟩ := hR2.blk
    have r2 := hbr.cell 2
    simp at r2
    cases db
    all_goals
      go_wp2_with fail
      go_meet
      exact ⟨rfl, rfl⟩
  case rest =>
    obtain ⟨rfl, rfl⟩ := hcut
    go_upto_if 23 with fail
    go_cut [23] (fun s23 wx => ∃ k at_ e, poTail b k at_ e = parseObj b ∧ Rd wx (q + 1) q b at_ e ∧ Blk wx p 45 #[.int .i64 k, .slice none 0 0] ∧ Blk wx q 45 #[.int .i64 0, .slice none 0 0] ∧ Keep (Only (q + 1)) w wx ∧ p < wx.heap.size)
    case first =>
      cases db with
      | false =>
        have h5 : b.length < 5 := by have := of_decide_eq_false HDB.out; omega
        have HP := Lib.hid (show poTail b 0 0 14 = parseObj b from by rw [poTail_err (by decide)]; unfold parseObj; rw [if_pos h5])
        go_wp2_with fail
        go_meet
        exact ⟨0, 0, 14, HP.out, hR2, q2, hq2, kw2, q2.lt⟩
      | true =>
        have h5 : ¬ b.length < 5 := by have := of_decide_eq_true HDB.out; omega
        have HP := Lib.hid (show poTail b (poK b) (poAt1 b) (poE1 b) = parseObj b from by unfold parseObj; rw [if_neg h5])
        change Rd w2 (q + 1) q b 0 0 at hR2
        go_wp2_with fail
        refine (rnumber_any 1 (by omega) (q + 1) q b 0 0 _ hR2 (by omega)).mono ?_
        rintro r w3 ⟨rfl, hR3, hk3⟩
        have q3 := q2.keep hk3 (by unfold Only; omega)
        have hq3 := hq2.keep hk3 (by unfold Only; omega)
        have kw3 := kw2.trans hk3
        have z3 := hk3.size
        clear hk3 hR2 q2 hq2 kw2
        have hv : num (takeL b 0 0 1) < 256 := Nat.lt_of_lt_of_le (num_lt _) (Nat.le_trans (Nat.pow_le_pow_right (by omega) (takeL_le b 0 0 1)) (by decide))
        have HK := Lib.hid (show poK b = kindOf (UInt8.ofNat (num (takeL b 0 0 1))) from rfl)
        have hu : ((UInt8.ofNat (num (takeL b 0 0 1))).toNat : Int) = (num (takeL b 0 0 1) : Int) := by rw [UInt8.toNat_ofNat', Nat.mod_eq_of_lt (by omega)]
        change Rd w3 (q + 1) q b (poAt1 b) (takeE b 0 0 1) at hR3
        have hki := fun W => kind_any (UInt8.ofNat (num (takeL b 0 0 1))) W
        rw [hu, ← HK.out] at hki
        have HKI := Lib.hid hki
        generalize num (takeL b 0 0 1) = nk at *
        clear hu hki
        go_wp2_with fail
        refine (HKI.out _).mono ?_
        rintro r w4 ⟨rfl, rfl⟩
        have c0 := q3.cell 0
        have f0 := q3.frozen 0
        simp at c0
        go_upto_region 6 with fail
        have hR5 := hR3.setCell (p := ⟨p, 0, none⟩) (by simp; omega) (by simp; omega) (.int .i64 (poK b))
        have q5 := q3.set_ 0 (.int .i64 (poK b))
        simp only [List.setIfInBounds_toArray, List.set_cons_zero] at q5
        have hq5 := hq3.far (p := ⟨p, 0, none⟩) (by simp; omega) (.int .i64 (poK b))
        have kw5 := kw3.setCell (p := ⟨p, 0, none⟩) (.inr (by simp; omega)) (.int .i64 (poK b))
        have z5 : w3.heap.size ≤ (w3.setCell ⟨p, 0, none⟩ (.int .i64 (poK b))).heap.size := by simp [World.setCell]
        generalize w3.setCell ⟨p, 0, none⟩ (.int .i64 (poK b)) = w5 at *
        clear hR3 q3 hq3 kw3 c0 f0
        have HE1 := Lib.hid (show poE1 b = note (takeE b 0 0 1) (poK b != 0) 3 from rfl)
        generalize poK b = kk at *
        generalize takeE b 0 0 1 = ee at *
        generalize poAt1 b = aa at *
        obtain ⟨A5, c5, hb5, hR5'⟩ := hR5.blk
        have k0 := q5.cell 0
        simp at k0
        go_region_law (first | (go_simp; go_at_call 44; refine (must_any (q + 1) _ _ _ _ 3 _ _ hb5.drew).mono ?_; rintro r w6 ⟨rfl, hb6, hk6⟩))
        all_goals
          have k56 : Keep (Only (q + 1)) w5 w6 := (Keep.drew (Keep.refl (Only (q + 1)) w5)).trans hk6
          have hR6 := hR5' _ _ hb6 (by omega) k56
          rw [← HE1.out] at hR6
          go_wp2_with fail
          go_meet
          have z6 := k56.size
          exact ⟨kk, aa, _, HP.out, hR6, q5.keep k56 (by unfold Only; omega), hq5.keep k56 (by unfold Only; omega), kw5.trans k56, (q5.keep k56 (by unfold Only; omega)).lt⟩
    case rest =>
      clear hR2 q2 hq2 kw2
      obtain ⟨k, at_, e, htl, hR, hp, hq1, hk, hpz⟩ := hcut
      have HTL := Lib.hid htl
      clear htl
      have z := hk.size
      obtain ⟨Ag, cg, hbg, _⟩ := hR.blk
      have lg := hbg.lt
      clear hbg
      go_wp2_with fail
      refine (rnumber_any 4 (by omega) (q + 1) q b at_ e _ hR (by omega)).mono ?_
      rintro r w3 ⟨rfl, hR3, hk3⟩
      have hv : num (takeL b at_ e 4) < 4294967296 := Nat.lt_of_lt_of_le (num_lt _) (Nat.le_trans (Nat.pow_le_pow_right (by omega) (takeL_le b at_ e 4)) (by decide))
      have p3 := hp.keep hk3 (by unfold Only; omega)
      have q3 := hq1.keep hk3 (by unfold Only; omega)
      have kw3 := hk.trans hk3
      have z3 := hk3.size
      have HB := Lib.hid (show textL b at_ e 4 = takeL b (takeAt b at_ e 4) (takeE b at_ e 4) (num (takeL b at_ e 4)) ∧ textAt b at_ e 4 = takeAt b (takeAt b at_ e 4) (takeE b at_ e 4) (num (takeL b at_ e 4)) ∧ textE b at_ e 4 = takeE b (takeAt b at_ e 4) (takeE b at_ e 4) (num (takeL b at_ e 4)) from ⟨rfl, rfl, rfl⟩)
      clear hk3 hR hp hq1 hk
      change Rd w3 (q + 1) q b (takeAt b at_ e 4) (takeE b at_ e 4) at hR3
      generalize num (takeL b at_ e 4) = n3 at *
      generalize takeAt b at_ e 4 = a3 at *
      generalize takeE b at_ e 4 = e3 at *
      go_wp2_with fail
      refine (take_any (q + 1) q b a3 e3 n3 _ hR3 (by omega)).mono ?_
      rintro r w4 ⟨A4, c4, rfl, hrd4, hlc4, hcm4, hR4, hk4⟩
      have p4 := p3.keep hk4 (by unfold Only; omega)
      have q4 := q3.keep hk4 (by unfold Only; omega)
      have kw4 := kw3.trans hk4
      have z4 := hk4.size
      clear hk4 hR3 p3 q3 kw3
      rw [← HB.out.2.1, ← HB.out.2.2] at hR4
      rw [← HB.out.1] at hrd4 hlc4
      rw [← HB.out.1]
      have hbl : (textL b at_ e 4).length ≤ b.length := by
        rw [HB.out.1]
        unfold takeL
        split
        · simp; omega
        · simp
      have HT := Lib.hid (show poTail b k at_ e = if poE5 b k at_ e = 0 then ((k, textL b at_ e 4), 0) else ((0, []), poE5 b k at_ e) from rfl)
      have HE4 := Lib.hid (show poE4 b at_ e = endE b (textAt b at_ e 4) (textE b at_ e 4) from rfl)
      have HE5 := Lib.hid (show poE5 b k at_ e = if poE4 b at_ e = 0 then bodyE k (textL b at_ e 4) else poE4 b at_ e from rfl)
      generalize textL b at_ e 4 = bd at *
      generalize textAt b at_ e 4 = a4 at *
      generalize textE b at_ e 4 = e4 at *
      clear HB
      go_wp2_with fail
      refine (clone_any bd A4 c4 _ _ hrd4 (by omega) (by omega)).mono ?_
      rintro r w5 ⟨A5, c5, rfl, o5, hk5⟩
      have p5 := p4.keep hk5 (fun h => h)
      have q5 := q4.keep hk5 (fun h => h)
      have kw5 := kw4.trans (hk5.mono (fun _ _ h => h.elim))
      have hR5 := hR4.keep (by omega) hk5 (fun _ h => h.elim)
      have z5 := hk5.size
      have o5' := o5.mono (base' := q) (by omega)
      clear hk5 hR4 p4 q4 kw4 o5 hrd4
      have c1 := p5.cell 1
      have f1 := p5.frozen 1
      simp at c1
      go_wp2_with fail
      have hR6 := hR5.setCell (p := ⟨p, 1, none⟩) (by simp; omega) (by simp; omega) (.slice A5 bd.length c5)
      have p6 := p5.set_ 1 (.slice A5 bd.length c5)
      simp only [List.setIfInBounds_toArray, List.set_cons_succ, List.set_cons_zero] at p6
      have q6 := q5.far (p := ⟨p, 1, none⟩) (by simp; omega) (.slice A5 bd.length c5)
      have kw6 := kw5.setCell (p := ⟨p, 1, none⟩) (.inr (by simp; omega)) (.slice A5 bd.length c5)
      have o6 := o5'.setCell (p := ⟨p, 1, none⟩) p5 (by decide) (.slice A5 bd.length c5)
      have z6 : w5.heap.size ≤ (w5.setCell ⟨p, 1, none⟩ (.slice A5 bd.length c5)).heap.size := by simp [World.setCell]
      generalize w5.setCell ⟨p, 1, none⟩ (.slice A5 bd.length c5) = w6 at *
      clear hR5 p5 q5 kw5 o5' c1 f1
      refine (rend_any (q + 1) q b _ _ _ hR6 (by omega)).mono ?_
      rintro r w7 ⟨rfl, hR7, hk7⟩
      obtain ⟨A6, c6, hb6, _⟩ := hR6.blk
      have p7 := p6.keep hk7 (by unfold Only; omega)
      have q7 := q6.keep hk7 (by unfold Only; omega)
      have kw7 := kw6.trans hk7
      have o7 := o6.keepOnly hk7 hb6 (by decide)
      have z7 := hk7.size
      rw [← HE4.out] at hR7
      clear hk7 hR6 p6 q6 kw6 o6 hb6
      obtain ⟨A7, c7, hb7, hR7'⟩ := hR7.blk
      have r7 := hb7.cell 2
      simp at r7
      have fin : ∀ (W : World) (ee : Int), poE5 b k at_ e = ee → ee ≠ 0 → Kept q [5] [] w W → ObjPost b w (.returned (.tuple #[.agg #[.int .i64 0, .slice none 0 0], .int .i64 ee])) W := by
        intro W ee h1 h2 h3
        have hp : parseObj b = ((0, []), ee) := by rw [← HTL.out, HT.out, h1, if_neg h2]
        have h4 : Kept w.heap.size [5] [] w W := by rw [HQ.out]; exact h3
        exact ⟨none, 0, by rw [hp]; rfl, by rw [hp]; exact Own.nil _ _ _ _, h4.all⟩
      have FIN := Lib.hid fin
      clear fin
      have kk7 : Kept q [5] [] w w7 := Kept.ofKeep kw7 (by unfold Only; intro i hi h; omega)
      generalize hee4 : poE4 b at_ e = ee4 at *
      have HEE4 := Lib.hid hee4
      clear hee4
      have l7 := hb7.lt
      by_cases h0 : ee4 = 0
      · subst h0
        have HE5' := Lib.hid (HE5.out.trans (if_pos rfl))
        have c0 := p7.cell 0
        have c1 := p7.cell 1
        simp at c0 c1
        have hcm := o7.cap_le
        go_wp2_with fail
        go_region_law (first | (go_simp; go_at_call 41; refine (body_any k bd A5 c5 _ o7.reads.drew (by omega) hcm.1 hcm.2).mono ?_; rintro r w8 ⟨rfl, hbe8⟩; have hb8 := hb7.drew.below hbe8 l7; have k8 := hbe8) | (go_simp; go_at_call 67; refine (fail_any (q + 1) _ _ _ _ _ _ hb8).mono ?_; rintro r w9 ⟨rfl, hb9, hk9⟩))
        all_goals
          have k79 : Keep (Only (q + 1)) w7 w9 := (Keep.drew (Keep.refl (Only (q + 1)) w7)).trans ((Below.keep_ k8 (Only (q + 1))).trans hk9)
          have p9 := p7.keep k79 (by unfold Only; omega)
          have q9 := q7.keep k79 (by unfold Only; omega)
          have o9 := o7.keepOnly k79 hb7 (by decide)
          have kk9 := kk7.only k79 (by omega)
          have z9 := k79.size
          rw [show note 0 false (bodyE k bd) = bodyE k bd from rfl, ← HE5'.out] at hb9
          have r9 := hb9.cell 2
          simp at r9
          clear k79 k8 hbe8 hb8 hk9 c0 c1 r7 kk7
          generalize hee5 : poE5 b k at_ e = ee5 at *
          have HEE5 := Lib.hid hee5
          clear hee5
          by_cases h5 : ee5 = 0
          · subst h5
            have HP := Lib.hid (show parseObj b = ((k, bd), 0) from by rw [← HTL.out, HT.out]; exact if_pos rfl)
            go_wp2_with (first | (refine wpList_load rfl rfl rfl (load_obj p9) ?_) | (refine wpList_storeBlk rfl rfl (vs := #[.int .i64 k, .slice A5 bd.length c5]) rfl rfl q9 rfl info_obj obj_one2 ?_; intro wf qf kf zf))
            refine bodyPost_ret (results_cell_tmp rfl _ _ rfl (loadVar_obj qf)) rfl ?_
            have of := o9.keepOnly kf q9 (by decide)
            have kff : Kept w.heap.size [5] [] w wf := by rw [HQ.out]; exact kk9.only kf (by omega)
            refine ⟨A5, c5, by rw [HP.out]; rfl, ?_, kff.all⟩
            rw [HP.out, HQ.out]
            exact of
          · have h01 : (ee5 != 0) = true := by simpa using h5
            have a0 := q9.cell 0
            have a1 := q9.cell 1
            have g0 := q9.frozen 0
            have g1 := q9.frozen 1
            simp at a0 a1
            go_wp2_with fail
            go_region_law (fail)
            all_goals
              go_wp2_with fail
              have qf := (q9.drew.set_ 0 (.int .i64 0)).set_ 1 (.slice none 0 0)
              simp only [List.setIfInBounds_toArray, List.set_cons_succ, List.set_cons_zero] at qf
              have kf := (kk9.drew.setCell (p := ⟨q, 0, none⟩) (.inr (by simp; omega)) (.int .i64 0)).setCell (p := ⟨q, 1, none⟩) (.inr (by simp; omega)) (.slice none 0 0)
              refine bodyPost_ret (results_cell_tmp rfl _ _ rfl (loadVar_obj qf)) rfl ?_
              exact FIN.out _ _ rfl h5 kf
      · have h01 : (ee4 == 0) = false := by simpa using h0
        have h02 : (ee4 != 0) = true := by simpa using h0
        have HE5' := Lib.hid (HE5.out.trans (if_neg h0))
        have a0 := q7.cell 0
        have a1 := q7.cell 1
        have g0 := q7.frozen 0
        have g1 := q7.frozen 1
        simp at a0 a1
        go_wp2_with fail
        go_region_law (fail)
        all_goals
          go_wp2_with fail
          have qf := (q7.drew.set_ 0 (.int .i64 0)).set_ 1 (.slice none 0 0)
          simp only [List.setIfInBounds_toArray, List.set_cons_succ, List.set_cons_zero] at qf
          have kf := (kk7.drew.setCell (p := ⟨q, 0, none⟩) (.inr (by simp; omega)) (.int .i64 0)).setCell (p := ⟨q, 1, none⟩) (.inr (by simp; omega)) (.slice none 0 0)
          refine bodyPost_ret (results_cell_tmp rfl _ _ rfl (loadVar_obj qf)) rfl ?_
          exact FIN.out _ _ HE5'.out h0 kf
end Go.Proofs.YtppmolneklidfaaGreat

namespace Go.Proofs.YtppmolneklidfaaGreat
open Go.RowKit

attribute [local go_sem ↓] ld_id eq_id bd_com st_com
set_option maxHeartbeats 2000000 in
set_option maxRecDepth 100000 in
theorem rbody_any (k : Int) (b : List UInt8) (A : Option Addr) (c : Nat) (w : World) (hr : Reads w w.heap.size 1 A b.length (b.map bv)) (hl : b.length ≤ 1000000) (hc1 : b.length ≤ c) (hc2 : c ≤ maxLen) :
    Calls Tryz.prog 24 #[.agg #[.int .i64 k, .slice A b.length c]] w fun r w' => r = .returned (.int .i64 (bodyE k b)) ∧ Below w.heap.size w w' := by
  have q1 : Blk (w.alloc (.cells #[.int .i64 k, .slice A b.length c] 45)) w.heap.size 45 #[.int .i64 k, .slice A b.length c] := Blk.new _ _ _
  have k1 : Below w.heap.size w (w.alloc (.cells #[.int .i64 k, .slice A b.length c] 45)) := (Below.refl _ _).alloc (Nat.le_refl _) _
  have r1 := hr.below k1
  have z1 := k1.size
  by_cases h1 : k = 1
  · subst h1
    by_cases hb : 65536 < b.length
    · have HE := Lib.hid (show bodyE 1 b = 5 from by unfold bodyE; rw [if_pos rfl, if_pos hb])
      have d : decide ((65536 : Int) < (b.length : Int)) = true := decide_eq_true (by omega)
      go_enter Tryz.func24, Tryz.ntmps24
      go_wp2_with fail
      go_ret
      exact ⟨by rw [HE.out]; rfl, k1⟩
    · have HE := Lib.hid (show bodyE 1 b = 0 from by unfold bodyE; rw [if_pos rfl, if_neg hb])
      have d : decide ((65536 : Int) < (b.length : Int)) = false := decide_eq_false (by omega)
      go_enter Tryz.func24, Tryz.ntmps24
      go_wp2_with fail
      go_ret
      exact ⟨by rw [HE.out]; rfl, k1⟩
  · have e1 : (k == 1) = false := beq_eq_false_iff_ne.2 h1
    by_cases h2 : k = 2
    · subst h2
      have HE := Lib.hid (show bodyE 2 b = (parseTree b).2 from rfl)
      go_enter Tryz.func24, Tryz.ntmps24
      go_wp2_with fail
      refine (rparseTree_any b A c _ (r1.more z1) hl hc1 hc2).mono ?_
      rintro r w2 ⟨A2, c2, rfl, ho2, hb2⟩
      generalize (parseTree b).2 = e at *
      generalize (parseTree b).1 = d at *
      go_wp2_with fail
      go_ret
      exact ⟨by rw [HE.out]; rfl, k1.trans (hb2.mono z1)⟩
    · have e2 : (k == 2) = false := beq_eq_false_iff_ne.2 h2
      by_cases h3 : k = 3
      · subst h3
        have HE := Lib.hid (show bodyE 3 b = (parseCommit b).2 from rfl)
        go_enter Tryz.func24, Tryz.ntmps24
        go_wp2_with fail
        refine (rparseCommit_any b A c _ (r1.more z1) hl hc1 hc2).mono ?_
        rintro r w2 ⟨A2, c2, rfl, ho2, hb2⟩
        generalize (parseCommit b).2 = e at *
        generalize (parseCommit b).1 = d at *
        go_wp2_with fail
        go_ret
        exact ⟨by rw [HE.out]; rfl, k1.trans (hb2.mono z1)⟩
      · have e3 : (k == 3) = false := beq_eq_false_iff_ne.2 h3
        have HE := Lib.hid (show bodyE k b = 3 from by unfold bodyE; rw [if_neg h1, if_neg h2, if_neg h3])
        go_enter Tryz.func24, Tryz.ntmps24
        go_wp2_with fail
        go_ret
        exact ⟨by rw [HE.out]; rfl, k1⟩

set_option maxHeartbeats 2000000 in
set_option maxRecDepth 100000 in
theorem rencodeObj_any (k : Int) (b : List UInt8) (A : Option Addr) (c : Nat) (w : World) (hr : Reads w w.heap.size 1 A b.length (b.map bv)) (hl : b.length ≤ 1000000) (hc1 : b.length ≤ c) (hc2 : c ≤ maxLen) :
    Calls Tryz.prog 9 #[.agg #[.int .i64 k, .slice A b.length c]] w (BytesPost (encObj (bodyE k b) k b) w) := by
  have q0 : Blk (w.alloc (.cells #[.int .i64 k, .slice A b.length c] 45)) w.heap.size 45 #[.int .i64 k, .slice A b.length c] := Blk.new _ _ _
  have k0 : Kept w.heap.size [5] [] w (w.alloc (.cells #[.int .i64 k, .slice A b.length c] 45)) := (Kept.refl _ _ _ _).alloc _
  have hke : bodyE k b = 0 → 1 ≤ k ∧ k ≤ 3 := bodyE_kind
  go_enter Tryz.func9, Tryz.ntmps9
  go_wp2_with (first | (refine wpList_boxed rfl rfl (cs := #[.int .i64 k, .slice A b.length c]) rfl ?_; generalize w.alloc (.cells #[.int .i64 k, .slice A b.length c] 45) = w0 at *) | (refine wpList_load rfl rfl rfl (load_obj q0) ?_))
  have z0 := k0.size
  refine (rbody_any k b A c _ ((hr.below k0.all).more z0) hl hc1 hc2).mono ?_
  rintro r w1 ⟨rfl, be1⟩
  have q1 := q0.below be1 q0.lt
  have kk1 : Kept w.heap.size [5] [] w w1 := k0.lift (Kept.ofBelow (base := w.heap.size) (E := []) (G := []) be1) (Nat.le_refl _) (by simp) (by simp)
  have z1 := kk1.size
  have l1 := q1.lt
  have rd1 := hr.below kk1.all
  generalize hq : w.heap.size = q at *
  have HQ := Lib.hid hq
  have hqle : q ≤ w.heap.size := by omega
  clear q0 k0 be1 hq
  obtain ⟨e, he⟩ : ∃ e, bodyE k b = e := ⟨_, rfl⟩
  rw [he] at hke
  rw [he]
  have HBE := Lib.hid he
  clear he
  by_cases h0 : e = 0
  · subst h0
    obtain ⟨hk1, hk3⟩ := hke rfl
    have HEN := Lib.hid (show encObj (bodyE k b) k b = ([letter k] ++ be 4 b.length ++ b, 0) from by rw [HBE.out]; rfl)
    have hlet : ∀ W : World, (Instr.index 9 (.string ⟨#[98, 116, 99]⟩) (.int .i64 (k - 1))).run Tryz.prog W = .ok (.int .u8 ((letter k).toNat : Int)) W := by
      intro W
      have : k = 1 ∨ k = 2 ∨ k = 3 := by omega
      rcases this with rfl | rfl | rfl
      · exact let1 W
      · exact let2 W
      · exact let3 W
    generalize letter k = y at *
    have hwk : IntKind.i64.wrap (k - 1) = k - 1 := IntWalk.i64_in _ (by omega)
    have hwl : IntKind.u64.wrap (b.length : Int) = (b.length : Int) := by simp [IntKind.wrap, IntKind.signed, IntKind.bits]; omega
    have hnum := fun W A ho' h2 => num_any 4 b.length (by omega) q [y] A 1 W ho' (by simp) h2
    obtain ⟨b5, hb5⟩ : ∃ b5, [y] ++ be 4 b.length = b5 := ⟨_, rfl⟩
    simp only [hb5] at hnum
    have e5 : b5.length = 5 := by rw [← hb5, List.length_append, be_len]; rfl
    have HN := Lib.hid hnum
    have HB5 := Lib.hid hb5
    have H5 := Lib.hid e5
    clear hnum hb5 e5 hke
    have a0 := q1.cell 0
    have a1 := q1.cell 1
    simp at a0 a1
    have qA := (q1.alloc (.cells #[.int .u8 (y.toNat : Int)] 5)).drew
    have kA : Kept q [5] [] w (w1.alloc (.cells #[.int .u8 (y.toNat : Int)] 5)).drew := (kk1.alloc _).drew
    have zA : q ≤ (w1.alloc (.cells #[.int .u8 (y.toNat : Int)] 5)).drew.heap.size := by show q ≤ (w1.alloc _).heap.size; simp; omega
    have b0 := qA.cell 1
    simp at b0
    go_wp2_with fail
    go_region_law (first | (go_simp; go_at_call 20; refine (HN.out _ _ (own_one w1 q (by omega) y).drew zA).mono ?_; rintro r w2 ⟨A2, c2, rfl, ho2, hk2⟩))
    all_goals
      have q2 := hk2.blk qA (by simp) (by decide)
      have kk2 := kA.trans hk2
      have z2 := kk2.size
      have rd2 := hr.below (kk2.below (B := q) (Nat.le_refl _) hqle (by simp))
      have d1 := q2.cell 1
      simp at d1
      have hm1 : b5.length + b.length ≤ maxLen := by rw [H5.out]; unfold maxLen; omega
      have hm2 : (b5.length + b.length) * 1 ≤ 140737488355328 := by rw [H5.out]; omega
      clear hk2 qA kA zA b0 a0 a1 hlet hwk hwl
      go_wp2_with (first | (at_builtin; refine wpList_append_sl rfl elemU8 rfl rfl ho2 rfl rd2 (bvs_one b) hm1 hm2 (by omega) ?_; intro A3 c3 w3 ho3 hk3))
      go_ret2
      have kk3 := kk2.trans hk3
      have hw2 : Kept w.heap.size [5] [] w w3 := by rw [HQ.out]; exact kk3
      have hE : encObj (bodyE k b) k b = (b5 ++ b, 0) := by rw [HEN.out, HB5.out]
      refine ⟨A3, c3, ?_, ?_, hw2.all⟩
      · rw [hE, List.length_append]; rfl
      · rw [hE, HQ.out, List.length_append]
        simpa using ho3
  · have h01 : (e != 0) = true := by simpa using h0
    go_wp2_with fail
    go_ret2
    have hw2 : Kept w.heap.size [5] [] w w1 := by rw [HQ.out]; exact kk1
    have hE : encObj (bodyE k b) k b = ([], e) := by rw [HBE.out]; exact if_neg h0
    refine ⟨none, 0, ?_, ?_, hw2.all⟩
    · rw [hE]; rfl
    · rw [hE]; exact Own.nil _ _ _ _
end Go.Proofs.YtppmolneklidfaaGreat
