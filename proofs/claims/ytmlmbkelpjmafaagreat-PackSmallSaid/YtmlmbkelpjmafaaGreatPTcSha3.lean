/- The sum's blocks in plain words; contract of sum's Write. No statement of the seat is proved here. -/
import Derived.Test.YtmlmbkelpjmafaaGreatPTcSha2
namespace Go.Proofs.YtmlmbkelpjmafaaGreat
open Go.RowKit
def sha0 : St := ⟨1779033703, 3144134277, 1013904242, 2773480762, 1359893119, 2600822924, 528734635, 1541459225⟩
def blk (l : List UInt8) : Nat → St
 | 0 => sha0
 | k + 1 => compress (blk l k) ((l.drop (64 * k)).take 64)
theorem blk_app (l m : List UInt8) : ∀ k, 64 * k ≤ l.length → blk (l ++ m) k = blk l k
 | 0, _ => rfl
 | k + 1, h => by
  rw [blk, blk, blk_app l m k (by omega), List.drop_append_of_le_length (by omega), List.take_append_of_le_length (by rw [List.length_drop]; omega)]
def Waits (t wt : List UInt8) : Prop := wt.length = 64 ∧ wt.take (t.length % 64) = t.drop (64 * (t.length / 64))
theorem wait_len {t : List UInt8} : (t.drop (64 * (t.length / 64))).length = t.length % 64 := by rw [List.length_drop]; omega
theorem drop_app {t x : List UInt8} : (t ++ x).drop (64 * (t.length / 64)) = t.drop (64 * (t.length / 64)) ++ x := List.drop_append_of_le_length (by omega)
theorem step_a {t wt x : List UInt8} (h : Waits t wt) (hx : t.length % 64 + x.length < 64) :
    Waits (t ++ x) (wt.take (t.length % 64) ++ x ++ wt.drop (t.length % 64 + x.length)) ∧ blk (t ++ x) ((t ++ x).length / 64) = blk t (t.length / 64) ∧ (t ++ x).length % 64 = t.length % 64 + x.length := by
 have hd : (t ++ x).length / 64 = t.length / 64 := by rw [List.length_append]; omega
 have hm : (t ++ x).length % 64 = t.length % 64 + x.length := by rw [List.length_append]; omega
 have hw := wait_len (t := t)
 refine ⟨⟨?_, ?_⟩, by rw [hd, blk_app _ _ _ (by omega)], hm⟩
 · have := h.1; simp; omega
 · rw [hd, hm, drop_app, h.2]
   rw [List.take_append_of_le_length (by rw [List.length_append, hw]; omega)]
   exact List.take_of_length_le (by rw [List.length_append, hw]; omega)
theorem step_b {t wt x : List UInt8} (h : Waits t wt) (hx : t.length % 64 + x.length = 64) :
    Waits (t ++ x) (wt.take (t.length % 64) ++ x ++ wt.drop (t.length % 64 + x.length)) ∧ blk (t ++ x) ((t ++ x).length / 64) = compress (blk t (t.length / 64)) (wt.take (t.length % 64) ++ x ++ wt.drop (t.length % 64 + x.length)) ∧ (t ++ x).length % 64 = 0 := by
 have hd : (t ++ x).length / 64 = t.length / 64 + 1 := by rw [List.length_append]; omega
 have hm : (t ++ x).length % 64 = 0 := by rw [List.length_append]; omega
 have hw := wait_len (t := t)
 have hn : wt.drop (t.length % 64 + x.length) = [] := List.drop_eq_nil_of_le (by rw [h.1]; omega)
 refine ⟨⟨?_, ?_⟩, ?_, hm⟩
 · have := h.1; simp; omega
 · rw [hm, List.take_zero, hd, List.drop_eq_nil_of_le (by rw [List.length_append]; omega)]
 · rw [hd, blk, blk_app _ _ _ (by omega), drop_app, hn, List.append_nil, h.2]
   rw [List.take_of_length_le (by rw [List.length_append, hw]; omega)]
section
variable {P : Program}
theorem run_copy_mid {w : World} {dT ty e : TypeId} (hu : P.underlying dT = some (.slice e)) (hsz : (P.info? e).map (·.size) = some 1) {q : Nat} {t : TypeId} {cs : Array Value} (hb : Blk w q t cs) {off n d : Nat} (hn : off + n ≤ cs.size)
    {B : Nat} {S : Option Addr} {m c : Nat} {xs : List Value} (hr : Reads w B 1 S m xs) (h1 : ∀ u ∈ xs, u.oneCell' = true) (hm : 0 < m) :
    ∃ w', (Builtin.copy_ #[dT, dT] ty #[.slice (some ⟨q, off, none⟩) n d, .slice S m c]).run P w = .ok (.int .i64 ((min m n : Nat) : Int)) w' ∧ Blk w' q t (spl cs off (xs.take n)) ∧ Keep (Only q) w w' := by
 have hx : xs.length = m := by simpa using hr.1
 obtain ⟨ad, rfl, _, hc⟩ := hr.2 hm
 have hl : (xs.take n).length = Nat.min m n := by rw [List.length_take, hx]; exact Nat.min_comm _ _
 have := run_copy_row (P := P) w dT dT ty e q off n d ad m c cs t (xs.take n) hu hsz hb hl (fun j v hj => hc j v (by rw [List.getElem?_take] at hj; split at hj <;> first | exact hj | cases hj)) (by rw [List.length_take]; omega) (fun v hv => h1 v (List.mem_of_mem_take hv))
 refine ⟨w.setRow q (spl cs off (xs.take n)), ?_, hb.row _, Keep.setRow (Keep.refl (Only q) w) (.inl rfl) _⟩
 have e : goInt ((xs.take n).length : Nat) = Value.int .i64 ((min m n : Nat) : Int) := by rw [hl]; rfl
 rw [this, e]
 rfl
theorem step_copy_mid {ops : Array Oper} {o : Oper} {a : Act} {w : World} {K : Act → World → Prop} {Q : Exit → Act → World → Prop} {E : Prop} (hgd : o.guard = none) {s x : Operand} {dT e : TypeId}
    (ho : o.op = .call { callee := .builtin .copy, args := #[s, x], argTypes := #[dT, dT] }) (hu : P.underlying dT = some (.slice e)) (hsz : (P.info? e).map (·.size) = some 1) {q : Nat} {t : TypeId} {cs : Array Value} {off n d : Nat} (hs : a.eval s = .slice (some ⟨q, off, none⟩) n d) (hb : Blk w q t cs) (hn : off + n ≤ cs.size)
    {B : Nat} {S : Option Addr} {m c : Nat} {xs : List Value} (hx : a.eval x = .slice S m c) (hr : Reads w B 1 S m xs) (h1 : ∀ u ∈ xs, u.oneCell' = true) (hm : 0 < m) {kk : Nat} (hkk : min m n = kk)
    (h : ∀ w', Blk w' q t (spl cs off (xs.take n)) → Keep (Only q) w w' → K (a.put o.dst (.int .i64 (kk : Int))) w') : if Region.wanted o (yielded ops a.tmps) = true then Oper.wp P o a w K Q else E := by
 have hw : Region.wanted o (yielded ops a.tmps) = true := by simp [Region.wanted, hgd]
 rw [if_pos hw]
 subst hkk
 obtain ⟨w', hrun, h2, h3⟩ := run_copy_mid (ty := o.type) (d := d) (c := c) hu hsz hb hn hr h1 hm
 exact wp_copy_run ho hs hx hrun (h w' h2 h3)
end
theorem spl_hash {s : St} {wt x : List UInt8} {n all : Int} (k : Nat) (hw : wt.length = 64) (hk : k + x.length ≤ 64) : spl (hashC s wt n all) (8 + k) (x.map bv) = hashC s (wt.take k ++ x ++ wt.drop (k + x.length)) n all := by
 apply Array.ext'
 have h8 : (u32L (stU s)).length = 8 := rfl
 simp only [spl, hashC, hashL, List.length_map]
 rw [List.append_assoc (u32L (stU s)), List.take_append, List.drop_append, h8, List.take_of_length_le (by rw [h8]; omega), List.drop_eq_nil_of_le (by rw [h8]; omega), Nat.add_sub_cancel_left, show 8 + k + x.length - 8 = k + x.length by omega, List.take_append_of_le_length (by simp; omega), List.drop_append_of_le_length (by simp; omega)]
 simp
def HashI (w : World) (g : Nat) (t : List UInt8) : Prop := ∃ wt, Blk w g 103 (hashC (blk t (t.length / 64)) wt ((t.length % 64 : Nat) : Int) ((t.length : Nat) : Int)) ∧ Waits t wt
structure Row3 where
 ad : Option Addr
 cap : Nat
 bytes : List UInt8
def rowV (r : Row3) : Value := .slice r.ad r.bytes.length r.cap
def rowsB (rs : List Row3) : List UInt8 := rs.flatMap (·.bytes)
def Apart (n g : Nat) (A : Option Addr) : Prop := 0 < n → ∀ ad, A = some ad → ad.block ≠ g
section
variable {w w' : World} {B size n g : Nat} {A : Option Addr} {xs : List Value}
theorem Reads.keptApart (h : Reads w B size A n xs) (hk : Keep (Only g) w w') (hB : B ≤ w.heap.size) (ha : Apart n g A) : Reads w' B size A n xs :=
 ⟨h.1, fun hn => by
  obtain ⟨ad, e, hb, hc⟩ := h.2 hn
  exact ⟨ad, e, hb, fun j u hu => (hk.cell (p := ad.add j) (by rw [block_of_add]; omega) (by rw [block_of_add]; exact ha hn ad e)).trans (hc j u hu)⟩⟩
theorem Reads.setApart (h : Reads w B size A n xs) (ha : Apart n g A) (o : Nat) (u : Value) : Reads (w.setCell ⟨g, o, none⟩ u) B size A n xs :=
 ⟨h.1, fun hn => by
  obtain ⟨ad, e, hb, hc⟩ := h.2 hn
  exact ⟨ad, e, hb, fun j v hv => (World.cell?_setCell_other w ⟨g, o, none⟩ (ad.add j) u (fun q => ha hn ad e (by rw [← block_of_add ad j, ← q]))).trans (hc j v hv)⟩⟩
theorem Apart.cut (h : Apart n g A) (c k m : Nat) : Apart (n - k) g (if c = k then A else A.map (·.add m)) := by
 intro hn ad e
 split at e
 · exact h (by omega) ad e
 · cases hA : A with
   | none => rw [hA] at e; cases e
   | some a =>
    rw [hA] at e
    simp only [Option.map_some, Option.some.injEq] at e
    rw [← e, block_of_add]
    exact h (by omega) a hA
theorem Reads.apart (h : Reads w B size A n xs) (hg : B ≤ g) : Apart n g A := fun hn ad e => by
 obtain ⟨ad', e', hb, _⟩ := h.2 hn
 rw [e] at e'
 injection e' with e'
 subst e'
 omega
end
def RowsAt (w : World) (B g : Nat) (A : Option Addr) (rs : List Row3) : Prop := (Reads w B 1 A rs.length (rs.map rowV) ∧ Apart rs.length g A) ∧ ∀ r ∈ rs, Reads w B 1 r.ad r.bytes.length (r.bytes.map bv) ∧ Apart r.bytes.length g r.ad ∧ r.bytes.length ≤ r.cap ∧ r.cap ≤ maxLen
theorem RowsAt.kept {w w' : World} {B g : Nat} {A : Option Addr} {rs : List Row3} (h : RowsAt w B g A rs) (hk : Keep (Only g) w w') (hB : B ≤ w.heap.size) : RowsAt w' B g A rs :=
 ⟨⟨h.1.1.keptApart hk hB h.1.2, h.1.2⟩, fun r hr => ⟨(h.2 r hr).1.keptApart hk hB (h.2 r hr).2.1, (h.2 r hr).2⟩⟩
set_option maxHeartbeats 4000000 in
set_option maxRecDepth 100000 in
theorem write_any (rs : List Row3) (A : Option Addr) (c : Nat) (t : List UInt8) (g B : Nat) (w : World) (hh : HashI w g t) (hrs : RowsAt w B g A rs) (hBw : B ≤ w.heap.size) (hsz : t.length + (rowsB rs).length ≤ 1000000000000) (hrl : rs.length ≤ 1000000000000) :
    Calls Tryz.prog 26 #[.pointer (some ⟨g, 0, none⟩), .slice A rs.length c] w fun r w' => r = .returned (.tuple #[]) ∧ HashI w' g (t ++ rowsB rs) ∧ Keep (Only g) w w' := by
 have HSZ := Lib.hid hsz
 have hlg : g < w.heap.size := by obtain ⟨_, hb, _⟩ := hh; exact hb.lt
 have HR := Lib.hid (fun W (hk : Keep (Only g) w W) => hrs.kept hk hBw)
 clear hsz hrs
 go_enter Tryz.func26, Tryz.ntmps26
 go_wp2_with fail
 go_loopg [9] rs.length (fun f i wr => ∃ k : Nat, k + f = rs.length ∧ i = .int .i64 k ∧ HashI wr g (t ++ rowsB (rs.take k)) ∧ Keep (Only g) w wr)
 case atStart => exact ⟨0, by omega, rfl, by simpa [rowsB] using hh, Keep.refl _ _⟩
 case round =>
  obtain ⟨k, hkf, rfl, hi, hkw⟩ := hrel
  have HKF := Lib.hid hkf
  have hkl : k ≤ rs.length := by omega
  clear hkf hh
  by_cases hlt : k < rs.length
  · obtain ⟨x, hx⟩ : ∃ x, rs[k]? = some x := ⟨_, List.getElem?_eq_getElem hlt⟩
    have hts : rowsB (rs.take (k + 1)) = rowsB (rs.take k) ++ x.bytes := by
     have : rs.take (k + 1) = rs.take k ++ [x] := by rw [List.take_succ_eq_append_getElem hlt]; congr 2; rw [List.getElem?_eq_getElem hlt] at hx; simpa using hx
     rw [this]; simp [rowsB]
    have hle : (t ++ rowsB (rs.take (k + 1))).length ≤ 1000000000000 := by
     have h1 : rowsB rs = rowsB (rs.take (k + 1)) ++ rowsB (rs.drop (k + 1)) := by unfold rowsB; rw [← List.flatMap_append, List.take_append_drop]
     have := HSZ.out
     rw [h1] at this
     simp only [List.length_append] at this ⊢
     omega
    obtain ⟨⟨hR1, _⟩, hR2⟩ := HR.out wr hkw
    obtain ⟨hx1, hxa, hx2, hx3⟩ := hR2 x (List.mem_of_getElem? hx)
    obtain ⟨g1, o1, rfl, _, hc1⟩ := hR1.at0 (by omega) (by omega)
    have cv := hc1 k (rowV x) (by rw [List.getElem?_map, hx]; rfl)
    unfold rowV at cv
    have HTS := Lib.hid hts
    rw [HTS.out, ← List.append_assoc] at hle
    clear hR1 hR2 hc1 hx hts
    obtain ⟨ad, cap, bs⟩ := x
    simp only at hx1 hxa hx2 hx3 cv hle HTS
    have HXA := Lib.hid hxa
    clear hxa
    obtain ⟨t1, ht1⟩ : ∃ t1, t ++ rowsB (rs.take k) = t1 := ⟨_, rfl⟩
    have HT1 := Lib.hid ht1
    rw [ht1] at hi hle
    clear ht1
    obtain ⟨wt, hb, hwt⟩ := hi
    have HW := Lib.hid hwt
    have cn := (hb.cell 73).trans (hashC_n hwt.1).2
    have fn := hb.frozen 73
    have lt1 : t1.length ≤ 1000000000000 := by rw [List.length_append] at hle; omega
    have lbs : bs.length ≤ 1000000000000 := by rw [List.length_append] at hle; omega
    have hcap := hx3
    unfold maxLen at hcap
    have hwu : IntKind.u64.wrap (bs.length : Int) = (bs.length : Int) := by simp [IntKind.wrap, IntKind.signed, IntKind.bits]; omega
    obtain ⟨L, hL⟩ : ∃ L, t1.length + bs.length = L := ⟨_, rfl⟩
    have hws : IntKind.u64.wrap ((t1.length : Int) + (bs.length : Int)) = (L : Int) := by simp [IntKind.wrap, IntKind.signed, IntKind.bits]; omega
    have HL := Lib.hid hL
    have hLb : L ≤ 1000000000000 := by rw [List.length_append] at hle; omega
    clear hL hle
    have i0 : (0 : Int) ≤ (k : Int) := by omega
    have i1 : (k : Int) < (rs.length : Int) := by omega
    clear hwt
    go_wp2_with fail
    have hb2 := hb.set_ 73 (.int .u64 (L : Int))
    rw [hashC_seta HW.out.1] at hb2
    have hx4 := hx1.setApart HXA.out 73 (.int .u64 (L : Int))
    have hkw2 := hkw.setCell (p := ⟨g, 73, none⟩) (.inl rfl) (.int .u64 (L : Int))
    generalize wr.setCell ⟨g, 73, none⟩ (.int .u64 (L : Int)) = w2 at *
    clear cn fn hb hkw hx1 hwu hws cv
    go_loopg [5] bs.length (fun f s5 wr => ∃ l' A' c' t2 wt, l'.length = f ∧ s5 = .slice A' l'.length c' ∧ t2 ++ l' = t1 ++ bs ∧ Reads wr B 1 A' l'.length (l'.map bv) ∧ Apart l'.length g A' ∧ l'.length ≤ c' ∧ c' ≤ maxLen ∧ Blk wr g 103 (hashC (blk t2 (t2.length / 64)) wt ((t2.length % 64 : Nat) : Int) (L : Int)) ∧ Waits t2 wt ∧ Keep (Only g) w wr)
    case atStart => exact ⟨bs, ad, cap, t1, wt, rfl, rfl, rfl, hx4, HXA.out, hx2, hx3, hb2, HW.out, hkw2⟩
    case round =>
     clear hb2 hkw2 hx4 HW
     obtain ⟨l', A', c', t2, wt, hlf, rfl, htl, hrd, hapt, hc2, hc3, hb, hwt, hkw⟩ := hrel
     have HLF := Lib.hid hlf
     have HTL := Lib.hid htl
     have HW := Lib.hid hwt
     have HAP := Lib.hid hapt
     clear hapt
     have hll : t2.length + l'.length = t1.length + bs.length := by have := congrArg List.length htl; simpa using this
     have hcap2 := hc3
     unfold maxLen at hcap2
     have hl1 : l'.length ≤ 1000000000000 := by have := HL.out; omega
     clear hlf htl hwt hll
     by_cases hpos : 0 < l'.length
     · have cn := (hb.cell 72).trans (hashC_n HW.out.1).1
       obtain ⟨nn, hnn⟩ : ∃ nn, t2.length % 64 = nn := ⟨_, rfl⟩
       have hn64 : nn < 64 := by omega
       obtain ⟨K, hK⟩ : ∃ K, min l'.length (64 - nn) = K := ⟨_, rfl⟩
       have hK1 : 1 ≤ K := by omega
       have hK2 : K ≤ l'.length := by omega
       have hK3 : nn + K ≤ 64 := by omega
       have HNN := Lib.hid hnn
       have HK := Lib.hid hK
       rw [hnn] at cn hb
       have hsl := fun W => slice64 W g 8 nn hn64 (nn : Int) rfl
       have hszc : 8 + nn + (64 - nn) ≤ (hashC (blk t2 (t2.length / 64)) wt (nn : Int) (L : Int)).size := by rw [hashC_size _ _ _ _ HW.out.1]; omega
       have hspl : spl (hashC (blk t2 (t2.length / 64)) wt (nn : Int) (L : Int)) (8 + nn) ((l'.map bv).take (64 - nn)) = hashC (blk t2 (t2.length / 64)) (wt.take nn ++ l'.take K ++ wt.drop (nn + K)) (nn : Int) (L : Int) := by
        have hlk : (l'.take K).length = K := by rw [List.length_take]; omega
        have : (l'.map bv).take (64 - nn) = (l'.take K).map bv := by
         rw [List.map_take, ← hK]
         rcases Nat.le_total l'.length (64 - nn) with h | h
         · rw [Nat.min_eq_left h, List.take_of_length_le (by simpa using h), List.take_of_length_le (by simp)]
         · rw [Nat.min_eq_right h]
        rw [this, spl_hash nn HW.out.1 (by rw [hlk]; omega), hlk]
       have HSPL := Lib.hid hspl
       clear hspl hnn hK
       have hdp : decide ((0 : Int) < (l'.length : Int)) = true := decide_eq_true (by omega)
       go_wp2_with fail
       go_region_law (first | ((refine step_copy_mid (by rfl) (by rfl) Tryz.underlying22 infoU8 (by rfl) hb.drew hszc (by rfl) hrd.drew (bvs_one _) hpos HK.out ?_); intro w3 hb3 hk3))
       rw [HSPL.out] at hb3
       have hrd3 := hrd.drew.keptApart hk3 (by have := hkw.size; show B ≤ wr.heap.size; omega) HAP.out
       have hkw3 := hkw.drew.trans hk3
       clear hk3 cn hb hrd hsl hszc HSPL
       have cn := (hb3.cell 72).trans (hashC_n (by have := HW.out.1; simp; omega)).1
       have f3 := hb3.frozen 72
       obtain ⟨S, hS, hSr⟩ : ∃ S, (if c' = K then A' else A'.map (·.add K)) = S ∧ ((c' = K) = True ∧ A' = S ∨ (c' = K) = False ∧ A'.map (·.add K) = S) := by
        refine ⟨_, rfl, ?_⟩
        by_cases h : c' = K
        · exact .inl ⟨eq_true h, (if_pos h).symm⟩
        · exact .inr ⟨eq_false h, (if_neg h).symm⟩
       have hap2 := HAP.out.cut c' K K
       rw [hS, ← List.length_drop] at hap2
       have HAP2 := Lib.hid hap2
       clear hap2
       have hrd4 := hrd3.cut (k := K) (cap := c') hK2 hc2
       simp only [Nat.mul_one] at hrd4
       rw [hS, ← List.map_drop] at hrd4
       have hrd5 : Reads w3 B 1 S (l'.drop K).length ((l'.drop K).map bv) := by rw [List.length_drop]; exact hrd4
       clear hS hrd4 hrd3
       have hxl : (l'.take K).length = K := by rw [List.length_take]; omega
       have HXL := Lib.hid hxl
       have HJ := Lib.hid (show (t2 ++ l'.take K) ++ l'.drop K = t1 ++ bs from by rw [List.append_assoc, List.take_append_drop]; exact HTL.out)
       have hwl : (wt.take nn ++ l'.take K ++ wt.drop (nn + K)).length = 64 := by have := HW.out.1; simp; omega
       have HWL := Lib.hid hwl
       clear hxl hwl
       have hle2 : (K : Int) ≤ (l'.length : Int) := by omega
       have hk0 : (0 : Int) ≤ (K : Int) := by omega
       have hb4 := hb3.set_ 72 (.int .i64 ((nn : Int) + (K : Int)))
       rw [hashC_setn HWL.out] at hb4
       have hrd6 := hrd5.setApart HAP2.out 72 (.int .i64 ((nn : Int) + (K : Int)))
       have hkw4 := hkw3.setCell (p := ⟨g, 72, none⟩) (.inl rfl) (.int .i64 ((nn : Int) + (K : Int)))
       have hz4 : w3.heap.size ≤ (w3.setCell ⟨g, 72, none⟩ (.int .i64 ((nn : Int) + (K : Int)))).heap.size := by simp [World.setCell]
       have hz3 := hkw3.size
       have hel : ∀ (x : List UInt8), x.length - K = (x.drop K).length := fun x => (List.length_drop ..).symm
       have HEL := Lib.hid (hel l')
       clear hel hrd5 hkw3
       by_cases h64 : nn + K = 64
       · have e64 : (((nn : Int) + (K : Int)) == 64) = true := beq_iff_eq.2 (by omega)
         obtain ⟨q1, q2, q3⟩ := step_b (x := l'.take K) HW.out (by rw [HNN.out, HXL.out]; exact h64)
         rw [HNN.out, HXL.out] at q1 q2
         have Q1 := Lib.hid q1
         have Q2 := Lib.hid q2
         have Q3 := Lib.hid q3
         clear q1 q2 q3
         rcases hSr with ⟨hca, hS2⟩ | ⟨hca, hS2⟩
         all_goals
          go_wp2_with fail
          refine (block_any _ _ _ _ HWL.out g _ hb4).mono ?_
          rintro r w5 ⟨rfl, hb5, hk5⟩
          have hrd7 := hrd6.keptApart hk5 (by omega) HAP2.out
          have hkw5 := hkw4.trans hk5
          go_wp2_with fail
          go_roundg (l'.length - K)
          case measure => have := HLF.out; omega
          case rel =>
           rw [HEL.out]
           refine ⟨l'.drop K, S, c' - K, t2 ++ l'.take K, _, rfl, (by first | rfl | rw [← hS2]), HJ.out, hrd7, HAP2.out, by rw [List.length_drop]; omega, by omega, ?_, Q1.out, hkw5⟩
           rw [Q2.out, Q3.out]
           exact hb5
       · have e64 : (((nn : Int) + (K : Int)) == 64) = false := beq_eq_false_iff_ne.2 (by omega)
         obtain ⟨q1, q2, q3⟩ := step_a (x := l'.take K) HW.out (by rw [HNN.out, HXL.out]; omega)
         rw [HNN.out, HXL.out] at q1 q3
         have Q1 := Lib.hid q1
         have Q2 := Lib.hid q2
         have Q3 := Lib.hid q3
         clear q1 q2 q3
         rcases hSr with ⟨hca, hS2⟩ | ⟨hca, hS2⟩
         all_goals
          go_wp2_with fail
          go_roundg (l'.length - K)
          case measure => have := HLF.out; omega
          case rel =>
           rw [HEL.out]
           refine ⟨l'.drop K, S, c' - K, t2 ++ l'.take K, _, rfl, (by first | rfl | rw [← hS2]), HJ.out, hrd6, HAP2.out, by rw [List.length_drop]; omega, by omega, ?_, Q1.out, hkw4⟩
           rw [Q2.out, Q3.out]
           exact hb4
     · have hl0 : l' = [] := List.eq_nil_of_length_eq_zero (by omega)
       have hdp : decide ((0 : Int) < (l'.length : Int)) = false := decide_eq_false (by omega)
       have ht2 := HTL.out
       rw [hl0, List.append_nil] at ht2
       have HT2 := Lib.hid ht2
       clear hl0 ht2
       go_wp2_with fail
       go_roundg (rs.length - (k + 1))
       case measure => have := HKF.out; omega
       case rel =>
        refine ⟨k + 1, by omega, by go_num, ⟨wt, ?_, ?_⟩, hkw⟩
        · rw [HTS.out, ← List.append_assoc, HT1.out, ← HT2.out]
          have e : t2.length = L := by rw [HT2.out, List.length_append]; exact HL.out
          have hb' := hb
          rw [← e] at hb'
          exact hb'
        · rw [HTS.out, ← List.append_assoc, HT1.out, ← HT2.out]
          exact HW.out
  · obtain rfl : k = rs.length := by omega
    rw [List.take_length] at hi
    go_wp2_with fail
    go_end0
    exact ⟨rfl, hi, hkw⟩
end Go.Proofs.YtmlmbkelpjmafaaGreat
