/-
  Contract of pack.Parse at a pack whose bodies are alike but for the last byte. No statement of the seat is proved here.
-/
import Derived.Test.YtmlmbkelpjmafaaGreatKt
import Derived.Test.YtmlmbkelpjmafaaGreatPT10
import Derived.BigRegion
import Derived.Deep.MidRow
namespace Go.Proofs.YtmlmbkelpjmafaaGreat
open Go.RowKit Go.Shelf
def rdC (d s : Int) (b o i : Value) (bad : Bool) : Array Value := #[.int .u32 d, .int .i32 s, .int .u32 0, b, o, i, .bool bad]
theorem build_rdg (A : Option Addr) (n c : Nat) (w : World) : (Instr.build 67 #[(1, .slice A n c)]).run Tryz.prog w = .ok (.agg (rdC 0 0 (.slice A n c) (.slice none 0 0) (.slice none 0 0) false)) w := by kernel_rfl
theorem Reads.notBlk {w : World} {B size n g : Nat} {A : Option Addr} {xs : List Value} {v : Value} {t : TypeId} {cs : Array Value} (h : Reads w B size A n xs) (hn : 0 < n) (hs : 0 < size) (hx : xs[0]? = some v) (hb : Blk w g t cs) (hno : ∀ i : Nat, cs[i]? ≠ some v) : ∀ a, A = some a → a.block ≠ g := by
  obtain ⟨g', off, rfl, _, hc⟩ := h.at0 hn hs
  intro a ha e
  injection ha with ha
  subst ha
  have hcc := hc 0 _ hx
  simp only at e
  subst e
  rw [hb.cell, Nat.add_zero] at hcc
  exact hno _ hcc
theorem rdC_no (d s : Int) (A A' A'' : Option Addr) (n n' n'' c c' c'' : Nat) (bad : Bool) (k : IntKind) (hk : k = .u8 ∨ k = .i64) (v : Int) : ∀ i : Nat, (rdC d s (.slice A n c) (.slice A' n' c') (.slice A'' n'' c'') bad)[i]? ≠ some (Value.int k v) := by
  intro i h
  unfold rdC at h
  match i, h with
  | 0, h => simp at h; rcases hk with rfl | rfl <;> simp at h
  | 1, h => simp at h; rcases hk with rfl | rfl <;> simp at h
  | 2, h => simp at h; rcases hk with rfl | rfl <;> simp at h
  | 3, h => simp at h
  | 4, h => simp at h
  | 5, h => simp at h
  | 6, h => simp at h
  | i + 7, h => simp at h
theorem ObI.keepR {w w' : World} {B q : Nat} {u : List UInt8} {A : Option Addr} {os : List Ob} {t : TypeId} {cs : Array Value} (h : ObI w B u A os) (hb : Blk w q t cs) (h8 : ∀ (v : Int) (i : Nat), cs[i]? ≠ some (Value.int .u8 v)) (h64 : ∀ (v : Int) (i : Nat), cs[i]? ≠ some (Value.int .i64 v)) (hk : ∀ p, p < B → p ≠ q → w'.heap[p]? = w.heap[p]?) : ObI w' B u A os := by
  refine ⟨?_, fun o ho => ?_, h.cap⟩
  · cases os with
    | nil => exact ⟨h.row.1, fun hn => by simp at hn⟩
    | cons o l =>
      have hne := h.row.notBlk (v := .int .i64 1) (by simp) (by omega) rfl hb (h64 1)
      exact h.row.keptB fun a ha hB => hk a.block hB (hne a ha)
  · have hr := h.body o ho
    obtain ⟨y, l, e⟩ : ∃ y l, u ++ [o.x] = y :: l := by
      cases e : u ++ [o.x] with
      | nil => simp at e
      | cons y l => exact ⟨y, l, rfl⟩
    rw [e] at hr ⊢
    have hne := hr.notBlk (v := bv y) (by omega) (by omega) rfl hb (h8 _)
    exact hr.keptB fun a ha hB => hk a.block hB (hne a ha)
theorem ObI.more {w : World} {B B' : Nat} {u : List UInt8} {A : Option Addr} {os : List Ob} (h : ObI w B u A os) (hB : B ≤ B') : ObI w B' u A os :=
  ⟨h.row.more hB, fun o ho => (h.body o ho).more hB, h.cap⟩
/-- What the closure leaves. -/
def ReadR (q z : Nat) (u xs : List UInt8) (Bv : Value) (W w' : World) : Prop := ∃ A c os Ai ni ci, Blk w' q 67 (rdC 0 1 Bv (.slice A xs.length c) (.slice Ai ni ci) false) ∧ os.map Ob.x = xs ∧ ObI w' w'.heap.size u A os ∧ Keep (Only q) W w' ∧ z ≤ w'.heap.size
theorem Keep.thenBelow {S : Nat → Prop} {a w w' : World} {B : Nat} (h : Keep S a w) (k : Below B w w') (hB : a.heap.size ≤ B) : Keep S a w' :=
  ⟨k.os.trans h.os, k.tape.trans h.tape, k.output.trans h.output, Nat.le_trans h.size k.size, fun i hi hn => (k.block i (by omega)).trans (h.block i hi hn)⟩
theorem step_append_slf {P : Program} {ops : Array Oper} {o : Oper} {a : Act} {w : World} {K : Act → World → Prop} {Q : Exit → Act → World → Prop} {E : Prop} (hgd : o.guard = none) {s x : Operand} {t e : TypeId} {size bytes : Nat} (H : Elem P t e size bytes)
    (ho : o.op = .call { callee := .builtin .append, args := #[s, x], argTypes := #[t, t] }) {base : Nat} {A : Option Addr} {n c : Nat} {xs : List Value} (hs : a.eval s = .slice A n c) (hown : Own w base e size A n c xs)
    {B : Nat} {S : Addr} {m d : Nat} {news : List Value} (hm : 0 < m) (hx : a.eval x = .slice (some S) m d) (hr : Reads w B size (some S) m news) (h1 : ∀ u ∈ news, u.oneCell' = true)
    (h63 : n + m ≤ maxLen) (hbytes : (n + m) * bytes ≤ 140737488355328) (hbase : base ≤ w.heap.size)
    (h : ∀ A' c' w', Own w' base e size A' (n + m) c' (xs ++ news) → Kept base [e] [] w w' → (∀ p, p < w.heap.size → NotB A n c p → w'.heap[p]? = w.heap[p]? ∧ NotB A' (n + m) c' p) → K (a.put o.dst (.slice A' (n + m) c')) w') : if Region.wanted o (yielded ops a.tmps) = true then Oper.wp P o a w K Q else E := by
  have hw : Region.wanted o (yielded ops a.tmps) = true := by simp [Region.wanted, hgd]
  rw [if_pos hw]
  obtain ⟨A', c', w', hrun, h2, h3, h4⟩ := run_append_slf (ty := o.type) (d := d) H hown hm hr h1 h63 hbytes hbase
  exact wp_append_run ho hs hx hrun (h A' c' w' h2 h3 h4)
def SlI9 (n : Nat) (ps : Array (Nat × Value)) : Sem Value := Instr.buildSlice 65 n ps
theorem sl_i9 (n : Nat) (ps : Array (Nat × Value)) : Instr.buildSlice 65 n ps = SlI9 n ps := rfl
theorem run_sl_i9 (s : Id) (w : World) : (SlI9 1 #[(0, idV s)]).run Tryz.prog w = .ok (.slice (some ⟨w.heap.size, 0, none⟩) 1 1) (w.alloc (.cells (idL s).toArray 29)) :=
  run_buildSlice1 elemId zero_noId (idC_size _) (idC_size _) (by omega) w
theorem range_id {w : World} {g : Nat} {t : TypeId} {i : Id} (h : Blk w g t (idC i)) : w.rangeAt g 0 (idL i) := fun j v hj => by
  rw [h.cell, Nat.zero_add]
  unfold idC
  rw [List.getElem?_toArray]
  exact hj
def ApI9 (vs : Array Value) : Sem Value := Builtin.append_ #[65, 65] 65 vs
theorem ap_i9 (vs : Array Value) : Builtin.append_ #[65, 65] 65 vs = ApI9 vs := rfl
attribute [local go_sem ↓] ld_id sl_i9 ap_i9
set_option maxHeartbeats 8000000 in
set_option maxRecDepth 1000000 in
theorem read1_any (u xs : List UInt8) (N : Nat) (hN : xs.length = N) (hu : u.length ≤ 2000) (hu2 : N ≤ 1 ∨ 100 ≤ u.length) (hk : N < 40) (hrise : xs.Pairwise (fun a b => (idU u a).1 < (idU u b).1)) (A : Option Addr) (c M : Nat) (hM : (packB u xs).length = M) (q p : Nat) (W : World) (hr : Reads W W.heap.size 1 A M ((packB u xs).map bv)) (hc : M ≤ c) (hc2 : c ≤ maxLen)
    (hq : Blk W q 67 (rdC 0 1 (.slice A M c) (.slice none 0 0) (.slice none 0 0) false)) (hp : Blk W p 52 #[.pointer (some ⟨q, 0, none⟩)]) :
    Calls Tryz.prog 29 #[.pointer (some ⟨p, 0, none⟩)] W fun e w' => e = .returned (.tuple #[]) ∧ ReadR q W.heap.size u xs (.slice A M c) W w' := by
  obtain ⟨z, hz⟩ : ∃ z, W.heap.size = z := ⟨_, rfl⟩
  obtain ⟨n, hn⟩ : ∃ n, u.length + 1 = n := ⟨_, rfl⟩
  have HPA := Lib.hid (parse_any u xs N hN hu hu2 hk hrise A c M hM W hr hc hc2)
  have HPP := Lib.hid (show ParsePost u xs W = fun e w' => ∃ A c os, e = .returned (.tuple #[.slice A N c, .bool true]) ∧ os.map Ob.x = xs ∧ ObI w' w'.heap.size u A os ∧ Below z W w' from by rw [← hN, ← hz]; rfl)
  rw [HPP.out] at HPA
  have HRR := Lib.hid (show ReadR q W.heap.size u xs (.slice A M c) W = fun w' => ∃ A1 c1 os Ai ni ci, Blk w' q 67 (rdC 0 1 (.slice A M c) (.slice A1 N c1) (.slice Ai ni ci) false) ∧ os.map Ob.x = xs ∧ ObI w' w'.heap.size u A1 os ∧ Keep (Only q) W w' ∧ z ≤ w'.heap.size from by rw [← hN, ← hz]; rfl)
  have cp := hp.cell 0
  have cb := hq.cell 3
  simp at cp
  simp [rdC] at cb
  have HQ := Lib.hid hq
  have HPB := Lib.hid hp
  have HZ := Lib.hid hz
  have HN := Lib.hid hN
  have Hn := Lib.hid hn
  have hqz : q < z := by rw [← hz]; exact hq.lt
  have hpz : p < z := by rw [← hz]; exact hp.lt
  have hpq : p ≠ q := hp.ne_ hq (by decide)
  rw [HRR.out]
  clear hr hq hp hrise hN hz hn HPP HRR
  go_enter Tryz.func29, Tryz.ntmps29
  go_upto_region 1 with (go_at_call 30; (with_reducible refine HPA.out.mono ?_); rintro _ w1 ⟨A1, c1, os, rfl, hox, hob, hbw⟩; have HOX := Lib.hid hox; have HOB := Lib.hid hob; have HBW := Lib.hid hbw; clear hox hob hbw HPA)
  have cp1 : w1.cell? ⟨p, 0, none⟩ = some (.pointer (some ⟨q, 0, none⟩)) := (HBW.out.cell (by exact hpz)).trans cp
  have hq1 := HQ.out.below HBW.out hqz
  have c61 := hq1.cell 6
  have f61 := hq1.frozen 6
  simp [rdC] at c61
  have hp1 := HPB.out.below HBW.out hpz
  have HQ1 := Lib.hid (show Blk (w1.setCell ⟨q, 6, none⟩ (.bool false)) q 67 (rdC 0 1 (.slice A M c) (.slice none 0 0) (.slice none 0 0) false) from hq1.set_ 6 (.bool false))
  have HP1 := Lib.hid (hp1.far (p := ⟨q, 6, none⟩) hpq (.bool false))
  have HO1 := Lib.hid (HOB.out.keepR (w' := w1.setCell ⟨q, 6, none⟩ (.bool false)) hq1 (fun v => rdC_no _ _ _ _ _ _ _ _ _ _ _ _ _ (.inl rfl) v) (fun v => rdC_no _ _ _ _ _ _ _ _ _ _ _ _ _ (.inr rfl) v) (fun j _ hj => Below.heap_setCell w1 ⟨q, 6, none⟩ _ j hj))
  have HK1 := Lib.hid (show Keep (Only q) W (w1.setCell ⟨q, 6, none⟩ (.bool false)) from (Below.keep_ (show Below W.heap.size W w1 by rw [HZ.out]; exact HBW.out) (Only q)).setCell (p := ⟨q, 6, none⟩) (.inl rfl) _)
  have hz1 : z ≤ w1.heap.size := by rw [← HZ.out]; exact HBW.out.size
  go_upto_region 2 with fail
  have hzz : (w1.setCell ⟨q, 6, none⟩ (.bool false)).heap.size = w1.heap.size := by simp [World.setCell]
  have cp2 : (w1.setCell ⟨q, 6, none⟩ (.bool false)).cell? ⟨p, 0, none⟩ = some (.pointer (some ⟨q, 0, none⟩)) := by have := HP1.out.cell 0; simpa using this
  have cq2 : (w1.setCell ⟨q, 6, none⟩ (.bool false)).cell? ⟨q, 6, none⟩ = some (.bool false) := by have := HQ1.out.cell 6; simpa [rdC] using this
  obtain ⟨zb, hzb⟩ : ∃ zb, w1.heap.size = zb := ⟨_, rfl⟩
  rw [hzb] at hzz hz1 HO1
  generalize w1.setCell ⟨q, 6, none⟩ (.bool false) = w2 at *
  clear hzb cp1 hq1 c61 f61 hp1 HOB HBW cp cb HQ HPB
  have hz2 : zb ≤ w2.heap.size := by omega
  go_wp2_with fail
  clear cp2 cq2 hzz
  go_loopg [26] N (fun kx s26 wr => ∃ (k : Nat) (Ai : Option Addr) (ci : Nat), s26 = .int .i64 k ∧ k ≤ N ∧ N - k ≤ kx ∧ Hid (Blk wr q 67 (rdC 0 1 (.slice A M c) (.slice none 0 0) (.slice Ai k ci) false)) ∧ Hid (Own wr zb 29 32 Ai k ci (((xs.take k).map (idU u)).flatMap idL)) ∧ Hid (Keep (Only q) W wr) ∧ Hid (ObI wr zb u A1 os) ∧ Hid (Blk wr p 52 #[.pointer (some ⟨q, 0, none⟩)]) ∧ zb ≤ wr.heap.size)
  case atStart => exact ⟨0, none, 0, rfl, Nat.zero_le _, Nat.le_refl _, HQ1, Lib.hid (Own.nil _ _ _ _), HK1, HO1, HP1, hz2⟩
  case round =>
    clear HQ1 HK1 HO1 HP1 hz2
    obtain ⟨k, Ai, ci, rfl, hkN, hkx, HQ, HI, HK, HO, HP, hzr⟩ := hrel
    by_cases hlt : k < N
    · have hltz : (k : Int) < (N : Int) := by omega
      have hol : os.length = N := by rw [← HN.out, ← HOX.out, List.length_map]
      obtain ⟨o, ho⟩ : ∃ o, os[k]? = some o := ⟨_, List.getElem?_eq_getElem (by rw [hol]; exact hlt)⟩
      have hmo : o ∈ os := List.mem_of_getElem? ho
      have hxk : xs[k]? = some o.x := by rw [← HOX.out, List.getElem?_map, ho]; rfl
      obtain ⟨gL, oL, rfl, hgL, hcL⟩ := HO.out.row.at0 (by rw [hol]; omega) (by omega)
      have hld : (Instr.loadAt 27 (.pointer (some ⟨gL, oL + k * 2, none⟩))).run Tryz.prog wr = .ok (.agg #[.int .i64 1, .slice o.A n o.c]) wr := by
        refine run_loadAt_cells wr _ _ Tryz.underlying27 rfl info_ob (fun j v hj => ?_)
        rw [add_at, Nat.add_assoc]
        exact hcL _ v (flatn_at (obL_len _) os k j o ho v (by rw [Hn.out]; simpa [obL] using hj))
      clear hcL
      have hb0 : Blk (wr.alloc (.cells #[.int .i64 0, .slice none 0 0] 27)) wr.heap.size 27 #[.int .i64 0, .slice none 0 0] := Blk.new _ _ _
      go_upto_region 6 with (first | (refine wpList_load rfl rfl rfl hld ?_) | (refine wpList_allocAgg rfl rfl (zero_ob _) ?_) | (refine wpList_storeBlk rfl rfl (vs := #[.int .i64 1, .slice o.A n o.c]) rfl rfl hb0 rfl info_ob (ob_one _ _ _) ?_; intro w3 hb3 hk3 hs3))
      have b3 : Below wr.heap.size wr w3 := ((Below.refl _ wr).alloc (Nat.le_refl _) _).trans (hk3.below (by simp) (by unfold Only; intro i hi h; omega))
      have z3 : wr.heap.size ≤ w3.heap.size := b3.size
      have hrd : Reads w3 w3.heap.size 1 o.A (u ++ [o.x]).length ((u ++ [o.x]).map bv) := by
        have := ((HO.out.body o hmo).more hzr).below b3
        rw [show (u ++ [o.x]).length = u.length + 1 by simp]
        exact this.more z3
      have hcap := HO.out.cap o hmo
      have hul : (u ++ [o.x]).length = n := by rw [← Hn.out]; simp
      have HID := Lib.hid (id_any 1 (u ++ [o.x]) o.A o.c w3 hrd (by simp; omega) (by simp; omega) hcap.2)
      rw [idU_obj u o.x hu, hul] at HID
      have HB3 := Lib.hid b3
      have hb3L := hb3.lt
      clear hrd hcap hul hk3 hs3 hb0 hld
      go_upto_region 7 with (first | (refine wpList_load rfl rfl rfl (load_obj hb3) ?_) | (go_at_call 19; (with_reducible refine HID.out.mono ?_); rintro _ w4 ⟨rfl, hb4'⟩; have HB4 := Lib.hid hb4'; clear hb4') | (refine wpList_allocAgg rfl rfl (zero_noId _) ?_) | (refine wpList_storeBlk rfl rfl (vs := idC (idU u o.x)) rfl rfl (Blk.new _ _ _) (by rw [idC_size, idC_size]) (by rw [idC_size]; exact info42) (idL_one _) ?_; intro w5 hb5 hk5 hs5))
      have b5 : Below w4.heap.size w4 w5 := ((Below.refl _ w4).alloc (Nat.le_refl _) _).trans (hk5.below (by simp) (by unfold Only; intro i hi h; omega))
      have z4 : w3.heap.size ≤ w4.heap.size := HB4.out.size
      have bw : Below wr.heap.size wr w5 := (HB3.out.trans (HB4.out.mono z3)).trans (b5.mono (by omega))
      have HQ5 := Lib.hid (HQ.out.below bw HQ.out.lt)
      have HP5 := Lib.hid (HP.out.below bw HP.out.lt)
      have HI5 := Lib.hid (HI.out.kept (Kept.ofBelow (base := 0) (E := []) (G := []) bw) (by simp) (by simp))
      have HK5 := Lib.hid (HK.out.trans (Below.keep_ bw (Only q)))
      have HO5 := Lib.hid (show ObI w5 zb u (some ⟨gL, oL, none⟩) os from ⟨HO.out.row.below (bw.mono hzr), fun o ho => (HO.out.body o ho).below (bw.mono hzr), HO.out.cap⟩)
      have hz5 : zb ≤ w5.heap.size := by have := bw.size; omega
      have HNB := Lib.hid (show NotB Ai k ci w4.heap.size from HI.out.notB (.inr (by omega)))
      generalize w4.heap.size = g5 at *
      have hxt : xs.take (k + 1) = xs.take k ++ [o.x] := by rw [List.take_add_one, hxk]; rfl
      have HXT := Lib.hid hxt
      have c1 := HP5.out.cell 0
      have c2 := HQ5.out.cell 5
      simp at c1
      simp [rdC] at c2
      have hm1 : k + 1 ≤ maxLen := by unfold maxLen; omega
      have hm2 : (k + 1) * 32 ≤ 140737488355328 := by omega
      have d0 : w5.drew.cell? ⟨p, 0, none⟩ = some (.pointer (some ⟨q, 0, none⟩)) := c1
      have d1 : w5.drew.cell? ⟨q, 5, none⟩ = some (.slice Ai k ci) := c2
      have d2 := LdId.blk hb5.drew
      have l5 := hb5.lt
      have a0 : ∀ o, (w5.alloc o).drew.cell? ⟨p, 0, none⟩ = some (.pointer (some ⟨q, 0, none⟩)) := fun o => (World.cell?_alloc_lt w5 o _ HP5.out.lt).trans c1
      have a1 : ∀ o, (w5.alloc o).drew.cell? ⟨q, 5, none⟩ = some (.slice Ai k ci) := fun o => (World.cell?_alloc_lt w5 o _ HQ5.out.lt).trans c2
      have a2 := fun o => LdId.blk (hb5.alloc o).drew
      have hsl := run_sl_i9 (idU u o.x)
      have HB5 := Lib.hid hb5
      have HA := Lib.hid (fun (w9 : World) (hk9 : Kept zb [29] [] (w5.alloc (.cells (idL (idU u o.x)).toArray 29)).drew w9) (hn9 : ∀ p, p < (w5.alloc (.cells (idL (idU u o.x)).toArray 29)).drew.heap.size → NotB Ai k ci p → w9.heap[p]? = (w5.alloc (.cells (idL (idU u o.x)).toArray 29)).drew.heap[p]? ∧ True) => show Blk w9 q 67 (rdC 0 1 (.slice A M c) (.slice none 0 0) (.slice Ai k ci) false) ∧ Blk w9 p 52 #[.pointer (some ⟨q, 0, none⟩)] ∧ Blk w9 g5 29 (idC (idU u o.x)) from ⟨hk9.blk (HQ5.out.alloc _).drew (by simp) (by decide), hk9.blk (HP5.out.alloc _).drew (by simp) (by decide), (hn9 g5 (by show g5 < (w5.alloc _).heap.size; simp; omega) HNB.out).1.trans (hb5.alloc _).drew⟩)
      have hzz : zb ≤ (w5.alloc (.cells (idL (idU u o.x)).toArray 29)).drew.heap.size := by show zb ≤ (w5.alloc _).heap.size; simp; omega
      clear HQ HP HI HK HO b5 bw HB3 HB4 hk5 hs5 hb3 hb3L hxt hxk HID c1 c2 hb5
      obtain ⟨A9, c9, w9, hrun, ho9, hk9, hn9⟩ := run_append_slf (P := Tryz.prog) (w := (w5.alloc (.cells (idL (idU u o.x)).toArray 29)).drew) (ty := 65) (d := 1) elemId (HI5.out.alloc (.cells (idL (idU u o.x)).toArray 29)) (m := 1) (by omega) (Reads.of_cells (n := 1) (xs := idL (idU u o.x)) (heap_alloc_new _ _) rfl (by rw [idL_len])) (idL_one _) hm1 hm2 hzz
      rw [ap_i9] at hrun
      have hA := HA.out w9 hk9 (fun p h1 h2 => ⟨(hn9 p h1 h2).1, trivial⟩)
      have t0 : w9.cell? ⟨p, 0, none⟩ = some (.pointer (some ⟨q, 0, none⟩)) := by have := hA.2.1.cell 0; simpa using this
      have t1 : w9.cell? ⟨q, 5, none⟩ = some (.slice Ai k ci) := by have := hA.1.cell 5; simpa [rdC] using this
      have t2 := LdId.blk hA.2.2
      have t3 := hA.1.frozen 5
      have HA9 := Lib.hid hA
      have HO9 := Lib.hid ho9
      have HK9 := Lib.hid hk9
      clear hA ho9 hk9 hn9
      go_region
      clear hrun t0 t1 t2 t3 d0 d1 d2 a0 a1 a2 hsl HQ5 HP5 HI5 HB5 HA
      go_wp2_with fail
      go_roundg (N - (k + 1))
      case measure => omega
      have H9 := HA9.out
      have hq9 := H9.1.set_ 5 (.slice A9 (k + 1) c9)
      have bb : Below zb w5 w9 := (((Below.refl zb w5).alloc hz5 _).drew).trans (HK9.out.below (Nat.le_refl _) hzz (by simp))
      have hwz : W.heap.size ≤ zb := by rw [HZ.out]; exact hz1
      have HK6 : Keep (Only q) W w9 := HK5.out.thenBelow bb hwz
      have hO6 : ObI w9 zb u (some ⟨gL, oL, none⟩) os := ⟨HO5.out.row.below bb, fun o ho => (HO5.out.body o ho).below bb, HO5.out.cap⟩
      refine ⟨k + 1, A9, c9, rfl, by omega, by omega, Lib.hid hq9, Lib.hid ?_, Lib.hid (HK6.setCell (p := ⟨q, 5, none⟩) (.inl rfl) _), Lib.hid (hO6.keepR H9.1 (fun v => rdC_no _ _ _ _ _ _ _ _ _ _ _ _ _ (.inl rfl) v) (fun v => rdC_no _ _ _ _ _ _ _ _ _ _ _ _ _ (.inr rfl) v) (fun j _ hj => Below.heap_setCell w9 ⟨q, 5, none⟩ _ j hj)), Lib.hid (H9.2.1.far (p := ⟨q, 5, none⟩) hpq _), ?_⟩
      · rw [HXT.out, List.map_append, List.flatMap_append]
        simpa using HO9.out.setCell (p := ⟨q, 5, none⟩) H9.1 (by decide) _
      · have := bb.size
        simp [World.setCell]
        omega
    · obtain rfl : k = N := by omega
      clear hlt
      have cp3 : wr.cell? ⟨p, 0, none⟩ = some (.pointer (some ⟨q, 0, none⟩)) := by have := HP.out.cell 0; simpa using this
      have cq3 := HQ.out.cell 4
      have fq3 := HQ.out.frozen 4
      simp [rdC] at cq3
      go_wp2_with fail
      have hq9 : Blk (wr.setCell ⟨q, 4, none⟩ (.slice A1 k c1)) q 67 (rdC 0 1 (.slice A M c) (.slice A1 k c1) (.slice Ai k ci) false) := HQ.out.set_ 4 (.slice A1 k c1)
      have hO9 : ObI (wr.setCell ⟨q, 4, none⟩ (.slice A1 k c1)) zb u A1 os := HO.out.keepR HQ.out (fun v => rdC_no _ _ _ _ _ _ _ _ _ _ _ _ _ (.inl rfl) v) (fun v => rdC_no _ _ _ _ _ _ _ _ _ _ _ _ _ (.inr rfl) v) (fun j _ hj => Below.heap_setCell wr ⟨q, 4, none⟩ _ j hj)
      exact bodyPost_end (results_none rfl _ _ _) rfl ⟨rfl, A1, c1, os, Ai, k, ci, hq9, HOX.out, hO9.more (by simp [World.setCell]; omega), HK.out.setCell (p := ⟨q, 4, none⟩) (.inl rfl) _, by simp [World.setCell]; omega⟩
end Go.Proofs.YtmlmbkelpjmafaaGreat
