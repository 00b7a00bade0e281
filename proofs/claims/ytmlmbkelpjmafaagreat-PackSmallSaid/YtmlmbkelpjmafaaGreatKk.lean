/-
  Contract of pack.sorted at blobs that are alike but for the last byte, whose Ids are unlike. No statement of the seat is proved here.
-/
import Derived.Test.YtmlmbkelpjmafaaGreatKj
import Derived.Test.YtmlmbkelpjmafaaGreatPT16
namespace Go.Proofs.YtmlmbkelpjmafaaGreat
open Go.RowKit Go.Shelf
/-- A blob of the call's arguments. -/
structure Ob where
  x : UInt8
  A : Option Addr
  c : Nat
def obL (n : Nat) (o : Ob) : List Value := [.int .i64 1, .slice o.A n o.c]
theorem obL_len (n : Nat) (o : Ob) : (obL n o).length = 2 := rfl
structure ObI (w : World) (B : Nat) (u : List UInt8) (A : Option Addr) (os : List Ob) : Prop where
  row : Reads w B 2 A os.length (os.flatMap (obL (u.length + 1)))
  body : ∀ o ∈ os, Reads w B 1 o.A (u.length + 1) ((u ++ [o.x]).map bv)
  cap : ∀ o ∈ os, u.length + 1 ≤ o.c ∧ o.c ≤ maxLen
def idU (u : List UInt8) (x : UInt8) : Id := sha (encObj 0 1 (u ++ [x])).1
theorem idU_obj (u : List UInt8) (x : UInt8) (h : u.length ≤ 2000) : idObj 1 (u ++ [x]) = (idU u x, 0) := by
  have hb : bodyE 1 (u ++ [x]) = 0 := by
    unfold bodyE
    rw [if_pos rfl, if_neg (by simp; omega)]
  unfold idObj
  rw [if_pos hb, hb]
  rfl
def knOf (u : List UInt8) (o : Ob) : Kn := ⟨idU u o.x, o.x, o.A, o.c⟩
set_option maxRecDepth 100000 in
theorem build_kn (i : Id) (A : Option Addr) (n c : Nat) (w : World) : (Instr.build 47 #[(0, idV i), (1, .agg #[.int .i64 1, .slice A n c])]).run Tryz.prog w = .ok (.agg (idL i ++ [Value.int .i64 1, Value.slice A n c]).toArray) w := by
  obtain ⟨l, hl⟩ := i
  obtain ⟨b0, b1, b2, b3, b4, b5, b6, b7, b8, b9, b10, b11, b12, b13, b14, b15, b16, b17, b18, b19, b20, b21, b22, b23, b24, b25, b26, b27, b28, b29, b30, b31, rfl⟩ : ∃ b0 b1 b2 b3 b4 b5 b6 b7 b8 b9 b10 b11 b12 b13 b14 b15 b16 b17 b18 b19 b20 b21 b22 b23 b24 b25 b26 b27 b28 b29 b30 b31, l = [b0, b1, b2, b3, b4, b5, b6, b7, b8, b9, b10, b11, b12, b13, b14, b15, b16, b17, b18, b19, b20, b21, b22, b23, b24, b25, b26, b27, b28, b29, b30, b31] := by
    exact match l, hl with | [b0, b1, b2, b3, b4, b5, b6, b7, b8, b9, b10, b11, b12, b13, b14, b15, b16, b17, b18, b19, b20, b21, b22, b23, b24, b25, b26, b27, b28, b29, b30, b31], _ => ⟨b0, b1, b2, b3, b4, b5, b6, b7, b8, b9, b10, b11, b12, b13, b14, b15, b16, b17, b18, b19, b20, b21, b22, b23, b24, b25, b26, b27, b28, b29, b30, b31, rfl⟩
  have : (Instr.build 47 #[(0, idV ⟨[b0, b1, b2, b3, b4, b5, b6, b7, b8, b9, b10, b11, b12, b13, b14, b15, b16, b17, b18, b19, b20, b21, b22, b23, b24, b25, b26, b27, b28, b29, b30, b31], hl⟩), (1, .agg #[.int .i64 1, .slice A n c])]).run Tryz.prog w = .ok (.agg (idL ⟨[b0, b1, b2, b3, b4, b5, b6, b7, b8, b9, b10, b11, b12, b13, b14, b15, b16, b17, b18, b19, b20, b21, b22, b23, b24, b25, b26, b27, b28, b29, b30, b31], hl⟩ ++ [Value.int .i64 1, Value.slice A n c]).toArray) w := by kernel_rfl
  exact this
theorem neq_of_eql {w : World} {c : Bool} (r : Result Bool) (h : (r.andThen fun b w' => Result.ok (Value.bool b) w') = .ok (.bool c) w) : (r.andThen fun b w' => Result.ok (Value.bool (!b)) w') = .ok (.bool (!c)) w := by
  cases r with
  | ok b w' =>
    simp only [Result.andThen] at h ⊢
    injection h with h1 h2
    injection h1 with h1
    rw [h1, h2]
  | _ => cases h
theorem run_neq_id (w : World) (i j : Id) : (binOp .neq 29 (idV i) (idV j)).run Tryz.prog w = .ok (.bool (!(i == j))) w := by
  have h := run_eql_id w i j
  unfold idV at h ⊢
  rw [run_eql_struct] at h
  rw [run_neq_struct]
  exact neq_of_eql _ h
theorem info_kn9 : (Tryz.prog.info? 47).map (fun i => (i.zero, i.size, i.bytes)) = some (some (.agg zKn), 34, 64) := by kernel_rfl
theorem elemKn : Elem Tryz.prog 41 47 34 64 := by
  refine ⟨Tryz.underlying41, ?_, by decide⟩
  have h := info_kn9
  cases hq : Tryz.prog.info? 47 with
  | none => rw [hq] at h; cases h
  | some i =>
    rw [hq] at h
    simp only [Option.map_some, Option.some.injEq, Prod.mk.injEq] at h
    exact ⟨i, _, rfl, h.1, h.2.1, h.2.2, rfl⟩
theorem ob_one (A : Option Addr) (n c : Nat) : ∀ v ∈ (#[Value.int .i64 1, Value.slice A n c] : Array Value).toList, v.oneCell' = true := by
  intro v hv
  simp only [List.mem_cons, List.not_mem_nil, or_false] at hv
  rcases hv with rfl | rfl <;> rfl
theorem zero_ob (w : World) : (zeroValue 27).run Tryz.prog w = .ok (.agg #[.int .i64 0, .slice none 0 0]) w := by kernel_rfl
theorem info_ob : (Tryz.prog.info? 27).map (·.size) = some 2 := by kernel_rfl
theorem load_idk {w : World} {g n : Nat} {t : TypeId} {k : Kn} (h : Blk w g t (knL n k).toArray) : (Instr.loadAt 29 (.pointer (some ⟨g, 0, none⟩))).run Tryz.prog w = .ok (idV k.id) w :=
  run_loadAt_cells w _ (idC k.id) Tryz.underlying29 rfl (by rw [idC_size]; exact info42) (fun j v hj => by
    rw [add_at, h.cell, Nat.zero_add, List.getElem?_toArray]
    have hj' : (idL k.id)[j]? = some v := by simpa [idC] using hj
    unfold knL
    rw [List.getElem?_append_left (by
      rcases Nat.lt_or_ge j (idL k.id).length with q | q
      · exact q
      · rw [List.getElem?_eq_none q] at hj'; cases hj')]
    exact hj')
theorem Own.cells9 {w : World} {base g : Nat} {e : TypeId} {size n c : Nat} {xs : List Value} (h : Own w base e size (some ⟨g, 0, none⟩) n c xs) : ∀ j u, xs[j]? = some u → w.cell? ⟨g, j, none⟩ = some u := fun j u hj => by
  have := World.ownsRow.cells h (g := g) rfl j u hj
  rwa [add_at, Nat.zero_add] at this
theorem storeK {w : World} {g n : Nat} {k : Kn} {cs : Array Value} (h : Blk w g 47 cs) (hs : cs.size = 34) : ∃ w', (StK (.pointer (some ⟨g, 0, none⟩)) (.agg (knL n k).toArray)).run Tryz.prog w = .ok () w' ∧ Blk w' g 47 (knL n k).toArray ∧ Keep (Only g) w w' := by
  have hz : (knL n k).toArray.size = 34 := by simp [knL_len]
  have h1 := run_storeAt_blk (P := Tryz.prog) (ty := 47) h 0 (vs := (knL n k).toArray) (by rw [hz]; exact info_kn) (by rw [hs, hz]; omega) (by simpa using knL_one n k)
  rw [spl_all (by rw [hs, hz])] at h1
  exact ⟨_, h1, h.row _, Keep.setRow (Keep.refl (Only g) w) (.inl rfl) _⟩
theorem zKn_size : zKn.size = 34 := by simp [zKn, idL_len]
def SortedPost (u : List UInt8) (os : List Ob) (w : World) (r : Ending) (w' : World) : Prop := ∃ A c ks, r = .returned (.tuple #[.slice A os.length c, .int .i64 0]) ∧ ks.Perm (os.map (knOf u)) ∧ RiseK ks ∧ Own w' w.heap.size 47 34 A os.length c (ks.flatMap (knL (u.length + 1))) ∧ Below w.heap.size w w'
attribute [local go_sem ↓] ld_k st_k
set_option maxHeartbeats 8000000 in
set_option maxRecDepth 1000000 in
theorem sorted_any (u : List UInt8) (os : List Ob) (L : Option Addr) (cL : Nat) (w : World) (hI : ObI w w.heap.size u L os) (hnd : (os.map fun o => idU u o.x).Nodup) (hu : u.length ≤ 2000) (hk : os.length < 40) :
    Calls Tryz.prog 11 #[.slice L os.length cL] w (SortedPost u os w) := by
  have HI := Lib.hid hI
  have HND := Lib.hid hnd
  clear hI hnd
  obtain ⟨n, hn⟩ : ∃ n, u.length + 1 = n := ⟨_, rfl⟩
  obtain ⟨N, hN⟩ : ∃ N, os.length = N := ⟨_, rfl⟩
  obtain ⟨z, hz⟩ : ∃ z, w.heap.size = z := ⟨_, rfl⟩
  have HP := Lib.hid (show SortedPost u os w = fun r w' => ∃ A c ks, r = .returned (.tuple #[.slice A N c, .int .i64 0]) ∧ ks.Perm (os.map (knOf u)) ∧ RiseK ks ∧ Own w' z 47 34 A N c (ks.flatMap (knL n)) ∧ Below z w w' from by rw [← hN, ← hz, ← hn]; rfl)
  rw [HP.out]
  have HZ := Lib.hid hz
  have HN := Lib.hid hN
  have Hn := Lib.hid hn
  rw [hN]
  rw [hN] at hk
  clear hz hN hn HP
  go_enter Tryz.func11, Tryz.ntmps11
  go_wp2_with fail
  go_loopg [4, 15] N (fun kx s4 s15 wr => ∃ (k : Nat) (A4 : Option Addr) (c4 : Nat), s15 = .int .i64 k ∧ s4 = .slice A4 k c4 ∧ k ≤ N ∧ N - k ≤ kx ∧ Hid (Own wr z 47 34 A4 k c4 (((os.take k).map (knOf u)).flatMap (knL n))) ∧ Hid (Below z w wr))
  case atStart => exact ⟨0, none, 0, rfl, rfl, Nat.zero_le _, Nat.le_refl _, Lib.hid (Own.nil _ _ _ _), Lib.hid (Below.refl _ _)⟩
  case round =>
    obtain ⟨k, A4, c4, rfl, rfl, hkN, hkx, HO4, HBW⟩ := hrel
    by_cases hlt : k < N
    · have hltz : (k : Int) < (N : Int) := by omega
      obtain ⟨o, ho⟩ : ∃ o, os[k]? = some o := ⟨_, List.getElem?_eq_getElem (by rw [HN.out]; exact hlt)⟩
      obtain ⟨gL, oL, rfl, hgL, hcL⟩ := HI.out.row.at0 (by rw [HN.out]; omega) (by omega)
      have hwz : w.heap.size = z := HZ.out
      have hcl : ∀ j v, (obL n o)[j]? = some v → wr.cell? ⟨gL, oL + k * 2 + j, none⟩ = some v := fun j v hj => by
        rw [HBW.out.cell (by show gL < z; omega), Nat.add_assoc]
        exact hcL _ v (flatn_at (obL_len _) os k j o ho v (by rw [Hn.out]; exact hj))
      have hld : (Instr.loadAt 27 (.pointer (some ⟨gL, oL + k * 2, none⟩))).run Tryz.prog wr = .ok (.agg #[.int .i64 1, .slice o.A n o.c]) wr := by
        refine run_loadAt_cells wr _ _ Tryz.underlying27 rfl info_ob (fun j v hj => ?_)
        rw [add_at]
        exact hcl j v (by simpa [obL] using hj)
      clear hcl hcL
      have hb0 : Blk (wr.alloc (.cells #[.int .i64 0, .slice none 0 0] 27)) wr.heap.size 27 #[.int .i64 0, .slice none 0 0] := Blk.new _ _ _
      go_upto_region 5 with (first | (refine wpList_load rfl rfl rfl hld ?_) | (refine wpList_allocAgg rfl rfl (zero_ob _) ?_) | (refine wpList_storeBlk rfl rfl (vs := #[.int .i64 1, .slice o.A n o.c]) rfl rfl hb0 rfl info_ob (ob_one _ _ _) ?_; intro w1 hb1 hk1 hs1))
      have hzr : z ≤ wr.heap.size := by rw [← hwz]; exact HBW.out.size
      have BW1 := Lib.hid ((HBW.out.alloc hzr (.cells #[.int .i64 0, .slice none 0 0] 27)).trans (hk1.below (by simp; omega) (by unfold Only; intro i hi h; omega)))
      have O1 := Lib.hid ((HO4.out.alloc (.cells #[.int .i64 0, .slice none 0 0] 27)).keepOnly hk1 hb0 (by decide))
      have hz1 : z ≤ w1.heap.size := by rw [← hwz]; exact BW1.out.size
      generalize wr.heap.size = g6 at *
      clear hb0 hk1 hs1 HO4 HBW hld
      have hmo : o ∈ os := List.mem_of_getElem? ho
      have hrd : Reads w1 w1.heap.size 1 o.A (u ++ [o.x]).length ((u ++ [o.x]).map bv) := by
        have := (HI.out.body o hmo).below (by rw [hwz]; exact BW1.out)
        rw [show (u ++ [o.x]).length = u.length + 1 by simp]
        exact this.more (by omega)
      have hcap := HI.out.cap o hmo
      have hul : (u ++ [o.x]).length = n := by rw [← Hn.out]; simp
      have HID := Lib.hid (id_any 1 (u ++ [o.x]) o.A o.c w1 hrd (by simp; omega) (by simp; omega) hcap.2)
      rw [idU_obj u o.x hu, hul] at HID
      clear hrd hcap hul hwz
      go_upto_region 6 with (first | (refine wpList_load rfl rfl rfl (load_obj hb1) ?_) | (go_at_call 19; (with_reducible refine HID.out.mono ?_); rintro _ w2 ⟨rfl, hb2'⟩; have HB2 := Lib.hid hb2'; clear hb2') | (refine wpList_allocAgg rfl rfl (zero_noId _) ?_) | (refine wpList_storeBlk rfl rfl (vs := idC (idU u o.x)) rfl rfl (Blk.new _ _ _) (by rw [idC_size, idC_size]) (by rw [idC_size]; exact info42) (idL_one _) ?_; intro w3 hb3 hk3 hs3))
      have hz2 : z ≤ w2.heap.size := Nat.le_trans hz1 HB2.out.size
      have BW3 := Lib.hid ((BW1.out.trans ((HB2.out.mono hz1).alloc hz2 (.cells (idC noId) 29))).trans (hk3.below (by simp; omega) (by unfold Only; intro i hi h; omega)))
      have O3 := Lib.hid ((((O1.out.kept (Kept.ofBelow (base := 0) (E := []) (G := []) HB2.out) (by simp) (by simp)).alloc (.cells (idC noId) 29)).keepOnly hk3 (Blk.new _ _ _) (by decide)))
      have hb6 : Blk w3 g6 27 #[.int .i64 1, .slice o.A n o.c] := ((hb1.below HB2.out hb1.lt).alloc (.cells (idC noId) 29)).keep hk3 (by unfold Only; intro e; have := hb1.lt; have := HB2.out.size; omega)
      have hz3 : z ≤ w3.heap.size := by rw [hs3]; simp; omega
      generalize w2.heap.size = g7 at *
      clear hk3 hs3 HB2 BW1 O1 hb1 HID hz2
      have hm1 : k + 1 ≤ maxLen := by unfold maxLen; omega
      have hm2 : (k + 1) * 64 ≤ 140737488355328 := by omega
      go_upto_region 9 with (first | (refine wpList_load rfl rfl rfl (load_id hb3) ?_) | (refine wpList_load rfl rfl rfl (load_obj hb6) ?_) | (refine wpList_built rfl rfl (vs := #[(0, idV (idU u o.x)), (1, .agg #[.int .i64 1, .slice o.A n o.c])]) rfl (build_kn _ _ _ _ _) ?_) | (refine wpList_buildSlice1 rfl elemKn rfl (vs := (knL n (knOf u o)).toArray) (z := zKn) zero_kn (by simp [zKn, idL_len]) (by simp [knL_len]) (by omega) rfl ?_) | (refine wpList_append_sl rfl elemKn rfl rfl (O3.out.alloc _) rfl (Reads.of_cells (xs := knL n (knOf u o)) (heap_alloc_new _ _) rfl (by rw [knL_len])) (knL_one _ _) hm1 hm2 (by simp; omega) ?_; intro A9 c9 w9 ho9 hk9))
      have HO9 := Lib.hid (show Own w9 z 47 34 A9 (k + 1) c9 (((os.take (k + 1)).map (knOf u)).flatMap (knL n)) by
        rw [List.take_add_one, ho]
        simpa using ho9)
      have BW9 := Lib.hid ((BW3.out.alloc hz3 (.cells (knL n (knOf u o)).toArray 47)).trans (hk9.below (Nat.le_refl _) (by simp; omega) (by simp)))
      clear ho9 hk9 BW3 O3 hm1 hm2 hb3 hb6
      go_wp2_with fail
      go_roundg (N - (k + 1))
      case measure => omega
      case rel => exact ⟨k + 1, A9, c9, by go_num, rfl, by omega, Nat.le_refl _, HO9, BW9⟩
    · obtain rfl : k = N := by omega
      clear hlt
      have hoN : Own wr z 47 34 A4 k c4 ((os.map (knOf u)).flatMap (knL n)) := by
        have := HO4.out
        rwa [List.take_of_length_le (by rw [HN.out]; exact Nat.le_refl _)] at this
      have HS := Lib.hid (sortStable_any n (os.map (knOf u)) wr (by simp [HN.out]) hk (by rw [List.map_map]; exact HND.out) hoN)
      clear hoN HO4
      go_upto_region 11 with (go_at_call 20; (with_reducible refine HS.out.mono ?_); rintro _ w2 ⟨rfl, ks, hp', hr', ho', hk'⟩)
      have HPM := Lib.hid hp'
      have HR := Lib.hid hr'
      have HO := Lib.hid ho'
      have HBW2 := Lib.hid (HBW.out.trans (hk'.below (Nat.le_refl _) (by have := HBW.out.size; rw [HZ.out] at this; exact this) (by simp)))
      have hkl : ks.length = k := by rw [hp'.length_eq]; simp [HN.out]
      have HKL := Lib.hid hkl
      clear hp' hr' ho' hk' hkl HS HBW
      go_wp2_with fail
      go_loopg [9, 10] k (fun kx s9 s10 wr => ∃ (i : Nat), s9 = .bool false ∧ s10 = .int .i64 ((i : Int) + 1) ∧ k - i ≤ kx ∧ i ≤ k ∧ Hid (Own wr z 47 34 A4 k c4 (ks.flatMap (knL n))) ∧ Hid (Below z w wr))
      case atStart => exact ⟨0, rfl, rfl, by omega, Nat.zero_le _, HO, HBW2⟩
      case round =>
        clear HO HBW2
        obtain ⟨i, rfl, rfl, hix, hik, HO, HBW2⟩ := hrel
        by_cases hlt : i + 1 < k
        · have hltz : (i : Int) + 1 < (k : Int) := by omega
          obtain ⟨x, hx⟩ : ∃ x, ks[i]? = some x := ⟨_, List.getElem?_eq_getElem (by rw [HKL.out]; omega)⟩
          obtain ⟨y, hy⟩ : ∃ y, ks[i + 1]? = some y := ⟨_, List.getElem?_eq_getElem (by rw [HKL.out]; omega)⟩
          have hne : (x.id == y.id) = false := by
            have h9 := HR.out
            unfold RiseK at h9
            rw [List.pairwise_iff_getElem] at h9
            have l1 : i < ks.length := by rw [HKL.out]; omega
            have l2 : i + 1 < ks.length := by rw [HKL.out]; omega
            have h8 := h9 i (i + 1) l1 l2 (by omega)
            rw [List.getElem?_eq_getElem l1] at hx
            rw [List.getElem?_eq_getElem l2] at hy
            injection hx with hx
            injection hy with hy
            rw [hx, hy] at h8
            refine beq_eq_false_iff_ne.2 fun e => ?_
            rw [e] at h8
            exact List.lt_irrefl _ h8
          obtain ⟨g, rfl, hgz⟩ := HO.out.adrn (by omega)
          have hgl : g < wr.heap.size := by
            obtain ⟨_, h2, _⟩ := HO.out.blockAt g (by simp [Value.ownBlock])
            exact h2
          have hcl := HO.out.cells9
          have ldat : ∀ (j : Nat) (v : Kn), ks[j]? = some v → ∀ W, Below wr.heap.size wr W → (LdK (.pointer (some ⟨g, j * 34, none⟩))).run Tryz.prog W = .ok (.agg (knL n v).toArray) W := fun j v hj W hW => by
            refine run_loadAt_cells W _ _ Tryz.underlying47 rfl ?_ (fun q t hq => ?_)
            · rw [show (knL n v).toArray.size = 34 by simp [knL_len]]
              exact info_kn
            · rw [add_at, hW.cell (by exact hgl)]
              exact hcl _ _ (flatn_at (knL_len n) ks j q v hj t (by simpa using hq))
          have LX := Lib.hid (ldat i x hx)
          have LY := Lib.hid (ldat (i + 1) y hy)
          clear hcl ldat hx hy
          have z1 : IntKind.i64.wrap (i : Int) = (i : Int) := by rw [IntKind.wrap_i64]; omega
          have z2 : (i : Int) < (k : Int) := by omega
          have z3 : (0 : Int) ≤ (i : Int) := by omega
          have z4 : (0 : Int) ≤ (i : Int) + 1 := by omega
          have z5 : ((i : Int) + 1).toNat = i + 1 := by omega
          have hzk := zero_kn
          obtain ⟨q3, hq3⟩ : ∃ q3, wr.heap.size = q3 := ⟨_, rfl⟩
          have hA0 : Below wr.heap.size wr wr.drew := (Below.refl _ wr).drew
          have hA1 : ∀ o, Below wr.heap.size wr (wr.alloc o).drew := fun o => ((Below.refl _ wr).alloc (Nat.le_refl _) o).drew
          have hA2 : ∀ o o', Below wr.heap.size wr ((wr.alloc o).alloc o').drew := fun o o' => (((Below.refl _ wr).alloc (Nat.le_refl _) o).alloc (by simp) o').drew
          have hz0 : Blk ((wr.alloc (.cells zKn 47)).alloc (.cells zKn 47)).drew q3 47 zKn := by rw [← hq3]; exact (Blk.new wr 47 _).alloc _
          have hz1 : Blk ((wr.alloc (.cells zKn 47)).alloc (.cells zKn 47)).drew (q3 + 1) 47 zKn := by
            have := Blk.new (wr.alloc (.cells zKn 47)) 47 zKn
            rw [show (wr.alloc (.cells zKn 47)).heap.size = q3 + 1 from by simp [hq3]] at this
            exact this
          obtain ⟨B1, st1, bb1, kb1⟩ := storeK (n := n) (k := x) hz0 zKn_size
          obtain ⟨C1, st2, cc1, kc1⟩ := storeK (n := n) (k := y) (hz1.keep kb1 (by unfold Only; omega)) zKn_size
          obtain ⟨B2, st3, bb2, kb2⟩ := storeK (n := n) (k := x) hz1 zKn_size
          obtain ⟨C2, st4, cc2, kc2⟩ := storeK (n := n) (k := y) (hz0.keep kb2 (by unfold Only; omega)) zKn_size
          have hB1 : Below wr.heap.size wr B1 := (hA2 _ _).trans (kb1.below (hA2 _ _).size (fun j hj q => by unfold Only at q; omega))
          have hB2 : Below wr.heap.size wr B2 := (hA2 _ _).trans (kb2.below (hA2 _ _).size (fun j hj q => by unfold Only at q; omega))
          have HC1 := Lib.hid (show Below wr.heap.size wr C1 ∧ Blk C1 q3 47 (knL n x).toArray ∧ Blk C1 (q3 + 1) 47 (knL n y).toArray from ⟨hB1.trans (kc1.below hB1.size (fun j hj q => by unfold Only at q; omega)), bb1.keep kc1 (by unfold Only; omega), cc1⟩)
          have HC2 := Lib.hid (show Below wr.heap.size wr C2 ∧ Blk C2 (q3 + 1) 47 (knL n x).toArray ∧ Blk C2 q3 47 (knL n y).toArray from ⟨hB2.trans (kc2.below hB2.size (fun j hj q => by unfold Only at q; omega)), bb2.keep kc2 (by unfold Only; omega), cc2⟩)
          have f1 := LX.out _ hA0
          have f2 := fun o => LX.out _ (hA1 o)
          have f3 := fun o o' => LX.out _ (hA2 o o')
          have f4 := LX.out _ hB1
          have f5 := LX.out _ hB2
          have f6 := LX.out _ HC1.out.1
          have f7 := LX.out _ HC2.out.1
          have g1 := LY.out _ hA0
          have g2 := fun o => LY.out _ (hA1 o)
          have g3 := fun o o' => LY.out _ (hA2 o o')
          have g4 := LY.out _ hB1
          have g5 := LY.out _ hB2
          have g6 := LY.out _ HC1.out.1
          have g7 := LY.out _ HC2.out.1
          clear hA0 hA1 hA2 hz0 hz1 bb1 kb1 cc1 kc1 bb2 kb2 cc2 kc2 hB1 hB2 LX LY hgl
          have HQ3 := Lib.hid hq3
          have HS0 := Lib.hid HO
          have HBK := Lib.hid HBW2
          go_upto_region 15 with fail
          go_cut [11, 12] (fun s11 s12 wx => ∃ g11 g12, s11 = .pointer (some ⟨g11, 0, none⟩) ∧ s12 = .pointer (some ⟨g12, 0, none⟩) ∧ Hid (Below wr.heap.size wr wx ∧ Blk wx g11 47 (knL n x).toArray ∧ Blk wx g12 47 (knL n y).toArray))
          case first =>
            as_aux_lemma =>
              go_region_held3 (fun W => (LdK (.pointer (some ⟨g, i * 34, none⟩))).run Tryz.prog W = .ok (.agg (knL n x).toArray) W ∧ (LdK (.pointer (some ⟨g, (i + 1) * 34, none⟩))).run Tryz.prog W = .ok (.agg (knL n y).toArray) W) (first | go_keep) (fail)
              all_goals
                go_wp2_with fail
                go_meet
                first
                  | exact ⟨q3, q3 + 1, rfl, rfl, HC1⟩
                  | exact ⟨q3 + 1, q3, rfl, rfl, HC2⟩
          rename_i hcut
          obtain ⟨g11, g12, rfl, rfl, HX⟩ := hcut
          clear f1 f2 f3 f4 f5 f6 f7 g1 g2 g3 g4 g5 g6 g7 st1 st2 st3 st4 hzk HC1 HC2 z1 z2 z3 z4 z5
          generalize wc = w5 at *
          have hzw : z ≤ wr.heap.size := by have := HBK.out.size; rw [HZ.out] at this; exact this
          have HO5 := Lib.hid (HS0.out.kept (Kept.ofBelow (base := 0) (E := []) (G := []) HX.out.1) (by simp) (by simp))
          have HB5 := Lib.hid (HBK.out.trans (HX.out.1.mono hzw))
          have hnb : (binOp .neq 29 (idV x.id) (idV y.id)).run Tryz.prog w5 = .ok (.bool true) w5 := by rw [run_neq_id, hne]; rfl
          clear HO HBW2 HS0 HBK hne hzw
          go_wp2_with (first | (refine wpList_load rfl rfl rfl (load_idk HX.out.2.1) ?_) | (refine wpList_load rfl rfl rfl (load_idk HX.out.2.2) ?_) | (refine wpList_bin rfl rfl rfl rfl (guard_id _ _ _ _ _ _) hnb ?_))
          go_roundg (k - (i + 1))
          case measure => omega
          case rel => exact ⟨i + 1, rfl, by go_num, Nat.le_refl _, by omega, HO5, HB5⟩
        · have hltz : ¬ (i : Int) + 1 < (k : Int) := by omega
          go_wp2_with fail
          go_ret2
          exact ⟨A4, c4, rfl, ks, HPM.out, HR.out, HO.out, HBW2.out⟩
end Go.Proofs.YtmlmbkelpjmafaaGreat
