/-
  Texts of the codec joined (Rcom2). No statement of the seat is proved here.
-/
import Derived.Test.YtppmolneklidfaaGreatZ09
import Derived.Deep.DeepCutAuto
namespace Go.Proofs.YtppmolneklidfaaGreat
open Go.RowKit

attribute [local go_sem ↓] ld_id eq_id bd_com st_com

/-- The bytes ahead of the author, where nothing is wrong: the parents one by one. -/
theorem ecGo_bytes : ∀ (l : List Id) (e : Int) (bs : List UInt8) (pre : List Id), (ecGo e bs pre l).2 = bs ++ l.flatMap (·.1)
  | [], e, bs, pre => by simp [ecGo]
  | p :: l, e, bs, pre => by rw [ecGo, ecGo_bytes l]; simp

theorem load_com_pid {w : World} {l : List Id} {k : Nat} {x : Id} {g off : Nat} (hc : ∀ j u, (idLs l)[j]? = some u → w.cell? ⟨g, off + j, none⟩ = some u) (hk : l[k]? = some x) : (Instr.loadAt 24 (.pointer (some ⟨g, off + k * 32, none⟩))).run Tryz.prog w = .ok (idV x) w := ldId_at hc hk

set_option maxHeartbeats 4000000 in
set_option maxRecDepth 100000 in
theorem rencodeCommit_any (d : ComD) (A : Option Addr) (c : Nat) (w : World) (hr : Reads w w.heap.size 32 A d.parents.length (idLs d.parents)) (hl : d.parents.length ≤ 1000) (hc : d.parents.length ≤ c) (ha : d.author.size ≤ 9223372036854775807) (hm : d.msg.size ≤ 9223372036854775807) :
    Calls Tryz.prog 7 #[.agg (comC d.tree (.slice A d.parents.length c) d.author d.time d.msg)] w (BytesPost (encCommit d) w) := by
  have hww := fun W hr hl => rwrong_any d A c W hr hl hc ha hm
  have HWW := Lib.hid hww
  have hzz : ecE d = 0 → (ecP d).1 = 0 ∧ ecE0 d = 0 ∧ d.parents.length ≤ 8 ∧ d.author.size ≤ 1000 ∧ d.msg.size ≤ 1000 := ecE_zero
  have HZ := Lib.hid hzz
  have hen : ecE d = 0 → encCommit d = (d.tree.1 ++ be 1 d.parents.length ++ d.parents.flatMap (·.1) ++ be 2 d.author.size ++ d.author.data.toList ++ be 8 (timeN d.time) ++ be 2 d.msg.size ++ d.msg.data.toList, 0) := by
    intro h
    unfold encCommit
    rw [if_pos h]
    unfold ecP
    rw [ecGo_bytes]
  have HEN := Lib.hid hen
  have hbad : ecE d ≠ 0 → encCommit d = ([], ecE d) := fun h => if_neg h
  have HBAD := Lib.hid hbad
  clear hww hzz hen hbad
  obtain ⟨t, ps, au, tm, ms⟩ := d
  have hq0 : Blk (w.alloc (.cells (comC t (.slice A ps.length c) au tm ms) 27)) w.heap.size 27 (comC t (.slice A ps.length c) au tm ms) := Blk.new _ _ _
  have hk0 : Kept w.heap.size [5] [] w (w.alloc (.cells (comC t (.slice A ps.length c) au tm ms) 27)) := (Kept.refl _ _ _ _).alloc _
  have hr0 := hr.alloc (Nat.le_refl _) (.cells (comC t (.slice A ps.length c) au tm ms) 27)
  go_enter Tryz.func7, Tryz.ntmps7
  go_wp2_with (first | (refine wpList_boxed rfl rfl (cs := comC t (.slice A ps.length c) au tm ms) rfl ?_; generalize w.alloc (.cells (comC t (.slice A ps.length c) au tm ms) 27) = w0 at *) | (refine wpList_load rfl rfl rfl (load_com hq0) ?_))
  have z0 := hk0.size
  have l0 := hq0.lt
  generalize hq : w.heap.size = q at *
  have HQ := Lib.hid hq
  have hqle : q ≤ w.heap.size := by omega
  clear hq
  refine (HWW.out _ (hr0.more (by omega)) hl).mono ?_
  rintro r w1 ⟨rfl, hk1⟩
  have hq1 := hq0.keep hk1 (fun h => h)
  have hkw1 := hk0.nothing hk1
  have z1 := hkw1.size
  have l1 := hq1.lt
  have y1 := hk1.size
  clear hk1 hk0 hr0 hq0 HWW
  obtain ⟨e, he⟩ : ∃ e, ecE ⟨t, ps, au, tm, ms⟩ = e := ⟨_, rfl⟩
  rw [he]
  by_cases h0 : e = 0
  · subst h0
    obtain ⟨_, _, hp8, ha8, hm8⟩ := HZ.out he
    have HE := Lib.hid (HEN.out he)
    clear he HZ HEN HBAD
    have hbe1 : be 1 ps.length = [UInt8.ofNat ps.length] := by simp [be]
    have hcs : [Value.int .u8 (ps.length : Int)] = [UInt8.ofNat ps.length].map bv := by
      simp only [List.map_cons, List.map_nil, bv, UInt8.toNat_ofNat']
      rw [Nat.mod_eq_of_lt (by omega)]
    rw [hbe1] at HE
    generalize UInt8.ofNat ps.length = y at *
    have HC := Lib.hid hcs
    clear hbe1 hcs
    have L1 := ldId_com hq1.drew
    have p1 := (hq1.cell 32).trans comC_at.1
    have hwr : IntKind.u8.wrap (ps.length : Int) = (ps.length : Int) := by simp [IntKind.wrap, IntKind.signed, IntKind.bits]; omega
    have hm1 : t.val.length + 1 ≤ maxLen := by rw [t.2]; unfold maxLen; omega
    have hm2 : (t.val.length + 1) * 1 ≤ 140737488355328 := by rw [t.2]; omega
    have z1' : q ≤ w1.drew.heap.size := by show q ≤ w1.heap.size; omega
    go_upto_region 4 with fail
    go_cut [5] (fun s5 wx => ∃ A3 c3, s5 = .slice A3 (t.val ++ [y]).length c3 ∧ Own wx q 5 1 A3 (t.val ++ [y]).length c3 ((t.val ++ [y]).map bv) ∧ Kept q [5] [] w wx ∧ Blk wx q 27 (comC t (.slice A ps.length c) au tm ms))
    case first =>
      have hqA := (hq1.alloc (.cells #[.int .u8 (ps.length : Int)] 5)).drew
      have L1b := ldId_com hqA
      have rowA : Reads (w1.alloc (.cells #[.int .u8 (ps.length : Int)] 5)).drew (w1.heap.size + 1) 1 (some ⟨w1.heap.size, 0, none⟩) 1 ([y].map bv) := Reads.drew (Reads.of_cells (n := 1) (xs := [y].map bv) (heap_alloc_new _ _) HC.out rfl)
      have kA : Kept q [5] [] w (w1.alloc (.cells #[.int .u8 (ps.length : Int)] 5)).drew := (hkw1.alloc _).drew
      have zA : w1.heap.size + 1 ≤ (w1.alloc (.cells #[.int .u8 (ps.length : Int)] 5)).drew.heap.size := by show w1.heap.size + 1 ≤ (w1.alloc _).heap.size; simp
      have zB : q ≤ (w1.alloc (.cells #[.int .u8 (ps.length : Int)] 5)).drew.heap.size := by omega
      go_region_law (first | (refine step_append_sl (by rfl) elemU8 (by rfl) (by rfl) (ho2.alloc _) (by rfl) (Reads.of_cells (n := 1) (xs := [y].map bv) (heap_alloc_new _ _) HC.out rfl) (bvs_one [y]) hm1 hm2 (Nat.le_trans hm3 (by simp)) ?_; intro A3 c3 w3 ho3 hk3; have hkw3 := ((hkw1.drew.lift hk2 z1' (by simp) (by simp)).alloc _).lift hk3 z1' (by simp) (by simp); have hq3 := hk3.blk (hq2.alloc _) (by simp) (by decide); have ho3' := ho3.mono z1') | (refine step_append_sl (by rfl) elemU8 (by rfl) (by rfl) ho2 (by rfl) hrow (bvs_one [y]) hm1 hm2 hm3 ?_; intro A3 c3 w3 ho3 hk3; have hkw3 := (kA.lift hk2 zB (by simp) (by simp)).lift hk3 zB (by simp) (by simp); have hq3 := hk3.blk hq2 (by simp) (by decide); have ho3' := ho3.mono zB) | (go_simp; go_at_call 18; refine (put_any t _ [] none 0 _ (Own.nil _ _ _ _) (by simp) (Nat.le_refl _)).mono ?_; rintro r w2 ⟨A2, c2, rfl, ho2, hk2⟩; rw [List.nil_append] at ho2; (first | (have hq2 := hk2.blk hq1.drew (by simp) (by decide)) | (have hq2 := hk2.blk hqA (by simp) (by decide); have hrow := rowA.below (hk2.below zA zA (by simp)))); have p2 := (hq2.cell 32).trans comC_at.1; have hm3 := hk2.size))
      all_goals
        have ho3'' : Own w3 q 5 1 A3 (t.val ++ [y]).length c3 ((t.val ++ [y]).map bv) := by simpa using ho3'
        go_wp2_with fail
        go_meet
        exact ⟨A3, c3, by simp, ho3'', hkw3, hq3⟩
    case rest =>
      obtain ⟨A3, c3, rfl, ho3, hk3, hq3⟩ := hcut
      clear L1 p1 hwr hm1 hm2 hkw1 hq1 HC z1'
      have hl3 : (t.val ++ [y]).length = 33 := by simp [t.2]
      have HL3 := Lib.hid hl3
      clear hl3
      generalize hb0 : t.val ++ [y] = b0 at *
      have HB0 := Lib.hid hb0
      clear hb0
      go_wp2_with fail
      go_loopw [5, 6] (fun s5 i wr => ∃ k bs A3 c3, k ≤ ps.length ∧ i = .int .i64 (k : Nat) ∧ s5 = .slice A3 bs.length c3 ∧ bs ++ (ps.drop k).flatMap (·.1) = b0 ++ ps.flatMap (·.1) ∧ Own wr q 5 1 A3 bs.length c3 (bs.map bv) ∧ Kept q [5] [] w wr ∧ Blk wr q 27 (comC t (.slice A ps.length c) au tm ms) ∧ bs.length = 33 + k * 32) (fun _ i _ => ps.length - (intOf i).toNat)
      case atStart => exact ⟨0, b0, A3, c3, Nat.zero_le _, rfl, rfl, rfl, ho3, hk3, hq3, HL3.out⟩
      case round =>
        clear ho3 hk3 hq3
        obtain ⟨k, bs, A4, c4, hk, rfl, rfl, hpre, ho, hkp, hqb, hbl⟩ := hrel
        have HE := Lib.hid hpre
        have HBL := Lib.hid hbl
        have hbl' : bs.length ≤ 33 + 8 * 32 := by omega
        clear hpre hbl
        have z := hkp.size
        have lq := hqb.lt
        by_cases hlt : k < ps.length
        · obtain ⟨x, hx⟩ : ∃ x, ps[k]? = some x := ⟨_, List.getElem?_eq_getElem hlt⟩
          have hdr : ps.drop k = x :: ps.drop (k + 1) := by rw [List.drop_eq_getElem_cons hlt]; congr 1; rw [List.getElem?_eq_getElem hlt] at hx; simpa using hx
          have hrw := hr.below (hkp.below (B := q) (Nat.le_refl _) (by omega) (by simp))
          have HE2 := Lib.hid (show (bs ++ x.1) ++ (ps.drop (k + 1)).flatMap (·.1) = b0 ++ ps.flatMap (·.1) from by rw [← HE.out, hdr]; simp)
          obtain ⟨g1, o1, rfl, _, hc1⟩ := hrw.at0 (by omega) (by omega)
          have L2 := ldId_at (w := wr) (fun j u hj => hc1 j u hj) hx
          have pv := (hqb.cell 32).trans comC_at.1
          clear hx hdr hrw hc1 HE
          have hi0 : (0 : Int) ≤ (k : Int) := Int.natCast_nonneg _
          have hi1 : (k : Int) < (ps.length : Int) := by omega
          go_wp2_with fail
          refine (put_any x q _ _ _ _ ho (by omega) (by omega)).mono ?_
          rintro r w5 ⟨A5, c5, rfl, ho5, hk5⟩
          have hq5 := hk5.blk hqb (by simp) (by decide)
          have hkw5 := hkp.trans hk5
          have hl5 : (bs ++ x.1).length = 33 + (k + 1) * 32 := by rw [List.length_append, HBL.out, x.2]; omega
          have HL5 := Lib.hid hl5
          generalize bs ++ x.1 = b5 at *
          clear hl5 hk5 pv L2 ho hkp hqb
          go_wp2_with fail
          go_roundw
          case rel => exact ⟨k + 1, b5, A5, c5, by omega, by go_num, rfl, HE2.out, ho5, hkw5, hq5, HL5.out⟩
          case measure => simp [intOf]; omega
        · have hk' : k = ps.length := by omega
          have HG := HE.out
          rw [hk', List.drop_length, List.flatMap_nil, List.append_nil] at HG
          have HG2 := Lib.hid HG
          have p8 := (hqb.cell 32).trans comC_at.1
          clear HG HE hk'
          have c33 := (hqb.cell 33).trans comC_at.2.1
          have hwa : IntKind.u64.wrap (au.size : Int) = (au.size : Int) := by simp [IntKind.wrap, IntKind.signed, IntKind.bits]; omega
          have hnum := fun W ho' h2 => num_any 2 au.size (by omega) q bs A4 c4 W ho' (by omega) h2
          obtain ⟨b6, hb6⟩ : ∃ b6, bs ++ be 2 au.size = b6 := ⟨_, rfl⟩
          simp only [hb6] at hnum
          have HN := Lib.hid hnum
          have e6 : b6.length = bs.length + 2 := by rw [← hb6, List.length_append, be_len]
          have e7 : b6.length + au.size = (b6 ++ au.data.toList).length := by rw [List.length_append, ← Lib.size_eq]
          have hm1 : b6.length + au.size ≤ maxLen := by unfold maxLen; omega
          have hm2 : b6.length + au.size ≤ 140737488355328 := by omega
          have hl7 : (b6 ++ au.data.toList).length ≤ 2000 := by omega
          have E7 := Lib.hid e7
          have HB6 := Lib.hid hb6
          clear e6 e7 hb6 hnum
          have zd : q ≤ wr.drew.heap.size := by show q ≤ wr.heap.size; omega
          go_wp2_with fail
          go_region_held3 (fun w' => w'.cell? ⟨q, 33, none⟩ = some (.string au)) (first | go_keep) (first | ((refine step_append_str (by rfl) elemU8 zeroU8 Tryz.underlying9 (by rfl) (by rfl) ho6 (by rfl) hm1 hm2 hm3 ?_); intro A7 c7 w7 ho7 hk7; have hq7 := hk7.blk hq6 (by simp) (by decide); have d7 := (hq7.cell 33).trans comC_at.2.1) | (go_simp; go_at_call 20; refine (HN.out _ ho.drew zd).mono ?_; rintro r w6 ⟨A6, c6, rfl, ho6, hk6⟩; have hq6 := hk6.blk hqb.drew (by simp) (by decide); have d6 := (hq6.cell 33).trans comC_at.2.1; have hm3 : q ≤ w6.heap.size := Nat.le_trans hqle (hkp.drew.trans hk6).size))
          rw [strCells_bv, ← List.map_append, E7.out] at ho7
          rw [E7.out]
          have hkw7 := (hkp.drew.trans hk6).trans hk7
          have z7 := hkw7.size
          generalize hb7 : b6 ++ au.data.toList = b7 at *
          have HB7 := Lib.hid hb7
          clear hb7 hk7 hk6 d7 d6 hq6 ho6 c33 hwa hm1 hm2 hm3 zd ho hkp hqb p8 E7 HN
          have c34 := (hq7.cell 34).trans comC_at.2.2.1
          have hwt : IntKind.u64.wrap tm = (timeN tm : Int) := by unfold timeN; simp [IntKind.wrap, IntKind.signed, IntKind.bits]; omega
          go_wp2_with fail
          refine (num_any 8 (timeN tm) (by omega) q b7 _ _ _ ho7 (by omega) (by omega)).mono ?_
          rintro r w8 ⟨A8, c8, rfl, ho8, hk8⟩
          have hq8 := hk8.blk hq7 (by simp) (by decide)
          have hkw8 := hkw7.trans hk8
          have z8 := hkw8.size
          have hl8 : (b7 ++ be 8 (timeN tm)).length ≤ 2008 := by rw [List.length_append, be_len]; omega
          generalize hb8 : b7 ++ be 8 (timeN tm) = b8 at *
          have HB8 := Lib.hid hb8
          clear hb8 hk8 hq7 hkw7 z7 c34 hwt ho7
          have c35 := (hq8.cell 35).trans comC_at.2.2.2
          have hwm : IntKind.u64.wrap (ms.size : Int) = (ms.size : Int) := by simp [IntKind.wrap, IntKind.signed, IntKind.bits]; omega
          have hnum := fun W ho' h2 => num_any 2 ms.size (by omega) q b8 A8 c8 W ho' (by omega) h2
          obtain ⟨b9, hb9⟩ : ∃ b9, b8 ++ be 2 ms.size = b9 := ⟨_, rfl⟩
          simp only [hb9] at hnum
          have HN := Lib.hid hnum
          have e9 : b9.length = b8.length + 2 := by rw [← hb9, List.length_append, be_len]
          have e10 : b9.length + ms.size = (b9 ++ ms.data.toList).length := by rw [List.length_append, ← Lib.size_eq]
          have hm1 : b9.length + ms.size ≤ maxLen := by unfold maxLen; omega
          have hm2 : b9.length + ms.size ≤ 140737488355328 := by omega
          have E10 := Lib.hid e10
          have HB9 := Lib.hid hb9
          clear e9 e10 hb9 hnum
          have zd : q ≤ w8.drew.heap.size := by show q ≤ w8.heap.size; omega
          go_wp2_with fail
          go_region_held3 (fun w' => w'.cell? ⟨q, 35, none⟩ = some (.string ms)) (first | go_keep) (first | ((refine step_append_str (by rfl) elemU8 zeroU8 Tryz.underlying9 (by rfl) (by rfl) ho9 (by rfl) hm1 hm2 hm3 ?_); intro A10 c10 w10 ho10 hk10; have hq10 := hk10.blk hq9 (by simp) (by decide); have d10 := (hq10.cell 35).trans comC_at.2.2.2) | (go_simp; go_at_call 20; refine (HN.out _ ho8.drew zd).mono ?_; rintro r w9 ⟨A9, c9, rfl, ho9, hk9⟩; have hq9 := hk9.blk hq8.drew (by simp) (by decide); have d9 := (hq9.cell 35).trans comC_at.2.2.2; have hm3 : q ≤ w9.heap.size := Nat.le_trans hqle (hkw8.drew.trans hk9).size))
          rw [strCells_bv, ← List.map_append, E10.out] at ho10
          have hkw10 := (hkw8.drew.trans hk9).trans hk10
          go_wp2_with fail
          go_ret2
          have hfin : encCommit ⟨t, ps, au, tm, ms⟩ = (b9 ++ ms.data.toList, 0) := by rw [HE.out, ← HB9.out, ← HB8.out, ← HB7.out, ← HB6.out, HG2.out, ← HB0.out]
          have hw2 : Kept w.heap.size [5] [] w w10 := by rw [HQ.out]; exact hkw10
          refine ⟨A10, c10, ?_, ?_, hw2.all⟩
          · rw [hfin, ← E10.out]; rfl
          · rw [hfin, HQ.out]; exact ho10
  · have h01 : (e != 0) = true := by simpa using h0
    have HE := Lib.hid ((HBAD.out (by rw [he]; exact h0)).trans (by rw [he]))
    clear he HZ HEN HBAD h0
    go_wp2_with fail
    go_ret2
    have hw2 : Kept w.heap.size [5] [] w w1 := by rw [HQ.out]; exact hkw1
    refine ⟨none, 0, ?_, ?_, hw2.all⟩
    · rw [HE.out]; rfl
    · rw [HE.out]; exact Own.nil _ _ _ _
end Go.Proofs.YtppmolneklidfaaGreat
