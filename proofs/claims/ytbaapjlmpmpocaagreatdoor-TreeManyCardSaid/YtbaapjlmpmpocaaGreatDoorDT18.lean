/- Plain and memory: the entries of directories. No statement of the seat is proved here. -/
import Derived.Test.YtbaapjlmpmpocaaGreatDoorDT17
import Derived.Test.YtbaapjlmpmpocaaGreatDoorDT05
import Derived.Lib.LastIndexByte
namespace Go.Proofs.YtbaapjlmpmpocaaGreatDoor
open Go.RowKit
def VarM (w : World) : Prop := ∃ m, w.cell? ⟨0, 0, none⟩ = some (.int .i64 m)
theorem VarM.below {w w' : World} {B : Nat} (h : VarM w) (hb : Below B w w') (hB : 0 < B) : VarM w' := by
 obtain ⟨m, h⟩ := h
 exact ⟨m, (hb.cell (by exact hB)).trans h⟩
theorem VarM.pos {w : World} (h : VarM w) : 0 < w.heap.size := by
 obtain ⟨m, h⟩ := h
 have := World.block_lt_of_cell? w _ h
 exact this
theorem names_cells (p : Pth) : ((Lib.splitB ⟨#[47]⟩ 0 (Lib.countB ⟨p.toArray⟩ ⟨#[47]⟩) ⟨p.toArray⟩).map Value.string) = strL (nmP p) ∧ Lib.countB ⟨p.toArray⟩ ⟨#[47]⟩ + 1 = (nmP p).length := by
 have h1 : Lib.countB ⟨p.toArray⟩ ⟨#[47]⟩ = p.count 47 := Lib.count_one 47 p
 have h2 : (Lib.splitB ⟨#[47]⟩ 0 (Lib.countB ⟨p.toArray⟩ ⟨#[47]⟩) ⟨p.toArray⟩).map (·.data.toList) = nmP p := by
  rw [Lib.splitB_data, h1]
  exact splitK_names p.length p (Nat.le_refl _)
 have h3 : ∀ l : List ByteArray, l.map Value.string = strL (l.map (·.data.toList)) := fun l => by
  simp [strL, strC]
 refine ⟨by rw [h3, h2], ?_⟩
 rw [← h2, List.length_map, Lib.splitB_all ⟨#[47]⟩ (by decide) 0 _ _ rfl]
theorem nmFrom_len : ∀ (b cur : Pth), (nmFrom cur b).length ≤ b.length + 1 ∧ ∀ s ∈ nmFrom cur b, s.length ≤ cur.length + b.length
 | [], cur => by simp [nmFrom]
 | x :: b, cur => by
  unfold nmFrom
  split
  · obtain ⟨h1, h2⟩ := nmFrom_len b []
    refine ⟨by simp; omega, fun s hs => ?_⟩
    rcases List.mem_cons.1 hs with rfl | hs
    · simp
    · have := h2 s hs
      simp at this ⊢
      omega
  · obtain ⟨h1, h2⟩ := nmFrom_len b (cur ++ [x])
    refine ⟨by simp; omega, fun s hs => ?_⟩
    have := h2 s hs
    simp at this ⊢
    omega
theorem nmP_len (p : Pth) : (nmP p).length ≤ p.length + 1 ∧ ∀ s ∈ nmP p, s.length ≤ p.length := by
 have := nmFrom_len p []
 simpa [nmP] using this
set_option maxRecDepth 100000 in
theorem names_any (p : Pth) (w : World) (hl : p.length ≤ 1000000) (hv : VarM w) :
    Calls Tryz.prog 42 #[strC p, .string ⟨#[47]⟩] w fun e w' => ∃ c, e = .returned (.slice (some ⟨w.heap.size, 0, none⟩) (nmP p).length c) ∧ Reads w' w'.heap.size 1 (some ⟨w.heap.size, 0, none⟩) (nmP p).length (strL (nmP p)) ∧ Below w.heap.size w w' := by
 obtain ⟨m, hm⟩ := hv
 have hsz : (⟨p.toArray⟩ : ByteArray).size = p.length := by simp [ByteArray.size]
 have h := Tryz.strings_Split ⟨p.toArray⟩ ⟨#[47]⟩ m w (by rw [hsz]; omega) hm (by decide)
 obtain ⟨e1, e2⟩ := names_cells p
 rw [e1, e2] at h
 refine Calls.mono h ?_
 rintro e w' ⟨rfl, rfl⟩
 refine ⟨_, rfl, ?_, (Below.refl _ _).alloc (Nat.le_refl _) _⟩
 have := Reads.of_blk (w := w.alloc (.cells (strL (nmP p)).toArray 9)) (n := (nmP p).length) (size := 1) (xs := strL (nmP p)) (heap_alloc_new _ _) rfl (by simp [strL])
 exact this.more (by simp)
set_option maxHeartbeats 1000000 in
set_option maxRecDepth 100000 in
theorem notName_any (s : List UInt8) (w : World) :
    Calls Tryz.prog 44 #[strC s] w fun e w' => e = .returned (.bool (!nameOk s)) ∧ Below w.heap.size w w' := by
 have HQ := Lib.hid (show Calls Tryz.prog 45 #[strC s] w (fun e w' => e = .returned (.bool (nameOk s)) ∧ Below w.heap.size w w') from name_any ⟨s.toArray⟩ w)
 unfold strC at HQ
 unfold strC
 generalize nameOk s = b at *
 go_enter Tryz.func44, Tryz.ntmps44
 go_wp2_with (go_at_call 45; refine HQ.out.mono ?_)
 rintro _ w1 ⟨rfl, b1⟩
 go_wp2_with fail
 go_ret
 exact ⟨rfl, b1⟩
def badNm : List (List UInt8) → Option Nat
 | [] => none
 | s :: l => if nameOk s = true then (badNm l).map (· + 1) else some 0
theorem badNm_none {l : List (List UInt8)} (h : ∀ (k : Nat) (s : List UInt8), l[k]? = some s → nameOk s = true) : badNm l = none := by
 induction l with
 | nil => rfl
 | cons x l ih =>
  unfold badNm
  rw [if_pos (h 0 x rfl), ih (fun k s hs => h (k + 1) s hs)]
  rfl
theorem badNm_some {l : List (List UInt8)} : ∀ {k : Nat} {s : List UInt8}, (∀ (j : Nat) (t : List UInt8), j < k → l[j]? = some t → nameOk t = true) → l[k]? = some s → nameOk s = false → badNm l = some k := by
 induction l with
 | nil => intro k s _ h; simp at h
 | cons x l ih =>
  intro k s h1 h2 h3
  unfold badNm
  cases k with
  | zero =>
   simp at h2
   subst h2
   simp [h3]
  | succ k =>
   rw [if_pos (h1 0 x (by omega) rfl), ih (k := k) (s := s) (fun j t hj ht => h1 (j + 1) t (by omega) ht) (by simpa using h2) h3]
   rfl
def badNI (l : List (List UInt8)) : Int := match badNm l with | some k => k | none => -1
theorem badNI_ge (l : List (List UInt8)) : decide (0 ≤ badNI l) = l.any (fun s => !nameOk s) := by
 have : (badNm l).isSome = l.any (fun s => !nameOk s) := by
  induction l with
  | nil => rfl
  | cons x l ih =>
   unfold badNm
   cases hx : nameOk x
   · simp [hx]
   · simp [hx, ih]
 rw [← this]
 unfold badNI
 cases badNm l with
 | none => rfl
 | some k => simp
set_option maxHeartbeats 1000000 in
set_option maxRecDepth 100000 in
theorem idxNames_any (l : List (List UInt8)) (A : Option Addr) (c B : Nat) (w : World) (hB : B ≤ w.heap.size) (hr : Reads w B 1 A l.length (strL l)) (hl : l.length ≤ 10000000) :
    Calls Tryz.prog 66 #[.slice A l.length c, .func (.func 44) #[] #[]] w fun r w' => r = .returned (.int .i64 (badNI l)) ∧ Below w.heap.size w w' := by
 have HR := Lib.hid (show ∀ W, Below w.heap.size w W → Reads W B 1 A l.length (strL l) from fun W k => hr.below (k.mono hB))
 clear hr
 go_enter Tryz.func66, Tryz.ntmps66
 go_wp2_with fail
 go_loopw [8] (fun i wr => ∃ k : Nat, k ≤ l.length ∧ i = .int .i64 k ∧ Hid (Below w.heap.size w wr) ∧ Hid (∀ (j : Nat) (t : List UInt8), j < k → l[j]? = some t → nameOk t = true)) (fun i _ => l.length - (intOf i).toNat)
 case atStart => exact ⟨0, Nat.zero_le _, rfl, Lib.hid (Below.refl _ _), Lib.hid fun j t h => absurd h (by omega)⟩
 case round =>
  obtain ⟨k, hk, rfl, HB, HALL⟩ := hrel
  by_cases hlt : k < l.length
  · obtain ⟨x, hx⟩ : ∃ x, l[k]? = some x := ⟨_, List.getElem?_eq_getElem hlt⟩
    obtain ⟨g1, o1, rfl, _, hc1⟩ := (HR.out _ HB.out).at0 (by omega) (by omega)
    have d1 := hc1 _ _ (strL_at' hx)
    have HX := Lib.hid hx
    have HQ := Lib.hid (notName_any x wr)
    unfold strC at d1 HQ
    have hi0 : (0 : Int) ≤ (k : Int) := Int.natCast_nonneg _
    have hi1 : (k : Int) < (l.length : Int) := by omega
    have hz := HB.out.size
    clear hc1 hx
    cases hp : nameOk x
    · have HP := Lib.hid hp
      rw [hp] at HQ
      clear hp
      go_wp2_with (go_at_call 44; refine HQ.out.mono ?_)
      rintro _ w1 ⟨rfl, b1⟩
      go_wp2_with fail
      go_ret
      exact ⟨by unfold badNI; rw [badNm_some HALL.out HX.out HP.out]; rfl, HB.out.trans (b1.mono hz)⟩
    · have HP := Lib.hid hp
      rw [hp] at HQ
      clear hp
      go_wp2_with (go_at_call 44; refine HQ.out.mono ?_)
      rintro _ w1 ⟨rfl, b1⟩
      have HB1 := Lib.hid (HB.out.trans (b1.mono hz))
      clear b1
      go_wp2_with fail
      go_roundw
      case rel =>
       refine ⟨k + 1, by omega, by go_num, HB1, Lib.hid fun j t hj ht => ?_⟩
       rcases Nat.lt_or_ge j k with q | q
       · exact HALL.out j t q ht
       · obtain rfl : j = k := by omega
         rw [HX.out] at ht
         injection ht with ht
         subst ht
         exact HP.out
      case measure => simp [intOf]; omega
  · obtain rfl : k = l.length := by omega
    go_wp2_with fail
    go_ret
    refine ⟨?_, HB.out⟩
    unfold badNI
    rw [badNm_none (fun j t ht => HALL.out j t (List.getElem?_eq_some_iff.1 ht).1 ht)]
    rfl
set_option maxHeartbeats 1000000 in
set_option maxRecDepth 100000 in
theorem anyName_any (l : List (List UInt8)) (A : Option Addr) (c B : Nat) (w : World) (hB : B ≤ w.heap.size) (hr : Reads w B 1 A l.length (strL l)) (hl : l.length ≤ 10000000) :
    Calls Tryz.prog 43 #[.slice A l.length c, .func (.func 44) #[] #[]] w fun r w' => r = .returned (.bool (l.any (fun s => !nameOk s))) ∧ Below w.heap.size w w' := by
 have HQ := Lib.hid (idxNames_any l A c B w hB hr hl)
 rw [← badNI_ge]
 generalize badNI l = n at *
 clear hr
 go_enter Tryz.func43, Tryz.ntmps43
 go_wp2_with (go_at_call 66; refine HQ.out.mono ?_)
 rintro _ w1 ⟨rfl, b1⟩
 go_wp2_with fail
 go_ret
 exact ⟨rfl, b1⟩
end Go.Proofs.YtbaapjlmpmpocaaGreatDoor
namespace Go.Proofs.YtbaapjlmpmpocaaGreatDoor
open Go.RowKit
theorem fileE_eq (f : FileD) : fileE f = if (f.k != 1) = true ∧ (f.k != 2) = true ∧ (f.k != 3) = true then 3 else if decide (8 < (nmP f.p).length) = true ∨ (nmP f.p).any (fun s => !nameOk s) = true then 7 else if decide (65536 < f.d.length) = true then 5 else 0 := by
 unfold fileE
 simp
set_option maxHeartbeats 2000000 in
set_option maxRecDepth 100000 in
theorem file_any (f : FileD) (A : Option Addr) (c : Nat) (w : World) (hl : f.p.length ≤ 1000000) (hv : VarM w) :
    Calls Tryz.prog 20 #[.agg (fileC f A c)] w fun e w' => e = .returned (.int .i64 (fileE f : Nat)) ∧ Below w.heap.size w w' := by
 obtain ⟨E, hE⟩ : ∃ E, fileE f = E := ⟨_, rfl⟩
 have HE := Lib.hid (fileE_eq f)
 rw [hE] at HE
 rw [hE]
 clear hE
 obtain ⟨p, k, d⟩ := f
 simp only at hl HE ⊢
 have HN := Lib.hid (fun W (kW : Below w.heap.size w W) => names_any p W hl (hv.below kW hv.pos))
 obtain ⟨hnl, _⟩ := nmP_len p
 have HA := Lib.hid (fun (A : Option Addr) (c : Nat) (W : World) (hr : Reads W W.heap.size 1 A (nmP p).length (strL (nmP p))) => anyName_any (nmP p) A c W.heap.size W (Nat.le_refl _) hr (by omega))
 unfold strC at HN
 generalize (nmP p).any (fun s => !nameOk s) = ba at *
 generalize nmP p = ns at *
 unfold fileC strC
 simp only
 have hq : (w.alloc (.cells #[.string ⟨p.toArray⟩, .int .i64 k, .slice A d.length c] 27)).heap.size = w.heap.size + 1 := by simp
 go_enter Tryz.func20, Tryz.ntmps20
 go_wp2_with (go_at_call 42; refine (HN.out _ ((Below.refl _ _).alloc (Nat.le_refl _) _)).mono ?_)
 rintro _ w1 ⟨c1, rfl, r1, b1⟩
 have HX := Lib.hid (show Blk w1 w.heap.size 27 #[.string ⟨p.toArray⟩, .int .i64 k, .slice A d.length c] from Blk.below (heap_alloc_new _ _) b1 (by simp))
 have HB := Lib.hid (show Below w.heap.size w w1 from ((Below.refl w.heap.size w).alloc (Nat.le_refl _) (.cells #[.string ⟨p.toArray⟩, .int .i64 k, .slice A d.length c] 27)).trans (b1.mono (by simp)))
 have HR := Lib.hid r1
 clear r1 b1 hq
 generalize w.alloc (.cells #[.string ⟨p.toArray⟩, .int .i64 k, .slice A d.length c] 27) = wa at *
 have d1 := HX.out.cell 1
 have d2 := HX.out.cell 2
 simp at d1 d2
 have HAN := Lib.hid (fun W (kW : Below w1.heap.size w1 W) => HA.out (some ⟨wa.heap.size, 0, none⟩) c1 W ((HR.out.below kW).more kW.size))
 clear HN HA
 generalize h1 : (k != 1) = x1 at *
 generalize h2 : (k != 2) = x2 at *
 generalize h3 : (k != 3) = x3 at *
 have hw : x1 = true ∧ x2 = true ∧ x3 = true ∨ (x1 = false ∨ x1 = true ∧ x2 = false ∨ x1 = true ∧ x2 = true ∧ x3 = false) := by
  cases x1 <;> cases x2 <;> cases x3 <;> simp
 rcases hw with ⟨rfl, rfl, rfl⟩ | hw
 · have HE1 := Lib.hid (show E = 3 from by rw [HE.out, if_pos ⟨rfl, rfl, rfl⟩])
   clear HE
   go_wp2_with fail
   go_ret
   exact ⟨by rw [HE1.out]; rfl, HB.out⟩
 · have HE1 := Lib.hid (show E = if decide (8 < ns.length) = true ∨ ba = true then 7 else if decide (65536 < d.length) = true then 5 else 0 from by
    rw [HE.out, if_neg]
    rcases hw with e | ⟨_, e⟩ | ⟨_, _, e⟩ <;> simp [e])
   clear HE
   by_cases hn : 8 < ns.length
   · have HE2 := Lib.hid (show E = 7 from by rw [HE1.out, if_pos (.inl (decide_eq_true hn))])
     clear HE1
     have g1 : decide ((8 : Int) < (ns.length : Int)) = true := decide_eq_true (by omega)
     have g2 : decide (8 < ns.length) = true := decide_eq_true hn
     rcases hw with rfl | ⟨rfl, rfl⟩ | ⟨rfl, rfl, rfl⟩
     all_goals
      go_wp2_with fail
      go_ret
      exact ⟨by rw [HE2.out]; rfl, HB.out⟩
   · have g1 : decide ((8 : Int) < (ns.length : Int)) = false := decide_eq_false (by omega)
     have g2 : decide (8 < ns.length) = false := decide_eq_false hn
     cases ba with
     | true =>
      have HE2 := Lib.hid (show E = 7 from by rw [HE1.out, if_pos (.inr rfl)])
      clear HE1
      rcases hw with rfl | ⟨rfl, rfl⟩ | ⟨rfl, rfl, rfl⟩
      all_goals
       go_wp2_with (go_at_call 43; refine (HAN.out _ (Below.refl _ _)).mono ?_)
       rintro _ w2 ⟨rfl, b2⟩
       have HB2 := Lib.hid (HB.out.trans (b2.mono HB.out.size))
       clear b2
       go_wp2_with fail
       go_ret
       exact ⟨by rw [HE2.out]; rfl, HB2.out⟩
     | false =>
      have HE2 := Lib.hid (show E = if decide (65536 < d.length) = true then 5 else 0 from by rw [HE1.out, if_neg (by rw [g2]; simp)])
      clear HE1
      by_cases hd : 65536 < d.length
      · have HE3 := Lib.hid (show E = 5 from by rw [HE2.out, if_pos (decide_eq_true hd)])
        have g3 : decide ((65536 : Int) < (d.length : Int)) = true := decide_eq_true (by omega)
        have g4 : decide (65536 < d.length) = true := decide_eq_true hd
        clear HE2
        rcases hw with rfl | ⟨rfl, rfl⟩ | ⟨rfl, rfl, rfl⟩
        all_goals
         go_wp2_with (go_at_call 43; refine (HAN.out _ (Below.refl _ _)).mono ?_)
         rintro _ w2 ⟨rfl, b2⟩
         have HB2 := Lib.hid (HB.out.trans (b2.mono HB.out.size))
         have d3 := (Blk.below HX.out b2 HX.out.lt).cell 2
         simp at d3
         clear b2
         go_wp2_with fail
         go_ret
         exact ⟨by rw [HE3.out]; rfl, HB2.out⟩
      · have HE3 := Lib.hid (show E = 0 from by rw [HE2.out, if_neg (by simpa using hd)])
        have g3 : decide ((65536 : Int) < (d.length : Int)) = false := decide_eq_false (by omega)
        have g4 : decide (65536 < d.length) = false := decide_eq_false hd
        clear HE2
        rcases hw with rfl | ⟨rfl, rfl⟩ | ⟨rfl, rfl, rfl⟩
        all_goals
         go_wp2_with (go_at_call 43; refine (HAN.out _ (Below.refl _ _)).mono ?_)
         rintro _ w2 ⟨rfl, b2⟩
         have HB2 := Lib.hid (HB.out.trans (b2.mono HB.out.size))
         have d3 := (Blk.below HX.out b2 HX.out.lt).cell 2
         simp at d3
         clear b2
         go_wp2_with fail
         go_ret
         exact ⟨by rw [HE3.out]; rfl, HB2.out⟩
end Go.Proofs.YtbaapjlmpmpocaaGreatDoor
namespace Go.Proofs.YtbaapjlmpmpocaaGreatDoor
open Go.RowKit Go.Maps
theorem last_none {s : Pth} (h : (47 : UInt8) ∉ s) : lastN s = s ∧ parN s = [] := by
 have hall : ∀ x ∈ s.reverse, (x != 47) = true := fun x hx => by
  rw [bne_iff_ne]
  rintro rfl
  exact h (List.mem_reverse.1 hx)
 have h1 : s.reverse.takeWhile (fun x => x != 47) = s.reverse := by
  have := List.takeWhile_append_of_pos (l₂ := []) hall
  simpa using this
 have h2 : s.reverse.dropWhile (fun x => x != 47) = [] := by
  have := List.dropWhile_append_of_pos (l₂ := []) hall
  simpa using this
 unfold lastN parN
 rw [h1, h2]
 simp
theorem last_at {p q : Pth} (h : (47 : UInt8) ∉ q) : lastN (p ++ 47 :: q) = q ∧ parN (p ++ 47 :: q) = p := by
 have hall : ∀ x ∈ q.reverse, (x != 47) = true := fun x hx => by
  rw [bne_iff_ne]
  rintro rfl
  exact h (List.mem_reverse.1 hx)
 have hr : (p ++ 47 :: q).reverse = q.reverse ++ 47 :: p.reverse := by simp
 unfold lastN parN
 rw [hr, List.takeWhile_append_of_pos hall, List.dropWhile_append_of_pos hall]
 simp
theorem lastIdx_at (s : Pth) : ((47 : UInt8) ∉ s ∧ Lib.lastIndexByte ⟨s.toArray⟩ 47 = -1) ∨ ∃ p q : Pth, s = p ++ 47 :: q ∧ (47 : UInt8) ∉ q ∧ Lib.lastIndexByte ⟨s.toArray⟩ 47 = (p.length : Int) := by
 have hget : ∀ j, j < s.length → (⟨s.toArray⟩ : ByteArray).data[j]! = s[j]! := fun j hj => by simp [hj]
 rcases Lib.lastIndexByte_spec ⟨s.toArray⟩ 47 with ⟨h1, h2⟩ | ⟨i, hi, h1, h2, h3⟩
 · refine .inl ⟨fun hm => ?_, h1⟩
   obtain ⟨j, hj, hx⟩ := List.mem_iff_getElem.1 hm
   refine h2 j (by simpa [ByteArray.size] using hj) ?_
   rw [hget j hj, getElem!_pos s j hj, hx]
   rfl
 · have hi' : i < s.length := by simpa [ByteArray.size] using hi
   have hsi : s[i] = 47 := by
    rw [hget i hi', getElem!_pos s i hi'] at h2
    apply UInt8.toNat_inj.1
    show s[i].toNat = 47
    omega
   refine .inr ⟨s.take i, s.drop (i + 1), ?_, fun hm => ?_, by rw [h1, List.length_take, Nat.min_eq_left (by omega)]⟩
   · conv => lhs; rw [← List.take_append_drop i s]
     rw [List.drop_eq_getElem_cons hi', hsi]
   · obtain ⟨j, hj, hx⟩ := List.mem_iff_getElem.1 hm
     rw [List.length_drop] at hj
     rw [List.getElem_drop] at hx
     refine h3 (i + 1 + j) (by omega) (by simp [ByteArray.size]; omega) ?_
     rw [hget _ (by omega), getElem!_pos s _ (by omega), hx]
     rfl
end Go.Proofs.YtbaapjlmpmpocaaGreatDoor
