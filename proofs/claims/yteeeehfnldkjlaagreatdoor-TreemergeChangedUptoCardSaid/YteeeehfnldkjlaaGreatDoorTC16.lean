/- Plain: one file, at one path on all sides, or moved by one. No statement of the seat is proved here. -/
import Derived.Test.YteeeehfnldkjlaaGreatDoorTC14
import Derived.Test.YteeeehfnldkjlaaGreatDoorTC13
import Derived.BigRegion
import Derived.Test.YteeeehfnldkjlaaGreatDoorTC15
namespace Go.Proofs.YteeeehfnldkjlaaGreatDoor
def goodF (f : FileD) : FileD := ⟨f.p, 1 + (IntKind.i64.wrap (f.k - 1)) % 3, f.d.take 2000⟩
def belowB (p up : Pth) : Bool := (dirsP p).contains up
def fitsG (out : List FileD) (f : FileD) : Bool := out.all fun g => g.p != f.p && !belowB g.p f.p && !belowB f.p g.p
def insG (f : FileD) : List FileD → List FileD
 | [] => [f]
 | g :: l => if g.p < f.p then g :: insG f l else f :: g :: l
def goodStep (out : List FileD) (f : FileD) : List FileD := if fileE (goodF f) ≠ 0 then out else if fitsG out (goodF f) = true then insG (goodF f) out else out
def goodP (l : List FileD) : List FileD := (l.take 40).foldl goodStep []
theorem mem_insG {f g : FileD} : ∀ {l : List FileD}, g ∈ insG f l ↔ g = f ∨ g ∈ l
 | [] => by simp [insG]
 | x :: l => by
  unfold insG
  split
  · rw [List.mem_cons, List.mem_cons, mem_insG (l := l)]
    constructor
    · rintro (h | h | h)
      · exact .inr (.inl h)
      · exact .inl h
      · exact .inr (.inr h)
    · rintro (h | h | h)
      · exact .inr (.inl h)
      · exact .inl h
      · exact .inr (.inr h)
  · rw [List.mem_cons]
theorem insG_len (f : FileD) : ∀ l : List FileD, (insG f l).length = l.length + 1
 | [] => rfl
 | x :: l => by
  unfold insG
  split
  · rw [List.length_cons, insG_len f l, List.length_cons]
  · rfl
theorem insG_rise {f : FileD} : ∀ {l : List FileD}, RiseP (l.map (·.p)) → (∀ g ∈ l, g.p ≠ f.p) → RiseP ((insG f l).map (·.p))
 | [], _, _ => by simp [insG, RiseP]
 | x :: l, h, hn => by
  unfold RiseP at h ⊢
  rw [List.map_cons, List.pairwise_cons] at h
  unfold insG
  split
  · rename_i hl
    rw [List.map_cons, List.pairwise_cons]
    refine ⟨fun y hy => ?_, insG_rise h.2 fun g hg => hn g (List.mem_cons_of_mem _ hg)⟩
    obtain ⟨g, hg, rfl⟩ := List.mem_map.1 hy
    rcases mem_insG.1 hg with rfl | hg
    · exact hl
    · exact h.1 _ (List.mem_map.2 ⟨g, hg, rfl⟩)
  · rename_i hl
    have hfx : f.p < x.p := by
     rcases pth_tri f.p x.p with q | q | q
     · exact q
     · exact absurd q.symm (hn x (List.mem_cons_self ..))
     · exact absurd q hl
    rw [List.map_cons, List.map_cons, List.pairwise_cons, List.pairwise_cons]
    refine ⟨fun y hy => ?_, h.1, h.2⟩
    rcases List.mem_cons.1 hy with rfl | hy
    · exact hfx
    · exact pth_trans hfx (h.1 y hy)
structure GoodT (l : List FileD) : Prop where
 tree : TreeOk l
 data : ∀ f ∈ l, f.d.length ≤ 2000
theorem GoodT.nil_ : GoodT [] := ⟨⟨fun _ h => (by cases h), List.Pairwise.nil, fun _ h => (by cases h)⟩, fun _ h => (by cases h)⟩
theorem dirs_self (p : Pth) : p ∉ dirsP p := fun h => List.lt_irrefl _ (dirsP_lt h)
theorem GoodT.step {out : List FileD} (h : GoodT out) (f : FileD) : GoodT (goodStep out f) := by
 unfold goodStep
 split
 · exact h
 · rename_i h0
   split
   · rename_i hf
     unfold fitsG at hf
     rw [List.all_eq_true] at hf
     have hf' : ∀ g ∈ out, g.p ≠ (goodF f).p ∧ (goodF f).p ∉ dirsP g.p ∧ g.p ∉ dirsP (goodF f).p := fun g hg => by
      have := hf g hg
      simp only [Bool.and_eq_true, bne_iff_ne, Bool.not_eq_true', belowB, List.contains_eq_mem, decide_eq_false_iff_not] at this
      exact ⟨this.1.1, this.1.2, this.2⟩
     refine ⟨⟨fun g hg => ?_, insG_rise h.tree.rise fun g hg => (hf' g hg).1, fun g hg k hk => ?_⟩, fun g hg => ?_⟩
     · rcases mem_insG.1 hg with rfl | hg
       · exact Decidable.not_not.1 h0
       · exact h.tree.file g hg
     · rcases mem_insG.1 hg with rfl | hg
       · rcases mem_insG.1 hk with rfl | hk
         · exact dirs_self _
         · exact (hf' k hk).2.2
       · rcases mem_insG.1 hk with rfl | hk
         · exact (hf' g hg).2.1
         · exact h.tree.apart g hg k hk
     · rcases mem_insG.1 hg with rfl | hg
       · unfold goodF; simp only [List.length_take]; omega
       · exact h.data g hg
   · exact h
theorem good_fold : ∀ (l out : List FileD), GoodT out → GoodT (l.foldl goodStep out) ∧ (l.foldl goodStep out).length ≤ out.length + l.length
 | [], out, h => ⟨h, by simp⟩
 | f :: l, out, h => by
  have hs : (goodStep out f).length ≤ out.length + 1 := by
   unfold goodStep
   split
   · omega
   · split
     · rw [insG_len]; omega
     · omega
  obtain ⟨h1, h2⟩ := good_fold l _ (h.step f)
  refine ⟨h1, ?_⟩
  rw [List.foldl_cons, List.length_cons]
  omega
theorem goodP_good (l : List FileD) : GoodT (goodP l) ∧ (goodP l).length ≤ 40 := by
 obtain ⟨h1, h2⟩ := good_fold (l.take 40) [] GoodT.nil_
 refine ⟨h1, ?_⟩
 unfold goodP
 rw [List.length_nil, Nat.zero_add, List.length_take] at h2
 omega
theorem crowd_small {l : List FileD} (h : TreeOk l) (hl : l.length ≤ 64) : crowdP l = false := by
 unfold crowdP
 rw [List.any_eq_false]
 intro e _ q
 simp only [decide_eq_true_eq] at q
 unfold namesOf at q
 have h1 := keysP_len (((entsP l).filter fun x => x.1 == e.1).map (·.2))
 have h2 := List.length_filter_le (fun x => x.1 == e.1) (entsP l)
 have h3 := entsP_len h.file
 rw [List.length_map] at h1
 omega
theorem good_check {l : List FileD} (h : GoodT l) (hl : l.length ≤ 64) : checkT l = 0 := checkT_of h.tree (by omega) (crowd_small h.tree hl)
end Go.Proofs.YteeeehfnldkjlaaGreatDoor
namespace Go.Proofs.YteeeehfnldkjlaaGreatDoor
open Go.RowKit
theorem belowB_iff (p up : Pth) : belowB p up = (decide (up.length < p.length) && (p.take up.length == up && p[up.length]? == some 47)) := by
 unfold belowB
 rw [List.contains_eq_mem, Bool.eq_iff_iff]
 simp only [decide_eq_true_eq, Bool.and_eq_true, beq_iff_eq]
 rw [mem_dirsP]
 constructor
 · rintro ⟨q, rfl⟩
   simp
 · rintro ⟨h1, h2, h3⟩
   refine ⟨p.drop (up.length + 1), ?_⟩
   conv => lhs; rw [← List.take_append_drop up.length p, h2, List.drop_eq_getElem?_toList_append, h3]
   rfl
set_option maxHeartbeats 4000000 in
set_option maxRecDepth 100000 in
theorem rbelow_any (p up : Pth) (w : World) : Calls Tryz.prog 24 #[strC p, strC up] w fun e w' => e = .returned (.bool (belowB p up)) ∧ w = w' := by
 rw [belowB_iff]
 have hsz : (⟨p.toArray⟩ : ByteArray).size = p.length := by simp [ByteArray.size]
 have hE := ext_seg p 0 up.length
 rw [Nat.sub_zero, List.drop_zero] at hE
 unfold strC
 by_cases h1 : up.length < p.length
 · obtain ⟨x, hx⟩ : ∃ x, p[up.length]? = some x := ⟨_, List.getElem?_eq_getElem h1⟩
   have hx1 : p[up.length] = x := by
    have := List.getElem?_eq_getElem h1
    rw [hx] at this
    exact (Option.some.inj this).symm
   have hb : ((⟨p.toArray⟩ : ByteArray)[up.length]'(by rw [hsz]; exact h1)) = x := hx1
   have h2 : (up.length : Int) < (p.length : Int) := by omega
   have h3 : (up.length : Int) ≤ (p.length : Int) := by omega
   rw [hx]
   have hx47 : (some x == some (47 : UInt8)) = ((x.toNat : Int) == 47) := by
    rw [Bool.eq_iff_iff]
    simp only [beq_iff_eq, Option.some.injEq]
    constructor
    · rintro rfl; rfl
    · intro e; apply UInt8.toNat_inj.1; show x.toNat = 47; omega
   rw [hx47, decide_eq_true h1, Bool.true_and]
   clear hx hx1 hx47
   go_enter Tryz.func24, Tryz.ntmps24
   go_wp2_with fail
   · rename_i h4
     go_ret
     exact ⟨by rw [h4]; simp, rfl⟩
   · rename_i h4
     go_ret
     exact ⟨by rw [beq_eq_false_iff_ne.2 h4]; rfl, rfl⟩
 · have h2 : ¬ (up.length : Int) < (p.length : Int) := by omega
   rw [decide_eq_false h1, Bool.false_and]
   go_enter Tryz.func24, Tryz.ntmps24
   go_wp2_with fail
   go_ret
   exact ⟨rfl, rfl⟩
theorem tmod_emod (k n : Int) (hn : 0 < n) : k % n = if k.tmod n < 0 then k.tmod n + n else k.tmod n := by
 have h1 : k % n = (k.tmod n) % n := by
  conv => lhs; rw [← Int.tmod_add_mul_tdiv k n]
  exact Int.add_mul_emod_self_left _ _ _
 have h2 := Int.tmod_lt_of_pos k hn
 have h3 := Int.lt_tmod_of_pos k hn
 rw [h1]
 split
 · rw [← Int.add_emod_right]
   exact Int.emod_eq_of_lt (by omega) (by omega)
 · exact Int.emod_eq_of_lt (by omega) h2
set_option maxHeartbeats 1000000 in
set_option maxRecDepth 100000 in
theorem within15_any (k n : Int) (w : World) (hn : 0 < n) (hb : n ≤ 1000000) : Calls Tryz.prog 54 #[.int .i64 k, .int .i64 n] w fun e w' => e = .returned (.int .i64 (k % n)) ∧ w = w' := by
 have h2 := Int.tmod_lt_of_pos k hn
 have h3 := Int.lt_tmod_of_pos k hn
 have HE := Lib.hid (tmod_emod k n hn)
 have hn0 : (n == 0) = false := beq_eq_false_iff_ne.2 (by omega)
 have hn1 : (n == -1) = false := beq_eq_false_iff_ne.2 (by omega)
 have hn2 : n ≠ 0 := by omega
 have hn3 : n ≠ -1 := by omega
 generalize k % n = v at *
 go_enter Tryz.func54, Tryz.ntmps54
 go_wp2_with fail
 · rename_i h4
   go_ret
   exact ⟨by rw [HE.out, if_pos h4]; rfl, rfl⟩
 · rename_i h4
   go_ret
   exact ⟨by rw [HE.out, if_neg (by omega)]; rfl, rfl⟩
end Go.Proofs.YteeeehfnldkjlaaGreatDoor
namespace Go.Proofs.YteeeehfnldkjlaaGreatDoor
open Go.RowKit
theorem Reads.zero {w : World} {S : Option Addr} {size : Nat} : Reads w 0 size S 0 [] := Reads.none_
set_option maxHeartbeats 4000000 in
set_option maxRecDepth 100000 in
theorem tops1_any (f : FileD) (A : Option Addr) (c B : Nat) (w : World) (hB : B ≤ w.heap.size) (hr : FI w B A [f]) (hp : f.p.length ≤ 100000000) (h0 : 0 < (rnP f.p).length) :
    Calls Tryz.prog 93 #[.slice A 1 c] w fun e w' => ∃ A c, e = .returned (.slice A 1 c) ∧ Below w.heap.size w w' := by
 obtain ⟨g, off, DA, dc, rfl, hg, hld, e0, e1, e2, hd1, hd2, hd3⟩ := hr.at_ (k := 0) (x := f) rfl
 rw [Nat.zero_mul, Nat.add_zero] at hld e0 e1 e2
 have HN := Lib.hid (rnames_any f.p w hp)
 go_enter Tryz.func93, Tryz.ntmps93
 go_wp2_with fail
 obtain ⟨z, hz⟩ : ∃ z, w.heap.size = z := ⟨_, rfl⟩
 rw [hz] at HN
 have HZ := Lib.hid hz
 go_loopw [3, 4] (fun s3 s4 wr => ∃ (n : Nat) (A' : Option Addr) (c' : Nat) (xs : List Pth), s3 = .slice A' n c' ∧ s4 = .int .i64 (n : Nat) ∧ n ≤ 1 ∧ Hid (n = 0 → wr = w) ∧ Hid (xs.length = n ∧ Own wr z 9 1 A' n c' (strL xs)) ∧ Hid (Below z w wr)) (fun _ s4 _ => 1 - (intOf s4).toNat)
 case atStart => exact ⟨0, none, 0, [], rfl, rfl, by omega, Lib.hid fun _ => rfl, Lib.hid ⟨rfl, Own.nil _ _ _ _⟩, Lib.hid (Below.refl _ _)⟩
 case round =>
  obtain ⟨n, A', c', xs, rfl, rfl, hn, H0, HO, HB⟩ := hrel
  rcases (by omega : n = 0 ∨ n = 1) with rfl | rfl
  · obtain rfl := H0.out rfl
    obtain ⟨R, hR⟩ : ∃ R, rnP f.p = R := ⟨_, rfl⟩
    rw [hR] at HN h0
    obtain ⟨r0, hr0⟩ : ∃ r0, R[0]? = some r0 := ⟨_, List.getElem?_eq_getElem h0⟩
    have hl1 : (0 : Int) < (R.length : Int) := by omega
    have hwz : wr.heap.size = z := hz
    obtain rfl : xs = [] := List.eq_nil_of_length_eq_zero HO.out.1
    unfold strC at HN e0
    go_upto_region 6 with (go_at_call 30; refine HN.out.mono ?_; rintro _ w2 ⟨A2, c2, rfl, ho2, hb2⟩; obtain ⟨g2, rfl, _⟩ := ho2.adrn h0; have hc2 : w2.cell? ⟨g2, 0, none⟩ = some (.string ⟨r0.toArray⟩) := ((World.ownsRow.cellAt ho2 0 (by omega)).trans (by show (strL R)[0]? = _; unfold strL; rw [List.getElem?_map, hr0]; rfl)); have HB2 := Lib.hid hb2; have HZ2 := Lib.hid (show z ≤ w2.heap.size from by have := hb2.size; omega); have HO2 := Lib.hid (HO.out.2.kept (Kept.ofBelow (base := 0) (E := []) (G := []) (hwz ▸ hb2)) (by simp) (by simp)); clear ho2 hb2)
    clear hr hld e0 e1 e2 hd3 hc2 HN HB HO
    go_wp2_with fail
    go_loopw [6] (fun s6 wx => s6 = .int .i64 0 ∧ wx = w2) (fun _ _ => 0)
    case atStart => exact ⟨rfl, rfl⟩
    case round =>
     obtain ⟨rfl, rfl⟩ := hrel
     go_wp2_with (first
      | (at_builtin; refine wpList_append_sl rfl elemStr rfl rfl (n := 0) (xs := []) (Own.nil _ z _ _) rfl (m := 0) (news := []) Reads.zero (by simp) (by unfold maxLen; omega) (by omega) HZ2.out ?_; intro A5 c5 w5 o5 k5; have O5 := Lib.hid o5; have HB5 := Lib.hid (HB2.out.trans (k5.below (Nat.le_refl _) HZ2.out (by simp))); clear o5 k5)
      | (at_builtin; refine wpList_append_sl rfl elemStr rfl rfl (n := 0) (xs := []) (O5.out.alloc _) rfl (Reads.of_blk (n := 1) (size := 1) (xs := strL [r0]) (heap_alloc_new _ _) rfl rfl) (strL_one [r0]) (by unfold maxLen; omega) (by omega) (by have := HB5.out.size; simp; omega) ?_; intro A6 c6 w6 o6 k6; have O6 := Lib.hid o6; have HB6 := Lib.hid (HB5.out.trans ((((Kept.refl _ _ _ _).alloc _).trans k6).below (Nat.le_refl _) (hwz ▸ HB5.out.size) (by simp))); clear o6 k6)
      | (at_builtin; refine wpList_append_sl rfl elemStr rfl rfl (n := 1) (xs := strL [r0]) O6.out rfl (m := 0) (news := []) Reads.zero (by simp) (by unfold maxLen; omega) (by omega) (by have := HB6.out.size; omega) ?_; intro A7 c7 w7 o7 k7; have O7 := Lib.hid o7; have HB7 := Lib.hid (HB6.out.trans (k7.below (Nat.le_refl _) (hwz ▸ HB6.out.size) (by simp))); clear o7 k7))
     go_roundw
     case rel => exact ⟨1, A7, c7, [r0], rfl, by go_num, by omega, Lib.hid fun h => by omega, Lib.hid ⟨rfl, O7.out⟩, HB7⟩
     case measure => simp [intOf]
  · go_wp2_with fail
    go_ret
    exact ⟨A', c', rfl, HZ.out ▸ HB.out⟩
set_option maxHeartbeats 1000000 in
set_option maxRecDepth 100000 in
theorem crowded1_any (f : FileD) (A : Option Addr) (c B : Nat) (w : World) (hB : B ≤ w.heap.size) (hr : FI w B A [f]) (hp : f.p.length ≤ 100000000) (h0 : 0 < (rnP f.p).length) :
    Calls Tryz.prog 59 #[.slice A 1 c] w fun e w' => e = .returned (.bool false) ∧ Below w.heap.size w w' := by
 have HT := Lib.hid (tops1_any f A c B w hB hr hp h0)
 clear hr
 go_enter Tryz.func59, Tryz.ntmps59
 go_wp2_with (go_at_call 93; refine HT.out.mono ?_; rintro _ w1 ⟨A1, c1, rfl, hb1⟩; have HB1 := Lib.hid hb1; clear hb1)
 go_ret
 exact ⟨rfl, HB1.out⟩
theorem fileE_cases (f : FileD) : (f.k < 1 ∨ 3 < f.k) ∧ fileE f = 3 ∨ (1 ≤ f.k ∧ f.k ≤ 3) ∧ ((rnP f.p).length = 0 ∧ fileE f = 7 ∨ 0 < (rnP f.p).length ∧ (65536 < f.d.length ∧ fileE f = 5 ∨ f.d.length ≤ 65536 ∧ fileE f = 0)) := by
 by_cases h1 : f.k ≠ 1 ∧ f.k ≠ 2 ∧ f.k ≠ 3
 · exact .inl ⟨by omega, by unfold fileE; rw [if_pos h1]⟩
 · refine .inr ⟨by omega, ?_⟩
   by_cases h2 : (rnP f.p).length = 0
   · exact .inl ⟨h2, by unfold fileE; rw [if_neg h1, if_pos ((rnP_zero f.p).1 h2)]⟩
   · refine .inr ⟨by omega, ?_⟩
     have h2' := fun q => h2 ((rnP_zero f.p).2 q)
     by_cases h3 : 65536 < f.d.length
     · exact .inl ⟨h3, by unfold fileE; rw [if_neg h1, if_neg h2', if_pos h3]⟩
     · exact .inr ⟨by omega, by unfold fileE; rw [if_neg h1, if_neg h2', if_neg h3]⟩
set_option maxHeartbeats 4000000 in
set_option maxRecDepth 100000 in
theorem check1_any (f : FileD) (A : Option Addr) (c B : Nat) (w : World) (hB : B ≤ w.heap.size) (hr : FI w B A [f]) (hp : f.p.length ≤ 100000000) :
    Calls Tryz.prog 27 #[.slice A 1 c] w fun e w' => e = .returned (.int .i64 (fileE f : Nat)) ∧ Below w.heap.size w w' := by
 have HC := Lib.hid (fun W (k : Below w.heap.size w W) (h : 0 < (rnP f.p).length) => crowded1_any f A c B W (Nat.le_trans hB k.size) (hr.below (k.mono hB)) hp h)
 obtain ⟨g, off, DA, dc, rfl, hg, hld, e0, e1, e2, hd1, hd2, hd3⟩ := hr.at_ (k := 0) (x := f) rfl
 rw [Nat.zero_mul, Nat.add_zero] at hld e0 e1 e2
 have HN := Lib.hid (rnames_any f.p w hp)
 have hcs := fileE_cases f
 obtain ⟨R, hR⟩ : ∃ R, rnP f.p = R := ⟨_, rfl⟩
 obtain ⟨E, hE⟩ : ∃ E, fileE f = E := ⟨_, rfl⟩
 rw [hR] at HN hcs HC
 rw [hE] at hcs ⊢
 have HCE := Lib.hid (fun W (k : Below w.heap.size w W) => show W.cell? ⟨g, off + 2, none⟩ = some (.slice DA f.d.length dc) from ((k.mono hB).cell (p := ⟨g, off + 2, none⟩) hg).trans e2)
 clear hr hld hd3 hR hE
 unfold strC at HN e0
 go_enter Tryz.func27, Tryz.ntmps27
 go_wp2_with fail
 go_loopw [3] (fun s3 wr => ∃ n : Nat, s3 = .int .i64 (n : Nat) ∧ n ≤ 1 ∧ Hid (n = 0 → wr = w) ∧ Hid (n = 1 → E = 0 ∧ 0 < R.length) ∧ Hid (Below w.heap.size w wr)) (fun s3 _ => 1 - (intOf s3).toNat)
 case atStart => exact ⟨0, rfl, by omega, Lib.hid fun _ => rfl, Lib.hid fun h => by omega, Lib.hid (Below.refl _ _)⟩
 case round =>
  obtain ⟨n, rfl, hn, H0, H1, HB⟩ := hrel
  rcases (by omega : n = 0 ∨ n = 1) with rfl | rfl
  · obtain rfl := H0.out rfl
    rcases hcs with ⟨q1, rfl⟩ | ⟨⟨q1, q2⟩, q3⟩
    · rcases q1 with q1 | q1
      · go_wp2_with fail
        go_ret
        exact ⟨rfl, HB.out⟩
      · have q2 : ¬ f.k < 1 := by omega
        go_wp2_with fail
        go_ret
        exact ⟨rfl, HB.out⟩
    · have q4 : ¬ f.k < 1 := by omega
      have q5 : ¬ 3 < f.k := by omega
      rcases q3 with ⟨q3, rfl⟩ | ⟨q3, ⟨q6, rfl⟩ | ⟨q6, rfl⟩⟩
      · obtain rfl := List.eq_nil_of_length_eq_zero q3
        go_wp2_with (go_at_call 30; refine HN.out.mono ?_; rintro _ w2 ⟨A2, c2, rfl, _, hb2⟩; have HB2 := Lib.hid hb2; clear hb2)
        go_ret
        exact ⟨rfl, HB2.out⟩
      · have q7 : (65536 : Int) < (f.d.length : Int) := by omega
        have q8 : ((R.length : Int) == 0) = false := beq_eq_false_iff_ne.2 (by omega)
        have q9 : ¬ (R.length : Int) = 0 := by omega
        go_wp2_with (go_at_call 30; refine HN.out.mono ?_; rintro _ w2 ⟨A2, c2, rfl, _, hb2⟩; have e9 := HCE.out _ hb2; have HB2 := Lib.hid hb2; clear hb2)
        go_ret
        exact ⟨rfl, HB2.out⟩
      · have q7 : ¬ (65536 : Int) < (f.d.length : Int) := by omega
        have q8 : ((R.length : Int) == 0) = false := beq_eq_false_iff_ne.2 (by omega)
        have q9 : ¬ (R.length : Int) = 0 := by omega
        go_upto_region 12 with (go_at_call 30; refine HN.out.mono ?_; rintro _ w2 ⟨A2, c2, rfl, _, hb2⟩; have e9 := HCE.out _ hb2; have HB2 := Lib.hid hb2; clear hb2)
        go_region
        go_wp2_with fail
        go_loopw [4] (fun s4 wx => s4 = .int .i64 0 ∧ ∃ k, wx = w2.drewN k) (fun _ _ => 0)
        case atStart => exact ⟨rfl, 1, rfl⟩
        case round =>
         obtain ⟨rfl, kk, rfl⟩ := hrel
         go_wp2_with fail
         go_roundw
         case rel => exact ⟨1, by go_num, by omega, Lib.hid fun h => by omega, Lib.hid fun _ => ⟨by first | rfl | trivial, q3⟩, Lib.hid (HB2.out.trans (((Kept.refl w2.heap.size [] [] w2).drewN kk).all.mono HB2.out.size))⟩
         case measure => simp [intOf]
  · obtain ⟨rfl, q3⟩ := H1.out rfl
    have HCW := Lib.hid (HC.out wr HB.out q3)
    go_wp2_with (go_at_call 59; refine HCW.out.mono ?_; rintro _ w2 ⟨rfl, hb2⟩; have HB2 := Lib.hid (HB.out.trans (hb2.mono HB.out.size)); clear hb2)
    go_ret
    exact ⟨rfl, HB2.out⟩
end Go.Proofs.YteeeehfnldkjlaaGreatDoor
namespace Go.Proofs.YteeeehfnldkjlaaGreatDoor
theorem check_one {f : FileD} (h : fileE f = 0) : checkT [f] = 0 := by
 have ht : TreeOk [f] := ⟨fun g hg => by rw [List.mem_singleton.1 hg]; exact h, by simp [RiseP], fun g hg k hk => by
  rw [List.mem_singleton.1 hg, List.mem_singleton.1 hk]
  exact dirs_self _⟩
 exact checkT_of ht (by simp) (crowd_small ht (by simp))
theorem hasF_one (f : FileD) (p : Pth) : hasF [f] p = (f.p == p) := by
 unfold hasF
 simp
theorem getF_one {f : FileD} {p : Pth} (h : f.p = p) : getF [f] p = f := by
 unfold getF
 simp [h]
theorem fileE_same {f g : FileD} (h : fileE f = 0) (hp : g.p = f.p) (hk : g.k = 1 ∨ g.k = 2 ∨ g.k = 3) (hd : g.d.length ≤ 65536) : fileE g = 0 := by
 unfold fileE at h ⊢
 rw [hp]
 split at h
 · cases h
 · rw [if_neg (by omega)]
   split at h
   · cases h
   · rename_i q
     rw [if_neg q, if_neg (by omega)]
theorem pairs_nil_one {b x : FileD} (hb : fileE b = 0) (hx : fileE x = 0) (h : x.p = b.p) : detectP (diffT [b] [x]) = [] := by
 refine detect_gone ?_
 rw [List.eq_nil_iff_forall_not_mem]
 intro f hf
 have kb := (checkT_tree (check_one hb)).1
 have kx := (checkT_tree (check_one hx)).1
 rw [mem_goneP kb.apt kb.kinds kx.kinds, List.mem_singleton] at hf
 obtain ⟨rfl, h2, _⟩ := hf
 rw [hasF_one, h] at h2
 simp at h2
theorem pair_moved {b x : FileD} (hb : fileE b = 0) (hx : fileE x = 0) (hd : x.d = b.d) (hn : x.p ≠ b.p) (cb : countsP b = true) (cx : countsP x = true) : detectP (diffT [b] [x]) = [⟨b.p, x.p, 100⟩] := by
 have kb := (checkT_tree (check_one hb)).1
 have kx := (checkT_tree (check_one hx)).1
 have g1 : goneP (diffT [b] [x]) = [b] := by
  have hr := rise_nodup (diffT_rise (a := [b]) (b := [x]) kb.kinds)
  have hn' : ((goneP (diffT [b] [x])).map (·.p)).Nodup := hr.sublist (gone_sub _)
  have hm : ∀ f, f ∈ goneP (diffT [b] [x]) ↔ f = b := fun f => by
   rw [mem_goneP kb.apt kb.kinds kx.kinds, List.mem_singleton]
   constructor
   · exact fun h => h.1
   · rintro rfl
     exact ⟨rfl, by rw [hasF_one]; exact beq_eq_false_iff_ne.2 hn, cb⟩
  generalize goneP (diffT [b] [x]) = l at *
  match l, hn', hm with
  | [], _, hm => exact absurd ((hm b).2 rfl) (by simp)
  | [f], _, hm => rw [(hm f).1 (by simp)]
  | f :: g :: l, hn', hm =>
   rw [(hm f).1 (by simp), (hm g).1 (by simp)] at hn'
   simp at hn'
 have g2 : comeP (diffT [b] [x]) = [x] := by
  have hr := rise_nodup (diffT_rise (a := [b]) (b := [x]) kb.kinds)
  have hn' : ((comeP (diffT [b] [x])).map (·.p)).Nodup := hr.sublist (come_sub _)
  have hm : ∀ f, f ∈ comeP (diffT [b] [x]) ↔ f = x := fun f => by
   rw [mem_comeP kx.apt kb.kinds kx.kinds, List.mem_singleton]
   constructor
   · exact fun h => h.1
   · rintro rfl
     exact ⟨rfl, by rw [hasF_one]; exact beq_eq_false_iff_ne.2 (Ne.symm hn), cx⟩
  generalize comeP (diffT [b] [x]) = l at *
  match l, hn', hm with
  | [], _, hm => exact absurd ((hm x).2 rfl) (by simp)
  | [f], _, hm => rw [(hm f).1 (by simp)]
  | f :: g :: l, hn', hm =>
   rw [(hm f).1 (by simp), (hm g).1 (by simp)] at hn'
   simp at hn'
 unfold detectP
 simp only
 rw [g1, g2]
 have e : exactP [b] [x] = ([⟨b.p, x.p, 100⟩], [], []) := by
  rw [exactP]
  have hbest : bestP b [x] 0 none = some (0, x) := by
   unfold bestP
   simp [bestP, betterP, hd]
  simp only [hbest]
  rfl
 rw [e]
 have e2 : likelyP [] [] = [] := by unfold likelyP; split <;> rfl
 simp only
 rw [e2]
 rfl
theorem path_ne_keys {a b : Pth} : ∀ p ∈ keysP [a, b], p = a ∨ p = b := fun p hp => by
 rw [mem_keysP] at hp
 simpa using hp
theorem fresh_none_all {base : List FileD} {o t : SideD} : ∀ (ks : List Pth), (∀ p ∈ ks, o.isNew base p = false ∧ t.isNew base p = false) → sumM (ks.map (freshM base o t)) = m0
 | [], _ => rfl
 | p :: ks, h => by
  obtain ⟨h1, h2⟩ := h p (List.mem_cons_self ..)
  rw [List.map_cons, sumM, fresh_none_all ks fun q hq => h q (List.mem_cons_of_mem _ hq), app_m0]
  unfold freshM MSt.fresh1
  rw [h1, h2]
theorem merge_moved {b x y : FileD} (hb : fileE b = 0) (hx : fileE x = 0) (hy : fileE y = 0) (hd : x.d = b.d) (hk : x.k = b.k) (hn : x.p ≠ b.p) (hyp : y.p = b.p) (cb : countsP b = true) :
    treemergeP [b] [x] [y] = .ok ([⟨x.p, y.k, y.d⟩], []) ∧ treemergeP [b] [y] [x] = .ok ([⟨x.p, y.k, y.d⟩], []) := by
 have cx : countsP x = true := by
  unfold countsP at cb ⊢
  rw [hd, hk]
  exact cb
 have s1 : sideP [b] [x] = ⟨[x], [⟨b.p, x.p, 100⟩]⟩ := by unfold sideP; rw [pair_moved hb hx hd hn cb cx]
 have s2 : sideP [b] [y] = ⟨[y], []⟩ := side_nil (pairs_nil_one hb hy hyp)
 have gx : SideD.goes ⟨[x], [⟨b.p, x.p, 100⟩]⟩ b.p = (x.p, true) := by unfold SideD.goes; simp
 have gy : SideD.goes ⟨[y], []⟩ b.p = (b.p, true) := by rw [goes_none, hasF_one, hyp]; simp
 have n1 : ∀ p, p = x.p ∨ p = b.p → SideD.isNew ⟨[x], [⟨b.p, x.p, 100⟩]⟩ [b] p = false := fun p hp => by
  unfold SideD.isNew
  rcases hp with rfl | rfl
  · simp
  · rw [hasF_one b]; simp
 have n2 : ∀ p, p = x.p ∨ p = b.p → SideD.isNew ⟨[y], []⟩ [b] p = false := fun p hp => by
  rw [isNew_nil, hasF_one, hasF_one, hyp]
  simp
 have hm : checkT [(⟨x.p, y.k, y.d⟩ : FileD)] = 0 := check_one (fileE_same hx rfl (fileE_kind hy).1 (fileE_kind hy).2.1)
 have k1 : m0.both x.p b b.k x y = ⟨[⟨x.p, y.k, y.d⟩], [], 0⟩ := by
  rw [both_m0]
  have q1 : kindP b.k x.k y.k = (y.k, true) := by unfold kindP; simp [hk]
  have q2 : dataP b b.k x y = (y.d, true, 0) := by
   unfold dataP
   split
   · rename_i q
     rcases q with q | q
     · rw [q]
     · rw [hd, q]
   · rfl
  rw [q1, q2]
  rfl
 have k2 : m0.both x.p b b.k y x = ⟨[⟨x.p, y.k, y.d⟩], [], 0⟩ := by
  rw [both_m0]
  have q1 : kindP b.k y.k x.k = (y.k, true) := by
   unfold kindP
   rw [if_pos (.inl hk.symm)]
   by_cases q : y.k = b.k
   · rw [if_pos q, hk, q]
   · rw [if_neg q]
  have q2 : dataP b b.k y x = (y.d, true, 0) := by
   unfold dataP
   rw [if_pos (.inr hd)]
  rw [q1, q2]
  rfl
 have g1 : gatherP [b] [x] [y] = ⟨[⟨x.p, y.k, y.d⟩], [], 0⟩ := by
  rw [gather_sum, s1, s2]
  rw [fresh_none_all _ fun p hp => ?_, app_m0]
  · simp only [List.map_cons, List.map_nil, sumM, app_m0]
    unfold fileM MSt.file
    simp only [gx, gy, getF_one (f := x) rfl, getF_one hyp]
    simp [hn, k1]
  · simp only [List.map_cons, List.map_nil, List.cons_append, List.nil_append, hyp] at hp
    have := path_ne_keys p hp
    exact ⟨n1 p this, n2 p this⟩
 have g2 : gatherP [b] [y] [x] = ⟨[⟨x.p, y.k, y.d⟩], [], 0⟩ := by
  rw [gather_sum, s1, s2]
  rw [fresh_none_all _ fun p hp => ?_, app_m0]
  · simp only [List.map_cons, List.map_nil, sumM, app_m0]
    unfold fileM MSt.file
    simp only [gx, gy, getF_one (f := x) rfl, getF_one hyp]
    simp [hn, k2]
  · simp only [List.map_cons, List.map_nil, List.cons_append, List.nil_append, hyp] at hp
    have := path_ne_keys p hp
    exact ⟨n2 p this.symm, n1 p this.symm⟩
 exact ⟨merge_ok (check_one hb) (check_one hx) (check_one hy) hm (by rw [g1]) (by rw [g1]) (by rw [g1]), merge_ok (check_one hb) (check_one hy) (check_one hx) hm (by rw [g2]) (by rw [g2]) (by rw [g2])⟩
end Go.Proofs.YteeeehfnldkjlaaGreatDoor
