/- Contract of the function literal of the merger's fresh. No statement of the seat is proved here. -/
import Derived.Test.YteeeehfnldkjlaaGreatDoorTCZh
namespace Go.Proofs.YteeeehfnldkjlaaGreatDoor
open Go.RowKit Go.Maps
def BaseX (w : World) (z bx : Nat) (base : List FileD) : Prop := ∃ wb n f, Blk w bx 67 #[.map (some wb)] ∧ VM w wb n f ∧ FMap w z base f
theorem BaseX.keepB {w w' : World} {z bx : Nat} {base : List FileD} (h : BaseX w z bx base) (hb : Below w.heap.size w w') (hz : z ≤ w.heap.size) : BaseX w' z bx base := by
 obtain ⟨wb, n, f, h1, h2, h3⟩ := h
 exact ⟨wb, n, f, h1.below hb h1.lt, h2.keep (Below.keep_ hb Nothing) (fun q => q), h3.below (hb.mono hz)⟩
set_option maxHeartbeats 4000000 in
set_option maxRecDepth 100000 in
theorem isNew_any {z mb cb q bx : Nat} {s : SideD} {base : List FileD} (p : Pth) (w : World) (h : SideX w z mb cb q s) (hb : BaseX w z bx base) (hp : p.length ≤ 1000000) :
    Calls Tryz.prog 73 #[.pointer (some ⟨q, 0, none⟩), strC p, .pointer (some ⟨bx, 0, none⟩)] w fun e w' => e = .returned (.bool (s.isNew base p)) ∧ Below w.heap.size w w' := by
 have hn : s.isNew base p = (hasF s.f p && !hasF base p && !s.l.any (fun x => x.new == p)) := rfl
 rw [hn]
 clear hn
 obtain ⟨i2, hi2⟩ : ∃ i, hasF base p = i := ⟨_, rfl⟩
 obtain ⟨i3, hi3⟩ : ∃ i, (s.l.any fun x => x.new == p) = i := ⟨_, rfl⟩
 rw [hi2, hi3]
 have HI := Lib.hid (And.intro hi2 hi3)
 clear hi2 hi3
 have hpm : p.length ≤ maxLen := by unfold maxLen; omega
 obtain ⟨b1, b2, b3, n1, n2, n3, f1, f2, f3, h1, _⟩ := h
 obtain ⟨wb, n, f, g1, g2, g3⟩ := hb
 have e0 := (h1.blk.cell 0).trans (show (#[.map (some b1), .map (some b2), .map (some b3)] : Array Value)[0]? = some (.map (some b1)) from rfl)
 have lk1 := h1.m1.look_ok (s := p) Tryz.underlying67 (zero_file w) hpm
 obtain ⟨D1, d1, k1, _⟩ := h1.p1.get p
 rw [k1, h1.p1.1 p] at lk1
 have HH := Lib.hid h1
 have HB := Lib.hid (And.intro g1 (And.intro g2 g3))
 generalize getF s.f p = x at *
 generalize hasF s.f p = i1 at *
 clear h1 g1 g2 g3 k1
 go_enter Tryz.func73, Tryz.ntmps73
 go_upto_region 2 with (refine wpList_storeBlk rfl rfl (vs := fileC x D1 d1) rfl rfl (Blk.new _ _ _) rfl info_file (fileC_one _ _ _) ?_; intro w6 hx6 hk6 hz6)
 have HK6 := Lib.hid (show Below w.heap.size w w6 from (Keep.ofNew hk6).all)
 have c2 := ((HB.out.1.below HK6.out HB.out.1.lt).cell 0).trans (show (#[.map (some wb)] : Array Value)[0]? = some (.map (some wb)) from rfl)
 have lk2 := (HB.out.2.1.keep (Below.keep_ HK6.out Nothing) (fun q => q)).look_ok (s := p) Tryz.underlying67 (zero_file w6) hpm
 obtain ⟨D2, d2, k2, _⟩ := HB.out.2.2.get p
 rw [k2, HB.out.2.2.1 p, HI.out.1] at lk2
 generalize getF base p = y at *
 try simp only [Act.put, List.setIfInBounds_toArray, List.set]
 clear hx6 hk6 hz6 lk1 e0 k2
 go_upto_region 3 with (refine wpList_storeBlk rfl rfl (vs := fileC y D2 d2) rfl rfl (Blk.new _ _ _) rfl info_file (fileC_one _ _ _) ?_; intro w7 hx7 hk7 hz7)
 have HK7 := Lib.hid (show Below w.heap.size w w7 from HK6.out.trans ((Keep.ofNew hk7).all.mono HK6.out.size))
 have e2 := ((HH.out.blk.below HK7.out HH.out.blk.lt).cell 2).trans (show (#[.map (some b1), .map (some b2), .map (some b3)] : Array Value)[2]? = some (.map (some b3)) from rfl)
 have lk3 := (HH.out.m3.keep (Below.keep_ HK7.out Nothing) (fun q => q)).look_ok (s := p) Tryz.underlying103 (zero_int w7) hpm
 rw [HH.out.p3 p, HI.out.2] at lk3
 generalize (f3 p).getD (.int .i64 0) = v3 at *
 try simp only [Act.put, List.setIfInBounds_toArray, List.set]
 clear hx7 hk7 hz7 lk2 c2 HK6 HB HH
 cases i1 with
 | false =>
  go_wp2_with fail
  go_ret
  exact ⟨rfl, HK7.out⟩
 | true =>
  cases i2 with
  | true =>
   go_wp2_with fail
   go_ret
   exact ⟨rfl, HK7.out⟩
  | false =>
   cases i3 with
   | true =>
    go_wp2_with fail
    go_ret
    exact ⟨rfl, HK7.out⟩
   | false =>
    go_wp2_with fail
    go_ret
    exact ⟨rfl, HK7.out⟩
end Go.Proofs.YteeeehfnldkjlaaGreatDoor
