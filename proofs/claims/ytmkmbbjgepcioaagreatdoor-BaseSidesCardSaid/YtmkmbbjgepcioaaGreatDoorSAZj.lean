/- Contract of the function literal of the merger's fresh. No statement of the seat is proved here. -/
import Derived.Test.YtmkmbbjgepcioaaGreatDoorSAHq
import Derived.Test.YtmkmbbjgepcioaaGreatDoorSAZh
namespace Go.Proofs.YtmkmbbjgepcioaaGreatDoor
set_option maxHeartbeats 4000000
set_option maxRecDepth 100000
open Go.RowKit Go.Maps
def zb4 (w:World) (z bx:Nat) (base:List FileD):Prop:=∃wb n f,Blk w bx 166 #[.map (some wb)]∧VM w wb n f∧FMap w z base f
theorem zb4.keepB {w w':World} {z bx:Nat} {base:List FileD} (h:zb4 w z bx base) (hb:Below w.heap.size w w') (hz:z≤w.heap.size):zb4 w' z bx base:=by
 obtain ⟨wb,n,f,h1,h2,h3⟩:=h;exact ⟨wb,n,f,h1.below hb h1.lt,h2.keep (Below.keep_ hb zl) (fun q=>q),h3.below (hb.mono hz)⟩
theorem zj9 {z mb cb q bx:Nat} {s:SideD} {base:List FileD} (p:Pth) (w:World) (h:zan w z mb cb q s) (hb:zb4 w z bx base) (hp:p.length≤1000000) :Calls Tryz.prog 113 #[.pointer (some ⟨q,0,none⟩),strC p,.pointer (some ⟨bx,0,none⟩)] w fun e w'=>e = .returned (.bool (s.isNew base p))∧Below w.heap.size w w':=by
 have hn:s.isNew base p=(hasF s.f p&&!hasF base p&&!s.l.any (fun x=>x.new==p)):=rfl;rw [hn];clear hn;obtain ⟨i2,hi2⟩:∃i,hasF base p=i:=⟨_,rfl⟩;obtain ⟨i3,hi3⟩:∃i,(s.l.any fun x=>x.new==p)=i:=⟨_,rfl⟩;rw [hi2,hi3];have HI:=zz (And.intro hi2 hi3);clear hi2 hi3;have hpm:p.length≤maxLen:=by unfold maxLen;omega
 obtain ⟨b1,b2,b3,n1,n2,n3,f1,f2,f3,h1,_⟩:=h;obtain ⟨wb,n,f,g1,g2,g3⟩:=hb;have e0:=(h1.blk.cell 0).trans (show (#[.map (some b1),.map (some b2),.map (some b3)]:Array Value)[0]? = some (.map (some b1)) from rfl);have lk1:=h1.m1.look_ok (s:=p) Tryz.underlying166 (zaU w) hpm;obtain ⟨D1,d1,k1,_⟩:=h1.p1.get p;rw [k1,h1.p1.1 p] at lk1;have HH:=zz h1;have HB:=zz (And.intro g1 (And.intro g2 g3));generalize getF s.f p=x at *;generalize hasF s.f p=i1 at *;clear h1 g1 g2 g3 k1;go_enter Tryz.func113,Tryz.ntmps113
 go_upto_region 2 with (refine zO rfl rfl (vs:=za x D1 d1) rfl rfl (Blk.new _ _ _) rfl zaw (zaD _ _ _) ?_;intro w6 hx6 hk6 hz6)
 have HK6:=zz (show Below w.heap.size w w6 from (Keep.ofNew hk6).all);have c2:=((HB.out.1.below HK6.out HB.out.1.lt).cell 0).trans (show (#[.map (some wb)]:Array Value)[0]? = some (.map (some wb)) from rfl);have lk2:=(HB.out.2.1.keep (Below.keep_ HK6.out zl) (fun q=>q)).look_ok (s:=p) Tryz.underlying166 (zaU w6) hpm;obtain ⟨D2,d2,k2,_⟩:=HB.out.2.2.get p;rw [k2,HB.out.2.2.1 p,HI.out.1] at lk2;generalize getF base p=y at *
 try simp only [Act.put,List.setIfInBounds_toArray,List.set]
 clear hx6 hk6 hz6 lk1 e0 k2;go_upto_region 3 with (refine zO rfl rfl (vs:=za y D2 d2) rfl rfl (Blk.new _ _ _) rfl zaw (zaD _ _ _) ?_;intro w7 hx7 hk7 hz7)
 have HK7:=zz (show Below w.heap.size w w7 from HK6.out.trans ((Keep.ofNew hk7).all.mono HK6.out.size));have e2:=((HH.out.blk.below HK7.out HH.out.blk.lt).cell 2).trans (show (#[.map (some b1),.map (some b2),.map (some b3)]:Array Value)[2]? = some (.map (some b3)) from rfl);have lk3:=(HH.out.m3.keep (Below.keep_ HK7.out zl) (fun q=>q)).look_ok (s:=p) Tryz.underlying218 (zbw w7) hpm;rw [HH.out.p3 p,HI.out.2] at lk3;generalize (f3 p).getD (.int .i64 0)=v3 at *
 try simp only [Act.put,List.setIfInBounds_toArray,List.set]
 clear hx7 hk7 hz7 lk2 c2 HK6 HB HH
 cases i1 with
 | false =>
  go_wp2_with fail
  go_ret
  exact ⟨rfl,HK7.out⟩
 | true =>
  cases i2 with
  | true =>
   go_wp2_with fail
   go_ret
   exact ⟨rfl,HK7.out⟩
  | false =>
   cases i3 with
   | true =>
    go_wp2_with fail
    go_ret
    exact ⟨rfl,HK7.out⟩
   | false =>
    go_wp2_with fail
    go_ret
    exact ⟨rfl,HK7.out⟩
end Go.Proofs.YtmkmbbjgepcioaaGreatDoor
