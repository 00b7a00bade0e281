/- Contract of rename.exact. No statement of the seat is proved here. -/
import Derived.Test.YtmkmbbjgepcioaaGreatDoorSAHq
import Derived.Test.YtmkmbbjgepcioaaGreatDoorSA18
import Derived.Test.YtmkmbbjgepcioaaGreatDoorSAVl
namespace Go.Proofs.YtmkmbbjgepcioaaGreatDoor
set_option maxHeartbeats 16000000
set_option maxRecDepth 100000
open Go.RowKit
def BdP (ps:Array (Nat×Value)):Sem Value:=Instr.build 188 ps
theorem bd_p (ps:Array (Nat×Value)):Instr.build 188 ps=BdP ps:=rfl
def SlP (n:Nat) (ps:Array (Nat×Value)):Sem Value:=Instr.buildSlice 113 n ps
theorem sl_p (n:Nat) (ps:Array (Nat×Value)):Instr.buildSlice 113 n ps=SlP n ps:=rfl
theorem zjV (o n:Pth) (k:Int) (w:World):(Instr.build 188 #[(0,strC o),(1,strC n),(2,.int .i64 k)]).run Tryz.prog w = .ok (.agg #[strC o,strC n,.int .i64 k]) w:=by kernel_rfl
def atI:Option (Nat×FileD)→Int
 | none=>-1
 | some x=>x.1
theorem zoC (f g:FileD) (x:Nat×FileD):zcJ f g (some x)=decide (zaS f.p g.p<zaS f.p x.2.p):=rfl
theorem zrr (f g:FileD) (l:List FileD) (k:Nat) (b:Option (Nat×FileD)):zaG f (g::l) k b=zaG f l (k+1) (if (decide (f.d=g.d)&&zcJ f g b)=true then some (k,g) else b):=by
 rw [zaG]
 congr 1
 simp only [Bool.and_eq_true,decide_eq_true_eq]
def zl9 (gone come:List FileD) (B:Nat) (w:World) (e:Ending) (w':World):Prop:=∃pA pc lA lc rA rc,e = .returned (.tuple #[.slice pA (zr gone come).1.length pc,.slice lA (zr gone come).2.1.length lc,.slice rA (zr gone come).2.2.length rc]) ∧
 PO w' w.heap.size pA pc (zr gone come).1∧FO w' w.heap.size B lA lc (zr gone come).2.1∧FO w' w.heap.size B rA rc (zr gone come).2.2∧Below w.heap.size w w'
structure ExS (wr:World) (z B:Nat) (pA:Option Addr) (pc:Nat) (lA:Option Addr) (lc:Nat) (rA:Option Addr) (rc:Nat) (ps:List PairD) (ls xs:List FileD):Prop where
 po:PO wr z pA pc ps
 lo:FO wr z B lA lc ls
 ro:FO wr z B rA rc xs
 ap:zbl rA lA
 hz:B≤z
 hs:z≤wr.heap.size
theorem ExS.keepB {wr w':World} {z B:Nat} {pA:Option Addr} {pc:Nat} {lA:Option Addr} {lc:Nat} {rA:Option Addr} {rc:Nat} {ps:List PairD} {ls xs:List FileD} (h:ExS wr z B pA pc lA lc rA rc ps ls xs) (hb:Below wr.heap.size wr w'):ExS w' z B pA pc lA lc rA rc ps ls xs :=
 ⟨h.po.keepB hb,h.lo.keepB hb (Nat.le_trans h.hz h.hs),h.ro.keepB hb (Nat.le_trans h.hz h.hs),h.ap,h.hz,Nat.le_trans h.hs hb.size⟩
section
variable {wr w9:World} {z B:Nat} {pA:Option Addr} {pc:Nat} {lA:Option Addr} {lc:Nat} {rA:Option Addr} {rc:Nat} {ps:List PairD} {ls xs:List FileD}
theorem ExS.left {tv:List Value} {f:FileD} {D:Option Addr} {d c9:Nat} {A9:Option Addr} (h:ExS wr z B pA pc lA lc rA rc ps ls xs) (h1:tv.length=ls.length) (h3:∀(k:Nat) x y,ls[k]? = some x→tv[k]? = some y→zw wr B x y) (hx:zw wr B f (.slice D f.d.length d)) (o9:Own w9 z 70 3 A9 (ls.length+1) c9 (zK ls tv++(za f D d).toList)) (k9:Kept z [70] [] (wr.alloc (.cells (za f D d) 70)) w9) (n9:∀p,p<(wr.alloc (.cells (za f D d) 70)).heap.size→NotB lA ls.length lc p→w9.heap[p]? = (wr.alloc (.cells (za f D d) 70)).heap[p]?∧NotB A9 (ls.length+1) c9 p):ExS w9 z B pA pc A9 c9 rA rc ps (ls++[f]) xs∧Below z wr w9:=by
 obtain ⟨q1,q2,q3,q4⟩:=FO.push2 h1 h3 hx h.ro h.ap h.hz h.hs o9 k9 n9;exact ⟨⟨(h.po.keepB ((Below.refl _ _).alloc (Nat.le_refl _) _)).kept k9 (by decide),q1,q2,q3,h.hz,Nat.le_trans h.hs (by have:=k9.size;simp at this;omega)⟩,q4⟩
theorem ExS.pair {x:PairD} {c9:Nat} {A9:Option Addr} {o:Obj} (h:ExS wr z B pA pc lA lc rA rc ps ls xs) (o9:Own w9 z 188 3 A9 (ps.length+1) c9 (ps.flatMap zv++zv x)) (k9:Kept z [188] [] (wr.alloc o) w9):ExS w9 z B A9 c9 lA lc rA rc (ps++[x]) ls xs∧Below z wr w9:=by
 have hb:Below z wr w9:=((Below.refl z wr).alloc h.hs _).trans (k9.below (Nat.le_refl _) (by have:=h.hs;simp;omega) (by simp));have hk:Kept z [188] [] wr w9:=((Kept.refl _ _ _ _).alloc _).trans k9;exact ⟨⟨PO.snoc o9,h.lo.kept hk (by decide) h.hz (Nat.le_trans h.hz h.hs),h.ro.kept hk (by decide) h.hz (Nat.le_trans h.hz h.hs),h.ap,h.hz,Nat.le_trans h.hs hk.size⟩,hb⟩
theorem ExS.del {tv:List Value} {i:Nat} (h:ExS wr z B pA pc lA lc rA rc ps ls xs) (h1:tv.length=xs.length) (h3:∀(k:Nat) x y,xs[k]? = some x→tv[k]? = some y→zw wr B x y) (hi:i<xs.length) (o9:Own w9 z 70 3 rA (xs.length-1) rc ((zK xs tv).take (i*3)++(zK xs tv).drop ((i+1)*3))) (k9:Kept z [70] [] wr w9) (n9:∀a,rA=some a→Keep (Only a.block) wr w9):ExS w9 z B pA pc lA lc rA rc ps ls (xs.eraseIdx i)∧Below z wr w9:=by
 have hb:Below z wr w9:=k9.below (Nat.le_refl _) h.hs (by simp);refine ⟨⟨h.po.kept k9 (by decide),h.lo.same1 (fun b hb'=>?_) (hb.mono h.hz),FO.erase h1 h3 hi o9 (hb.mono h.hz),h.ap,h.hz,Nat.le_trans h.hs k9.size⟩,hb⟩
 rcases hr:rA with _|a
 · exfalso;have:=h.ro;obtain ⟨_,_,q,_⟩:=this;rw [hr] at q;obtain ⟨g,e,_⟩:=q.adrn (by omega);cases e
 · exact (n9 a hr).block _ (h.lo.lt b hb').2.1 (fun e=>h.ap a b hr hb' e.symm)
end
attribute [local go_sem ↓] bd_p sl_p
theorem zm8 (gone come:List FileD) (A1 A2:Option Addr) (c1 c2 B:Nat) (w:World) (hB:B≤w.heap.size) (h1:FI w B A1 gone) (h2:FI w B A2 come) (hg:Fits gone) (hc:Fits come) :Calls Tryz.prog 142 #[.slice A1 gone.length c1,.slice A2 come.length c2] w (zl9 gone come B w):=by
 have HP:=zz (show zl9 gone come B w=fun e w'=>∃pA pc lA lc rA rc,e = .returned (.tuple #[.slice pA (zr gone come).1.length pc,.slice lA (zr gone come).2.1.length lc,.slice rA (zr gone come).2.2.length rc]) ∧
  PO w' w.heap.size pA pc (zr gone come).1∧FO w' w.heap.size B lA lc (zr gone come).2.1∧FO w' w.heap.size B rA rc (zr gone come).2.2∧Below w.heap.size w w' from rfl)
 rw [HP.out];clear HP;obtain ⟨P,hP⟩:∃P,(zr gone come).1=P:=⟨_,rfl⟩;obtain ⟨L,hL⟩:∃L,(zr gone come).2.1=L:=⟨_,rfl⟩;obtain ⟨R,hR⟩:∃R,(zr gone come).2.2=R:=⟨_,rfl⟩;rw [hP,hL,hR];obtain ⟨z,hz⟩:∃z,w.heap.size=z:=⟨_,rfl⟩;rw [hz];have HE:=zz (And.intro hP (And.intro hL hR));have hgl:=hg.1;have hcl:=hc.1;have HFG:=zz hg.2;have HFC:=zz hc.2;have H1:=zz h1;have HCL:Hid (Calls Tryz.prog 187 #[.slice A2 come.length c2] w fun r w'=>∃A' c',r = .returned (.slice A' come.length c')∧FO w' z B A' c' come∧Below z w w'):=by
  rw [←hz];obtain ⟨tv,t1,t2,t3⟩:=h2;refine zz ((zsl (zK come tv) come.length A2 c2 B w hB t2 (zkb t3) hcl).mono ?_);rintro r w' ⟨A',c',e,o,b⟩;exact ⟨A',c',e,⟨tv,t1,o,fun k x y e1 e2=>(t3 k x y e1 e2).below (b.mono hB)⟩,b⟩
 rw [hz] at hB;have HZ:=zz hB;have HZS:=zz hz;clear hP hL hR h1 h2 hg hc hB hz;go_enter Tryz.func142,Tryz.ntmps142
 go_wp2_with (go_at_call 187;refine HCL.out.mono ?_)
 rintro _ w1 ⟨rA,rc,rfl,o1,b1⟩;have HS1:=zz (show ExS w1 z B none 0 none 0 rA rc [] [] come from ⟨PO.nil_ _ _,FO.nil_ _ _ _,o1,zbl.none_ _,HZ.out,HZS.out▸b1.size⟩);have HB1:=zz b1;clear o1 b1 HCL HZS
 go_wp2_with fail
 go_loopw [4,5,6,16] (fun s4 s5 s6 s16 wr=>∃(k:Nat) (ps:List PairD) (ls xs:List FileD) (pA:Option Addr) (pc:Nat) (lA:Option Addr) (lc:Nat),s4 = .slice pA ps.length pc∧s5 = .slice lA ls.length lc∧s6 = .slice rA xs.length rc∧s16 = .int .i64 (k:Nat)∧k≤gone.length∧ps.length≤k∧ls.length≤k∧xs.length≤come.length ∧
  Hid (∀g∈xs,g∈come)∧Hid (ps++(zr (gone.drop k) xs).1=P∧ls++(zr (gone.drop k) xs).2.1=L∧(zr (gone.drop k) xs).2.2=R)∧Hid (ExS wr z B pA pc lA lc rA rc ps ls xs)∧Hid (Below z w wr)) (fun _ _ _ s16 _=>gone.length-(intOf s16).toNat)
 case atStart=>exact ⟨0,[],[],come,none,0,none,0,rfl,rfl,rfl,rfl,Nat.zero_le _,Nat.le_refl _,Nat.le_refl _,Nat.le_refl _,zz fun _ h=>h,zz (by rw [List.drop_zero];exact HE.out),HS1,HB1⟩
 case round =>
  clear HS1 HB1 HE;obtain ⟨k,ps,ls,xs,pA,pc,lA,lc,rfl,rfl,rfl,rfl,hk,hps,hls,hxs,HXC,HEQ,HS,HW⟩:=hrel;by_cases hlt:k<gone.length
  · obtain ⟨f,hf⟩:∃f,gone[k]? = some f:=⟨_,List.getElem?_eq_getElem hlt⟩;obtain ⟨gg,off,FA,fc,rfl,hgB,hload,_,_,_,hfd,hfm,hfr⟩:=(H1.out.below (HW.out.mono HZ.out)).at_ hf;have i0:(0:Int)≤(k:Int):=by omega
    have i1:(k:Int)<(gone.length:Int):=by omega
    have HFR:=zz hfr;have HFD:=zz (show zw wr B f (.slice FA f.d.length fc) from ⟨FA,fc,rfl,hfd,hfm,hfr⟩);have HFP:=zz (HFG.out f (List.mem_of_getElem? hf)).1;have HDR:=zz (show gone.drop k=f::gone.drop (k+1) from List.drop_eq_getElem?_toList_append.trans (by rw [hf];rfl));clear hfr hfd hfm hf;go_upto_region 6 with (refine zO rfl rfl (vs:=za f FA fc) rfl rfl (Blk.new _ _ _) rfl zaw (zaD _ _ _) ?_;intro w6 hx6 hk6 hz6)
    have HX6:=zz hx6;have HK6:=zz (show Below wr.heap.size wr w6 from (Keep.ofNew hk6).all);have HS6:=zz (HS.out.keepB HK6.out);have HW6:=zz (show Below z w w6 from HW.out.trans (HK6.out.mono HS.out.hs));have HFR6:=zz (show zw w6 B f (.slice FA f.d.length fc) from HFD.out.below (HK6.out.mono (Nat.le_trans HZ.out HS.out.hs)));obtain ⟨q,hq⟩:∃q,wr.heap.size=q:=⟨_,rfl⟩;rw [hq] at HX6;simp only [hq]
    clear hx6 hk6 hz6 hload HFR HFD HK6 HS HW hq
    try simp only [Act.put]
    obtain ⟨bb,hbb⟩:∃bb,zaG f xs 0 none=bb:=⟨_,rfl⟩;have HBB:=zz hbb;clear hbb
    go_wp2_with fail
    go_loopw [9,22] (fun s9 s22 wx=>∃(j:Nat) (b:Option (Nat×FileD)),s9 = .int .i64 (atI b)∧s22 = .int .i64 (j:Nat)∧j≤xs.length∧Hid (zaG f (xs.drop j) j b=bb)∧Hid (∀x,b=some x→xs[x.1]? = some x.2)∧Hid (Below w6.heap.size w6 wx)) (fun _ s22 _=>xs.length-(intOf s22).toNat)
    case atStart=>exact ⟨0,none,rfl,rfl,Nat.zero_le _,zz (by rw [List.drop_zero];exact HBB.out),zz (fun _ h=>by cases h),zz (Below.refl _ _)⟩
    case round =>
     obtain ⟨j,b,rfl,rfl,hj,HJ,HJX,HJW⟩:=hrel;have HSX:=zz (HS6.out.keepB HJW.out);have HBX:=zz (show B≤w6.heap.size from Nat.le_trans HS6.out.hz HS6.out.hs);have HFI:=zz (HSX.out.ro.fi (Nat.le_trans HSX.out.hz HSX.out.hs));have HQX:=zz (show Blk wr q 70 (za f FA fc) from HX6.out.below HJW.out HX6.out.lt);have HDX:=zz (show zw wr B f (.slice FA f.d.length fc) from HFR6.out.below (HJW.out.mono HBX.out));have HWX:=zz (show Below z w wr from HW6.out.trans (HJW.out.mono HS6.out.hs));by_cases hjt:j<xs.length
     · obtain ⟨g,hg⟩:∃g,xs[j]? = some g:=⟨_,List.getElem?_eq_getElem hjt⟩;obtain ⟨rg,ro,GA,gc,rfl,hrg,hload,_,_,_,hgd,hgm,hgr⟩:=HFI.out.at_ hg;have i2:(0:Int)≤(j:Int):=by omega
       have i3:(j:Int)<(xs.length:Int):=by omega
       have HGR:=zz (show zw wr wr.heap.size g (.slice GA g.d.length gc) from ⟨GA,gc,rfl,hgd,hgm,hgr⟩);have HGP:=zz (HFC.out g (HXC.out g (List.mem_of_getElem? hg))).1;have HST:=zz (show zaG f (xs.drop (j+1)) (j+1) (if (decide (f.d=g.d)&&zcJ f g b)=true then some (j,g) else b)=bb from by
        have:=HJ.out;rw [show xs.drop j=g::xs.drop (j+1) from List.drop_eq_getElem?_toList_append.trans (by rw [hg];rfl),zrr] at this;exact this)
       have HG:=zz hg;clear hg hgd hgm hgr hrg;go_upto_region 9 with (refine zO rfl rfl (vs:=za g GA gc) rfl rfl (Blk.new _ _ _) rfl zaw (zaD _ _ _) ?_;intro w7 hx7 hk7 hz7)
       have HX7:=zz hx7;have HK7:=zz (show Below wr.heap.size wr w7 from (Keep.ofNew hk7).all);have y0:=hx7.cell 0;have y2:=hx7.cell 2;have x0:=(HQX.out.below HK7.out HQX.out.lt).cell 0;have x2:=(HQX.out.below HK7.out HQX.out.lt).cell 2;simp [za] at y0 y2 x0 x2;have hbq:∀m,Calls Tryz.prog 150 #[.slice FA f.d.length fc,.slice GA g.d.length gc] (w7.drewN m) (fun e w'=>e = .returned (.bool (decide (f.d=g.d)))∧∃n,w'=w7.drewN n):=fun m=>by
        obtain ⟨D1,d1,e1,_,_,r1⟩:=HDX.out.below (HK7.out.mono (Nat.le_trans HBX.out HJW.out.size));obtain ⟨D2,d2,e2,_,_,r2⟩:=HGR.out.below HK7.out;injection e1 with e1 _ e3;injection e2 with e2 _ e4;subst e1 e2 e3 e4;exact Calls.quiet_of_same (zdT (w:=w7.drewN m) (r1.drewN m) (r2.drewN m))
       have HN2:=zz (fun m=>Calls.quiet_of_same ((zg1 f.p g.p (w7.drewN m) HFP.out HGP.out).mono fun _ _ h=>⟨h.1,h.2.symm⟩));have HW7:=zz (show Below w6.heap.size w6 w7 from HJW.out.trans (HK7.out.mono HJW.out.size));obtain ⟨q7,hq7⟩:∃q7,wr.heap.size=q7:=⟨_,rfl⟩;simp only [hq7,Act.put] at y0 y2 ⊢;rw [hq7] at HX7;have hbp:zcJ f g b=zcJ f g b:=rfl;clear hx7 hk7 hz7 hload HGR;go_cut [51] (fun s51 wx=>s51 = .bool (decide (f.d=g.d)&&zcJ f g b)∧∃n,wx=w7.drewN n)
       case first =>
        cases hd:decide (f.d=g.d) with
        | false =>
         rw [hd] at hbq;have QB:=zz hbq;clear hbq
         go_quiet ((go_at_call 150;with_reducible exact QB.out _))
         go_wp2_with fail
         go_meet
         exact ⟨by rw [hd,Bool.false_and],_,rfl⟩
        | true =>
         rw [hd] at hbq;have QB:=zz hbq;clear hbq
         rcases b with _|x
         · have g1:atI none=-1:=rfl
           go_quiet ((go_at_call 150;with_reducible exact QB.out _))
           go_wp2_with fail
           go_meet
           exact ⟨by rw [hd];rfl,_,rfl⟩
         · have hx:=HJX.out x rfl;have g1:atI (some x)=(x.1:Int):=rfl;have hxl:x.1<xs.length:=(List.getElem?_eq_some_iff.1 hx).1;have i4:(0:Int)≤(x.1:Int):=by omega
           have i5:(x.1:Int)<(xs.length:Int):=by omega
           have i6:decide ((x.1:Int)<0)=false:=decide_eq_false (by omega);obtain ⟨rg2,ro2,GA2,gc2,hra2,_,_,hp2,_,_,_,_,_⟩:=(HFI.out.below HK7.out).at_ hx;injection hra2 with hra2;injection hra2 with e1 e2;subst e1 e2;have HN1:=zz (fun m=>Calls.quiet_of_same ((zg1 f.p x.2.p (w7.drewN m) HFP.out (HFC.out x.2 (HXC.out x.2 (List.mem_of_getElem? hx))).1).mono fun _ _ h=>⟨h.1,h.2.symm⟩));have HBT:=zz (zoC f g x);have HNB:=zz (show decide (zaS f.p g.p<zaS f.p x.2.p)=decide (((zaS f.p g.p:Nat):Int)<((zaS f.p x.2.p:Nat):Int)) from by rw [Bool.eq_iff_iff,decide_eq_true_eq,decide_eq_true_eq];omega);generalize zaS f.p x.2.p=n1 at *;generalize zaS f.p g.p=n2 at *;clear hx hbp
           cases hn:decide (n2<n1) with
           | false =>
            have hn':=HNB.out;rw [hn] at hn';have hn'':=hn'.symm;clear hn'
            go_quiet ((first|(go_at_call 150;with_reducible exact QB.out _)|(go_at_call 144;with_reducible exact HN1.out _)|(go_at_call 144;with_reducible exact HN2.out _)))
            go_wp2_with fail
            go_meet
            exact ⟨by rw [hd,HBT.out,hn];rfl,_,rfl⟩
           | true =>
            have hn':=HNB.out;rw [hn] at hn';have hn'':=hn'.symm;clear hn'
            go_quiet ((first|(go_at_call 150;with_reducible exact QB.out _)|(go_at_call 144;with_reducible exact HN1.out _)|(go_at_call 144;with_reducible exact HN2.out _)))
            go_wp2_with fail
            go_meet
            exact ⟨by rw [hd,HBT.out,hn];rfl,_,rfl⟩
       case rest =>
        obtain ⟨rfl,nn,hnn⟩:=hcut;have HW8:=zz (show Below w6.heap.size w6 wc from by rw [hnn];exact zr4 HW7.out nn);clear y0 y2 x0 x2 hbq HN2 hbp hnn
        cases hbt:(decide (f.d=g.d)&&zcJ f g b) with
        | false =>
         have HST2:=zz (show zaG f (xs.drop (j+1)) (j+1) b=bb from by have:=HST.out;rw [hbt] at this;exact this);clear HST hbt
         go_wp2_with fail
         go_roundw
         case rel=>exact ⟨j+1,b,rfl,by go_num,hjt,HST2,HJX,HW8⟩
         case measure=>simp [intOf];omega
        | true =>
         have HST2:=zz (show zaG f (xs.drop (j+1)) (j+1) (some (j,g))=bb from by have:=HST.out;rw [hbt] at this;exact this);clear HST hbt
         go_wp2_with fail
         go_roundw
         case rel=>exact ⟨j+1,some (j,g),rfl,by go_num,hjt,HST2,zz (by rintro x e;injection e with e;subst e;exact HG.out),HW8⟩
         case measure=>simp [intOf];omega
     · obtain rfl:j=xs.length:=by omega
       have HBE:=zz (show zaG f xs 0 none=b from by have:=HJ.out;rw [List.drop_length,zaG] at this;rw [HBB.out,this]);clear HJ HBB hjt hj HJW HFI
       rcases b with _|x
       · have HEX:=zz (zr0 (gone:=gone.drop (k+1)) HBE.out);obtain ⟨tv,t1,t2,t3⟩:=HSX.out.lo;have HT1:=zz t1;have HT2:=zz t2;have HT3:=zz t3;clear t1 t2 t3;have g1:atI none=-1:=rfl;have HQF:=zz (zaC HQX.out);have HM:=zz (show ls.length+1≤maxLen∧(ls.length+1)*48≤140737488355328 from by unfold maxLen;omega)
         go_wp2_with (first
          | (with_reducible refine zad rfl rfl rfl HQF.out ?_)
          | (refine zbi rfl zaf rfl zaU rfl rfl (by omega) rfl ?_)
          | (at_builtin;refine zgI rfl zaf rfl rfl (n:=ls.length) (xs:=zK ls tv) (Own.alloc HT2.out _) (m:=1) (by omega) rfl (ze.of_blk (n:=1) (xs:=(za f FA fc).toList) (heap_alloc_new _ _) rfl rfl) (zaD _ _ _) HM.out.1 HM.out.2 (by have:=HSX.out.hs;simp;omega) ?_;intro A9 c9 w9 o9 k9 n9;obtain ⟨s9,b9⟩:=HSX.out.left HT1.out HT3.out HDX.out o9 k9 n9;have HS9:=zz s9;have HB9:=zz b9;clear s9 b9 o9 k9 n9))
         go_roundw
         case rel=>exact ⟨k+1,ps,ls++[f],xs,pA,pc,A9,c9,rfl,by rw [List.length_append];rfl,rfl,by go_num,hlt,by omega,by rw [List.length_append,List.length_singleton];omega,hxs,HXC,zz (by have:=HEQ.out;rw [HDR.out,HEX.out] at this;simpa [List.append_assoc] using this),HS9,zz (HWX.out.trans HB9.out)⟩
         case measure=>simp [intOf];omega
       · have HEX:=zz (zt3 (gone:=gone.drop (k+1)) HBE.out);have hx:=HJX.out x rfl;have g1:atI (some x)=(x.1:Int):=rfl;have hxl:x.1<xs.length:=(List.getElem?_eq_some_iff.1 hx).1;have i4:(0:Int)≤(x.1:Int):=by omega
         have i5:(x.1:Int)<(xs.length:Int):=by omega
         have i6:decide ((x.1:Int)<0)=false:=decide_eq_false (by omega);obtain ⟨rg2,ro2,GA2,gc2,rfl,_,_,hp2,_,_,_,_,_⟩:=(HSX.out.ro.fi (Nat.le_trans HSX.out.hz HSX.out.hs)).at_ hx;have x0:=HQX.out.cell 0;simp [za] at x0;have x0':wr.drew.cell? ⟨q,0,none⟩=some (strC f.p):=x0;have hp2':wr.drew.cell? ⟨rg2,ro2+x.1*3,none⟩=some (strC x.2.p):=hp2;have HSD:=zz (HSX.out.keepB (Below.refl _ wr).drew);have HM:=zz (show ps.length+1≤maxLen∧(ps.length+1)*40≤140737488355328 from by unfold maxLen;omega);have hbd:∀W,(BdP #[(0,strC f.p),(1,strC x.2.p),(2,.int .i64 100)]).run Tryz.prog W = .ok (.agg #[strC f.p,strC x.2.p,.int .i64 100]) W:=fun W=>zjV f.p x.2.p 100 W;have hbs:∀W,(SlP 1 #[(0,.agg #[strC f.p,strC x.2.p,.int .i64 100])]).run Tryz.prog W = .ok (.slice (some ⟨W.heap.size,0,none⟩) 1 1) (W.alloc (.cells #[strC f.p,strC x.2.p,.int .i64 100] 188)):=fun W=>zbU zfv zgk rfl rfl (by omega) W;have HWD:=zz (show Below z wr wr.drew from (Below.refl _ wr).drew);clear hx x0 hp2
         go_wp2_with fail
         go_region_law (refine zdZ (by rfl) zfv (by rfl) (by rfl) (n:=ps.length) (xs:=ps.flatMap zv) (Own.alloc HSD.out.po _) (by rfl) (ze.of_blk (n:=1) (xs:=zv ⟨f.p,x.2.p,100⟩) (heap_alloc_new _ _) rfl rfl) (zdx _) HM.out.1 HM.out.2 (by have:=HSD.out.hs;simp at this ⊢;omega) ?_;intro A9 c9 w9 o9 k9;obtain ⟨s9,b9⟩:=HSD.out.pair (x:=⟨f.p,x.2.p,100⟩) o9 k9;have HS9:=zz s9;have HB9:=zz b9;clear s9 b9 o9 k9)
         all_goals
          obtain ⟨tv,t1,t2,t3⟩:=HS9.out.ro;have HT1:=zz t1;have HT3:=zz t3;have HDEL:=zz (zpO (zK xs tv) xs.length x.1 _ rc z w9 t2 (zkb t3) hxl (by omega));clear t1 t2 t3
          go_wp2_with (go_at_call 188;refine HDEL.out.mono ?_)
          rintro _ w10 ⟨rfl,o10,k10,n10⟩;obtain ⟨s10,b10⟩:=HS9.out.del HT1.out HT3.out hxl o10 k10 n10;have HS10:=zz s10;have HB10:=zz (show Below z w w10 from ((HWX.out.trans HWD.out).trans HB9.out).trans b10);clear s10 b10 o10 k10 n10
          go_wp2_with fail
          go_roundw
          case rel=>exact ⟨k+1,ps++[⟨f.p,x.2.p,100⟩],ls,xs.eraseIdx x.1,A9,c9,lA,lc,by rw [List.length_append];rfl,rfl,by rw [List.length_eraseIdx_of_lt hxl],by go_num,hlt,by rw [List.length_append,List.length_singleton];omega,by omega,by rw [List.length_eraseIdx_of_lt hxl];omega,zz (fun g hg=>HXC.out g (List.mem_of_mem_eraseIdx hg)),zz (by have:=HEQ.out;rw [HDR.out,HEX.out] at this;simpa [List.append_assoc] using this),HS10,HB10⟩
          case measure=>simp [intOf];omega
  · obtain rfl:k=gone.length:=by omega
    have hE:=HEQ.out;rw [List.drop_length,zr] at hE;simp only [List.append_nil] at hE;obtain ⟨rfl,rfl,rfl⟩:=hE
    go_wp2_with fail
    go_ret3
    exact ⟨pA,pc,lA,lc,rA,rc,rfl,HS.out.po,HS.out.lo,HS.out.ro,HW.out⟩
end Go.Proofs.YtmkmbbjgepcioaaGreatDoor
