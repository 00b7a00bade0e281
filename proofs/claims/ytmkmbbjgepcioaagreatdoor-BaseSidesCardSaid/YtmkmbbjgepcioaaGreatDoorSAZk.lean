/- Contract of the merger's fresh. No statement of the seat is proved here. -/
import Derived.Test.YtmkmbbjgepcioaaGreatDoorSAHq
import Derived.Test.YtmkmbbjgepcioaaGreatDoorSAZj
namespace Go.Proofs.YtmkmbbjgepcioaaGreatDoor
set_option maxHeartbeats 16000000
set_option maxRecDepth 100000
open Go.RowKit Go.Maps
theorem zan.map1 {w:World} {z mb cb q:Nat} {s:SideD} (h:zan w z mb cb q s):∃b1 n1 f1,w.cell? ⟨q,0,none⟩=some (.map (some b1))∧VM w b1 n1 f1∧(∀x,(f1 x).isSome=hasF s.f x)∧n1≤s.f.length∧b1<w.heap.size:=by
 obtain ⟨b1,b2,b3,n1,n2,n3,f1,f2,f3,h1,_⟩:=h;exact ⟨b1,n1,f1,(h1.blk.cell 0).trans rfl,h1.m1,h1.p1.1,h1.sz,h1.m1.lt⟩
theorem zb4.frm {w w':World} {z mb cb bx:Nat} {base:List FileD} (h:zb4 w z bx base) (hk:Frm z mb cb w w') (hz:z≤w.heap.size) (hm:z≤mb) (hc:z≤cb) (h1:bx∉[mb,cb]) (h2:∀wb n f,Blk w bx 166 #[.map (some wb)]→VM w wb n f→wb∉[mb,cb]):zb4 w' z bx base:=by
 obtain ⟨wb,n,f,g1,g2,g3⟩:=h;refine ⟨wb,n,f,hk.blk g1 h1 (by decide),g2.keep hk fun t=>?_,g3.below (hk.below (Nat.le_refl _) hz (by intro g hg;simp only [List.mem_cons,List.not_mem_nil,or_false] at hg;rcases hg with rfl|rfl <;> assumption))⟩
 rcases t with t|⟨_,e,_,cs,fz,hcc⟩
 · exact h2 wb n f g1 g2 t
 · obtain ⟨D,⟨es,clock,q1,_⟩,_⟩:=g2;rw [q1] at hcc;cases hcc
def zb1 (a:Pth→Bool) (b:Pth→Bool) (left:Pth→Bool) (f:Mp):Prop:=∀s,(f s).isSome=(a s||(b s&&!left s))
theorem zb1.start (a:Pth→Bool) (b:Pth→Bool) {f:Mp} (h:∀s,(f s).isSome=a s):zb1 a b b f:=fun s=>by rw [h];cases a s <;> cases b s <;> rfl
theorem zb1.put {a b left:Pth→Bool} {f:Mp} (h:zb1 a b left f) {s:Pth} (hb:b s=true) (v:Value):zb1 a b (fun x=>left x&&!decide (x=s)) (mput f s v):=fun t=>by
 unfold mput;by_cases e:t=s
 · subst e;rw [if_pos rfl,hb];simp
 · rw [if_neg e,h];simp [e]
theorem zb1.done {a b left:Pth→Bool} {f:Mp} (h:zb1 a b left f) (hl:∀s,left s=false) (s:Pth):(f s).isSome=(a s||b s):=by
 rw [h,hl];simp
theorem zeE (base:List FileD) (o t:SideD) (s:MSt) (p:Pth):(MSt.fresh1 base o t s p).t.length≤s.t.length+1:=by
 unfold MSt.fresh1
 split
 · rw [ziN,zd3,zjp,zlf];exact Nat.le_refl _
 · rw [zd3];exact Nat.le_refl _
 · rw [zd3];exact Nat.le_refl _
 · exact Nat.le_succ _
theorem zmh (z mb so st cb N:Nat) (s:MSt) (o t:SideD) (base:List FileD) (w:World) (wb nb:Nat) (fb:Mp) (hm:MGE w z mb so st cb N s) (ho:zan w z mb cb so o) (ht:zan w z mb cb st t) (hvb:VM w wb nb fb) (hfb:FMap w z base fb) (hwb:wb∉[mb,cb]) (no:o.f.length≤1000) (nt:t.f.length≤1000) (fo:Fits o.f) (ft:Fits t.f) (do_:∀p,(getF o.f p).d.length≤100000) (dt:∀p,(getF t.f p).d.length≤100000) (hl:s.t.length≤100000) (hN:N≤100000) :Calls Tryz.prog 70 #[.pointer (some ⟨mb,0,none⟩),.map (some wb)] w fun e w'=>e = .returned (.tuple #[])∧MGE w' z mb so st cb (N+4000) ((zat (o.f.map (·.p)++t.f.map (·.p))).foldl (MSt.fresh1 base o t) s)∧Frm z mb cb w w':=by
 have hz:=hm.zs;obtain ⟨zm1,zm2,zm3,zm4⟩:=hm.lts;obtain ⟨q,hq⟩:∃q,w.heap.size=q:=⟨_,rfl⟩;have hbx:Below w.heap.size w (w.alloc (.cells #[.map (some wb)] 166)):=(Below.refl _ w).alloc (Nat.le_refl _) _;have hbb:Blk (w.alloc (.cells #[.map (some wb)] 166)) q 166 #[.map (some wb)]:=by rw [←hq];exact Blk.new _ _ _
 have s1:(w.alloc (.cells #[.map (some wb)] 166)).heap.size=q+1:=by simp [hq]
 have m1:=@run_makeMap Tryz.prog 218 (w.alloc (.cells #[.map (some wb)] 166));rw [s1] at m1;have hbl:Below w.heap.size w ((w.alloc (.cells #[.map (some wb)] 166)).alloc (.map #[] 0)):=hbx.alloc (by simp) _;have hv0:VM ((w.alloc (.cells #[.map (some wb)] 166)).alloc (.map #[] 0)) (q+1) 0 zF:=by rw [←s1];exact VM.made _
 have H0:=zz (And.intro hm (And.intro ho (And.intro ht (And.intro hvb hfb))));have H1:=zz (And.intro (hbb.alloc (.map #[] 0)) (And.intro hv0 hbl));have HQ:=zz hq;clear hbx hbb s1 hbl hv0 hm ho ht hvb hfb;go_enter Tryz.func70,Tryz.ntmps70
 go_upto_region 3 with (refine zC rfl rfl (cs:=#[.map (some wb)]) rfl ?_)
 try rw [hq]
 generalize (w.alloc (.cells #[.map (some wb)] 166)).alloc (.map #[] 0)=w2 at *;clear m1;have e0:=(H0.out.1.keepB H1.out.2.2).ptrs.1;obtain ⟨b1,n1,f1,k0,v1,hs1,hn1,hb1⟩:=(H0.out.2.1.keepB H1.out.2.2 hz).map1;have hb1q:b1<q:=by
  obtain ⟨b1',n1',f1',k0',_,_,_,hb1'⟩:=H0.out.2.1.map1;have:=H1.out.2.2.cell (p:=⟨so,0,none⟩) H0.out.2.1.lt;rw [this,k0'] at k0;injection k0 with k0;injection k0 with k0;injection k0 with k0;omega
 obtain ⟨w3,hrg,hvr,hk3,hz3⟩:=v1.range Tryz.underlying166;obtain ⟨r,hr⟩:∃r,w2.heap.size=r:=⟨_,rfl⟩;have hqr:q+1<r:=by have:=H1.out.2.1.lt;omega
 rw [hr] at hrg hvr;have HVR:=zz hvr;have HV:=zz (H1.out.2.1.keep hk3 (fun q=>q));have HBX:=zz (H1.out.1.keep hk3 (fun q=>q));have HBL:=zz (show Below w.heap.size w w3 from H1.out.2.2.trans (hk3.all.mono H1.out.2.2.size));have HS1:=zz hs1;clear v1 hb1 hvr hk3 hz3 hs1 H1 hr
 go_wp2_with fail
 clear hrg e0 k0
 go_loopw [] (fun wq=>∃(left:Pth→Bool) (cnt n:Nat) (f:Mp),Hid (VR wq b1 r n1 f1 left cnt)∧Hid (VM wq (q+1) n f)∧n+cnt≤n1∧Hid (zb1 (fun _=>false) (fun s=>(f1 s).isSome) left f)∧Hid (Blk wq q 166 #[.map (some wb)])∧Hid (Below w.heap.size w wq)) (fun wq=>wq.rangeLeft b1 r)
 case atStart=>exact ⟨_,n1,0,zF,HVR,HV,by omega,zz (zb1.start _ _ fun _=>rfl),HBX,HBL⟩
 case round =>
  clear HVR HV HBX HBL;obtain ⟨left,cnt,n,f,HVR,HV,hnc,HSE,HBX,HBL⟩:=hrel;have hml:=HVR.out.left_eq
  rcases HVR.out.next 0 with ⟨_,q2,hnx⟩|⟨x,v,w5,cnt',l1,l2,hnx,r4,r5,r6,r7,hent⟩
  · have HD1:=zz (show ∀x,(f x).isSome=hasF o.f x from fun x=>by rw [HSE.out.done q2,HS1.out];simp);have hn0:n≤1000:=by omega
    have e1:=(H0.out.1.keepB HBL.out).ptrs.2;obtain ⟨b2,n2,f2,k0,v2,hs2,hn2,hb2⟩:=(H0.out.2.2.1.keepB HBL.out hz).map1;have hb2q:b2<q:=by
     obtain ⟨b1',n1',f1',k0',_,_,_,hb1'⟩:=H0.out.2.2.1.map1;have:=HBL.out.cell (p:=⟨st,0,none⟩) H0.out.2.2.1.lt;rw [this,k0'] at k0;injection k0 with k0;injection k0 with k0;injection k0 with k0;omega
    obtain ⟨w5,hrg,hvr,hk5,hz5⟩:=v2.range Tryz.underlying166;obtain ⟨r2,hr2⟩:∃r,wr.heap.size=r:=⟨_,rfl⟩;have hqr2:q+1<r2:=by have:=HV.out.lt;omega
    rw [hr2] at hrg hvr;have HVR2:=zz hvr;have HV5:=zz (HV.out.keep hk5 (fun q=>q));have HBX5:=zz (HBX.out.keep hk5 (fun q=>q));have HBL5:=zz (show Below w.heap.size w w5 from HBL.out.trans (hk5.all.mono HBL.out.size));have HS2:=zz hs2;clear v2 hb2 hvr hk5 hz5 hs2 hr2 hml q2 HVR HSE HV HBX HBL
    go_wp2_with fail
    clear hrg e1 k0 hnx
    go_loopw [] (fun wq=>∃(left:Pth→Bool) (cnt n':Nat) (f:Mp),Hid (VR wq b2 r2 n2 f2 left cnt)∧Hid (VM wq (q+1) n' f)∧n'+cnt≤n+n2∧Hid (zb1 (fun x=>hasF o.f x) (fun s=>(f2 s).isSome) left f)∧Hid (Blk wq q 166 #[.map (some wb)])∧Hid (Below w.heap.size w wq)) (fun wq=>wq.rangeLeft b2 r2)
    case atStart=>exact ⟨_,n2,n,f,HVR2,HV5,Nat.le_refl _,zz (zb1.start _ _ HD1.out),HBX5,HBL5⟩
    case round =>
     clear HVR2 HV5 HBX5 HBL5;obtain ⟨left,cnt,n',f,HVR,HV,hnc2,HSE,HBX,HBL⟩:=hrel;have hml:=HVR.out.left_eq
     rcases HVR.out.next 0 with ⟨_,q2,hnx⟩|⟨x,v,w5,cnt',l1,l2,hnx,r4,r5,r6,r7,hent⟩
     · have HD2:=zz (show ∀x,(f x).isSome=(hasF o.f x||hasF t.f x) from fun x=>by rw [HSE.out.done q2,HS2.out]);have hn9:n'≤2000:=by omega
       clear hml q2 HVR HSE
       go_wp2_with (first
        | (go_at_call 115;refine (zsv (some (q+1)) wr).mono ?_;rintro _ w1 ⟨rfl,rfl⟩)
        | (go_at_call 114;refine (zop HV.out (by omega)).mono ?_))
       rintro _ w7 ⟨ks,A4,c4,rfl,hrise,hmem,hown,hbel⟩;have HKS:=zz (show zat (o.f.map (·.p)++t.f.map (·.p))=ks from zda (zbI _) hrise fun x=>by
        rw [zbm,hmem,HD2.out,Bool.or_eq_true,List.mem_append,zaa,zaa,List.mem_map,List.mem_map])
       have hkl:ks.length≤2000:=by
        have:=zc1 (o.f.map (·.p)++t.f.map (·.p));rw [HKS.out,List.length_append,List.length_map,List.length_map] at this;omega
       have HKP:Hid (∀x∈ks,x.length≤1000000):=zz fun x hx=>by
        have:=(hmem x).1 hx;rw [HD2.out,Bool.or_eq_true] at this
        rcases this with this|this
        · obtain ⟨g1,g2⟩:=zav this;have:=(fo.2 _ g1).1;rw [g2] at this;exact this
        · obtain ⟨g1,g2⟩:=zav this;have:=(ft.2 _ g1).1;rw [g2] at this;exact this
       have hb7:Below wr.heap.size wr w7:=((Below.refl _ wr).alloc (Nat.le_refl _) _).trans (hbel.mono (by simp));have HB7:=zz (show Below w.heap.size w w7 from HBL.out.trans (hb7.mono HBL.out.size));have HBX7:=zz (show zb4 w7 z q base from ⟨wb,nb,fb,HBX.out.below hb7 HBX.out.lt,H0.out.2.2.2.1.keep (Below.keep_ HB7.out zl) (fun q=>q),H0.out.2.2.2.2.below (HB7.out.mono hz)⟩);have HOW:=zz (show Own w7 z 9 1 A4 ks.length c4 (strL ks) from Own.mono hown (by have:=HBL.out.size;simp;omega));have HS0:=zz (show Frm z mb cb w w7 from Frm.ofBelow HB7.out hz);have HM7:=zz (H0.out.1.keepB HB7.out);have HO7:=zz (H0.out.2.1.keepB HB7.out hz);have HT7:=zz (H0.out.2.2.1.keepB HB7.out hz);have HBK:=zz (show Blk w7 q 166 #[.map (some wb)] from HBX.out.below hb7 HBX.out.lt);clear hrise hmem hown hbel hb7 HBX HBL HV HD1 HD2 HS1 HS2 hnx;have hnm:q∉[mb,cb]:=by simp only [List.mem_cons,List.not_mem_nil,or_false];omega
       have HWB:=zz (show ∀W wb' n' f',Blk W q 166 #[.map (some wb)]→Blk W q 166 #[.map (some wb')]→VM W wb' n' f'→wb'∉[mb,cb] from fun W wb' n' f' g1 g2 _=>by
        unfold Blk at g1 g2;rw [g1] at g2;injection g2 with g2;injection g2 with g2;injection g2 with g2;injection g2 with g2;injection g2 with g2;injection g2 with g2;rw [←g2];exact hwb)
       go_wp2_with fail
       go_loopw [46] (fun s46 wx=>∃(k:Nat),s46 = .int .i64 (k:Nat)∧k≤ks.length∧((ks.take k).foldl (MSt.fresh1 base o t) s).t.length≤s.t.length+k∧Hid (MGE wx z mb so st cb (N+2*k) ((ks.take k).foldl (MSt.fresh1 base o t) s))∧Hid (zan wx z mb cb so o)∧Hid (zan wx z mb cb st t)∧Hid (zb4 wx z q base∧Blk wx q 166 #[.map (some wb)])∧Hid (Own wx z 9 1 A4 ks.length c4 (strL ks))∧Hid (Frm z mb cb w wx)) (fun s46 _=>ks.length-(intOf s46).toNat)
       case atStart=>exact ⟨0,rfl,Nat.zero_le _,Nat.le_refl _,HM7,HO7,HT7,zz ⟨HBX7.out,HBK.out⟩,HOW,HS0⟩
       case round =>
        clear HM7 HO7 HT7 HBX7 HOW HS0 HBK;obtain ⟨k,rfl,hk,hsl,HM,HO,HT,HBX,HOW,HFR⟩:=hrel;by_cases hlt:k<ks.length
        · obtain ⟨x,hx⟩:∃x,ks[k]? = some x:=⟨_,List.getElem?_eq_getElem hlt⟩;obtain ⟨g4,f4,rfl,_,hc4⟩:=(Own.reads HOW.out).at0 (by omega) (by omega);have d4:=hc4 k (strC x) (by simp [strL,hx,strC]);have i0:(0:Int)≤(k:Int):=by omega
          have i1:(k:Int)<(ks.length:Int):=by omega
          have HXP:=zz (HKP.out x (List.mem_of_getElem? hx));have HTK:=zz (show (ks.take (k+1)).foldl (MSt.fresh1 base o t) s=MSt.fresh1 base o t ((ks.take k).foldl (MSt.fresh1 base o t) s) x from by rw [List.take_add_one,hx];simp);obtain ⟨s',hs'⟩:∃s',(ks.take k).foldl (MSt.fresh1 base o t) s=s':=⟨_,rfl⟩
          rw [hs'] at HM HTK hsl;have hzx:=HM.out.zs;clear hc4 hx hs';have e0:=HM.out.ptrs.1;have e1:=HM.out.ptrs.2;have hd0:Below wr.heap.size wr wr.drew:=(Below.refl _ wr).drew;have HNO:=zz (fun W (hW:Below wr.heap.size wr W)=>zj9 x W (HO.out.keepB hW hzx) (HBX.out.1.keepB hW hzx) HXP.out);have HNT:=zz (fun W (hW:Below wr.heap.size wr W)=>zj9 x W (HT.out.keepB hW hzx) (HBX.out.1.keepB hW hzx) HXP.out);have HCE:=zz (fun W (hW:Below wr.heap.size wr W)=>show W.cell? ⟨mb,0,none⟩=some (.pointer (some ⟨so,0,none⟩))∧W.cell? ⟨mb,1,none⟩=some (.pointer (some ⟨st,0,none⟩)) from (HM.out.keepB hW).ptrs)
          have HF1:=zz (show MSt.fresh1 base o t s' x=match o.isNew base x,t.isNew base x with
           | true,true=>s'.both x zbJ 1 (getF o.f x) (getF t.f x)
           | true,false=>s'.stay x (getF o.f x)
           | false,true=>s'.stay x (getF t.f x)
           | false,false=>s' from rfl)
          generalize o.isNew base x=io at *;generalize t.isNew base x=it at *;go_upto_region 14 with fail
          go_cut [10,11] (fun s10 s11 wy=>s10 = .bool io∧s11 = .bool it∧Hid (Below wr.heap.size wr wy))
          case first =>
           go_region_law (first
            | (go_simp;go_at_call 113;with_reducible refine (HNO.out _ (by first|exact hd0|exact HBt.out)).mono ?_;rintro _ w8 ⟨rfl,b8⟩;have HBo:=zz (show Below wr.heap.size wr w8 from by first|exact hd0.trans (b8.mono hd0.size)|exact HBt.out.trans (b8.mono HBt.out.size));obtain ⟨o0,o1⟩:=HCE.out w8 HBo.out;clear b8)
            | (go_simp;go_at_call 113;with_reducible refine (HNT.out _ (by first|exact hd0|exact HBo.out)).mono ?_;rintro _ w9 ⟨rfl,b9⟩;have HBt:=zz (show Below wr.heap.size wr w9 from by first|exact hd0.trans (b9.mono hd0.size)|exact HBo.out.trans (b9.mono HBo.out.size));obtain ⟨t0,t1⟩:=HCE.out w9 HBt.out;clear b9))
           all_goals
            go_wp2_with fail
            go_meet
            exact ⟨rfl,rfl,by first|exact HBt|exact HBo⟩
          case rest =>
           obtain ⟨rfl,rfl,HB8⟩:=hcut;generalize wc=w8 at *;have HM8:=zz (HM.out.keepB HB8.out);have HO8:=zz (HO.out.keepB HB8.out hzx);have HT8:=zz (HT.out.keepB HB8.out hzx);have HBX8:=zz (And.intro (HBX.out.1.keepB HB8.out hzx) (HBX.out.2.below HB8.out HBX.out.2.lt));have HOW8:=zz (show Own w8 z 9 1 _ ks.length c4 (strL ks) from Own.kept (b':=0) (E:=[]) (G:=[]) HOW.out (Kept.ofBelow HB8.out) (by simp) (by simp));have HFR8:=zz (HFR.out.trans (Frm.ofBelow HB8.out hzx));clear HM HO HT HBX HOW HFR HNO HNT HCE e0 e1 hd0 HB8 d4;have hz8:=HM8.out.zs;have e0:=HM8.out.ptrs.1;have e1:=HM8.out.ptrs.2;obtain ⟨p1,m1,k1⟩:=HO8.out.look;obtain ⟨D1,d1,r1,lk1⟩:=k1 x (by have:=HXP.out;unfold maxLen;omega);obtain ⟨p2,m2,k2⟩:=HT8.out.look;obtain ⟨D2,d2,r2',lk2⟩:=k2 x (by have:=HXP.out;unfold maxLen;omega);have do1:=do_ x;have dt1:=dt x;generalize getF o.f x=fx at *;generalize getF t.f x=fy at *;have HDX:=zz (show zo w8 z (fx,(D1,d1)) from zo.of_reads r1);have HDY:=zz (show zo w8 z (fy,(D2,d2)) from zo.of_reads r2');have lkx:=lk1 w8 (Below.refl _ _);have lky:=lk2 w8 (Below.refl _ _);have lkx':=lk1 w8.drew (Below.refl _ _).drew;have lky':=lk2 w8.drew (Below.refl _ _).drew;clear k1 k2 r1 r2' lk1 lk2
           have HNEXT:=zz (fun (W:World) (sN:MSt) (NN:Nat) (hN9:NN≤N+2*(k+1)) (m9:MGE W z mb so st cb NN sN) (k9:Frm z mb cb w8 W)=>show MGE W z mb so st cb (N+2*(k+1)) sN∧zan W z mb cb so o∧zan W z mb cb st t∧(zb4 W z q base∧Blk W q 166 #[.map (some wb)])∧Own W z 9 1 _ ks.length c4 (strL ks)∧Frm z mb cb w W from
            ⟨m9.more hN9,HO8.out.frm k9 hz8 zm1 zm3,HT8.out.frm k9 hz8 zm1 zm3,⟨HBX8.out.1.frm k9 hz8 zm1 zm3 hnm (fun wb' n' f' g1 g2=>HWB.out _ wb' n' f' HBX8.out.2 g1 g2),k9.blk HBX8.out.2 hnm (by decide)⟩,HOW8.out.frm k9 (by decide) (by obtain ⟨A9,a9⟩:=HM8.out.a;exact a9.noRow (by decide)),HFR8.out.trans k9⟩)
           cases io with
           | true =>
            cases it with
            | true =>
             have HF2:=zz (show MSt.fresh1 base o t s' x=s'.both x zbJ 1 fx fy from HF1.out);have hdr:Below w8.heap.size w8 w8.drew:=(Below.refl _ w8).drew;have HBO:=zz (zj3 z mb so st cb (N+2*k) s' x (zbJ,(none,0)) 1 (fx,(D1,d1)) (fy,(D2,d2)) w8.drew (HM8.out.keepB hdr) ⟨Nat.le_refl _,Nat.zero_le _,.inl ze.none_⟩ (HDX.out.keepB hdr hz8) (HDY.out.keepB hdr hz8) (by omega) HXP.out (by omega) (by decide) do1 dt1);have HKD:=zz (show Frm z mb cb w8 w8.drew from Frm.ofBelow hdr hz8);clear HF1 hdr
             go_wp2_with fail
             go_region_law (go_simp;go_at_call 112;refine HBO.out.mono ?_;rintro _ w9 ⟨rfl,m9,k9⟩;have HX9:=zz (HNEXT.out w9 _ _ (by omega) m9 (HKD.out.trans k9));clear m9 k9)
             all_goals
              go_wp2_with fail
              go_roundw
              case rel=>exact ⟨k+1,by go_num,hlt,by rw [HTK.out];have:=zeE base o t s' x;omega,zz (by rw [HTK.out,HF2.out];exact HX9.out.1),zz HX9.out.2.1,zz HX9.out.2.2.1,zz HX9.out.2.2.2.1,zz HX9.out.2.2.2.2.1,zz HX9.out.2.2.2.2.2⟩
              case measure=>simp [intOf];omega
            | false =>
             have HF2:=zz (show MSt.fresh1 base o t s' x=s'.stay x fx from HF1.out);have HST:=zz (HM8.out.stay (x:=(fx,(D1,d1))) HDX.out x (by omega));clear HF1
             go_wp2_with (go_at_call 110;refine HST.out.mono ?_;rintro _ w9 ⟨rfl,m9,k9⟩;have HX9:=zz (HNEXT.out w9 _ _ (by omega) m9 k9);clear m9 k9)
             go_roundw
             case rel=>exact ⟨k+1,by go_num,hlt,by rw [HTK.out];have:=zeE base o t s' x;omega,zz (by rw [HTK.out,HF2.out];exact HX9.out.1),zz HX9.out.2.1,zz HX9.out.2.2.1,zz HX9.out.2.2.2.1,zz HX9.out.2.2.2.2.1,zz HX9.out.2.2.2.2.2⟩
             case measure=>simp [intOf];omega
           | false =>
            cases it with
            | true =>
             have HF2:=zz (show MSt.fresh1 base o t s' x=s'.stay x fy from HF1.out);have HST:=zz (HM8.out.stay (x:=(fy,(D2,d2))) HDY.out x (by omega));clear HF1
             go_wp2_with (go_at_call 110;refine HST.out.mono ?_;rintro _ w9 ⟨rfl,m9,k9⟩;have HX9:=zz (HNEXT.out w9 _ _ (by omega) m9 k9);clear m9 k9)
             go_roundw
             case rel=>exact ⟨k+1,by go_num,hlt,by rw [HTK.out];have:=zeE base o t s' x;omega,zz (by rw [HTK.out,HF2.out];exact HX9.out.1),zz HX9.out.2.1,zz HX9.out.2.2.1,zz HX9.out.2.2.2.1,zz HX9.out.2.2.2.2.1,zz HX9.out.2.2.2.2.2⟩
             case measure=>simp [intOf];omega
            | false =>
             have HF2:=zz (show MSt.fresh1 base o t s' x=s' from HF1.out);have HX9:=zz (HNEXT.out w8 s' (N+2*k) (by omega) HM8.out (Kept.refl _ _ _ _));clear HF1
             go_wp2_with fail
             go_roundw
             case rel=>exact ⟨k+1,by go_num,hlt,by rw [HTK.out];have:=zeE base o t s' x;omega,zz (by rw [HTK.out,HF2.out];exact HX9.out.1),zz HX9.out.2.1,zz HX9.out.2.2.1,zz HX9.out.2.2.2.1,zz HX9.out.2.2.2.2.1,zz HX9.out.2.2.2.2.2⟩
             case measure=>simp [intOf];omega
        · obtain rfl:k=ks.length:=by omega
          have hE:=HM.out;rw [List.take_length] at hE;have HE:=zz hE;clear hE
          go_wp2_with fail
          first|refine bodyPost_end (results_none rfl _ _ _) rfl ?_|refine bodyPost_ret (results_none rfl _ _ _) rfl ?_
          exact ⟨rfl,by rw [HKS.out];exact HE.out.more (by omega),HFR.out⟩
     · have HXP:Hid (x.length≤1000000):=zz (by
        have:hasF t.f x=true:=by rw [←HS2.out x,l2];rfl
        obtain ⟨g1,g2⟩:=zav this;have:=(ft.2 _ g1).1;rw [g2] at this;exact this)
       have hml2:=r4.left_eq;have hv5:=HV.out.keep r6 (by unfold Only;omega);obtain ⟨w6,hst,hv6,hk6,hz6⟩:=hv5.store (s:=x) Tryz.underlying218 (by unfold maxLen;omega) (by have:=HXP.out;unfold maxLen;omega) (.int .i64 0);have HVR6:=zz (r4.keep hk6 (by unfold Only;omega) (by unfold Only;omega));have hml3:=HVR6.out.left_eq;have HV6:=zz hv6;have HSE6:=zz (HSE.out.put (s:=x) (by rw [l2];rfl) (.int .i64 0));have HBX6:=zz ((HBX.out.keep r6 (by unfold Only;omega)).keep hk6 (by unfold Only;omega));have hzq:q≤wr.heap.size:=by have:=HBL.out.size;rw [HQ.out] at this;exact this
       have HBL6:=zz (show Below w.heap.size w w6 from (HBL.out.trans (r6.below (by rw [HQ.out];exact hzq) (fun j hj q=>by unfold Only at q;have:=HQ.out;omega))).trans (hk6.below (by rw [HQ.out,r7];exact hzq) (fun j hj q=>by unfold Only at q;have:=HQ.out;omega)));have HM:=zz (show w6.rangeLeft b2 r2<wr.rangeLeft b2 r2 from by rw [hml,hml3];exact r5);have hnn:(if (f x).isSome=true then n' else n'+1)+cnt'≤n+n2:=by split <;> omega
       unfold strC at hnx hent hst;clear hml hml2 hml3 hv5 hv6 hk6 hz6 hzq l1 l2 r4 r5 r6 r7 HBX HBL HSE HV HVR
       go_wp2_with fail
       go_roundw
       case rel=>exact ⟨_,cnt',_,_,HVR6,HV6,hnn,HSE6,HBX6,HBL6⟩
       case measure=>exact HM.out
  · have HXP:Hid (x.length≤1000000):=zz (by
     have:hasF o.f x=true:=by rw [←HS1.out x,l2];rfl
     obtain ⟨g1,g2⟩:=zav this;have:=(fo.2 _ g1).1;rw [g2] at this;exact this)
    have hml2:=r4.left_eq;have hv5:=HV.out.keep r6 (by unfold Only;omega);obtain ⟨w6,hst,hv6,hk6,hz6⟩:=hv5.store (s:=x) Tryz.underlying218 (by unfold maxLen;omega) (by have:=HXP.out;unfold maxLen;omega) (.int .i64 0);have HVR6:=zz (r4.keep hk6 (by unfold Only;omega) (by unfold Only;omega));have hml3:=HVR6.out.left_eq;have HV6:=zz hv6;have HSE6:=zz (HSE.out.put (s:=x) (by rw [l2];rfl) (.int .i64 0));have HBX6:=zz ((HBX.out.keep r6 (by unfold Only;omega)).keep hk6 (by unfold Only;omega));have hzq:q≤wr.heap.size:=by have:=HBL.out.size;rw [HQ.out] at this;exact this
    have HBL6:=zz (show Below w.heap.size w w6 from (HBL.out.trans (r6.below (by rw [HQ.out];exact hzq) (fun j hj q=>by unfold Only at q;have:=HQ.out;omega))).trans (hk6.below (by rw [HQ.out,r7];exact hzq) (fun j hj q=>by unfold Only at q;have:=HQ.out;omega)));have HM:=zz (show w6.rangeLeft b1 r<wr.rangeLeft b1 r from by rw [hml,hml3];exact r5);have hnn:(if (f x).isSome=true then n else n+1)+cnt'≤n1:=by split <;> omega
    unfold strC at hnx hent hst;clear hml hml2 hml3 hv5 hv6 hk6 hz6 hzq l1 l2 r4 r5 r6 r7 HBX HBL HSE HV HVR
    go_wp2_with fail
    go_roundw
    case rel=>exact ⟨_,cnt',_,_,HVR6,HV6,hnn,HSE6,HBX6,HBL6⟩
    case measure=>exact HM.out
end Go.Proofs.YtmkmbbjgepcioaaGreatDoor
