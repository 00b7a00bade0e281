/- Contract of rename.Detect. No statement of the seat is proved here. -/
import Derived.Test.YtmkmbbjgepcioaaGreatDoorSAHq
import Derived.Test.YtmkmbbjgepcioaaGreatDoorSA20
import Derived.Test.YtmkmbbjgepcioaaGreatDoorSA14
namespace Go.Proofs.YtmkmbbjgepcioaaGreatDoor
set_option maxHeartbeats 32000000
set_option maxRecDepth 100000
open Go.RowKit Go.Maps
structure DetIn (l:List ChangeD):Prop where
 len:l.length≤1000000
 old:∀x∈l,x.old.p.length≤1000000∧x.old.d.length≤1000000
 new:∀x∈l,x.new.p.length≤1000000∧x.new.d.length≤1000000
 n1:((zY l).map (·.p)).Nodup
 n2:((zX l).map (·.p)).Nodup
theorem DetIn.g {l:List ChangeD} (h:DetIn l):Fits (zY l):=⟨Nat.le_trans (zli l) h.len,fun f hf=>by obtain ⟨x,hx,rfl⟩:=znP hf;exact h.old x hx⟩
theorem DetIn.c {l:List ChangeD} (h:DetIn l):Fits (zX l):=⟨Nat.le_trans (zsO l) h.len,fun f hf=>by obtain ⟨x,hx,rfl⟩:=ztJ hf;exact h.new x hx⟩
theorem Fits.sub {l m:List FileD} (h:Fits l) (hs:m.Sublist l):Fits m:=⟨Nat.le_trans hs.length_le h.1,fun f hf=>h.2 f (hs.mem hf)⟩
theorem zdm {w w':World} {b n base:Nat} {f:Mp} {e:TypeId} {size m c:Nat} {A:Option Addr} {xs:List Value} (ho:Own w base e size A m c xs) (hv:VM w b n f) (hk:Keep (Only b) w w'):Own w' base e size A m c xs :=
 ho.same1 fun a ha=>hk.block _ (ho.blkA a ha).2.1 fun q=>by
  unfold Only at q;obtain ⟨_,_,cs,hb⟩:=ho.blkA a ha;rw [q] at hb;obtain ⟨D,⟨es,clock,q1,_⟩,_⟩:=hv;unfold Blk at hb;rw [q1] at hb;cases hb
theorem zqp {w:World} {q:Nat} {x:LikD} (h:Blk w q 265 (likL x).toArray):(Instr.loadAt 188 (.pointer (some ⟨q,0,none⟩))).run Tryz.prog w = .ok (.agg (zv ⟨x.old,x.new,x.sc⟩).toArray) w :=
 zcd (P:=Tryz.prog) h 0 (zv ⟨x.old,x.new,x.sc⟩).toArray Tryz.underlying188 rfl (by kernel_rfl) (by simp [likL,zv])
def BdL (ps:Array (Nat×Value)):Sem Value:=Instr.build 265 ps
theorem bd_l (ps:Array (Nat×Value)):Instr.build 265 ps=BdL ps:=rfl
def SlL (n:Nat) (ps:Array (Nat×Value)):Sem Value:=Instr.buildSlice 263 n ps
theorem sl_l (n:Nat) (ps:Array (Nat×Value)):Instr.buildSlice 263 n ps=SlL n ps:=rfl
def LdCh (v:Value):Sem Value:=Instr.loadAt 183 v
theorem zq4 (v:Value):Instr.loadAt 183 v=LdCh v:=rfl
def LdLk (v:Value):Sem Value:=Instr.loadAt 265 v
theorem zpi (v:Value):Instr.loadAt 265 v=LdLk v:=rfl
def LdPr (v:Value):Sem Value:=Instr.loadAt 188 v
theorem zif (v:Value):Instr.loadAt 188 v=LdPr v:=rfl
theorem VM.kept {w w':World} {b n base:Nat} {f:Mp} {E:List TypeId} (hv:VM w b n f) (hk:Kept base E [] w w'):VM w' b n f:=hv.keep hk fun t=>by
 rcases t with t|⟨_,e,_,cs,fz,hc⟩
 · cases t
 · obtain ⟨D,⟨es,clock,q1,_⟩,_⟩:=hv;rw [q1] at hc;cases hc
theorem LO.get {w:World} {z:Nat} {A:Option Addr} {c:Nat} {ls:List LikD} (h:LO w z A c ls) {k:Nat} {x:LikD} (hk:ls[k]? = some x):∃g off,A=some ⟨g,off,none⟩∧(LdLk (.pointer (some ⟨g,off+k*4,none⟩))).run Tryz.prog w = .ok (.agg (likL x).toArray) w:=by
 have hlt:k<ls.length:=(List.getElem?_eq_some_iff.1 hk).1;obtain ⟨g,off,rfl,_,hc⟩:=(Own.reads h).at0 (by omega) (by omega);refine ⟨g,off,rfl,zaE w _ (likL x).toArray Tryz.underlying265 rfl zf7 (fun j v hj=>?_)⟩;have:=hc _ _ (zaV (f:=likL) (C:=4) (fun _=>rfl) ls k j x hk v (by rw [←hj]));rw [zJ];rw [←Nat.add_assoc] at this;exact this
def zg4 (l:List ChangeD) (z:Nat) (w:World) (e:Ending) (w':World):Prop:=∃A c,e = .returned (.slice A (zay l).length c)∧PO w' z A c (zay l)∧Below z w w'
attribute [local go_sem ↓] ld_f zq4 zpi zif bd_p bd_l sl_l
theorem zoU (l:List ChangeD) (A1:Option Addr) (c1 B:Nat) (w:World) (hB:B≤w.heap.size) (h1:CI w B A1 l) (hi:DetIn l) :Calls Tryz.prog 106 #[.slice A1 l.length c1] w (zg4 l w.heap.size w):=by
 obtain ⟨z,hz⟩:∃z,w.heap.size=z:=⟨_,rfl⟩;rw [hz];have HP:=zz (show zg4 l z w=fun e w'=>∃A c,e = .returned (.slice A (zay l).length c)∧PO w' z A c (zay l)∧Below z w w' from rfl);rw [HP.out];clear HP;obtain ⟨R,hR⟩:∃R,zay l=R:=⟨_,rfl⟩;rw [hR];have HR:=zz hR;have H1:=zz h1;have HI:=zz hi;have hl:=hi.len;rw [hz] at hB;have HZ:=zz hB;have HZS:=zz hz;clear hR h1 hi hB hz;go_enter Tryz.func106,Tryz.ntmps106
 go_wp2_with fail
 go_loopw [3,4,20] (fun s3 s4 s20 wr=>∃(k:Nat) (gA:Option Addr) (gc:Nat) (cA:Option Addr) (cc:Nat) (gs cs:List FileD),s3 = .slice gA gs.length gc∧s4 = .slice cA cs.length cc∧s20 = .int .i64 (k:Nat)∧k≤l.length∧gs.length≤k∧cs.length≤k∧Hid (gs=zY (l.take k))∧Hid (cs=zX (l.take k))∧Hid (TwoF wr z B gA gc cA cc gs cs)∧Hid (Below z w wr)) (fun _ _ s20 _=>l.length-(intOf s20).toNat)
 case atStart=>exact ⟨0,none,0,none,0,[],[],rfl,rfl,rfl,Nat.zero_le _,Nat.le_refl _,Nat.le_refl _,zz rfl,zz rfl,zz ⟨FO.nil_ _ _ _,FO.nil_ _ _ _,zbl.none_ _,zbl.none_ _,HZ.out,by rw [HZS.out];exact Nat.le_refl _⟩,zz (Below.refl _ _)⟩
 case round =>
  obtain ⟨k,gA,gc,cA,cc,gs,cs,rfl,rfl,rfl,hk,hgl,hcl,HG,HC,HT,HW⟩:=hrel;by_cases hlt:k<l.length
  · obtain ⟨x,hx⟩:∃x,l[k]? = some x:=⟨_,List.getElem?_eq_getElem hlt⟩;obtain ⟨gg,off,oA,oc,nA,nc,rfl,hgB,hload,ho,hn⟩:=ztk (CI.below H1.out (HW.out.mono HZ.out)) hx;have hload:(LdCh (.pointer (some ⟨gg,off+k*6,none⟩))).run Tryz.prog wr = .ok (.agg (chgC x (.slice oA x.old.d.length oc) (.slice nA x.new.d.length nc))) wr:=hload;have i0:(0:Int)≤(k:Int):=by omega
    have i1:(k:Int)<(l.length:Int):=by omega
    have HO:=zz ho;have HN:=zz hn;have HGT:=zz (zt2 hx);have HCT:=zz (zoW hx);clear ho hn hx;go_upto_region 5 with (refine zO rfl rfl (vs:=chgC x (.slice oA x.old.d.length oc) (.slice nA x.new.d.length nc)) rfl rfl (Blk.new _ _ _) rfl zea (zfk _ rfl rfl) ?_;intro w6 hx6 hk6 hz6)
    have HX6:=zz hx6;have HK6:=zz (show Below wr.heap.size wr w6 from (Keep.ofNew hk6).all);have HT6:=zz (HT.out.keepB HK6.out);have HW6:=zz (show Below z w w6 from HW.out.trans (HK6.out.mono HT.out.hs));have HO6:=zz (HO.out.below (HK6.out.mono (Nat.le_trans HZ.out HT.out.hs)));have HN6:=zz (HN.out.below (HK6.out.mono (Nat.le_trans HZ.out HT.out.hs)));obtain ⟨q,hq⟩:∃q,wr.heap.size=q:=⟨_,rfl⟩;rw [hq] at HX6;simp only [hq,Act.put]
    have x4:=HX6.out.cell 4;have x1:=HX6.out.cell 1;simp [chgC] at x1 x4;have hl1:(LdF (.pointer (some ⟨q,0,none⟩))).run Tryz.prog w6 = .ok (.agg (za x.old oA oc)) w6:=zf6 HX6.out;have HC1:=zz (zkO x.old oA oc w6);clear hx6 hk6 hz6 hload HO HN HK6 HT HW hq;go_cut [24] (fun s24 wx=>s24 = .bool (x.new.k==0&&zaL x.old)∧Hid (Below w6.heap.size w6 wx))
    case first =>
     cases hk1:(x.new.k==0) with
     | false =>
      go_wp2_with fail
      go_meet
      exact ⟨by rw [hk1];rfl,zz (Below.refl _ _)⟩
     | true =>
      go_wp2_with (go_at_call 141;refine HC1.out.mono ?_;rintro _ w7 ⟨rfl,b7⟩;have HB7:=zz b7;clear b7)
      go_meet
      exact ⟨by rw [hk1];rfl,HB7⟩
    case rest =>
     obtain ⟨rfl,HB7⟩:=hcut;have HT7:=zz (HT6.out.keepB HB7.out);have HW7:=zz (show Below z w wc from HW6.out.trans (HB7.out.mono HT6.out.hs));have HX7:=zz (show Blk wc q 183 (chgC x (.slice oA x.old.d.length oc) (.slice nA x.new.d.length nc)) from HX6.out.below HB7.out HX6.out.lt);have HO7:=zz (HO6.out.below (HB7.out.mono (Nat.le_trans HZ.out HT6.out.hs)));have HN7:=zz (HN6.out.below (HB7.out.mono (Nat.le_trans HZ.out HT6.out.hs)));have HM:=zz (show (gs.length+1≤maxLen∧(gs.length+1)*48≤140737488355328)∧(cs.length+1≤maxLen∧(cs.length+1)*48≤140737488355328) from by unfold maxLen;omega);clear x1 x4 hl1 HC1 HB7 HT6 HW6 HX6 HO6 HN6
     cases hb1:(x.new.k==0&&zaL x.old) with
     | true =>
      have HGN:=zz (show gs++[x.old]=zY (l.take (k+1)) from by rw [HGT.out,hb1,←HG.out];rfl);have HCN:=zz (show cs=zX (l.take (k+1)) from by rw [HCT.out,hb1,←HC.out];simp);obtain ⟨tv,t1,t2,t3⟩:=HT7.out.go;have HT1:=zz t1;have HT2:=zz t2;have HT3:=zz t3;have hl1:(LdF (.pointer (some ⟨q,0,none⟩))).run Tryz.prog wc = .ok (.agg (za x.old oA oc)) wc:=zf6 HX7.out;clear t1 t2 t3 hb1
      go_wp2_with (first
       | (refine zbi rfl zaf rfl zaU rfl rfl (by omega) rfl ?_)
       | (at_builtin;refine zgI rfl zaf rfl rfl (n:=gs.length) (xs:=zK gs tv) (Own.alloc HT2.out _) (m:=1) (by omega) rfl (ze.of_blk (n:=1) (xs:=(za x.old oA oc).toList) (heap_alloc_new _ _) rfl rfl) (zaD _ _ _) HM.out.1.1 HM.out.1.2 (by have:=HT7.out.hs;simp;omega) ?_;intro A9 c9 w9 o9 k9 n9;obtain ⟨s9,b9⟩:=HT7.out.left HT1.out HT3.out HO7.out o9 k9 n9;have HS9:=zz s9;have HB9:=zz b9;clear s9 b9 o9 k9 n9))
      go_roundw
      case rel=>exact ⟨k+1,A9,c9,cA,cc,gs++[x.old],cs,by rw [List.length_append];rfl,rfl,by go_num,hlt,by rw [List.length_append,List.length_singleton];omega,by omega,HGN,HCN,HS9,zz (HW7.out.trans HB9.out)⟩
      case measure=>simp [intOf];omega
     | false =>
      have HGN:=zz (show gs=zY (l.take (k+1)) from by rw [HGT.out,hb1,←HG.out];simp);have HCN:=zz (show cs++(if (x.old.k==0&&zaL x.new)=true then [x.new] else [])=zX (l.take (k+1)) from by rw [HCT.out,hb1,←HC.out];simp);have x1:=HX7.out.cell 1;simp [chgC] at x1;have hl2:(LdF (.pointer (some ⟨q,3,none⟩))).run Tryz.prog wc = .ok (.agg (za x.new nA nc)) wc:=zgD HX7.out;have HC1:=zz (zkO x.new nA nc wc);clear hb1;generalize wc=w7 at *;go_upto_region 7 with fail
      go_cut [39] (fun s39 wx=>s39 = .bool (x.old.k==0&&zaL x.new)∧Hid (Below w7.heap.size w7 wx))
      case first =>
       cases hk1:(x.old.k==0) with
       | false =>
        go_wp2_with fail
        go_meet
        exact ⟨by rw [hk1];rfl,zz (Below.refl _ _)⟩
       | true =>
        go_wp2_with (go_at_call 141;refine HC1.out.mono ?_;rintro _ w7 ⟨rfl,b7⟩;have HB7:=zz b7;clear b7)
        go_meet
        exact ⟨by rw [hk1];rfl,HB7⟩
      case rest =>
       obtain ⟨rfl,HB8⟩:=hcut;generalize wc=w8 at *;have HT8:=zz (HT7.out.keepB HB8.out);have HW8:=zz (show Below z w w8 from HW7.out.trans (HB8.out.mono HT7.out.hs));have HX8:=zz (show Blk w8 q 183 (chgC x (.slice oA x.old.d.length oc) (.slice nA x.new.d.length nc)) from HX7.out.below HB8.out HX7.out.lt);have HN8:=zz (HN7.out.below (HB8.out.mono (Nat.le_trans HZ.out HT7.out.hs)));clear x1 hl2 HC1 HB8 HT7 HW7 HX7 HO7 HN7
       cases hb2:(x.old.k==0&&zaL x.new) with
       | false =>
        rw [hb2] at HCN
        go_wp2_with fail
        go_roundw
        case rel=>exact ⟨k+1,gA,gc,cA,cc,gs,cs,rfl,rfl,by go_num,hlt,by omega,by omega,HGN,zz (by have:=HCN.out;simpa using this),HT8,HW8⟩
        case measure=>simp [intOf];omega
       | true =>
        rw [hb2] at HCN;obtain ⟨tv,t1,t2,t3⟩:=HT8.out.co;have HT1:=zz t1;have HT2:=zz t2;have HT3:=zz t3;have hl2:(LdF (.pointer (some ⟨q,3,none⟩))).run Tryz.prog w8 = .ok (.agg (za x.new nA nc)) w8:=zgD HX8.out;clear t1 t2 t3 hb2
        go_wp2_with (first
         | (refine zbi rfl zaf rfl zaU rfl rfl (by omega) rfl ?_)
         | (at_builtin;refine zgI rfl zaf rfl rfl (n:=cs.length) (xs:=zK cs tv) (Own.alloc HT2.out _) (m:=1) (by omega) rfl (ze.of_blk (n:=1) (xs:=(za x.new nA nc).toList) (heap_alloc_new _ _) rfl rfl) (zaD _ _ _) HM.out.2.1 HM.out.2.2 (by have:=HT8.out.hs;simp;omega) ?_;intro A9 c9 w9 o9 k9 n9;obtain ⟨s9,b9⟩:=HT8.out.right HT1.out HT3.out HN8.out o9 k9 n9;have HS9:=zz s9;have HB9:=zz b9;clear s9 b9 o9 k9 n9))
        go_roundw
        case rel=>exact ⟨k+1,gA,gc,A9,c9,gs,cs++[x.new],rfl,by rw [List.length_append];rfl,by go_num,hlt,by omega,by rw [List.length_append,List.length_singleton];omega,HGN,HCN,HS9,zz (HW8.out.trans HB9.out)⟩
        case measure=>simp [intOf];omega
  · obtain rfl:k=l.length:=by omega
    have hgs:=HG.out;have hcs:=HC.out;rw [List.take_length] at hgs hcs;subst hgs hcs;obtain ⟨ps,hps⟩:∃ps,(zr (zY l) (zX l)).1=ps:=⟨_,rfl⟩;obtain ⟨ls,hls⟩:∃ls,(zr (zY l) (zX l)).2.1=ls:=⟨_,rfl⟩;obtain ⟨rs,hrs⟩:∃rs,(zr (zY l) (zX l)).2.2=rs:=⟨_,rfl⟩;have HEX:=zz (show Calls Tryz.prog 142 #[.slice gA (zY l).length gc,.slice cA (zX l).length cc] wr (fun e w'=>∃pA pc lA lc rA rc,e = .returned (.tuple #[.slice pA ps.length pc,.slice lA ls.length lc,.slice rA rs.length rc])∧PO w' wr.heap.size pA pc ps∧FO w' wr.heap.size wr.heap.size lA lc ls∧FO w' wr.heap.size wr.heap.size rA rc rs∧Below wr.heap.size wr w') from by
     rw [←hps,←hls,←hrs];exact zm8 (zY l) (zX l) gA cA gc cc wr.heap.size wr (Nat.le_refl _) (HT.out.go.fi (Nat.le_trans HT.out.hz HT.out.hs)) (HT.out.co.fi (Nat.le_trans HT.out.hz HT.out.hs)) HI.out.g HI.out.c)
    have HRR:=zz (show zaJ (fun a b=>decide (a.old<b.old)) (ps++zal (zaJ zaT (zbt ls rs)) [] [])=R from by rw [←hps,←hls,←hrs];exact HR.out);have HND:=zz (show ((ps++zal (zaJ zaT (zbt ls rs)) [] []).map (·.old)).Nodup from by
     have h9:=(zg9 HI.out.n1 HI.out.n2).1;rw [HR.out,←HRR.out] at h9;exact ((zcb _).map _).nodup_iff.1 h9)
    have hsub:=zcP (zY l) (zX l);rw [hls,hrs] at hsub;have HLF:=zz (HI.out.g.sub hsub.1);have HRF:=zz (HI.out.c.sub hsub.2);have hll:=HLF.out.1;have hrl:=HRF.out.1;have hpl:ps.length≤1000000:=by
     have h9:=(zeR (zY l) (zX l)).1.length_eq;rw [hps,List.length_append,List.length_map,List.length_map,List.length_map] at h9;have:=zli l;omega
    clear hps hls hrs hsub HR HG HC
    go_wp2_with (go_at_call 142;refine HEX.out.mono ?_)
    rintro _ w1 ⟨pA,pc,lA,lc,rA,rc,rfl,p1,l1,r1,b1⟩;obtain ⟨z1,hz1⟩:∃z1,w1.heap.size=z1:=⟨_,rfl⟩;have HZ1:=zz hz1;have HPO:=zz (show PO w1 z pA pc ps from p1.mono HT.out.hs);have HLI:=zz (show FI w1 z1 lA ls from hz1▸l1.fi b1.size);have HRI:=zz (show FI w1 z1 rA rs from hz1▸r1.fi b1.size);have HB1:=zz (show Below z w w1 from HW.out.trans (b1.mono HT.out.hs));have HZZ:=zz (show z≤z1 from hz1▸Nat.le_trans HT.out.hs b1.size);clear p1 l1 r1 b1 HEX HT HW hz1;go_upto_region 12 with fail
    go_cut [69] (fun s69 wx=>s69 = .bool (decide (ls.length≤100∧rs.length≤100))∧w1=wx)
    case first =>
     cases d1:decide (ls.length≤100) with
     | false =>
      have d1':decide ((ls.length:Int)≤100)=false:=decide_eq_false (by have:=of_decide_eq_false d1;omega)
      go_wp2_with fail
      go_meet
      exact ⟨by rw [decide_eq_false];exact fun h=>of_decide_eq_false d1 h.1,rfl⟩
     | true =>
      have d1':decide ((ls.length:Int)≤100)=true:=decide_eq_true (by have:=of_decide_eq_true d1;omega)
      cases d2:decide (rs.length≤100) with
      | false =>
       have d2':decide ((rs.length:Int)≤100)=false:=decide_eq_false (by have:=of_decide_eq_false d2;omega)
       go_wp2_with fail
       go_meet
       exact ⟨by rw [decide_eq_false];exact fun h=>of_decide_eq_false d2 h.2,rfl⟩
      | true =>
       have d2':decide ((rs.length:Int)≤100)=true:=decide_eq_true (by have:=of_decide_eq_true d2;omega)
       go_wp2_with fail
       go_meet
       exact ⟨by rw [decide_eq_true];exact ⟨of_decide_eq_true d1,of_decide_eq_true d2⟩,rfl⟩
    case rest =>
     obtain ⟨rfl,rfl⟩:=hcut;go_upto_if 69 with fail
     go_cut [8] (fun s8 wx=>∃(all:List LikD) (A:Option Addr) (c:Nat),s8 = .slice A all.length c∧Hid (all=zbt ls rs)∧Hid (LO wx z1 A c all)∧Hid (Below z1 w1 wx))
     case first =>
      cases hm:decide (ls.length≤100∧rs.length≤100) with
      | false =>
       go_wp2_with fail
       go_meet
       exact ⟨[],none,0,rfl,zz (by rw [zes,if_neg (of_decide_eq_false hm)]),zz (LO.nil_ _ _),zz (Below.refl _ _)⟩
      | true =>
       obtain ⟨h100,h101⟩:=of_decide_eq_true hm;have HEQ0:=zz (show zbt ls rs=ls.flatMap fun f=>rs.filterMap (likS f) from by rw [zes,if_pos ⟨h100,h101⟩]);have HLEN:=zz (zh4 ls rs h100 h101);obtain ⟨LL,hLL⟩:∃LL,zbt ls rs=LL:=⟨_,rfl⟩;rw [hLL] at HEQ0 HLEN;have HLL:=zz hLL;clear hm hLL
       go_wp2_with fail
       go_loopw [8,72] (fun s8 s72 wr=>∃(i:Nat) (all:List LikD) (A:Option Addr) (c:Nat),s8 = .slice A all.length c∧s72 = .int .i64 (i:Nat)∧i≤ls.length∧Hid (all++(ls.drop i).flatMap (fun f=>rs.filterMap (likS f))=LL)∧Hid (LO wr z1 A c all)∧Hid (Below z1 w1 wr)) (fun _ s72 _=>ls.length-(intOf s72).toNat)
       case atStart=>exact ⟨0,[],none,0,rfl,rfl,Nat.zero_le _,zz (by rw [List.drop_zero,HEQ0.out];rfl),zz (LO.nil_ _ _),zz (Below.refl _ _)⟩
       case round =>
        obtain ⟨i,all,A,c,rfl,rfl,hi,HL,HO,HW⟩:=hrel;by_cases hit:i<ls.length
        · obtain ⟨f,hf⟩:∃f,ls[i]? = some f:=⟨_,List.getElem?_eq_getElem hit⟩;obtain ⟨gg2,off2,FA,fc,rfl,hgB2,hload,_,_,_,hfd,hfm,hfr⟩:=(HLI.out.below HW.out).at_ hf;have hload:(LdF (.pointer (some ⟨gg2,off2+i*3,none⟩))).run Tryz.prog wr = .ok (.agg (za f FA fc)) wr:=hload;have i0:(0:Int)≤(i:Int):=by omega
          have i1:(i:Int)<(ls.length:Int):=by omega
          have HFD:=zz (show zw wr z1 f (.slice FA f.d.length fc) from ⟨FA,fc,rfl,hfd,hfm,hfr⟩);have HFB:=zz (HLF.out.2 f (List.mem_of_getElem? hf));have HL1:=zz (show all++((rs.drop 0).filterMap (likS f)++(ls.drop (i+1)).flatMap (fun f=>rs.filterMap (likS f)))=LL from by
           have:=HL.out;rw [show ls.drop i=f::ls.drop (i+1) from List.drop_eq_getElem?_toList_append.trans (by rw [hf];rfl),List.flatMap_cons] at this;rw [List.drop_zero];exact this)
          have HZW:=zz (show z1≤wr.heap.size from by have:=HW.out.size;rw [HZ1.out] at this;exact this);clear hf hfd hfm hfr HL;go_upto_region 16 with (refine zO rfl rfl (vs:=za f FA fc) rfl rfl (Blk.new _ _ _) rfl zaw (zaD _ _ _) ?_;intro w6 hx6 hk6 hz6)
          have HX6:=zz hx6;have HK6:=zz (show Below wr.heap.size wr w6 from (Keep.ofNew hk6).all);have HO6:=zz (HO.out.keepB HK6.out);have HW6:=zz (show Below z1 w1 w6 from HW.out.trans (HK6.out.mono HZW.out));have HF6:=zz (HFD.out.below (HK6.out.mono HZW.out));have HZ6:=zz (show z1≤w6.heap.size from Nat.le_trans HZW.out HK6.out.size);obtain ⟨q,hq⟩:∃q,wr.heap.size=q:=⟨_,rfl⟩;rw [hq] at HX6;simp only [hq,Act.put]
          clear hx6 hk6 hz6 hload HFD HK6 HO HW hq HZW
          go_wp2_with fail
          go_loopw [8,78] (fun s8 s78 wx=>∃(j:Nat) (all:List LikD) (A:Option Addr) (c:Nat),s8 = .slice A all.length c∧s78 = .int .i64 (j:Nat)∧j≤rs.length∧Hid (all++((rs.drop j).filterMap (likS f)++(ls.drop (i+1)).flatMap (fun f=>rs.filterMap (likS f)))=LL)∧Hid (LO wx z1 A c all)∧Hid (Kept z1 [265] [] w6 wx)) (fun _ s78 _=>rs.length-(intOf s78).toNat)
          case atStart=>exact ⟨0,all,A,c,rfl,rfl,Nat.zero_le _,HL1,HO6,zz (Kept.refl _ _ _ _)⟩
          case round =>
           clear HL1 HO6;obtain ⟨j,all,A,c,rfl,rfl,hj,HL,HO,HK⟩:=hrel;have HBW:=zz (show Below z1 w6 wr from HK.out.below (Nat.le_refl _) HZ6.out (by simp));have HW:=zz (show Below z1 w1 wr from HW6.out.trans HBW.out);by_cases hjt:j<rs.length
           · obtain ⟨g,hg⟩:∃g,rs[j]? = some g:=⟨_,List.getElem?_eq_getElem hjt⟩;obtain ⟨gg3,off3,GA,gc3,rfl,hgB3,hload,_,_,_,hgd,hgm,hgr⟩:=(HRI.out.below HW.out).at_ hg;have hload:(LdF (.pointer (some ⟨gg3,off3+j*3,none⟩))).run Tryz.prog wr = .ok (.agg (za g GA gc3)) wr:=hload;have i2:(0:Int)≤(j:Int):=by omega
             have i3:(j:Int)<(rs.length:Int):=by omega
             have HGD:=zz (show zw wr z1 g (.slice GA g.d.length gc3) from ⟨GA,gc3,rfl,hgd,hgm,hgr⟩);have HGB:=zz (HRF.out.2 g (List.mem_of_getElem? hg));have HFX:=zz (show Blk wr q 70 (za f FA fc) from HK.out.blk HX6.out (by simp) (by decide));have HFD:=zz (show zw wr z1 f (.slice FA f.d.length fc) from HF6.out.below HBW.out);have HL1:=zz (show all++((likS f g).toList++((rs.drop (j+1)).filterMap (likS f)++(ls.drop (i+1)).flatMap (fun f=>rs.filterMap (likS f))))=LL from by
              have:=HL.out;rw [show rs.drop j=g::rs.drop (j+1) from List.drop_eq_getElem?_toList_append.trans (by rw [hg];rfl),List.filterMap_cons] at this
              cases hc:likS f g with
              | none=>rw [hc] at this;exact this
              | some y=>rw [hc] at this;exact this)
             have HZW:=zz (show z1≤wr.heap.size from Nat.le_trans HZ6.out HK.out.size);clear hg hgd hgm hgr HL;go_upto_region 19 with (refine zO rfl rfl (vs:=za g GA gc3) rfl rfl (Blk.new _ _ _) rfl zaw (zaD _ _ _) ?_;intro w7 hx7 hk7 hz7)
             have HX7:=zz hx7;have HK7:=zz (show Below wr.heap.size wr w7 from (Keep.ofNew hk7).all);have HFX7:=zz (show Blk w7 q 70 (za f FA fc) from HFX.out.below HK7.out HFX.out.lt);have y2:=hx7.cell 2;have x2:=HFX7.out.cell 2;simp [za] at y2 x2;have HSC:=zz (show Calls Tryz.prog 143 #[.slice FA f.d.length fc,.slice GA g.d.length gc3] w7 (fun e w'=>e = .returned (.int .i64 (zbr f.d g.d:Nat))∧Below w7.heap.size w7 w') from by
              obtain ⟨D1,d1,e1,m1,_,r1⟩:=HFD.out.below (HK7.out.mono HZW.out);obtain ⟨D2,d2,e2,m2,_,r2⟩:=HGD.out.below (HK7.out.mono HZW.out);injection e1 with e1 _ e3;injection e2 with e2 _ e4;subst e1 e2 e3 e4;exact zsR f.d g.d FA GA fc gc3 z1 w7 (Nat.le_trans HZW.out HK7.out.size) r1 r2 HFB.out.2 HGB.out.2 m1 m2)
             have HO7:=zz (HO.out.keepB HK7.out);have HK7':=zz (show Kept z1 [265] [] w6 w7 from HK.out.trans (Kept.mono (Kept.ofBelow (E:=[]) (base:=wr.heap.size) (G:=[]) HK7.out) HZW.out (by simp) (by simp)));have HZ7:=zz (show z1≤w7.heap.size from Nat.le_trans HZW.out HK7.out.size);obtain ⟨q7,hq7⟩:∃q7,wr.heap.size=q7:=⟨_,rfl⟩;rw [hq7] at HX7;simp only [hq7,Act.put] at y2 ⊢;have HLS:=zz (show likS f g=if 50≤zbr f.d g.d then some ⟨f.p,g.p,zbr f.d g.d,zaS f.p g.p⟩ else none from rfl);generalize zbr f.d g.d=n at *;clear hx7 hk7 hz7 hload HGD HFD HFX HK7 HO HK HBW HW hq7 HZW
             go_wp2_with (go_at_call 143;refine HSC.out.mono ?_)
             rintro _ w8 ⟨rfl,b8⟩;have HX8:=zz (show Blk w8 q7 70 (za g GA gc3) from HX7.out.below b8 HX7.out.lt);have HFX8:=zz (show Blk w8 q 70 (za f FA fc) from HFX7.out.below b8 HFX7.out.lt);have HO8:=zz (HO7.out.keepB b8);have HK8:=zz (show Kept z1 [265] [] w6 w8 from HK7'.out.trans (Kept.mono (Kept.ofBelow (E:=[]) (base:=w7.heap.size) (G:=[]) b8) HZ7.out (by simp) (by simp)));have HZ8:=zz (show z1≤w8.heap.size from Nat.le_trans HZ7.out b8.size);clear b8 y2 x2 HSC HO7 HK7' HZ7 HX7 HFX7
             cases hs:decide (50≤n) with
             | false =>
              have hs':decide ((50:Int)≤(n:Int))=false:=decide_eq_false (by have:=of_decide_eq_false hs;omega);have HL2:=zz (show all++((rs.drop (j+1)).filterMap (likS f)++(ls.drop (i+1)).flatMap (fun f=>rs.filterMap (likS f)))=LL from by
               have:=HL1.out;rw [HLS.out,if_neg (of_decide_eq_false hs)] at this;exact this)
              go_wp2_with fail
              go_roundw
              case rel=>exact ⟨j+1,all,A,c,rfl,by go_num,hjt,HL2,HO8,HK8⟩
              case measure=>simp [intOf];omega
             | true =>
              have hs':decide ((50:Int)≤(n:Int))=true:=decide_eq_true (by have:=of_decide_eq_true hs;omega);have HL2:=zz (show (all++[⟨f.p,g.p,n,zaS f.p g.p⟩])++((rs.drop (j+1)).filterMap (likS f)++(ls.drop (i+1)).flatMap (fun f=>rs.filterMap (likS f)))=LL from by
               have:=HL1.out;rw [HLS.out,if_pos (of_decide_eq_true hs)] at this;rw [List.append_assoc];exact this)
              have HM:=zz (show all.length+1≤maxLen∧(all.length+1)*48≤140737488355328 from by
               have h9:=congrArg List.length HL2.out;rw [List.length_append,List.length_append,List.length_singleton] at h9;have:=HLEN.out;unfold maxLen;omega)
              have y0:w8.drew.cell? ⟨q7,0,none⟩=some (strC g.p):=by have:=HX8.out.cell 0;simpa [za] using this
              have x0:w8.drew.cell? ⟨q,0,none⟩=some (strC f.p):=by have:=HFX8.out.cell 0;simpa [za] using this
              have HN:=zz (fun W=>zg1 f.p g.p W HFB.out.1 HGB.out.1);generalize zaS f.p g.p=nn at *;have hbd:∀W,(BdP #[(0,strC f.p),(1,strC g.p),(2,.int .i64 (n:Int))]).run Tryz.prog W = .ok (.agg #[strC f.p,strC g.p,.int .i64 (n:Int)]) W:=fun W=>zjV f.p g.p n W;have hbl:∀W,(BdL #[(0,.agg #[strC f.p,strC g.p,.int .i64 (n:Int)]),(1,.int .i64 (nn:Int))]).run Tryz.prog W = .ok (.agg #[strC f.p,strC g.p,.int .i64 (n:Int),.int .i64 (nn:Int)]) W:=fun W=>zqK f.p g.p n nn W;have hsl:∀W,(SlL 1 #[(0,.agg #[strC f.p,strC g.p,.int .i64 (n:Int),.int .i64 (nn:Int)])]).run Tryz.prog W = .ok (.slice (some ⟨W.heap.size,0,none⟩) 1 1) (W.alloc (.cells #[strC f.p,strC g.p,.int .i64 (n:Int),.int .i64 (nn:Int)] 265)):=fun W=>zbU ziY znj rfl rfl (by omega) W
              go_wp2_with fail
              go_region_law (first
               | (go_simp;go_at_call 144;with_reducible refine (HN.out _).mono ?_;rintro _ _ ⟨rfl,rfl⟩)
               | (refine zdZ (by rfl) ziY (by rfl) (by rfl) (n:=all.length) (xs:=all.flatMap likL) (Own.alloc HO8.out _) (by rfl) (ze.of_blk (n:=1) (xs:=likL ⟨f.p,g.p,n,nn⟩) (heap_alloc_new _ _) rfl rfl) (zf1 _) HM.out.1 HM.out.2 (by have:=HZ8.out;simp at this ⊢;omega) ?_;intro A9 c9 w9 o9 k9;have HO9:=zz (LO.snoc (x:=⟨f.p,g.p,n,nn⟩) o9);have HK9:=zz (show Kept z1 [265] [] w6 w9 from (HK8.out.drew.alloc _).trans k9);clear o9 k9))
              all_goals
               go_wp2_with fail
               go_roundw
               case rel=>exact ⟨j+1,all++[⟨f.p,g.p,n,nn⟩],A9,c9,by rw [List.length_append];rfl,by go_num,hjt,HL2,HO9,HK9⟩
               case measure=>simp [intOf];omega
           · obtain rfl:j=rs.length:=by omega
             have HL2:=zz (show all++(ls.drop (i+1)).flatMap (fun f=>rs.filterMap (likS f))=LL from by
              have:=HL.out;rw [List.drop_length] at this;exact this)
             go_wp2_with fail
             go_roundw
             case rel=>exact ⟨i+1,all,A,c,rfl,by go_num,hit,HL2,HO,HW⟩
             case measure=>simp [intOf];omega
        · obtain rfl:i=ls.length:=by omega
          have hE:=HL.out;rw [List.drop_length,List.flatMap_nil,List.append_nil] at hE
          go_wp2_with fail
          go_meet
          exact ⟨all,A,c,rfl,zz (by rw [HLL.out];exact hE),HO,HW⟩
     case rest =>
      obtain ⟨all,A,c,rfl,HAL,HLO,HBL⟩:=hcut;have HZC:=zz (show z1≤wc.heap.size from by have:=HBL.out.size;rw [HZ1.out] at this;exact this);have HPC:=zz (show PO wc z pA pc ps from HPO.out.keepB (by rw [HZ1.out];exact HBL.out));have HLM:Hid (∀x∈all,x.old.length≤1000000∧x.new.length≤1000000):=zz fun x hx=>by
       rw [HAL.out] at hx;obtain ⟨f,hf,g,hg,rfl,_⟩:=zf8 hx;exact ⟨(HLF.out.2 f hf).1,(HRF.out.2 g hg).1⟩
      have hal:all.length≤10000:=by
       rw [HAL.out];by_cases hm:ls.length≤100∧rs.length≤100
       · exact zh4 ls rs hm.1 hm.2
       · rw [zes,if_neg hm];exact Nat.zero_le _
      have HSRT:=zz (ztM all wc rfl (by omega) HLO.out);rw [←HAL.out] at HRR HND;have hsl:=zgX (lt:=zaT) all;have HSM:Hid (∀x∈zaJ zaT all,x.old.length≤1000000∧x.new.length≤1000000):=zz fun x hx=>HLM.out x (zdw.1 hx);generalize wc=w3 at *;clear HLI HRI HLF HRF HLM HAL HLO;go_upto_region 24 with fail
      go_wp2_with (go_at_call 145;refine HSRT.out.mono ?_)
      rintro _ w4 ⟨rfl,o4,k4⟩;generalize zaJ zaT all=sl at *;rw [←hsl] at o4 ⊢;have HLO:=zz (show LO w4 z1 A c sl from o4);have HPO4:=zz (show PO w4 z pA pc ps from HPC.out.kept k4 (by decide));have HB4:=zz (show Below z w w4 from (HB1.out.trans (HBL.out.mono HZZ.out)).trans ((k4.below (Nat.le_refl _) HZC.out (by simp)).mono HZZ.out));have HZ4:=zz (show z1≤w4.heap.size from Nat.le_trans HZC.out k4.size);have hsl2:sl.length≤10000:=by omega
      obtain ⟨z4,hz4⟩:∃z4,w4.heap.size=z4:=⟨_,rfl⟩;have hm1:=@run_makeMap Tryz.prog 218 w4;have hm2:=@run_makeMap Tryz.prog 218 (w4.alloc (.map #[] 0));have HV1:=zz (show VM ((w4.alloc (.map #[] 0)).alloc (.map #[] 0)) z4 0 zF from by rw [←hz4];exact (VM.made w4).alloc _);have hsz2:(w4.alloc (.map #[] 0)).heap.size=z4+1:=by simp [hz4]
      have HV2:=zz (show VM ((w4.alloc (.map #[] 0)).alloc (.map #[] 0)) (z4+1) 0 zF from by rw [←hsz2];exact VM.made (w4.alloc (.map #[] 0)));have hbb:Below w4.heap.size w4 ((w4.alloc (.map #[] 0)).alloc (.map #[] 0)):=((Below.refl _ w4).alloc (Nat.le_refl _) _).alloc (by simp) _;have HPO5:=zz (HPO4.out.keepB hbb);have HLO5:=zz (HLO.out.keepB hbb);have HB5:=zz (show Below z w ((w4.alloc (.map #[] 0)).alloc (.map #[] 0)) from HB4.out.trans (hbb.mono (Nat.le_trans HZZ.out HZ4.out)));have HZ5:=zz (show z1≤((w4.alloc (.map #[] 0)).alloc (.map #[] 0)).heap.size from Nat.le_trans HZ4.out hbb.size);have HZ44:=zz (show z≤z4∧z1≤z4 from ⟨Nat.le_trans HZZ.out (hz4▸HZ4.out),hz4▸HZ4.out⟩);rw [hz4] at hm1;rw [hsz2] at hm2;clear o4 k4 hbb hsz2 hz4 HSRT HPC HBL HZC HB1 HPO HPO4 HLO HB4 HZ4
      go_wp2_with fail
      go_loopw [7,112] (fun s7 s112 wr=>∃(k:Nat) (qs:List PairD) (pA:Option Addr) (pc n1 n2:Nat) (f1 f2:Mp) (a b:List Pth),s7 = .slice pA qs.length pc∧s112 = .int .i64 (k:Nat)∧k≤sl.length∧qs.length≤ps.length+k∧n1≤k∧n2≤k∧Hid (qs++zal (sl.drop k) a b=ps++zal sl [] [])∧Hid (SetM f1 a)∧Hid (SetM f2 b)∧Hid (VM wr z4 n1 f1)∧Hid (VM wr (z4+1) n2 f2)∧Hid (PO wr z pA pc qs)∧Hid (LO wr z1 A c sl)∧Hid (Below z w wr)∧Hid (z1≤wr.heap.size)) (fun _ s112 _=>sl.length-(intOf s112).toNat)
      case atStart=>exact ⟨0,ps,pA,pc,0,0,zF,zF,[],[],rfl,rfl,Nat.zero_le _,by omega,Nat.le_refl _,Nat.le_refl _,zz (by rw [List.drop_zero]),zz SetM.nil_,zz SetM.nil_,HV1,HV2,HPO5,HLO5,HB5,HZ5⟩
      case round =>
       clear HV1 HV2 HPO5 HLO5 HB5 HZ5 hm1 hm2;obtain ⟨k,qs,pA,pc,n1,n2,f1,f2,a,b,rfl,rfl,hk,hqs,hn1,hn2,HQ,HS1,HS2,HV1,HV2,HPO,HLO,HB,HZW⟩:=hrel;by_cases hlt:k<sl.length
       · obtain ⟨x,hx⟩:∃x,sl[k]? = some x:=⟨_,List.getElem?_eq_getElem hlt⟩;obtain ⟨gg,off,rfl,hload⟩:=HLO.out.get hx;have i0:(0:Int)≤(k:Int):=by omega
         have i1:(k:Int)<(sl.length:Int):=by omega
         have HXL:=zz (HSM.out x (List.mem_of_getElem? hx));have HQ1:=zz (show qs++(if x.old∈a∨x.new∈b then zal (sl.drop (k+1)) a b else ⟨x.old,x.new,x.sc⟩::zal (sl.drop (k+1)) (x.old::a) (x.new::b))=ps++zal sl [] [] from by
          have:=HQ.out;rw [show sl.drop k=x::sl.drop (k+1) from List.drop_eq_getElem?_toList_append.trans (by rw [hx];rfl),zto] at this;exact this)
         clear hx HQ;go_upto_region 29 with (refine zO rfl rfl (vs:=(likL x).toArray) rfl rfl (Blk.new _ _ _) rfl zf7 (by simpa using zf1 x) ?_;intro w6 hx6 hk6 hz6)
         have HX6:=zz hx6;have HK6:=zz (show Below wr.heap.size wr w6 from (Keep.ofNew hk6).all);have HV16:=zz (HV1.out.keep (Below.keep_ HK6.out zl) (fun q=>q));have HV26:=zz (HV2.out.keep (Below.keep_ HK6.out zl) (fun q=>q));have HPO6:=zz (HPO.out.keepB HK6.out);have HLO6:=zz (HLO.out.keepB HK6.out);have HB6:=zz (show Below z w w6 from HB.out.trans (HK6.out.mono (Nat.le_trans HZZ.out HZW.out)));have HZ6:=zz (show z1≤w6.heap.size from Nat.le_trans HZW.out HK6.out.size);have HQN:=zz (show z4<wr.heap.size∧z4+1<wr.heap.size from ⟨HV1.out.lt,HV2.out.lt⟩);obtain ⟨q,hq⟩:∃q,wr.heap.size=q:=⟨_,rfl⟩;rw [hq] at HX6 HQN;simp only [hq,Act.put]
         have x0:=HX6.out.cell 0;have x1:=HX6.out.cell 1;simp [likL] at x0 x1;clear hx6 hk6 hz6 hload HK6 HV1 HV2 HPO HLO HB HZW hq;have hlk1:=HV16.out.look (s:=x.old) Tryz.underlying218 (zbw _) (by have:=HXL.out.1;unfold maxLen;omega);have hlk2:=HV26.out.look (s:=x.new) Tryz.underlying218 (zbw _) (by have:=HXL.out.2;unfold maxLen;omega);rw [HS1.out] at hlk1;rw [HS2.out] at hlk2;go_cut [129] (fun s129 wx=>s129 = .bool (!decide (x.old∈a∨x.new∈b))∧w6=wx)
         case first =>
          by_cases m1:x.old∈a
          · rw [if_pos m1] at hlk1
            go_wp2_with fail
            go_meet
            exact ⟨by rw [decide_eq_true (.inl m1)];rfl,rfl⟩
          · rw [if_neg m1] at hlk1;by_cases m2:x.new∈b
            · rw [if_pos m2] at hlk2
              go_wp2_with fail
              go_meet
              exact ⟨by rw [decide_eq_true (.inr m2)];rfl,rfl⟩
            · rw [if_neg m2] at hlk2
              go_wp2_with fail
              go_meet
              exact ⟨by rw [decide_eq_false (fun h=>h.elim m1 m2)];rfl,rfl⟩
         case rest =>
          obtain ⟨rfl,rfl⟩:=hcut;clear hlk1 hlk2 x0 x1;by_cases m:x.old∈a∨x.new∈b
          · have hd:decide (x.old∈a∨x.new∈b)=true:=decide_eq_true m;have HQ2:=zz (show qs++zal (sl.drop (k+1)) a b=ps++zal sl [] [] from by have:=HQ1.out;rw [if_pos m] at this;exact this);rw [hd];clear m hd
            go_wp2_with fail
            go_roundw
            case rel=>exact ⟨k+1,qs,pA,pc,n1,n2,f1,f2,a,b,rfl,by go_num,hlt,by omega,by omega,by omega,HQ2,HS1,HS2,HV16,HV26,HPO6,HLO6,HB6,HZ6⟩
            case measure=>simp [intOf];omega
          · have hd:decide (x.old∈a∨x.new∈b)=false:=decide_eq_false m;have HQ2:=zz (show (qs++[⟨x.old,x.new,x.sc⟩])++zal (sl.drop (k+1)) (x.old::a) (x.new::b)=ps++zal sl [] [] from by have:=HQ1.out;rw [if_neg m] at this;rw [List.append_assoc];exact this);rw [hd];clear m hd;have x0:w6.drew.cell? ⟨q,0,none⟩=some (strC x.old):=by have:=HX6.out.cell 0;simpa [likL] using this
            have x1:w6.drew.cell? ⟨q,1,none⟩=some (strC x.new):=by have:=HX6.out.cell 1;simpa [likL] using this
            obtain ⟨w8,hst1,hv8,hk8,hz8⟩:=(show VM w6.drew z4 n1 f1 from HV16.out).store (s:=x.old) Tryz.underlying218 (by unfold maxLen;omega) (by have:=HXL.out.1;unfold maxLen;omega) (.int .i64 1);have hv28:VM w8 (z4+1) n2 f2:=(show VM w6.drew (z4+1) n2 f2 from HV26.out).keep hk8 (by unfold Only;omega);obtain ⟨w9,hst2,hv9,hk9,hz9⟩:=hv28.store (s:=x.new) Tryz.underlying218 (by unfold maxLen;omega) (by have:=HXL.out.2;unfold maxLen;omega) (.int .i64 1);have HV19:=zz (hv8.keep hk9 (by unfold Only;omega));have HV29:=zz hv9;have HX9:=zz (show Blk w9 q 265 (likL x).toArray from ((show Blk w6.drew q 265 (likL x).toArray from HX6.out).keep hk8 (by unfold Only;have:=HQN.out.1;omega)).keep hk9 (by unfold Only;have:=HQN.out.2;omega));have HPO9:=zz (show PO w9 z pA pc qs from zdm (zdm (show Own w6.drew z 188 3 pA qs.length pc (qs.flatMap zv) from HPO6.out) (show VM w6.drew z4 n1 f1 from HV16.out) hk8) hv28 hk9);have HLO9:=zz (show LO w9 z1 _ c sl from zdm (zdm (show Own w6.drew z1 265 4 _ sl.length c (sl.flatMap likL) from HLO6.out) (show VM w6.drew z4 n1 f1 from HV16.out) hk8) hv28 hk9);have HSZ:=zz (show w9.heap.size=w6.heap.size from hz9.trans hz8);have HB9:=zz (show Below z w w9 from (HB6.out.trans (Below.refl z w6).drew).trans ((hk8.below (Nat.le_trans HZZ.out HZ6.out) (fun j hj q=>by unfold Only at q;have:=HZ44.out.1;omega)).trans (hk9.below (by rw [hz8];exact Nat.le_trans HZZ.out HZ6.out) (fun j hj q=>by unfold Only at q;have:=HZ44.out.1;omega))));have HX8:=(show Blk w6.drew q 265 (likL x).toArray from HX6.out).keep hk8 (by unfold Only;have:=HQN.out.1;omega);have y0:w8.cell? ⟨q,0,none⟩=some (strC x.old):=by have:=HX8.cell 0;simpa [likL] using this
            have y1:w8.cell? ⟨q,1,none⟩=some (strC x.new):=by have:=HX8.cell 1;simpa [likL] using this
            have hl9:(LdPr (.pointer (some ⟨q,0,none⟩))).run Tryz.prog w9 = .ok (.agg (zv ⟨x.old,x.new,x.sc⟩).toArray) w9:=zqp HX9.out;have HM:=zz (show qs.length+1≤maxLen∧(qs.length+1)*40≤140737488355328 from by unfold maxLen;omega);clear HX8 hv8 hk8 hz8 hv28 hv9 hk9 hz9 HV16 HV26 HPO6 HLO6 HB6 HX6
            go_wp2_with fail
            go_region_law (fail)
            all_goals
             go_wp2_with (first
              | (refine zbi rfl zfv rfl zgk rfl rfl (by omega) rfl ?_)
              | (at_builtin;refine zH rfl zfv rfl rfl (n:=qs.length) (xs:=qs.flatMap zv) (Own.alloc HPO9.out _) rfl (ze.of_blk (n:=1) (xs:=zv ⟨x.old,x.new,x.sc⟩) (heap_alloc_new _ _) rfl rfl) (zdx _) HM.out.1 HM.out.2 (by have:=HSZ.out;have:=HZ6.out;have:=HZZ.out;simp;omega) ?_;intro A9 c9 w10 o10 k10;have HPN:=zz (PO.snoc (x:=⟨x.old,x.new,x.sc⟩) o10);have HKN:=zz (show Kept z [188] [] w9 w10 from ((Kept.refl _ _ _ _).alloc _).trans k10);clear o10 k10))
             go_roundw
             case rel=>exact ⟨k+1,qs++[⟨x.old,x.new,x.sc⟩],A9,c9,_,_,_,_,x.old::a,x.new::b,by rw [List.length_append];rfl,by go_num,hlt,by rw [List.length_append,List.length_singleton];omega,by split <;> omega,by split <;> omega,HQ2,zz (HS1.out.put x.old),zz (HS2.out.put x.new),zz (HV19.out.kept HKN.out),zz (HV29.out.kept HKN.out),HPN,zz (Own.kept HLO9.out HKN.out (by decide) (by simp)),zz (HB9.out.trans (HKN.out.below (Nat.le_refl _) (by rw [HSZ.out];exact Nat.le_trans HZZ.out HZ6.out) (by simp))),zz (Nat.le_trans (by rw [HSZ.out];exact HZ6.out) HKN.out.size)⟩
             case measure=>simp [intOf];omega
       · obtain rfl:k=sl.length:=by omega
         have hE:=HQ.out;rw [List.drop_length,zal,List.append_nil] at hE;rw [←hE] at HRR HND;have HSRT:=zz (zq9 qs wr rfl (by omega) HND.out HPO.out);have hrl2:=zgX (lt:=fun a b:PairD=>decide (a.old<b.old)) qs;rw [HRR.out] at hrl2 HSRT;clear hE HQ HRR HND
         go_wp2_with (go_at_call 147;refine HSRT.out.mono ?_)
         rintro _ w11 ⟨rfl,o11,k11⟩;rw [←hrl2] at o11 ⊢;have HO11:=zz o11;have HB11:=zz (show Below z w w11 from HB.out.trans (k11.below (Nat.le_refl _) (Nat.le_trans HZZ.out HZW.out) (by simp)));clear o11 k11
         go_wp2_with fail
         go_ret
         exact ⟨pA,pc,by rw [hrl2];rfl,HO11.out,HB11.out⟩
end Go.Proofs.YtmkmbbjgepcioaaGreatDoor
