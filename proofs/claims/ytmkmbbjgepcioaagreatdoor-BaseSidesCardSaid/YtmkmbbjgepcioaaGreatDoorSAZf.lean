/- Contract of the merger's both. No statement of the seat is proved here. -/
import Derived.Test.YtmkmbbjgepcioaaGreatDoorSAHq
import Derived.Test.YtmkmbbjgepcioaaGreatDoorSA18
namespace Go.Proofs.YtmkmbbjgepcioaaGreatDoor
set_option maxHeartbeats 16000000
set_option maxRecDepth 100000
open Go.RowKit Go.Maps
theorem zi2 (b x y:Int) (h:(b==y||b==x)=true):zaj b x y=(if x=b then y else x,true):=by
 unfold zaj;rw [if_pos (by simpa using h)]
theorem znS (b x y:Int) (h:(b==y||b==x)=false):zaj b x y=(x,decide (x=y)):=by
 unfold zaj;rw [if_neg (by simp only [Bool.or_eq_false_iff,beq_eq_false_iff_ne] at h;intro q;exact q.elim h.1 h.2)]
def MSt.kinded (s:MSt) (p:Pth) (b x y:Int):MSt:=if (zaj b x y).2=true then s else s.clash p 3
def MSt.dated (s:MSt) (p:Pth) (d:List UInt8×Bool×Nat):MSt:=if d.2.1=true then { s with e:=if s.e=0 then d.2.2 else s.e } else ({ s with e:=if s.e=0 then d.2.2 else s.e }:MSt).clash p 1
theorem ziN (s:MSt) (p:Pth) (b:FileD) (lines:Int) (x y:FileD):s.both p b lines x y=((s.kinded p b.k x.k y.k).dated p (zZ b lines x y)).stay p ⟨p,(zaj b.k x.k y.k).1,(zZ b lines x y).1⟩:=rfl
theorem zlf (s:MSt) (p:Pth) (b x y:Int):(s.kinded p b x y).t=s.t:=by
 unfold MSt.kinded
 split <;> rfl
theorem zjp (s:MSt) (p:Pth) (d:List UInt8×Bool×Nat):(s.dated p d).t=s.t:=by
 unfold MSt.dated
 split <;> rfl
theorem zfV (s:MSt) (p:Pth) (d:List UInt8):s.dated p (d,true,0)=s:=by
 unfold MSt.dated;rw [if_pos rfl];cases s
 simp only
 split
 · rename_i h;rw [h]
 · rfl
theorem zhe (s:MSt) (p:Pth) (d:List UInt8):s.dated p (d,false,0)=s.clash p 1:=by
 have h:s.dated p (d,false,0)=({ s with e:=if s.e=0 then 0 else s.e }:MSt).clash p 1:=rfl;rw [h];cases s
 simp only
 split
 · rename_i h;rw [h]
 · rfl
theorem zkD {b:FileD} {lines:Int} {x y:FileD} (h1:x.d=y.d∨y.d=b.d):zZ b lines x y=(x.d,true,0):=by
 unfold zZ;rw [if_pos h1]
theorem zrl {b:FileD} {lines:Int} {x y:FileD} (h1:¬(x.d=y.d∨y.d=b.d)) (h2:x.d=b.d):zZ b lines x y=(y.d,true,0):=by
 unfold zZ;rw [if_neg h1,if_pos h2]
theorem zgb {b:FileD} {lines:Int} {x y:FileD} (h1:¬(x.d=y.d∨y.d=b.d)) (h2:x.d≠b.d) (h3:(zM lines&&zM x.k&&zM y.k)=false):zZ b lines x y=(x.d,false,0):=by
 unfold zZ;rw [if_neg h1,if_neg h2,h3];rfl
theorem zqi {b:FileD} {lines:Int} {x y:FileD} (h1:¬(x.d=y.d∨y.d=b.d)) (h2:x.d≠b.d) (h3:(zM lines&&zM x.k&&zM y.k)=true):zZ b lines x y=m3P b.d x.d y.d:=by
 unfold zZ m3P;rw [if_neg h1,if_neg h2,if_pos h3];cases zbL b.d x.d y.d <;> rfl
attribute [local go_sem] zeP zeS zfr zfC
attribute [local go_sem ↓] ld_f
theorem zj3 (z mb so st cb N:Nat) (s:MSt) (p:Pth) (b:FT) (lines:Int) (x y:FT) (w:World) (hm:MGE w z mb so st cb N s) (hb:zo w z b) (hx:zo w z x) (hy:zo w z y) (hl:s.t.length≤1000000) (hp:p.length≤1000000) (hN:N+2≤1000000) (l1:b.1.d.length≤100000) (l2:x.1.d.length≤100000) (l3:y.1.d.length≤100000) :Calls Tryz.prog 112 #[.pointer (some ⟨mb,0,none⟩),strC p,.agg (za b.1 b.2.1 b.2.2),.int .i64 lines,.agg (za x.1 x.2.1 x.2.2),.agg (za y.1 y.2.1 y.2.2)] w fun e w'=>e = .returned (.tuple #[])∧MGE w' z mb so st cb (N+2) (s.both p b.1 lines x.1 y.1)∧Frm z mb cb w w':=by
 have HS:=zz (ziN s p b.1 lines x.1 y.1);obtain ⟨A,hma⟩:=hm.a;obtain ⟨lz1,lz2,lz3,lz4⟩:=hm.lts;have hz:=hm.zs;obtain ⟨q,hq⟩:∃q,w.heap.size=q:=⟨_,rfl⟩;have hs1:(w.alloc (.cells (za b.1 b.2.1 b.2.2) 70)).heap.size=q+1:=by simp [hq]
 have hs2:((w.alloc (.cells (za b.1 b.2.1 b.2.2) 70)).alloc (.cells (za x.1 x.2.1 x.2.2) 70)).heap.size=q+2:=by simp [hq]
 have hs3:(((w.alloc (.cells (za b.1 b.2.1 b.2.2) 70)).alloc (.cells (za x.1 x.2.1 x.2.2) 70)).alloc (.cells (za y.1 y.2.1 y.2.2) 70)).heap.size=q+3:=by simp [hq]
 have hb1:=((Blk.new w 70 (za b.1 b.2.1 b.2.2)).alloc (.cells (za x.1 x.2.1 x.2.2) 70)).alloc (.cells (za y.1 y.2.1 y.2.2) 70);have hb2:=(Blk.new (w.alloc (.cells (za b.1 b.2.1 b.2.2) 70)) 70 (za x.1 x.2.1 x.2.2)).alloc (.cells (za y.1 y.2.1 y.2.2) 70);have hb3:=Blk.new ((w.alloc (.cells (za b.1 b.2.1 b.2.2) 70)).alloc (.cells (za x.1 x.2.1 x.2.2) 70)) 70 (za y.1 y.2.1 y.2.2);have hbl:Below w.heap.size w (((w.alloc (.cells (za b.1 b.2.1 b.2.2) 70)).alloc (.cells (za x.1 x.2.1 x.2.2) 70)).alloc (.cells (za y.1 y.2.1 y.2.2) 70)):=(((Below.refl _ w).alloc (Nat.le_refl _) _).alloc (by simp) _).alloc (by simp;omega) _;rw [hq] at hb1;rw [hs1] at hb2;rw [hs2] at hb3;have HB:=zz (And.intro hb1 (And.intro hb2 (And.intro hb3 (And.intro hbl hs3))));have HM:=zz (And.intro hma (And.intro hb (And.intro hx hy)));have HLQ:=zz (show z≤q∧mb<q∧cb<q∧z≤mb∧z≤cb∧∀a,A=some a→a.block<q from ⟨by omega,by omega,by omega,lz1,lz3,fun a ha=>hq▸hma.lt a ha⟩);have HQ:=zz hq;clear hb1 hb2 hb3 hbl hm hb hx hy hma lz1 lz2 lz3 lz4 hs3;go_enter Tryz.func112,Tryz.ntmps112
 go_upto_region 1 with (first|(refine zC rfl rfl (cs:=za b.1 b.2.1 b.2.2) rfl ?_)|(refine zC rfl rfl (cs:=za x.1 x.2.1 x.2.2) rfl ?_)|(refine zC rfl rfl (cs:=za y.1 y.2.1 y.2.2) rfl ?_))
 rw [hs1,hs2,hq];simp only [Act.put,List.setIfInBounds_toArray,List.set]
 generalize ((w.alloc (.cells (za b.1 b.2.1 b.2.2) 70)).alloc (.cells (za x.1 x.2.1 x.2.2) 70)).alloc (.cells (za y.1 y.2.1 y.2.2) 70)=w3 at *;clear hs1 hs2 hq;have hl3:(LdF (.pointer (some ⟨q+1,0,none⟩))).run Tryz.prog w3 = .ok (.agg (za x.1 x.2.1 x.2.2)) w3:=zaC HB.out.2.1;go_upto_region 2 with (refine zO rfl rfl (vs:=za x.1 x.2.1 x.2.2) rfl rfl (Blk.new _ _ _) rfl zaw (zaD _ _ _) ?_;intro w4 hx4 hk4 hz4)
 have hk4':Below w3.heap.size w3 w4:=(Keep.ofNew hk4).all;have HW4:=zz (show BoS w w4 z mb so st cb N A s q b x y x from by
  have hbl:=HB.out.2.2.2.1;have hw4:Below w.heap.size w w4:=hbl.trans (hk4'.mono hbl.size);have h3:=HB.out.2.2.2.2;rw [h3] at hx4;exact ⟨HM.out.1.keepB hw4,HB.out.1.below hk4' HB.out.1.lt,HB.out.2.1.below hk4' HB.out.2.1.lt,HB.out.2.2.1.below hk4' HB.out.2.2.1.lt,hx4,HM.out.2.1.keepB hw4 hz,HM.out.2.2.1.keepB hw4 hz,HM.out.2.2.2.keepB hw4 hz,HM.out.2.2.1.keepB hw4 hz,HLQ.out,Frm.ofBelow hw4 hz⟩)
 rw [HB.out.2.2.2.2];simp only [Act.put]
 have HQS:=zz (show w.heap.size≤q from by rw [HQ.out];exact Nat.le_refl _);clear hl3 hx4 hk4 hz4 hk4' HB HM HLQ HQ;have c1:=(HW4.out.bb.cell 1).trans (show (za b.1 b.2.1 b.2.2)[1]? = some (.int .i64 b.1.k) from rfl);have d1:=(HW4.out.bx.cell 1).trans (show (za x.1 x.2.1 x.2.2)[1]? = some (.int .i64 x.1.k) from rfl);have g1:=(HW4.out.by_.cell 1).trans (show (za y.1 y.2.1 y.2.2)[1]? = some (.int .i64 y.1.k) from rfl);have o1:=(HW4.out.bo.cell 1).trans (show (za x.1 x.2.1 x.2.2)[1]? = some (.int .i64 x.1.k) from rfl);have o2:=HW4.out.bo.frozen 1;have HCL:=zz (HW4.out.m.clash p 3 hp (by omega) (by omega));have HST:=zz (show BoS w (w4.setCell ⟨q+3,1,none⟩ (.int .i64 y.1.k)) z mb so st cb N A s q b x y ({ x.1 with k:=y.1.k },x.2) from HW4.out.out HQS.out (p:=⟨q+3,1,none⟩) rfl (HW4.out.bo.set_ 1 (.int .i64 y.1.k)) HW4.out.dx);go_upto_block 0 with fail
 go_cut [19] (fun _ wx=>Hid (BoS w wx z mb so st cb (N+1) A (s.kinded p b.1.k x.1.k y.1.k) q b x y ({ x.1 with k:=(zaj b.1.k x.1.k y.1.k).1 },x.2)))
 case first =>
  cases e1:(b.1.k==y.1.k) with
  | true =>
   have HK:=zz (zi2 b.1.k x.1.k y.1.k (by rw [e1];rfl))
   cases e2:(x.1.k==b.1.k) with
   | true =>
    rw [if_pos (eq_of_beq e2)] at HK
    go_wp2_with fail
    go_meet
    exact zz (by unfold MSt.kinded;rw [HK.out];exact HST.out.more (by omega))
   | false =>
    rw [if_neg (beq_eq_false_iff_ne.1 e2)] at HK
    go_wp2_with fail
    go_meet
    exact zz (by unfold MSt.kinded;rw [HK.out];exact HW4.out.more (by omega))
  | false =>
   cases e3:(b.1.k==x.1.k) with
   | true =>
    have e2:(x.1.k==b.1.k)=true:=by rw [Bool.beq_comm];exact e3
    have HK:=zz (zi2 b.1.k x.1.k y.1.k (by rw [e1,e3];rfl));rw [if_pos (eq_of_beq e2)] at HK
    go_wp2_with fail
    go_meet
    exact zz (by unfold MSt.kinded;rw [HK.out];exact HST.out.more (by omega))
   | false =>
    have HK:=zz (znS b.1.k x.1.k y.1.k (by rw [e1,e3];rfl))
    cases e4:(x.1.k==y.1.k) with
    | true =>
     have e5:(x.1.k !=y.1.k)=false:=by unfold bne;rw [e4];rfl
     rw [decide_eq_true (eq_of_beq e4)] at HK
     go_wp2_with fail
     go_meet
     exact zz (by unfold MSt.kinded;rw [HK.out];exact HW4.out.more (by omega))
    | false =>
     have e5:(x.1.k !=y.1.k)=true:=by unfold bne;rw [e4];rfl
     rw [decide_eq_false (beq_eq_false_iff_ne.1 e4)] at HK
     go_wp2_with (go_at_call 111;refine HCL.out.mono ?_;rintro _ w5 ⟨rfl,m5,k5⟩;have HW5:=zz (HW4.out.clash m5 k5);clear m5 k5)
     go_meet
     exact zz (by unfold MSt.kinded;rw [HK.out];exact HW5.out)
 case rest =>
  have HB:=hcut;clear hcut HW4 c1 d1 g1 o1 o2 HCL HST;have HL1:=zz (show (s.kinded p b.1.k x.1.k y.1.k).t.length≤1000000 from by rw [zlf];exact hl);generalize s.kinded p b.1.k x.1.k y.1.k=s1 at *;generalize (zaj b.1.k x.1.k y.1.k).1=K at *;generalize wc=w5 at *;have hz5:=HB.out.zs;have c2:=(HB.out.bb.cell 2).trans (show (za b.1 b.2.1 b.2.2)[2]? = some (.slice b.2.1 b.1.d.length b.2.2) from rfl);have d2:=(HB.out.bx.cell 2).trans (show (za x.1 x.2.1 x.2.2)[2]? = some (.slice x.2.1 x.1.d.length x.2.2) from rfl);have g2:=(HB.out.by_.cell 2).trans (show (za y.1 y.2.1 y.2.2)[2]? = some (.slice y.2.1 y.1.d.length y.2.2) from rfl);have d1:=(HB.out.bx.cell 1).trans (show (za x.1 x.2.1 x.2.2)[1]? = some (.int .i64 x.1.k) from rfl);have g1:=(HB.out.by_.cell 1).trans (show (za y.1 y.2.1 y.2.2)[1]? = some (.int .i64 y.1.k) from rfl);have o2:=(HB.out.bo.cell 2).trans (show (za ({ x.1 with k:=K }:FileD) x.2.1 x.2.2)[2]? = some (.slice x.2.1 x.1.d.length x.2.2) from rfl);have o3:=HB.out.bo.frozen 2;have HE1:=zz (zhE hz5 HB.out.dx HB.out.dy);have HE2:=zz (zhE hz5 HB.out.dy HB.out.db);have HE3:=zz (zhE hz5 HB.out.dx HB.out.db);have HT1:=zz (zgs lines w5);have HT2:=zz (zgs x.1.k w5);have HT3:=zz (zgs y.1.k w5);have HCL:=zz (HB.out.m.clash p 1 hp (by omega) (by omega));go_upto_block 4 with fail
  go_cut [46] (fun _ wx=>∃(D:Option Addr) (d:Nat),Hid (BoS w wx z mb so st cb (N+2) A (s1.dated p (zZ b.1 lines x.1 y.1)) q b x y (⟨x.1.p,K,(zZ b.1 lines x.1 y.1).1⟩,(D,d))))
  case first =>
   cases e1:decide (x.1.d=y.1.d) with
   | true =>
    rw [e1] at HE1;have HD:=zz (zkD (b:=b.1) (lines:=lines) (.inl (of_decide_eq_true e1)))
    go_wp2_with (first|(go_at_call 150;with_reducible refine HE1.out.mono ?_;rintro _ _ ⟨rfl,rfl⟩)|(go_at_call 150;with_reducible refine HE2.out.mono ?_;rintro _ _ ⟨rfl,rfl⟩)|(go_at_call 150;with_reducible refine HE3.out.mono ?_;rintro _ _ ⟨rfl,rfl⟩)|(go_at_call 152;with_reducible refine HT1.out.mono ?_;rintro _ _ ⟨rfl,rfl⟩)|(go_at_call 152;with_reducible refine HT2.out.mono ?_;rintro _ _ ⟨rfl,rfl⟩)|(go_at_call 152;with_reducible refine HT3.out.mono ?_;rintro _ _ ⟨rfl,rfl⟩))
    go_meet
    exact ⟨x.2.1,x.2.2,zz (by rw [HD.out,zfV];exact HB.out.more (by omega))⟩
   | false =>
    rw [e1] at HE1
    cases e2:decide (y.1.d=b.1.d) with
    | true =>
     rw [e2] at HE2;have HD:=zz (zkD (x:=x.1) (lines:=lines) (.inr (of_decide_eq_true e2)))
     go_wp2_with (first|(go_at_call 150;with_reducible refine HE1.out.mono ?_;rintro _ _ ⟨rfl,rfl⟩)|(go_at_call 150;with_reducible refine HE2.out.mono ?_;rintro _ _ ⟨rfl,rfl⟩)|(go_at_call 150;with_reducible refine HE3.out.mono ?_;rintro _ _ ⟨rfl,rfl⟩)|(go_at_call 152;with_reducible refine HT1.out.mono ?_;rintro _ _ ⟨rfl,rfl⟩)|(go_at_call 152;with_reducible refine HT2.out.mono ?_;rintro _ _ ⟨rfl,rfl⟩)|(go_at_call 152;with_reducible refine HT3.out.mono ?_;rintro _ _ ⟨rfl,rfl⟩))
     go_meet
     exact ⟨x.2.1,x.2.2,zz (by rw [HD.out,zfV];exact HB.out.more (by omega))⟩
    | false =>
     rw [e2] at HE2;have h1:¬(x.1.d=y.1.d∨y.1.d=b.1.d):=fun h=>h.elim (of_decide_eq_false e1) (of_decide_eq_false e2)
     cases e3:decide (x.1.d=b.1.d) with
     | true =>
      rw [e3] at HE3;have HD:=zz (zrl (lines:=lines) h1 (of_decide_eq_true e3));have HY:=zz (show BoS w (w5.setCell ⟨q+3,2,none⟩ (.slice y.2.1 y.1.d.length y.2.2)) z mb so st cb (N+1) A s1 q b x y (⟨x.1.p,K,y.1.d⟩,y.2) from HB.out.out HQS.out (p:=⟨q+3,2,none⟩) rfl (HB.out.bo.set_ 2 (.slice y.2.1 y.1.d.length y.2.2)) HB.out.dy);clear h1
      go_wp2_with (first|(go_at_call 150;with_reducible refine HE1.out.mono ?_;rintro _ _ ⟨rfl,rfl⟩)|(go_at_call 150;with_reducible refine HE2.out.mono ?_;rintro _ _ ⟨rfl,rfl⟩)|(go_at_call 150;with_reducible refine HE3.out.mono ?_;rintro _ _ ⟨rfl,rfl⟩)|(go_at_call 152;with_reducible refine HT1.out.mono ?_;rintro _ _ ⟨rfl,rfl⟩)|(go_at_call 152;with_reducible refine HT2.out.mono ?_;rintro _ _ ⟨rfl,rfl⟩)|(go_at_call 152;with_reducible refine HT3.out.mono ?_;rintro _ _ ⟨rfl,rfl⟩))
      go_meet
      exact ⟨y.2.1,y.2.2,zz (by rw [HD.out,zfV];exact HY.out.more (by omega))⟩
     | false =>
      rw [e3] at HE3
      cases t1:zM lines with
      | false =>
       have hn:(zM lines&&zM x.1.k&&zM y.1.k)=false:=by rw [t1];rfl
       rw [t1] at HT1;have HN:=zz (zgb h1 (of_decide_eq_false e3) hn);clear hn
       go_wp2_with (first|(go_at_call 150;with_reducible refine HE1.out.mono ?_;rintro _ _ ⟨rfl,rfl⟩)|(go_at_call 150;with_reducible refine HE2.out.mono ?_;rintro _ _ ⟨rfl,rfl⟩)|(go_at_call 150;with_reducible refine HE3.out.mono ?_;rintro _ _ ⟨rfl,rfl⟩)|(go_at_call 152;with_reducible refine HT1.out.mono ?_;rintro _ _ ⟨rfl,rfl⟩)|(go_at_call 152;with_reducible refine HT2.out.mono ?_;rintro _ _ ⟨rfl,rfl⟩)|(go_at_call 152;with_reducible refine HT3.out.mono ?_;rintro _ _ ⟨rfl,rfl⟩)|(go_at_call 111;refine HCL.out.mono ?_;rintro _ w6 ⟨rfl,m6,k6⟩;have HW6:=zz (HB.out.clash m6 k6);clear m6 k6))
       go_meet
       exact ⟨x.2.1,x.2.2,zz (by rw [HN.out,zhe];exact HW6.out)⟩
      | true =>
       rw [t1] at HT1
       cases t2:zM x.1.k with
       | false =>
        have hn:(zM lines&&zM x.1.k&&zM y.1.k)=false:=by rw [t1,t2];rfl
        rw [t2] at HT2;have HN:=zz (zgb h1 (of_decide_eq_false e3) hn);clear hn
        go_wp2_with (first|(go_at_call 150;with_reducible refine HE1.out.mono ?_;rintro _ _ ⟨rfl,rfl⟩)|(go_at_call 150;with_reducible refine HE2.out.mono ?_;rintro _ _ ⟨rfl,rfl⟩)|(go_at_call 150;with_reducible refine HE3.out.mono ?_;rintro _ _ ⟨rfl,rfl⟩)|(go_at_call 152;with_reducible refine HT1.out.mono ?_;rintro _ _ ⟨rfl,rfl⟩)|(go_at_call 152;with_reducible refine HT2.out.mono ?_;rintro _ _ ⟨rfl,rfl⟩)|(go_at_call 152;with_reducible refine HT3.out.mono ?_;rintro _ _ ⟨rfl,rfl⟩)|(go_at_call 111;refine HCL.out.mono ?_;rintro _ w6 ⟨rfl,m6,k6⟩;have HW6:=zz (HB.out.clash m6 k6);clear m6 k6))
        go_meet
        exact ⟨x.2.1,x.2.2,zz (by rw [HN.out,zhe];exact HW6.out)⟩
       | true =>
        rw [t2] at HT2
        cases t3:zM y.1.k with
        | false =>
         have hn:(zM lines&&zM x.1.k&&zM y.1.k)=false:=by rw [t1,t2,t3];rfl
         rw [t3] at HT3;have HN:=zz (zgb h1 (of_decide_eq_false e3) hn);clear hn
         go_wp2_with (first|(go_at_call 150;with_reducible refine HE1.out.mono ?_;rintro _ _ ⟨rfl,rfl⟩)|(go_at_call 150;with_reducible refine HE2.out.mono ?_;rintro _ _ ⟨rfl,rfl⟩)|(go_at_call 150;with_reducible refine HE3.out.mono ?_;rintro _ _ ⟨rfl,rfl⟩)|(go_at_call 152;with_reducible refine HT1.out.mono ?_;rintro _ _ ⟨rfl,rfl⟩)|(go_at_call 152;with_reducible refine HT2.out.mono ?_;rintro _ _ ⟨rfl,rfl⟩)|(go_at_call 152;with_reducible refine HT3.out.mono ?_;rintro _ _ ⟨rfl,rfl⟩)|(go_at_call 111;refine HCL.out.mono ?_;rintro _ w6 ⟨rfl,m6,k6⟩;have HW6:=zz (HB.out.clash m6 k6);clear m6 k6))
         go_meet
         exact ⟨x.2.1,x.2.2,zz (by rw [HN.out,zhe];exact HW6.out)⟩
        | true =>
         rw [t3] at HT3;have HD:=zz (zqi h1 (of_decide_eq_false e3) (by rw [t1,t2,t3];rfl));have HMG:=zz (show Calls Tryz.prog 153 #[.slice b.2.1 b.1.d.length b.2.2,.slice x.2.1 x.1.d.length x.2.2,.slice y.2.1 y.1.d.length y.2.2] w5 (zfn b.1.d x.1.d y.1.d w5) from by
          obtain ⟨D1,i1,f1,j1,_,r1⟩:=HB.out.db.reads hz5;obtain ⟨D2,i2,f2,j2,_,r2⟩:=HB.out.dx.reads hz5;obtain ⟨D3,i3,f3,j3,_,r3⟩:=HB.out.dy.reads hz5;injection f1 with f1 _ f4;injection f2 with f2 _ f5;injection f3 with f3 _ f6;subst D1 D2 D3 i1 i2 i3;exact zuf b.1.d x.1.d y.1.d _ _ _ _ _ _ w5.heap.size w5 (Nat.le_refl _) r1 r2 r3 j1 j2 j3 l1 l2 l3)
         have HMM:=zz (show zfn b.1.d x.1.d y.1.d w5=fun e w'=>∃A' c',e = .returned (.tuple #[.slice A' (m3P b.1.d x.1.d y.1.d).1.length c',.bool (m3P b.1.d x.1.d y.1.d).2.1,.int .i64 ((m3P b.1.d x.1.d y.1.d).2.2:Nat)])∧OwnB w' w5.heap.size A' c' (m3P b.1.d x.1.d y.1.d).1∧Below w5.heap.size w5 w' from rfl);rw [HMM.out] at HMG;generalize m3P b.1.d x.1.d y.1.d=mm at *;clear h1 HMM HCL
         go_wp2_with (first|(go_at_call 150;with_reducible refine HE1.out.mono ?_;rintro _ _ ⟨rfl,rfl⟩)|(go_at_call 150;with_reducible refine HE2.out.mono ?_;rintro _ _ ⟨rfl,rfl⟩)|(go_at_call 150;with_reducible refine HE3.out.mono ?_;rintro _ _ ⟨rfl,rfl⟩)|(go_at_call 152;with_reducible refine HT1.out.mono ?_;rintro _ _ ⟨rfl,rfl⟩)|(go_at_call 152;with_reducible refine HT2.out.mono ?_;rintro _ _ ⟨rfl,rfl⟩)|(go_at_call 152;with_reducible refine HT3.out.mono ?_;rintro _ _ ⟨rfl,rfl⟩)|(go_at_call 153;refine HMG.out.mono ?_))
         rintro _ w6 ⟨MA,mc,rfl,om,bm⟩;have HB6:=zz (HB.out.keepB bm);have HM6:=zz (show zo w6 z (⟨x.1.p,K,mm.1⟩,(MA,mc)) from ⟨(Own.cap_le om).1,(Own.cap_le om).2,.inr (Own.mono om hz5)⟩);clear om bm HMG HB HE1 HE2 HE3 HT1 HT2 HT3 c2 d2 g2 d1 g1 o2 o3;obtain ⟨he,hf⟩:=HB6.out.err
         cases es:decide (s1.e=0) with
         | true =>
          have es':=of_decide_eq_true es;rw [es'] at he;have HB7:=zz (HB6.out.setErr (e:=mm.2.2));have o2:=(HB7.out.bo.cell 2).trans (show (za ({ x.1 with k:=K }:FileD) x.2.1 x.2.2)[2]? = some (.slice x.2.1 x.1.d.length x.2.2) from rfl);have o3:=HB7.out.bo.frozen 2;have HB8:=zz (HB7.out.out (o':=(⟨x.1.p,K,mm.1⟩,(MA,mc))) HQS.out (p:=⟨q+3,2,none⟩) rfl (HB7.out.bo.set_ 2 (.slice MA mm.1.length mc)) (HB6.out.dataErr HM6.out));have HCL:=zz (HB8.out.m.clash p 1 hp (by omega) (by omega))
          cases hc:mm.2.1 with
          | true =>
           go_wp2_with fail
           go_meet
           exact ⟨MA,mc,zz (by rw [HD.out];unfold MSt.dated;rw [if_pos hc,if_pos es'];exact HB8.out.more (by omega))⟩
          | false =>
           go_wp2_with (go_at_call 111;refine HCL.out.mono ?_;rintro _ w9 ⟨rfl,m9,k9⟩;have HW9:=zz (HB8.out.clash m9 k9);clear m9 k9)
           go_meet
           exact ⟨MA,mc,zz (by rw [HD.out];unfold MSt.dated;rw [hc,if_neg (by decide),if_pos es'];exact HW9.out)⟩
         | false =>
          have es':=of_decide_eq_false es;have es2:((s1.e:Int)==0)=false:=beq_eq_false_iff_ne.2 (by omega);have es3:(s1.e==0)=false:=beq_eq_false_iff_ne.2 es';have o2:=(HB6.out.bo.cell 2).trans (show (za ({ x.1 with k:=K }:FileD) x.2.1 x.2.2)[2]? = some (.slice x.2.1 x.1.d.length x.2.2) from rfl);have o3:=HB6.out.bo.frozen 2;have HB8:=zz (HB6.out.out (o':=(⟨x.1.p,K,mm.1⟩,(MA,mc))) HQS.out (p:=⟨q+3,2,none⟩) rfl (HB6.out.bo.set_ 2 (.slice MA mm.1.length mc)) HM6.out);have HCL:=zz (HB8.out.m.clash p 1 hp (by omega) (by omega))
          cases hc:mm.2.1 with
          | true =>
           go_wp2_with fail
           go_meet
           exact ⟨MA,mc,zz (by rw [HD.out];unfold MSt.dated;rw [if_pos hc,if_neg es'];exact HB8.out.more (by omega))⟩
          | false =>
           go_wp2_with (go_at_call 111;refine HCL.out.mono ?_;rintro _ w9 ⟨rfl,m9,k9⟩;have HW9:=zz (HB8.out.clash m9 k9);clear m9 k9)
           go_meet
           exact ⟨MA,mc,zz (by rw [HD.out];unfold MSt.dated;rw [hc,if_neg (by decide),if_neg es'];exact HW9.out)⟩
  case rest =>
   obtain ⟨D,d,HB7⟩:=hcut;clear HB c2 d2 g2 d1 g1 o2 o3 HE1 HE2 HE3 HT1 HT2 HT3 HCL;generalize zZ b.1 lines x.1 y.1=dd at *;have hlo:(LdF (.pointer (some ⟨q+3,0,none⟩))).run Tryz.prog wc = .ok (.agg (za ⟨x.1.p,K,dd.1⟩ D d)) wc:=zaC HB7.out.bo;have hst:(s1.dated p dd).t.length≤1000000:=by rw [zjp];exact HL1.out
   have HSY:=zz (HB7.out.m.e.stay (x:=(⟨x.1.p,K,dd.1⟩,(D,d))) HB7.out.do_ p hst)
   go_wp2_with (go_at_call 110;refine HSY.out.mono ?_;rintro _ w9 ⟨rfl,m9,k9⟩;have HM9:=zz m9;have HK9:=zz (HB7.out.k.trans k9);clear m9 k9)
   first|refine bodyPost_end (results_none rfl _ _ _) rfl ?_|refine bodyPost_ret (results_none rfl _ _ _) rfl ?_
   exact ⟨rfl,by rw [HS.out];exact HM9.out,HK9.out⟩
end Go.Proofs.YtmkmbbjgepcioaaGreatDoor
