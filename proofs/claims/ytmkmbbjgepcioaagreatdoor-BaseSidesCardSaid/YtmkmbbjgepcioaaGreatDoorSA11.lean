/- Contracts of merge3.side, merge3.Render. No statement of the seat is proved here. -/
import Derived.Test.YtmkmbbjgepcioaaGreatDoorSAHq
import Derived.Test.YtmkmbbjgepcioaaGreatDoorSA10
import Derived.Deep.DeepCutAuto
import Derived.Deep.CutBlock
import Derived.Test.YtmkmbbjgepcioaaGreatDoorSA04
namespace Go.Proofs.YtmkmbbjgepcioaaGreatDoor
set_option maxHeartbeats 4000000
set_option maxRecDepth 100000
section
open Go.RowKit
attribute [local go_sem ↓] sl_s
def zfI (b o t:List (List UInt8)) (w:World) (r:Ending) (w':World):Prop:=∃A cp,r = .returned (.tuple #[.slice A (zac b o t).length cp,.int .i64 0])∧CkL w' w.heap.size A cp (zac b o t)∧Below w.heap.size w w'
theorem zub (b o t:List (List UInt8)) (A1 A2 A3:Option Addr) (c1 c2 c3 B:Nat) (w:World) (hB:B≤w.heap.size) (h1:ze w B 1 A1 b.length (strL b)) (h2:ze w B 1 A2 o.length (strL o)) (h3:ze w B 1 A3 t.length (strL t)) (hc1:b.length≤c1) (hc2:o.length≤c2) (hc3:t.length≤c3) (hb:b.length≤4000) (ho:o.length≤4000) (ht:t.length≤4000) (hsb:∀s∈b,s.length≤maxLen) (hso:∀s∈o,s.length≤maxLen) (hst:∀s∈t,s.length≤maxLen) :Calls Tryz.prog 194 #[.slice A1 b.length c1,.slice A2 o.length c2,.slice A3 t.length c3] w (zfI b o t w):=by
 have HP:=zz (show zfI b o t w=fun r w'=>∃A cp,r = .returned (.tuple #[.slice A (zac b o t).length cp,.int .i64 0])∧CkL w' w.heap.size A cp (zac b o t)∧Below w.heap.size w w' from rfl);rw [HP.out];clear HP;have HPA:=zz (zky b o A1 A2 c1 c2 B w h1 h2 hB hb ho hsb hso);have HPB:=zz (fun W (k:Below w.heap.size w W)=>zky b t A1 A3 c1 c3 B W (h1.below (k.mono hB)) (h3.below (k.mono hB)) (Nat.le_trans hB k.size) hb ht hsb hst);have hla:=zcf (zx b o) 0;have hlb:=zcf (zx b t) 0;obtain ⟨_,hfa,hfo,_⟩:=zd7 b o;obtain ⟨_,hfb,hft,_⟩:=zd7 b t;rw [hfa] at hla;rw [hfb] at hlb;have HAA:=zz (show ∀(k:Nat) (x:Int),(zu (zx b o) 0)[k]? = some x→x=-1∨(0≤x∧x<o.length) from fun k x hx=>by have:=zcx _ _ _ _ hx;rw [hfo] at this;omega);have HAB:=zz (show ∀(k:Nat) (x:Int),(zu (zx b t) 0)[k]? = some x→x=-1∨(0≤x∧x<t.length) from fun k x hx=>by have:=zcx _ _ _ _ hx;rw [hft] at this;omega);have HRA:=zz (fun m n u v=>zdf (zx b o) 0 m n u v);have HRB:=zz (fun m n u v=>zdf (zx b t) 0 m n u v);have HCP:=zz (show zac b o t=addC (zaB b o t ((zu (zx b o) 0).zip (zu (zx b t) 0)) 0 ⟨[],0,0,0⟩).out (b.drop (zaB b o t ((zu (zx b o) 0).zip (zu (zx b t) 0)) 0 ⟨[],0,0,0⟩).f) (o.drop (zaB b o t ((zu (zx b o) 0).zip (zu (zx b t) 0)) 0 ⟨[],0,0,0⟩).i) (t.drop (zaB b o t ((zu (zx b o) 0).zip (zu (zx b t) 0)) 0 ⟨[],0,0,0⟩).j) from rfl);unfold zhp at HPA HPB;generalize zu (zx b o) 0=pa at *;generalize zu (zx b t) 0=pb at *;obtain ⟨SF,hSF⟩:∃SF,zaB b o t (pa.zip pb) 0 ⟨[],0,0,0⟩=SF:=⟨_,rfl⟩;rw [hSF] at HCP;have HSF:=zz hSF;generalize zac b o t=R at *;have H1:=zz h1;have H2:=zz h2;have H3:=zz h3;clear h1 h2 h3 hsb hso hst hSF hfa hfb hfo hft;have n4:∀x:Nat,x≤4000→decide ((4000:Int)<(x:Int))=false:=fun x h=>decide_eq_false (by omega);have nb:=n4 _ hb;have no:=n4 _ ho;have nt:=n4 _ ht;clear n4;go_enter Tryz.func194,Tryz.ntmps194
 go_upto_if 25 with fail
 go_cut [25] (fun s25 wx=>s25 = .bool false∧w=wx)
 case first =>
  go_wp2_with fail
  all_goals (go_meet;exact ⟨rfl,rfl⟩)
 case rest =>
  obtain ⟨rfl,rfl⟩:=hcut;clear nb no nt
  go_wp2_with (go_at_call 239;refine HPA.out.mono ?_)
  rintro _ w1 ⟨A4,c4,rfl,o4,b4⟩;have HB1:=zz b4;have HO1:=zz o4;clear o4 b4 HPA
  go_wp2_with (go_at_call 239;refine (HPB.out _ HB1.out).mono ?_)
  rintro _ w2 ⟨A5,c5,rfl,o5,b5⟩;have HB2:=zz (HB1.out.trans (b5.mono HB1.out.size));have HRA1:=zz (show ze w2 w2.heap.size 1 A4 pa.length (intL pa) from (HO1.out.reads.below b5).more b5.size);have HRB1:=zz o5.reads;have HZ2:=zz (show B≤w2.heap.size from Nat.le_trans hB HB2.out.size);have HR1:=zz (show ze w2 w2.heap.size 1 A1 b.length (strL b) from (H1.out.below (HB2.out.mono hB)).more HZ2.out);have HR2:=zz (show ze w2 w2.heap.size 1 A2 o.length (strL o) from (H2.out.below (HB2.out.mono hB)).more HZ2.out);have HR3:=zz (show ze w2 w2.heap.size 1 A3 t.length (strL t) from (H3.out.below (HB2.out.mono hB)).more HZ2.out);clear o5 b5 HPB HB1 HO1 H1 H2 H3 HZ2;obtain ⟨z,hz⟩:∃z,w2.heap.size=z:=⟨_,rfl⟩;rw [hz] at HRA1 HRB1 HR1 HR2 HR3;have HZ:=zz hz;clear hz;have hla1:(pa.length:Int)=b.length:=by omega
  go_wp2_with fail
  go_loopw [11,12,13,14,46] (fun s11 s12 s13 s14 s46 wr=>∃(k:Nat) (s:CurC) (A6:Option Addr) (c6:Nat),s11 = .slice A6 s.out.length c6∧s12 = .int .i64 (s.f:Nat)∧s13 = .int .i64 (s.i:Nat)∧s14 = .int .i64 (s.j:Nat)∧s46 = .int .i64 (k:Nat)∧k≤b.length∧Hid (zaB b o t ((pa.zip pb).drop k) k s=SF)∧Hid (ChInv b o t pa pb k s)∧Hid (CkL wr z A6 c6 s.out)∧Hid (Below z w2 wr)) (fun _ _ _ _ s46 _=>b.length-(intOf s46).toNat)
  case atStart=>exact ⟨0,⟨[],0,0,0⟩,none,0,rfl,rfl,rfl,rfl,rfl,Nat.zero_le _,zz (by rw [List.drop_zero];exact HSF.out),zz (ChInv.start _ _ _ _ _),zz (CkL.nil_ _ _),zz (Below.refl _ _)⟩
  case round =>
   obtain ⟨k,s,A6,c6,rfl,rfl,rfl,rfl,rfl,hk,HS,HI,HL,HB⟩:=hrel;by_cases hlt:k<b.length
   · obtain ⟨x,hx⟩:∃x,pa[k]? = some x:=⟨_,List.getElem?_eq_getElem (by omega)⟩;obtain ⟨y,hy⟩:∃y,pb[k]? = some y:=⟨_,List.getElem?_eq_getElem (by omega)⟩;obtain ⟨g4,f4,rfl,_,hc4⟩:=(HRA1.out.below HB.out).at0 (by omega) (by omega);obtain ⟨g5,f5,rfl,_,hc5⟩:=(HRB1.out.below HB.out).at0 (by omega) (by omega);have d4:=hc4 k (.int .i64 x) (by simp [intL,hx]);have d5:=hc5 k (.int .i64 y) (by simp [intL,hy]);have i0:(0:Int)≤(k:Int):=by omega
     have i1:(k:Int)<(pa.length:Int):=by omega
     have i2:(k:Int)<(pb.length:Int):=by omega
     have hdr:(pa.zip pb).drop k=(x,y)::(pa.zip pb).drop (k+1):=List.drop_eq_getElem?_toList_append.trans (by rw [List.getElem?_zip_eq_some (z:=(x,y)) |>.2 ⟨hx,hy⟩];rfl);have HX:=zz hx;have HY:=zz hy;have HS1:=zz (show zaB b o t ((pa.zip pb).drop (k+1)) (k+1) (zam b o t s k x y)=SF from by
      have:=HS.out;rw [hdr] at this;exact this)
     clear hc4 hc5 hdr HS hx hy
     go_wp2_with fail
     refine wp_region_still_lit (by kernel_rfl) (by kernel_rfl) ?_
     repeat (first|((with_reducible refine wpStill_step (fun K hK=>?_));go_simp;with_reducible refine hK _ ?_;clear hK K)|((with_reducible refine wpStill_skip ?_ ?_);(focus rfl)))
     (with_reducible refine wpStill_nil ?_)
     change Exit.then _ _ _ _ wr.drew
     by_cases hx0:x<0
     · have g1:decide (x<0)=true:=decide_eq_true hx0;have e1:zam b o t s k x y=s:=by unfold zam;rw [if_pos (.inl hx0)]
       rw [e1] at HS1;clear e1
       go_wp2_with fail
       go_roundw
       case rel=>exact ⟨k+1,s,A6,c6,rfl,rfl,rfl,rfl,by go_num,hlt,HS1,zz HI.out.skip,zz HL.out.drew,zz HB.out.drew⟩
       case measure=>simp [intOf];omega
     · have g1:decide (x<0)=false:=decide_eq_false hx0;by_cases hy0:y<0
       · have g2:decide (y<0)=true:=decide_eq_true hy0;have e1:zam b o t s k x y=s:=by unfold zam;rw [if_pos (.inr hy0)]
         rw [e1] at HS1;clear e1
         go_wp2_with fail
         go_roundw
         case rel=>exact ⟨k+1,s,A6,c6,rfl,rfl,rfl,rfl,by go_num,hlt,HS1,zz HI.out.skip,zz HL.out.drew,zz HB.out.drew⟩
         case measure=>simp [intOf];omega
       · have g2:decide (y<0)=false:=decide_eq_false hy0;obtain ⟨xn,rfl⟩:∃xn:Nat,x=(xn:Int):=⟨x.toNat,by omega⟩
         obtain ⟨yn,rfl⟩:∃yn:Nat,y=(yn:Int):=⟨y.toNat,by omega⟩
         have hxo:xn<o.length:=by have:=HAA.out k _ HX.out;omega
         have hyt:yn<t.length:=by have:=HAB.out k _ HY.out;omega
         obtain ⟨n1,n2,HN3,HN4,HN5⟩:=HI.out.step hb ho ht hlt hxo hyt HX.out HY.out HRA.out HRB.out;have n0:=HI.out.f;have HN3:=zz HN3;have HN4:=zz HN4;have HN5:=zz HN5;have HZB:=zz (show z≤wr.heap.size from by have:=HB.out.size;rw [HZ.out] at this;exact this);have HLN:=zz (show s.out.length≤8000 from by have:=HI.out.len;omega);have HBN:=zz (show BndC s.out 4000 4000 4000 from HI.out.bnd.mono (by omega) (by have:=HI.out.i;omega) (by have:=HI.out.j;omega));have HBZ:=zz (show Below z w2 wr from HB.out);have q1:=zz ((HR1.out.below HB.out).seg_ rfl n0 (Nat.le_of_lt hlt) hc1);have q2:=zz ((HR2.out.below HB.out).seg_ rfl n1 (Nat.le_of_lt hxo) hc2);have q3:=zz ((HR3.out.below HB.out).seg_ rfl n2 (Nat.le_of_lt hyt) hc3);have m1:(seg b s.f k).length=k-s.f:=by rw [zbS];omega
         have m2:(seg o s.i xn).length=xn-s.i:=by rw [zbS];omega
         have m3:(seg t s.j yn).length=yn-s.j:=by rw [zbS];omega
         rw [if_neg (by omega),Nat.mul_one] at q1 q2 q3;obtain ⟨a1,w1',rfl,_,_⟩:=HR1.out.at0 (by omega) (by omega);obtain ⟨a2,w2',rfl,_,_⟩:=HR2.out.at0 (by omega) (by omega);obtain ⟨a3,w3',rfl,_,_⟩:=HR3.out.at0 (by omega) (by omega);have j1:(0:Int)≤(s.f:Int):=by omega
         have j2:(s.f:Int)≤(k:Int):=by omega
         have j3:(k:Int)≤(c1:Int):=by omega
         have j4:(0:Int)≤(s.i:Int):=by omega
         have j5:(s.i:Int)≤(xn:Int):=by omega
         have j6:(xn:Int)≤(c2:Int):=by omega
         have j7:(0:Int)≤(s.j:Int):=by omega
         have j8:(s.j:Int)≤(yn:Int):=by omega
         have j9:(yn:Int)≤(c3:Int):=by omega
         have k1:c1≠s.f:=by omega
         have k2:c2≠s.i:=by omega
         have k3:c3≠s.j:=by omega
         have HAD1:=zz (show ∀W,Below wr.heap.size wr W→Calls Tryz.prog 240 #[.slice A6 s.out.length c6,.slice (some ⟨a1,w1'+s.f,none⟩) (k-s.f) (c1-s.f),.slice (some ⟨a2,w2'+s.i,none⟩) (xn-s.i) (c2-s.i),.slice (some ⟨a3,w3'+s.j,none⟩) (yn-s.j) (c3-s.j)] W (zcE s.out (seg b s.f k) (seg o s.i xn) (seg t s.j yn) z W) from fun W kW=>by
          have x1:=q1.out.below (kW.mono HZB.out);have x2:=q2.out.below (kW.mono HZB.out);have x3:=q3.out.below (kW.mono HZB.out);simp only [Option.map_some,zJ] at x1 x2 x3;have:=zfN s.out _ _ _ A6 _ _ _ c6 (c1-s.f) (c2-s.i) (c3-s.j) z W (Nat.le_trans HZB.out kW.size) (HL.out.keepB kW) x1 x2 x3 (by omega) (by omega) (by omega) (by have:=HLN.out;omega) (fun c hc=>by have:=HBN.out c hc;omega)
          rwa [m1,m2,m3] at this)
         have HSG:=zz (show (seg b k (k+1)).length=1∧(seg o xn (xn+1)).length=1∧(seg t yn (yn+1)).length=1 from ⟨by rw [zbS];omega,by rw [zbS];omega,by rw [zbS];omega⟩);have HNX:=zz (show addC (addC s.out (seg b s.f k) (seg o s.i xn) (seg t s.j yn)) (seg b k (k+1)) (seg o xn (xn+1)) (seg t yn (yn+1))=(zam b o t s k (xn:Int) (yn:Int)).out∧(zam b o t s k (xn:Int) (yn:Int)).f=k+1∧(zam b o t s k (xn:Int) (yn:Int)).i=xn+1∧(zam b o t s k (xn:Int) (yn:Int)).j=yn+1 from by
          unfold zam;rw [if_neg (by omega)];simp)
         unfold zcE at HAD1;generalize addC s.out (seg b s.f k) (seg o s.i xn) (seg t s.j yn)=L1 at *;generalize zam b o t s k (xn:Int) (yn:Int)=S1 at *;clear q1 q2 q3 m1 m2 m3 d4 d5 HL HI HLN HBN HX HY
         go_wp2_with fail
         go_region_law (first|(go_simp;go_at_call 240;refine (HAD1.out _ (by first|exact Below.refl _ _|exact (Below.refl _ _).drew|exact (Below.refl _ _).drew.drew)).mono ?_;rintro _ w3 ⟨A7,c7,rfl,o7,b7⟩))
         have HL7:=zz o7;have HB7:=zz (show Below z w2 w3 from HBZ.out.trans ⟨b7.os,b7.tape,b7.output,b7.size,b7.block⟩);have HZ7:=zz (show z≤w3.heap.size from by have:=HB7.out.size;rw [HZ.out] at this;exact this);clear o7 b7 HAD1;have HAD2:=zz (show ∀W,Below w3.heap.size w3 W→Calls Tryz.prog 240 #[.slice A7 L1.length c7,.slice (some ⟨a1,w1'+k,none⟩) 1 (c1-k),.slice (some ⟨a2,w2'+xn,none⟩) 1 (c2-xn),.slice (some ⟨a3,w3'+yn,none⟩) 1 (c3-yn)] W (zcE L1 (seg b k (k+1)) (seg o xn (xn+1)) (seg t yn (yn+1)) z W) from fun W kW=>by
          have hBW:Below z w2 W:=HB7.out.trans (kW.mono HZ7.out);have x1:=(HR1.out.below hBW).seg_ rfl (Nat.le_add_right k 1) hlt hc1;have x2:=(HR2.out.below hBW).seg_ rfl (Nat.le_add_right xn 1) hxo hc2;have x3:=(HR3.out.below hBW).seg_ rfl (Nat.le_add_right yn 1) hyt hc3;rw [if_neg (by omega),Nat.mul_one] at x1 x2 x3;simp only [Option.map_some,zJ] at x1 x2 x3;have:=zfN L1 _ _ _ A7 _ _ _ c7 (c1-k) (c2-xn) (c3-yn) z W (Nat.le_trans HZ7.out kW.size) (HL7.out.keepB kW) x1 x2 x3 (by have:=HSG.out;omega) (by have:=HSG.out;omega) (by have:=HSG.out;omega) (by have:=HN3.out;omega) (fun c hc=>by have:=HN4.out c hc;omega)
          rwa [HSG.out.1,HSG.out.2.1,HSG.out.2.2] at this)
         unfold zcE at HAD2;rw [HNX.out.1] at HAD2;have hw:∀n:Nat,n≤4000→IntKind.i64.wrap ((n:Int)+1)=(n:Int)+1∧((n:Int)+1).toNat=n+1∧(0:Int)≤(n:Int)+1:=fun n h=>⟨IntWalk.i64_in _ (by omega),by omega,by omega⟩;obtain ⟨u1,u2,u3⟩:=hw k (by omega);obtain ⟨u4,u5,u6⟩:=hw xn (by omega);obtain ⟨u7,u8,u9⟩:=hw yn (by omega);clear hw;have p2:(k:Int)+1≤(c1:Int):=by omega
         have p3:(xn:Int)+1≤(c2:Int):=by omega
         have p4:(yn:Int)+1≤(c3:Int):=by omega
         have k4:c1≠k:=by omega
         have k5:c2≠xn:=by omega
         have k6:c3≠yn:=by omega
         go_wp2_with fail
         go_region_law (first|(go_simp;go_at_call 240;refine (HAD2.out _ (by first|exact Below.refl _ _|exact (Below.refl _ _).drew|exact (Below.refl _ _).drew.drew)).mono ?_;rintro _ w4 ⟨A8,c8,rfl,o8,b8⟩))
         have HL8:=zz o8;have HB8:=zz (show Below z w2 w4 from HB7.out.trans ⟨b8.os,b8.tape,b8.output,b8.size,b8.block⟩);clear o8 b8 HAD2
         go_wp2_with fail
         go_roundw
         case rel=>exact ⟨k+1,S1,A8,c8,rfl,by rw [HNX.out.2.1];go_num,by rw [HNX.out.2.2.1];go_num,by rw [HNX.out.2.2.2];go_num,by go_num,hlt,HS1,HN5,HL8,HB8⟩
         case measure=>simp [intOf];omega
   · obtain hkb:k=b.length:=by omega
     have hSF:SF=s:=by
      have:=HS.out;rw [hkb,List.drop_eq_nil_of_le (by rw [List.length_zip];omega),zaB] at this;exact this.symm
     subst hSF;have n0:=HI.out.f;have n1:=HI.out.i;have n2:=HI.out.j;have HZB:=zz (show z≤wr.heap.size from by have:=HB.out.size;rw [HZ.out] at this;exact this);have HLN:=zz (show SF.out.length≤8000 from by have:=HI.out.len;omega);have HBN:=zz (show BndC SF.out 4000 4000 4000 from HI.out.bnd.mono (by omega) (by omega) (by omega));obtain ⟨D1,hD1⟩:∃D,(if c1=SF.f then A1 else A1.map (·.add (SF.f*1)))=D:=⟨_,rfl⟩;obtain ⟨D2,hD2⟩:∃D,(if c2=SF.i then A2 else A2.map (·.add (SF.i*1)))=D:=⟨_,rfl⟩;obtain ⟨D3,hD3⟩:∃D,(if c3=SF.j then A3 else A3.map (·.add (SF.j*1)))=D:=⟨_,rfl⟩;have t1:∀W,(SlS (.slice A1 b.length c1) (some (.int .i64 (SF.f:Int)))).run Tryz.prog W = .ok (.slice D1 (b.length-SF.f) (c1-SF.f)) W:=fun W=>by rw [←hD1];exact SlS.tail W A1 _ c1 _ (by omega)
     have t2:∀W,(SlS (.slice A2 o.length c2) (some (.int .i64 (SF.i:Int)))).run Tryz.prog W = .ok (.slice D2 (o.length-SF.i) (c2-SF.i)) W:=fun W=>by rw [←hD2];exact SlS.tail W A2 _ c2 _ (by omega)
     have t3:∀W,(SlS (.slice A3 t.length c3) (some (.int .i64 (SF.j:Int)))).run Tryz.prog W = .ok (.slice D3 (t.length-SF.j) (c3-SF.j)) W:=fun W=>by rw [←hD3];exact SlS.tail W A3 _ c3 _ (by omega)
     have HAD1:=zz (show ∀W,Below wr.heap.size wr W→Calls Tryz.prog 240 #[.slice A6 SF.out.length c6,.slice D1 (b.length-SF.f) (c1-SF.f),.slice D2 (o.length-SF.i) (c2-SF.i),.slice D3 (t.length-SF.j) (c3-SF.j)] W (zcE SF.out (b.drop SF.f) (o.drop SF.i) (t.drop SF.j) z W) from fun W kW=>by
      have hBW:Below z w2 W:=HB.out.trans (kW.mono HZB.out);have x1:=(HR1.out.below hBW).cut (cap:=c1) (show SF.f≤b.length by omega) hc1;have x2:=(HR2.out.below hBW).cut (cap:=c2) n1 hc2;have x3:=(HR3.out.below hBW).cut (cap:=c3) n2 hc3;rw [hD1,Nat.mul_one,show (strL b).drop SF.f=strL (b.drop SF.f) from by unfold strL;rw [List.map_drop]] at x1;rw [hD2,Nat.mul_one,show (strL o).drop SF.i=strL (o.drop SF.i) from by unfold strL;rw [List.map_drop]] at x2;rw [hD3,Nat.mul_one,show (strL t).drop SF.j=strL (t.drop SF.j) from by unfold strL;rw [List.map_drop]] at x3;have e1:(b.drop SF.f).length=b.length-SF.f:=List.length_drop;have e2:(o.drop SF.i).length=o.length-SF.i:=List.length_drop;have e3:(t.drop SF.j).length=t.length-SF.j:=List.length_drop;rw [←e1] at x1;rw [←e2] at x2;rw [←e3] at x3;have:=zfN SF.out _ _ _ A6 _ _ _ c6 (c1-SF.f) (c2-SF.i) (c3-SF.j) z W (Nat.le_trans HZB.out kW.size) (HL.out.keepB kW) x1 x2 x3 (by omega) (by omega) (by omega) (by have:=HLN.out;omega) (fun c hc=>by have:=HBN.out c hc;omega)
      rwa [e1,e2,e3] at this)
     unfold zcE at HAD1;rw [←HCP.out] at HAD1;have HBZ:=zz (show Below w.heap.size w wr from HB2.out.trans (HB.out.mono (by rw [←HZ.out];exact HB2.out.size)));have HZW:=zz (show w.heap.size≤z from by rw [←HZ.out];exact HB2.out.size);have g7:¬(k<b.length):=hlt;clear hkb HI HL HS HSF hD1 hD2 hD3 n0 n1 n2
     go_wp2_with fail
     go_region_law (first|(go_simp;go_at_call 240;refine (HAD1.out _ (by first|exact Below.refl _ _|exact (Below.refl _ _).drew|exact (Below.refl _ _).drew.drew)).mono ?_;rintro _ w4 ⟨A8,c8,rfl,o8,b8⟩))
     go_wp2_with fail
     go_ret2
     exact ⟨A8,c8,rfl,o8.low HZW.out,HBZ.out.trans (Below.mono ⟨b8.os,b8.tape,b8.output,b8.size,b8.block⟩ HZW.out)⟩
theorem zrC (nb no nt:Nat) (A1 A2 A3:Option Addr) (c1 c2 c3:Nat) (w:World) (h:4000<nb∨4000<no∨4000<nt) :Calls Tryz.prog 194 #[.slice A1 nb c1,.slice A2 no c2,.slice A3 nt c3] w fun r w'=>r = .returned (.tuple #[.slice none 0 0,.int .i64 4])∧w'=w:=by
 go_enter Tryz.func194,Tryz.ntmps194
 go_wp2_with fail
 all_goals first|(go_ret2;exact ⟨rfl,rfl⟩)|(exfalso;omega)
end
section
open Go.RowKit
def OwnB (w:World) (z:Nat) (A:Option Addr) (c:Nat) (l:List UInt8):Prop:=Own w z 5 1 A l.length c (l.map zh)
def zhw (r:List UInt8) (z:Nat) (w:World) (e:Ending) (w':World):Prop:=∃A' c',e = .returned (.slice A' r.length c')∧OwnB w' z A' c' r∧Kept z [5] [] w w'
theorem znQ (s:List UInt8):Lib.strCells (⟨s.toArray⟩:ByteArray)=s.map zh:=by
 simp [Lib.strCells,zh]
theorem zkm (l:List (List UInt8)):(zi l=[]∧zD l=[])∨∃p x,zi l=p++[x]∧zD l=if x=10 then zi l else zi l++[10]:=by
 unfold zD
 rcases List.eq_nil_or_concat (zi l) with h|⟨p,x,h⟩
 · rw [h];exact .inl ⟨rfl,rfl⟩
 · rw [List.concat_eq_append] at h;refine .inr ⟨p,x,h,?_⟩;rw [h];simp
theorem znv (acc word:List UInt8) (l:List (List UInt8)) (A A2:Option Addr) (c c2 B z:Nat) (w:World) (hz:z≤w.heap.size) (hB:B≤z) (ho:OwnB w z A c acc) (hr:ze w B 1 A2 l.length (strL l)) (hal:acc.length≤100000000) (hwl:word.length≤1000) (hll:l.length≤100000000) (hjl:(zi l).length≤100000000) :Calls Tryz.prog 242 #[.slice A acc.length c,.string ⟨word.toArray⟩,.slice A2 l.length c2] w (zhw (acc++word++[10]++zD l) z w):=by
 unfold zhw;have hsz:(⟨word.toArray⟩:ByteArray).size=word.length:=by simp [ByteArray.size]
 have hsc:=znQ word;have HJ:=zz (fun W (k:Below z w W)=>zd9 l A2 c2 B W (Nat.le_trans hB (Nat.le_trans hz k.size)) (hr.below (k.mono hB)) hll hjl);have HEC:=zz (zkm l);have hj:l.flatten=zi l:=rfl;rw [hj] at HJ;generalize zi l=J at *;generalize zD l=E at *;have O0:=zz ho;clear ho hr hj;go_enter Tryz.func242,Tryz.ntmps242
 go_wp2_with (first|(at_builtin;refine zjU rfl zbA ziK Tryz.underlying9 rfl rfl O0.out rfl (by rw [hsz];unfold maxLen;omega) (by rw [hsz];omega) hz ?_;intro A5 c5 w5 o5 k5;rw [hsz,hsc] at o5;rw [hsz];have O5:=zz o5;have HB5:=zz k5;clear o5 k5)|(at_builtin;refine zH rfl zbA rfl rfl (n:=acc.length+word.length) (xs:=acc.map zh++word.map zh) (O5.out.alloc _) rfl (ze.of_blk (n:=1) (size:=1) (xs:=[zh 10]) (heap_alloc_new _ _) rfl rfl) (zb3 [10]) (by unfold maxLen;omega) (by omega) (by have:=HB5.out.size;simp;omega) ?_;intro A6 c6 w6 o6 k6;have O6:=zz o6;have HB6:=zz (HB5.out.trans (((Kept.refl z [5] [] _).alloc _).trans k6));clear o6 k6)|(go_at_call 241;refine (HJ.out _ (HB6.out.below (Nat.le_refl _) hz (by simp))).mono ?_))
 rintro _ w7 ⟨A7,c7,rfl,o7,b7⟩;have HZ6:=zz (show z≤w6.heap.size from Nat.le_trans hz HB6.out.size);have O67:=zz (O6.out.kept (b':=0) (E:=[]) (G:=[]) (Kept.ofBelow b7) (by simp) (by simp));have HB7:=zz (HB6.out.trans (Kept.ofBelow b7));have HJ7:=zz (show ze w7 w7.heap.size 1 A7 J.length (J.map zh) from o7.reads);have HZ7:=zz (show z≤w7.heap.size from Nat.le_trans hz HB7.out.size);clear o7 b7 HJ O0 O5 O6 HB5;obtain ⟨T,hT⟩:∃T,acc++word++[10]++J=T:=⟨_,rfl⟩;have hTl:acc.length+word.length+1+J.length=T.length:=by rw [←hT];simp;omega
 have hTm:acc.map zh++word.map zh++[zh 10]++J.map zh=T.map zh:=by rw [←hT,List.map_append,List.map_append,List.map_append];rfl
 have HLAST:=zz (show ∃p x,T=p++[x]∧((x=10∧acc++word++[10]++E=T)∨(x≠10∧acc++word++[10]++E=T++[10])) from by
  rcases HEC.out with ⟨q1,q2⟩|⟨p,x,q1,q2⟩
  · subst q1 q2;exact ⟨acc++word,10,by rw [←hT];simp,.inl ⟨rfl,hT⟩⟩
  · refine ⟨acc++word++[10]++p,x,by rw [←hT,q1];simp,?_⟩;by_cases hx:x=10
    · rw [if_pos hx] at q2;exact .inl ⟨hx,by rw [q2];exact hT⟩
    · rw [if_neg hx] at q2;exact .inr ⟨hx,by rw [q2,←hT];simp⟩)
 have hT0:T.length≤300000000:=by omega
 obtain ⟨p,x,hp,hxx⟩:=HLAST.out;have HX:=zz hxx;have HP:=zz hp;have hp1:T.length=p.length+1:=by rw [hp];simp
 have hTI:((acc.length:Int)+(word.length:Int)+1+(J.length:Int))=(T.length:Int):=by omega
 clear hT HLAST HEC hp hxx;have HCL0:=zz (show ∀W g c,OwnB W z (some ⟨g,0,none⟩) c T→W.cell? ⟨g,p.length,none⟩=some (.int .u8 (x.toNat:Int)) from fun W g c h=>by
  obtain ⟨g',off,e,_,hc⟩:=h.reads.at0 (by omega) (by omega);injection e with e;injection e with e1 e2;subst e1 e2;have:=hc p.length (zh x) (by rw [HP.out];simp)
  rwa [Nat.zero_add] at this)
 have hi0:(0:Int)≤(p.length:Int):=by omega
 have hi1:(p.length:Int)<(p.length:Int)+1:=by omega
 rcases HX.out with ⟨rfl,hE⟩|⟨hx,hE⟩
 · have HE:=zz hE;clear hE HX
   go_wp2_with (at_builtin;refine zH rfl zbA rfl rfl (n:=acc.length+word.length+1) (xs:=acc.map zh++word.map zh++[zh 10]) O67.out rfl HJ7.out (zb3 J) (by unfold maxLen;omega) (by omega) HZ7.out ?_;intro A8 c8 w8 o8 k8;rw [hTl,hTm] at o8;rw [hTl];have O8:=zz o8;have HB8:=zz (HB7.out.trans k8);clear o8 k8;obtain ⟨g,hA,_⟩:=O8.out.adrn (by omega);subst hA;have HCL:=zz (HCL0.out w8 g c8 O8.out);have d0:=HCL.out)
   go_ret
   rw [HE.out];exact ⟨_,_,by rw [hp1];rfl,O8.out,HB8.out⟩
 · have hne2:((x.toNat:Int) !=10)=true:=by
    rw [bne,beq_eq_false_iff_ne.2 fun e=>hx (by apply UInt8.toNat_inj.1;show x.toNat=10;omega)];rfl
   have HE:=zz hE;have HTM:=zz hTm;clear hE HX hx
   go_wp2_with (first|(at_builtin;refine zH rfl zbA rfl rfl (n:=acc.length+word.length+1) (xs:=acc.map zh++word.map zh++[zh 10]) O67.out rfl HJ7.out (zb3 J) (by unfold maxLen;omega) (by omega) HZ7.out ?_;intro A8 c8 w8 o8 k8;rw [hTl,hTm] at o8;rw [hTl];have O8:=zz o8;have HB8:=zz (HB7.out.trans k8);clear o8 k8;obtain ⟨g,hA,_⟩:=O8.out.adrn (by omega);subst hA;have HCL:=zz (HCL0.out w8 g c8 O8.out);have d0:=HCL.out)|(at_builtin;refine zH rfl zbA rfl rfl (n:=p.length+1) (xs:=T.map zh) ((show Own w8 z 5 1 (some ⟨g,0,none⟩) (p.length+1) c8 (T.map zh) from hp1▸O8.out).alloc _) rfl (ze.of_blk (n:=1) (size:=1) (xs:=[zh 10]) (heap_alloc_new _ _) rfl rfl) (zb3 [10]) (by unfold maxLen;omega) (by omega) (by have:=HB8.out.size;simp;omega) ?_;intro A9 c9 w9 o9 k9;have O9:=zz o9;have HB9:=zz (HB8.out.trans (((Kept.refl z [5] [] _).alloc _).trans k9));clear o9 k9))
   go_ret
   rw [HE.out];exact ⟨A9,c9,by rw [List.length_append,hp1];rfl,by have:=O9.out;unfold OwnB;rw [List.length_append,List.map_append,hp1];exact this,HB9.out⟩
end
end Go.Proofs.YtmkmbbjgepcioaaGreatDoor
