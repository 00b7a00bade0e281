/- Contract of merge3.Merge. No statement of the seat is proved here. -/
import Derived.Test.YtmkmbbjgepcioaaGreatDoorSAHq
import Derived.Test.YtmkmbbjgepcioaaGreatDoorSA16
namespace Go.Proofs.YtmkmbbjgepcioaaGreatDoor
set_option maxHeartbeats 2000000
set_option maxRecDepth 100000
open Go.RowKit
def m3P (b o t:List UInt8):List UInt8×Bool×Nat:=match zbL b o t with
 | some r=>(r.1,r.2,0)
 | none=>([],false,4)
def zfn (b o t:List UInt8) (w:World) (e:Ending) (w':World):Prop:=∃A' c',e = .returned (.tuple #[.slice A' (m3P b o t).1.length c',.bool (m3P b o t).2.1,.int .i64 ((m3P b o t).2.2:Nat)])∧OwnB w' w.heap.size A' c' (m3P b o t).1∧Below w.heap.size w w'
theorem zuf (b o t:List UInt8) (A1 A2 A3:Option Addr) (c1 c2 c3 B:Nat) (w:World) (hB:B≤w.heap.size) (h1:ze w B 1 A1 b.length (b.map zh)) (h2:ze w B 1 A2 o.length (o.map zh)) (h3:ze w B 1 A3 t.length (t.map zh)) (hc1:b.length≤c1) (hc2:o.length≤c2) (hc3:t.length≤c3) (hb:b.length≤100000) (ho:o.length≤100000) (ht:t.length≤100000) :Calls Tryz.prog 153 #[.slice A1 b.length c1,.slice A2 o.length c2,.slice A3 t.length c3] w (zfn b o t w):=by
 have HP:=zz (show zfn b o t w=fun e w'=>∃A' c',e = .returned (.tuple #[.slice A' (m3P b o t).1.length c',.bool (m3P b o t).2.1,.int .i64 ((m3P b o t).2.2:Nat)])∧OwnB w' w.heap.size A' c' (m3P b o t).1∧Below w.heap.size w w' from rfl);rw [HP.out];clear HP;have HSP:=zz (fun (x:List UInt8) (A:Option Addr) (c:Nat) (W:World) (kW:Below w.heap.size w W) (h:ze w B 1 A x.length (x.map zh)) (hc:x.length≤c) (hx:x.length≤100000)=>zgQ x A c B W (Nat.le_trans hB kW.size) (h.below (kW.mono hB)) (by omega) hc);have H1:=zz h1;have H2:=zz h2;have H3:=zz h3;clear h1 h2 h3;obtain ⟨lb,eb⟩:=zd8 b;obtain ⟨lo,eo⟩:=zd8 o;obtain ⟨lt,et⟩:=zd8 t;have fb:(zi (zf b)).length=b.length:=by unfold zi;rw [zcv]
 have fo:(zi (zf o)).length=o.length:=by unfold zi;rw [zcv]
 have ft:(zi (zf t)).length=t.length:=by unfold zi;rw [zcv]
 have HM:=zz (show m3P b o t=if (zf b).length≤4000∧(zf o).length≤4000∧(zf t).length≤4000 then (zai (zac (zf b) (zf o) (zf t)),(zac (zf b) (zf o) (zf t)).all (fun c=>c.kind !=4),0) else ([],false,4) from by
  unfold m3P zbL;by_cases q:(zf b).length≤4000∧(zf o).length≤4000∧(zf t).length≤4000
  · rw [if_pos q,if_pos q]
  · rw [if_neg q,if_neg q])
 have HSB:=zz (fun W kW=>HSP.out b A1 c1 W kW H1.out hc1 hb);have HSO:=zz (fun W kW=>HSP.out o A2 c2 W kW H2.out hc2 ho);have HST:=zz (fun W kW=>HSP.out t A3 c3 W kW H3.out hc3 ht);clear HSP H1 H2 H3;generalize m3P b o t=M at *;generalize zf b=sb at *;generalize zf o=so at *;generalize zf t=st at *;have HEB:=zz eb;have HEO:=zz eo;have HET:=zz et;clear eb eo et;go_enter Tryz.func153,Tryz.ntmps153
 go_wp2_with (go_at_call 189;refine (HSB.out _ (Below.refl _ _)).mono ?_)
 rintro _ w1 ⟨A4,c4,rfl,o4,b4⟩;have O4:=zz o4;have B4:=zz b4;clear o4 b4 HSB
 go_wp2_with (go_at_call 189;refine (HSO.out _ B4.out).mono ?_)
 rintro _ w2 ⟨A5,c5,rfl,o5,b5⟩;have O5:=zz o5;have B5:=zz (B4.out.trans (b5.mono B4.out.size));have O4':=zz (show ze w2 w2.heap.size 1 A4 sb.length (strL sb)∧sb.length≤c4 from ⟨(O4.out.reads.below b5).more b5.size,O4.out.cap_le.1⟩);clear o5 b5 HSO O4 B4
 go_wp2_with (go_at_call 189;refine (HST.out _ B5.out).mono ?_)
 rintro _ w3 ⟨A6,c6,rfl,o6,b6⟩;have B6:=zz (B5.out.trans (b6.mono B5.out.size));have Q4:=zz (show ze w3 w3.heap.size 1 A4 sb.length (strL sb)∧sb.length≤c4 from ⟨(O4'.out.1.below b6).more b6.size,O4'.out.2⟩);have Q5:=zz (show ze w3 w3.heap.size 1 A5 so.length (strL so)∧so.length≤c5 from ⟨(O5.out.reads.below b6).more b6.size,O5.out.cap_le.1⟩);have Q6:=zz (show ze w3 w3.heap.size 1 A6 st.length (strL st)∧st.length≤c6 from ⟨o6.reads,o6.cap_le.1⟩);clear o6 b6 HST O4' O5 B5;by_cases hm:sb.length≤4000∧so.length≤4000∧st.length≤4000
 · have HM2:=zz (show M=(zai (zac sb so st),(zac sb so st).all (fun c=>c.kind !=4),0) from by have:=HM.out;rw [if_pos hm] at this;exact this);obtain ⟨m1,m2,m3⟩:=hm;obtain ⟨r1,r2,r3,r4⟩:=zji m1 m2 m3;have HCH:=zz (zub sb so st A4 A5 A6 c4 c5 c6 w3.heap.size w3 (Nat.le_refl _) Q4.out.1 Q5.out.1 Q6.out.1 Q4.out.2 Q5.out.2 Q6.out.2 m1 m2 m3 (fun s hs=>by have:=HEB.out s hs;unfold maxLen;omega) (fun s hs=>by have:=HEO.out s hs;unfold maxLen;omega) (fun s hs=>by have:=HET.out s hs;unfold maxLen;omega));have HRB:=zz (zgE (zac sb so st));have HRM:=zz (fun c (hc:c∈zac sb so st)=>zkL hc);have HKO:=zz (zpS sb so st);unfold zfI at HCH;rw [r1,r2,r3] at HRB HRM;clear r1 r2 r3 HM;generalize zac sb so st=L at *
   go_wp2_with (go_at_call 194;refine HCH.out.mono ?_)
   rintro _ w4 ⟨A7,c7,rfl,o7,b7⟩;have B7:=zz (B6.out.trans (b7.mono B6.out.size));have HCR:=zz o7.reads;have HRN:=zz (zoj L A7 c7 w4.heap.size w4 (Nat.le_refl _) HCR.out HKO.out (by omega) (by have:=HRB.out;omega) (fun c hc=>by have:=HRM.out c hc;omega));unfold zgf at HRN;have HAN:=zz (fun W (kW:Below w4.heap.size w4 W)=>znR L A7 c7 w4.heap.size W kW.size (HCR.out.below kW) (by omega));have HM3:=zz (show M.1=zai L∧(!(!L.all (fun c=>c.kind !=4)))=M.2.1∧M.2.2=0 from by rw [HM2.out];exact ⟨rfl,Bool.not_not _,rfl⟩);clear o7 b7 HCH HRB HRM HKO HM2 HEB HEO HET;generalize (!L.all (fun c=>c.kind !=4))=cl at *;generalize zai L=R at *
   go_wp2_with (go_at_call 195;refine HRN.out.mono ?_)
   rintro _ w5 ⟨A8,c8,rfl,o8,b8⟩;have O8:=zz o8;have B8:=zz b8;clear o8 b8 HRN
   go_wp2_with (go_at_call 196;refine (HAN.out _ B8.out).mono ?_)
   rintro _ w6 ⟨rfl,b9⟩;have hz7:=B7.out.size;have B9:=zz (show Below w.heap.size w w6 from (B7.out.trans (B8.out.mono hz7)).trans (b9.mono (Nat.le_trans hz7 B8.out.size)));have O9:=zz (show OwnB w6 w.heap.size A8 c8 R from Own.mono (Own.kept (b':=0) (E:=[]) (G:=[]) O8.out (Kept.ofBelow b9) (by simp) (by simp)) hz7);clear b9 O8 B8 HAN
   go_wp2_with fail
   go_ret3
   obtain ⟨e1,e2,e3⟩:=HM3.out;rw [e1,e3,←e2];exact ⟨A8,c8,rfl,O9.out,B9.out⟩
 · have HM2:=zz (show M=([],false,4) from by have:=HM.out;rw [if_neg hm] at this;exact this);have HCM:=zz (zrC sb.length so.length st.length A4 A5 A6 c4 c5 c6 w3 (by omega));clear HM hm
   go_wp2_with (go_at_call 194;refine HCM.out.mono ?_)
   rintro _ _ ⟨rfl,rfl⟩
   go_wp2_with fail
   go_ret3
   rw [HM2.out];exact ⟨none,0,rfl,Own.nil _ _ _ _,B6.out⟩
end Go.Proofs.YtmkmbbjgepcioaaGreatDoor
