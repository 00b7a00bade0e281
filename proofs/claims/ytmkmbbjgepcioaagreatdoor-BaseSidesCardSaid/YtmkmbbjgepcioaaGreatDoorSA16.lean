/- Plain: how long three small texts are when merged. No statement of the seat is proved here. -/
import Derived.Test.YtmkmbbjgepcioaaGreatDoorSAHq
import Derived.Test.YtmkmbbjgepcioaaGreatDoorSA11
import Derived.Test.YtmkmbbjgepcioaaGreatDoorSA05
namespace Go.Proofs.YtmkmbbjgepcioaaGreatDoor
set_option maxHeartbeats 4000000
set_option maxRecDepth 100000
section
open Go.RowKit
def StrR (w:World) (B:Nat) (v:Value) (l:List (List UInt8)):Prop:=∃A c,v = .slice A l.length c∧ze w B 1 A l.length (strL l)
def CkR (w:World) (B:Nat) (A:Option Addr) (l:List ChunkD):Prop:=∃tv:List Val3,tv.length=l.length∧ze w B 4 A l.length (ckLs l tv)∧∀(k:Nat) y u,l[k]? = some y→tv[k]? = some u→StrR w B u.1 y.b∧StrR w B u.2.1 y.o∧StrR w B u.2.2 y.t
theorem StrR.below {w w':World} {B:Nat} {v:Value} {l:List (List UInt8)} (h:StrR w B v l) (hb:Below B w w'):StrR w' B v l:=by
 obtain ⟨A,c,h1,h2⟩:=h;exact ⟨A,c,h1,h2.below hb⟩
theorem CkR.below {w w':World} {B:Nat} {A:Option Addr} {l:List ChunkD} (h:CkR w B A l) (hb:Below B w w'):CkR w' B A l:=by
 obtain ⟨tv,h1,h2,h3⟩:=h;exact ⟨tv,h1,h2.below hb,fun k y u e1 e2=>⟨(h3 k y u e1 e2).1.below hb,(h3 k y u e1 e2).2.1.below hb,(h3 k y u e1 e2).2.2.below hb⟩⟩
theorem CkL.reads {w:World} {z:Nat} {A:Option Addr} {cp:Nat} {l:List ChunkD} (h:CkL w z A cp l):CkR w w.heap.size A l:=by
 obtain ⟨tv,h1,h2,h3⟩:=h.own;have hS:∀{v:Value} {m:List (List UInt8)},SRow w z w.heap.size v m→StrR w w.heap.size v m:=fun q=>by
  obtain ⟨A,c,e,h,_⟩:=q.reads;exact ⟨A,c,e,h⟩
 exact ⟨tv,h1,h2.reads,fun k y u e1 e2=>⟨hS (h3 k y u e1 e2).1,hS (h3 k y u e1 e2).2.1,hS (h3 k y u e1 e2).2.2⟩⟩
theorem ztG {l:List ChunkD} {tv:List Val3} {k:Nat} {x:ChunkD} {v:Val3} (h1:l[k]? = some x) (h2:tv[k]? = some v) (j:Nat) (u:Value) (hj:(ckV x v)[j]? = some u):(ckLs l tv)[k*4+j]? = some u :=
 zaV (f:=fun y:ChunkD×Val3=>ckV y.1 y.2) (C:=4) (fun _=>rfl) (l.zip tv) k j (x,v) (by rw [List.getElem?_zip_eq_some];exact ⟨h1,h2⟩) u hj
theorem CkR.at_ {w:World} {B:Nat} {A:Option Addr} {l:List ChunkD} (h:CkR w B A l) {k:Nat} {x:ChunkD} (hk:l[k]? = some x):∃g off B1 B2 B3 d1 d2 d3,A=some ⟨g,off,none⟩∧g<B ∧(Instr.loadAt 255 (.pointer (some ⟨g,off+k*4,none⟩))).run Tryz.prog w = .ok (.agg (ckC x.kind B1 B2 B3 x.b.length x.o.length x.t.length d1 d2 d3)) w ∧ze w B 1 B1 x.b.length (strL x.b)∧ze w B 1 B2 x.o.length (strL x.o)∧ze w B 1 B3 x.t.length (strL x.t):=by
 obtain ⟨tv,h1,h2,h3⟩:=h;have hlt:k<l.length:=(List.getElem?_eq_some_iff.1 hk).1;obtain ⟨y,hy⟩:∃y,tv[k]? = some y:=⟨_,List.getElem?_eq_getElem (by omega)⟩;obtain ⟨⟨B1,d1,e1,r1⟩,⟨B2,d2,e2,r2⟩,⟨B3,d3,e3,r3⟩⟩:=h3 k x y hk hy;obtain ⟨g,off,rfl,hg,hc⟩:=h2.at0 (by omega) (by omega);refine ⟨g,off,B1,B2,B3,d1,d2,d3,rfl,hg,zaE w _ (ckC x.kind B1 B2 B3 x.b.length x.o.length x.t.length d1 d2 d3) Tryz.underlying255 rfl zbQ (fun j v hj=>?_),r1,r2,r3⟩;rw [zJ,Nat.add_assoc];refine hc _ _ (ztG hk hy j v ?_);rw [←hj];simp [ckV,ckC,e1,e2,e3]
theorem zn4 (b o t:List (List UInt8)):zV b o t≤4:=by
 unfold zV
 split
 · omega
 · split
   · omega
   · split
     · omega
     · split <;> omega
def zdI (l:List ChunkD):Prop:=∀c∈l,c.kind≤4
theorem zga {l:List ChunkD} (h:zdI l) (b o t:List (List UInt8)):zdI (addC l b o t):=by
 by_cases h0:b.length+o.length+t.length=0
 · have:addC l b o t=l:=by unfold addC;rw [if_pos h0]
   rw [this];exact h
 · have hk:=zn4 b o t
   rcases List.eq_nil_or_concat l with rfl|⟨ini,q,rfl⟩
   · rw [zd1 h0];intro c hc;simp at hc;subst hc;exact hk
   · rw [List.concat_eq_append] at *;by_cases hq:zV b o t=0∧q.kind=0
     · rw [zec h0 hq.1 hq.2];intro c hc
       rcases List.mem_append.1 hc with hc|hc
       · exact h c (List.mem_append_left _ hc)
       · rw [List.mem_singleton.1 hc];exact Nat.zero_le _
     · rw [zeo h0 (by omega)];intro c hc
       rcases List.mem_append.1 hc with hc|hc
       · exact h c hc
       · rw [List.mem_singleton.1 hc];exact hk
theorem zic (b o t:List (List UInt8)):∀(l:List (Int×Int)) (k:Nat) (s:CurC),zdI s.out→zdI (zaB b o t l k s).out
 | [],_,s,h=>h
 | (x,y)::l,k,s,h=>by
  refine zic b o t l (k+1) _ ?_;unfold zam
  split
  · exact h
  · exact zga (zga h _ _ _) _ _ _
theorem zpS (b o t:List (List UInt8)):zdI (zac b o t):=zga (zic b o t _ _ _ fun c hc=>by cases hc) _ _ _
theorem zqx {l:List ChunkD} {k:Nat} {x:ChunkD} (h:l[k]? = some x):zai (l.take (k+1))=zai (l.take k)++zbB x:=by
 unfold zai;rw [List.take_add_one,h];simp
theorem ztV (l:List ChunkD) (k:Nat):(zai (l.take k)).length≤(zai l).length:=by
 unfold zai
 conv=>rhs;rw [←List.take_append_drop k l]
 rw [List.flatMap_append,List.length_append];omega
def zgf (l:List ChunkD) (w:World) (e:Ending) (w':World):Prop:=∃A' c',e = .returned (.slice A' (zai l).length c')∧OwnB w' w.heap.size A' c' (zai l)∧Below w.heap.size w w'
theorem zoj (l:List ChunkD) (A:Option Addr) (c B:Nat) (w:World) (hB:B≤w.heap.size) (hr:CkR w B A l) (hk:zdI l) (hll:l.length≤100000) (ht:(zai l).length≤90000000) (hj:∀c∈l,c.b.length≤100000∧c.o.length≤100000∧c.t.length≤100000∧(zi c.b).length≤10000000∧(zi c.o).length≤10000000∧(zi c.t).length≤10000000) :Calls Tryz.prog 195 #[.slice A l.length c] w (zgf l w):=by
 have HP:=zz (show zgf l w=fun e w'=>∃A' c',e = .returned (.slice A' (zai l).length c')∧OwnB w' w.heap.size A' c' (zai l)∧Below w.heap.size w w' from rfl);rw [HP.out];clear HP;have HR:=zz (show ∀W,Below w.heap.size w W→CkR W B A l from fun W k=>hr.below (k.mono hB));have HK:=zz hk;have HJ:=zz hj;clear hr hk hj;go_enter Tryz.func195,Tryz.ntmps195
 go_wp2_with fail
 go_loopw [3,8] (fun s3 s8 wr=>∃(k:Nat) (A3:Option Addr) (c3:Nat),k≤l.length∧s3 = .slice A3 (zai (l.take k)).length c3∧s8 = .int .i64 (k:Nat)∧Hid (OwnB wr w.heap.size A3 c3 (zai (l.take k)))∧Hid (Below w.heap.size w wr)) (fun _ s8 _=>l.length-(intOf s8).toNat)
 case atStart=>exact ⟨0,none,0,Nat.zero_le _,rfl,rfl,zz (Own.nil _ _ _ _),zz (Below.refl _ _)⟩
 case round =>
  obtain ⟨k,A3,c3,hk,rfl,rfl,HO,HB⟩:=hrel;by_cases hlt:k<l.length
  · obtain ⟨x,hx⟩:∃x,l[k]? = some x:=⟨_,List.getElem?_eq_getElem hlt⟩;obtain ⟨g,off,B1,B2,B3,d1,d2,d3,rfl,hg,hload,r1,r2,r3⟩:=(HR.out _ HB.out).at_ hx;have HLD:=zz hload;have hxm:=List.mem_of_getElem? hx;have hxk:=HK.out x hxm;obtain ⟨j1,j2,j3,j4,j5,j6⟩:=HJ.out x hxm;have hz:=HB.out.size;have HT:=zz (zqx hx);have hTl:(zai (l.take k)).length+(zbB x).length≤90000000:=by
     rw [←List.length_append,←HT.out];exact Nat.le_trans (ztV l (k+1)) ht
    have HXT:=zz (show zbB x=match x.kind with
     | 0=>zi x.b
     | 1=>zi x.o
     | 3=>zi x.o
     | 2=>zi x.t
     | _=>zaW++[10]++zD x.o++(zbf++[10]++zD x.b)++(zbn++[10]++zD x.t)++(zch++[10]) from rfl)
    have i0:(0:Int)≤(k:Int):=by omega
    have i1:(k:Int)<(l.length:Int):=by omega
    have H1:=zz r1;have H2:=zz r2;have H3:=zz r3;clear hload r1 r2 r3 hx hxm;generalize zai (l.take k)=T at *;obtain ⟨xk,xb,xo,xt⟩:=x;simp only at hxk HXT HLD H1 H2 H3 j1 j2 j3 j4 j5 j6;generalize zbB ⟨xk,xb,xo,xt⟩=CT at *
    rcases (by omega:xk=0∨xk=1∨xk=3∨xk=2∨xk=4) with rfl|rfl|rfl|rfl|rfl
    · have HC:=zz (show CT=zi xb from HXT.out);clear HXT;have HJN:=zz (fun W (kW:Below wr.heap.size wr W)=>zd9 xb B1 d1 B W (by have:=kW.size;omega) (H1.out.below (kW.mono (by omega))) (by omega) (show xb.flatten.length≤100000000 by have:xb.flatten.length=(zi xb).length:=rfl;omega));rw [show xb.flatten=CT from HC.out.symm] at HJN
      go_wp2_with (first|(with_reducible refine zad rfl rfl rfl HLD.out ?_)|(refine zO rfl rfl (vs:=ckC 0 B1 B2 B3 xb.length xo.length xt.length d1 d2 d3) rfl rfl (Blk.new _ _ _) rfl zbQ (zbP _ _ _ _ _ _ _ _ _ _) ?_;intro w4 hx4 hk4 hz4;have HK4:=zz (Keep.ofNew (S:=zl) hk4).all;have f0:=hx4.cell 0;have f1:=hx4.cell 1;have f2:=hx4.cell 2;have f3:=hx4.cell 3;simp [ckC] at f0 f1 f2 f3;clear hx4 hk4 hz4)|(go_at_call 241;refine (HJN.out _ HK4.out).mono ?_;rintro _ w5 ⟨A5,c5,rfl,o5,b5⟩;have HJ5:=zz o5.reads;have HB5:=zz (HK4.out.trans (b5.mono HK4.out.size));have HO5:=zz (show OwnB w5 w.heap.size A3 c3 T from Own.kept (b':=0) (E:=[]) (G:=[]) HO.out (Kept.ofBelow HB5.out) (by simp) (by simp));clear o5 b5)|(at_builtin;refine zH rfl zbA rfl rfl (n:=T.length) (xs:=T.map zh) HO5.out rfl HJ5.out (zb3 CT) (by unfold maxLen;omega) (by omega) (Nat.le_trans hz HB5.out.size) ?_;intro A6 c6 w6 o6 k6;have HO6:=zz (show OwnB w6 w.heap.size A6 c6 (T++CT) from by unfold OwnB;rw [List.length_append,List.map_append];exact o6);have HB6:=zz ((HB.out.trans (HB5.out.mono hz)).trans (k6.below (Nat.le_refl _) (Nat.le_trans hz HB5.out.size) (by simp)));clear o6 k6))
      go_roundw
      case rel=>exact ⟨k+1,A6,c6,hlt,by rw [HT.out,List.length_append],by go_num,by rw [HT.out];exact HO6,HB6⟩
      case measure=>simp [intOf];omega
    · have HC:=zz (show CT=zi xo from HXT.out);clear HXT;have HJN:=zz (fun W (kW:Below wr.heap.size wr W)=>zd9 xo B2 d2 B W (by have:=kW.size;omega) (H2.out.below (kW.mono (by omega))) (by omega) (show xo.flatten.length≤100000000 by have:xo.flatten.length=(zi xo).length:=rfl;omega));rw [show xo.flatten=CT from HC.out.symm] at HJN
      go_wp2_with (first|(with_reducible refine zad rfl rfl rfl HLD.out ?_)|(refine zO rfl rfl (vs:=ckC 1 B1 B2 B3 xb.length xo.length xt.length d1 d2 d3) rfl rfl (Blk.new _ _ _) rfl zbQ (zbP _ _ _ _ _ _ _ _ _ _) ?_;intro w4 hx4 hk4 hz4;have HK4:=zz (Keep.ofNew (S:=zl) hk4).all;have f0:=hx4.cell 0;have f1:=hx4.cell 1;have f2:=hx4.cell 2;have f3:=hx4.cell 3;simp [ckC] at f0 f1 f2 f3;clear hx4 hk4 hz4)|(go_at_call 241;refine (HJN.out _ HK4.out).mono ?_;rintro _ w5 ⟨A5,c5,rfl,o5,b5⟩;have HJ5:=zz o5.reads;have HB5:=zz (HK4.out.trans (b5.mono HK4.out.size));have HO5:=zz (show OwnB w5 w.heap.size A3 c3 T from Own.kept (b':=0) (E:=[]) (G:=[]) HO.out (Kept.ofBelow HB5.out) (by simp) (by simp));clear o5 b5)|(at_builtin;refine zH rfl zbA rfl rfl (n:=T.length) (xs:=T.map zh) HO5.out rfl HJ5.out (zb3 CT) (by unfold maxLen;omega) (by omega) (Nat.le_trans hz HB5.out.size) ?_;intro A6 c6 w6 o6 k6;have HO6:=zz (show OwnB w6 w.heap.size A6 c6 (T++CT) from by unfold OwnB;rw [List.length_append,List.map_append];exact o6);have HB6:=zz ((HB.out.trans (HB5.out.mono hz)).trans (k6.below (Nat.le_refl _) (Nat.le_trans hz HB5.out.size) (by simp)));clear o6 k6))
      go_roundw
      case rel=>exact ⟨k+1,A6,c6,hlt,by rw [HT.out,List.length_append],by go_num,by rw [HT.out];exact HO6,HB6⟩
      case measure=>simp [intOf];omega
    · have HC:=zz (show CT=zi xo from HXT.out);clear HXT;have HJN:=zz (fun W (kW:Below wr.heap.size wr W)=>zd9 xo B2 d2 B W (by have:=kW.size;omega) (H2.out.below (kW.mono (by omega))) (by omega) (show xo.flatten.length≤100000000 by have:xo.flatten.length=(zi xo).length:=rfl;omega));rw [show xo.flatten=CT from HC.out.symm] at HJN
      go_wp2_with (first|(with_reducible refine zad rfl rfl rfl HLD.out ?_)|(refine zO rfl rfl (vs:=ckC 3 B1 B2 B3 xb.length xo.length xt.length d1 d2 d3) rfl rfl (Blk.new _ _ _) rfl zbQ (zbP _ _ _ _ _ _ _ _ _ _) ?_;intro w4 hx4 hk4 hz4;have HK4:=zz (Keep.ofNew (S:=zl) hk4).all;have f0:=hx4.cell 0;have f1:=hx4.cell 1;have f2:=hx4.cell 2;have f3:=hx4.cell 3;simp [ckC] at f0 f1 f2 f3;clear hx4 hk4 hz4)|(go_at_call 241;refine (HJN.out _ HK4.out).mono ?_;rintro _ w5 ⟨A5,c5,rfl,o5,b5⟩;have HJ5:=zz o5.reads;have HB5:=zz (HK4.out.trans (b5.mono HK4.out.size));have HO5:=zz (show OwnB w5 w.heap.size A3 c3 T from Own.kept (b':=0) (E:=[]) (G:=[]) HO.out (Kept.ofBelow HB5.out) (by simp) (by simp));clear o5 b5)|(at_builtin;refine zH rfl zbA rfl rfl (n:=T.length) (xs:=T.map zh) HO5.out rfl HJ5.out (zb3 CT) (by unfold maxLen;omega) (by omega) (Nat.le_trans hz HB5.out.size) ?_;intro A6 c6 w6 o6 k6;have HO6:=zz (show OwnB w6 w.heap.size A6 c6 (T++CT) from by unfold OwnB;rw [List.length_append,List.map_append];exact o6);have HB6:=zz ((HB.out.trans (HB5.out.mono hz)).trans (k6.below (Nat.le_refl _) (Nat.le_trans hz HB5.out.size) (by simp)));clear o6 k6))
      go_roundw
      case rel=>exact ⟨k+1,A6,c6,hlt,by rw [HT.out,List.length_append],by go_num,by rw [HT.out];exact HO6,HB6⟩
      case measure=>simp [intOf];omega
    · have HC:=zz (show CT=zi xt from HXT.out);clear HXT;have HJN:=zz (fun W (kW:Below wr.heap.size wr W)=>zd9 xt B3 d3 B W (by have:=kW.size;omega) (H3.out.below (kW.mono (by omega))) (by omega) (show xt.flatten.length≤100000000 by have:xt.flatten.length=(zi xt).length:=rfl;omega));rw [show xt.flatten=CT from HC.out.symm] at HJN
      go_wp2_with (first|(with_reducible refine zad rfl rfl rfl HLD.out ?_)|(refine zO rfl rfl (vs:=ckC 2 B1 B2 B3 xb.length xo.length xt.length d1 d2 d3) rfl rfl (Blk.new _ _ _) rfl zbQ (zbP _ _ _ _ _ _ _ _ _ _) ?_;intro w4 hx4 hk4 hz4;have HK4:=zz (Keep.ofNew (S:=zl) hk4).all;have f0:=hx4.cell 0;have f1:=hx4.cell 1;have f2:=hx4.cell 2;have f3:=hx4.cell 3;simp [ckC] at f0 f1 f2 f3;clear hx4 hk4 hz4)|(go_at_call 241;refine (HJN.out _ HK4.out).mono ?_;rintro _ w5 ⟨A5,c5,rfl,o5,b5⟩;have HJ5:=zz o5.reads;have HB5:=zz (HK4.out.trans (b5.mono HK4.out.size));have HO5:=zz (show OwnB w5 w.heap.size A3 c3 T from Own.kept (b':=0) (E:=[]) (G:=[]) HO.out (Kept.ofBelow HB5.out) (by simp) (by simp));clear o5 b5)|(at_builtin;refine zH rfl zbA rfl rfl (n:=T.length) (xs:=T.map zh) HO5.out rfl HJ5.out (zb3 CT) (by unfold maxLen;omega) (by omega) (Nat.le_trans hz HB5.out.size) ?_;intro A6 c6 w6 o6 k6;have HO6:=zz (show OwnB w6 w.heap.size A6 c6 (T++CT) from by unfold OwnB;rw [List.length_append,List.map_append];exact o6);have HB6:=zz ((HB.out.trans (HB5.out.mono hz)).trans (k6.below (Nat.le_refl _) (Nat.le_trans hz HB5.out.size) (by simp)));clear o6 k6))
      go_roundw
      case rel=>exact ⟨k+1,A6,c6,hlt,by rw [HT.out,List.length_append],by go_num,by rw [HT.out];exact HO6,HB6⟩
      case measure=>simp [intOf];omega
    · have HC:=zz (show CT=zaW++[10]++zD xo++(zbf++[10]++zD xb)++(zbn++[10]++zD xt)++(zch++[10]) from HXT.out);clear HXT
      go_wp2_with (first|(with_reducible refine zad rfl rfl rfl HLD.out ?_)|(refine zO rfl rfl (vs:=ckC 4 B1 B2 B3 xb.length xo.length xt.length d1 d2 d3) rfl rfl (Blk.new _ _ _) rfl zbQ (zbP _ _ _ _ _ _ _ _ _ _) ?_;intro w4 hx4 hk4 hz4;have HX4:=zz hx4;have HK4:=zz (Keep.ofNew (S:=zl) hk4).all;have f0:=hx4.cell 0;have f1:=hx4.cell 1;have f2:=hx4.cell 2;have f3:=hx4.cell 3;simp [ckC] at f0 f1 f2 f3;clear hx4 hk4 hz4))
      have HSIDE:=zz (fun (acc word:List UInt8) (l:List (List UInt8)) (A A2:Option Addr) (c c2:Nat) (W:World) (h1:Below w.heap.size w W) (h2:OwnB W w.heap.size A c acc) (h3:ze W B 1 A2 l.length (strL l)) (h4:acc.length≤100000000) (h5:word.length≤1000) (h6:l.length≤100000000) (h7:(zi l).length≤100000000)=>znv acc word l A A2 c c2 B w.heap.size W h1.size hB h2 h3 h4 h5 h6 h7);unfold zhw at HSIDE;have HW4:=zz (show Below w.heap.size w w4 from HB.out.trans (HK4.out.mono hz));have HO4:=zz (show OwnB w4 w.heap.size A3 c3 T from Own.kept (b':=0) (E:=[]) (G:=[]) HO.out (Kept.ofBelow HK4.out) (by simp) (by simp));have HRD:=zz (show ∀W,Below w.heap.size w4 W→ze W B 1 B1 xb.length (strL xb)∧ze W B 1 B2 xo.length (strL xo)∧ze W B 1 B3 xt.length (strL xt) from fun W k=>by
       have k2:=(HK4.out.mono hz).trans k;exact ⟨H1.out.below (k2.mono hB),H2.out.below (k2.mono hB),H3.out.below (k2.mono hB)⟩)
      have hC1:T.length+(7+1+(zD xo).length)+(7+1+(zD xb).length)+(7+1+(zD xt).length)+8≤90000000:=by
       have:=congrArg List.length HC.out;simp only [List.length_append,zaW,zbf,zbn,zch,List.length_cons,List.length_nil] at this;omega
      have HE1:=zz (show (zD xo).length≤90000000∧(zD xb).length≤90000000∧(zD xt).length≤90000000 from ⟨by omega,by omega,by omega⟩);have l1:(T++zaW++[10]++zD xo).length≤100000000:=by simp only [List.length_append,zaW,List.length_cons,List.length_nil];omega
      have l2:(T++zaW++[10]++zD xo++zbf++[10]++zD xb).length≤100000000:=by simp only [List.length_append,zaW,zbf,List.length_cons,List.length_nil];omega
      have l3:(T++zaW++[10]++zD xo++zbf++[10]++zD xb++zbn++[10]++zD xt).length≤100000000:=by simp only [List.length_append,zaW,zbf,zbn,List.length_cons,List.length_nil];omega
      have HFIN:=zz (show T++zaW++[10]++zD xo++zbf++[10]++zD xb++zbn++[10]++zD xt++zch++[10]++zD []=T++CT from by rw [HC.out];simp [zD,zi]);have HS1:=zz (show ∀W,Below w.heap.size w4 W→OwnB W w.heap.size A3 c3 T→Calls Tryz.prog 242 #[.slice A3 T.length c3,.string ⟨#[60,60,60,60,60,60,60]⟩,.slice B2 xo.length d2] W (fun e w'=>∃A' c',e = .returned (.slice A' (List.length (α:=UInt8) (T++zaW++[10]++zD xo)) c')∧OwnB w' w.heap.size A' c' (T++zaW++[10]++zD xo)∧Kept w.heap.size [5] [] W w') from fun W k o=>HSIDE.out T zaW xo A3 B2 c3 d2 W (HW4.out.trans k) o (HRD.out W k).2.1 (by omega) (by decide) (by omega) (by omega));generalize T++zaW++[10]++zD xo=T1 at *;have HS2:=zz (show ∀W A c,Below w.heap.size w4 W→OwnB W w.heap.size A c T1→Calls Tryz.prog 242 #[.slice A T1.length c,.string ⟨#[124,124,124,124,124,124,124]⟩,.slice B1 xb.length d1] W (fun e w'=>∃A' c',e = .returned (.slice A' (List.length (α:=UInt8) (T1++zbf++[10]++zD xb)) c')∧OwnB w' w.heap.size A' c' (T1++zbf++[10]++zD xb)∧Kept w.heap.size [5] [] W w') from fun W A c k o=>HSIDE.out T1 zbf xb A B1 c d1 W (HW4.out.trans k) o (HRD.out W k).1 l1 (by decide) (by omega) (by omega));generalize T1++zbf++[10]++zD xb=T2 at *;have HS3:=zz (show ∀W A c,Below w.heap.size w4 W→OwnB W w.heap.size A c T2→Calls Tryz.prog 242 #[.slice A T2.length c,.string ⟨#[61,61,61,61,61,61,61]⟩,.slice B3 xt.length d3] W (fun e w'=>∃A' c',e = .returned (.slice A' (List.length (α:=UInt8) (T2++zbn++[10]++zD xt)) c')∧OwnB w' w.heap.size A' c' (T2++zbn++[10]++zD xt)∧Kept w.heap.size [5] [] W w') from fun W A c k o=>HSIDE.out T2 zbn xt A B3 c d3 W (HW4.out.trans k) o (HRD.out W k).2.2 l2 (by decide) (by omega) (by omega));generalize T2++zbn++[10]++zD xt=T3 at *;have HS4:=zz (show ∀W A c,Below w.heap.size w4 W→OwnB W w.heap.size A c T3→Calls Tryz.prog 242 #[.slice A T3.length c,.string ⟨#[62,62,62,62,62,62,62]⟩,.slice none 0 0] W (fun e w'=>∃A' c',e = .returned (.slice A' (T++CT).length c')∧OwnB w' w.heap.size A' c' (T++CT)∧Kept w.heap.size [5] [] W w') from fun W A c k o=>by
       have:=HSIDE.out T3 zch [] A none c 0 W (HW4.out.trans k) o ze.none_ l3 (by decide) (by decide) (by decide);rw [HFIN.out] at this;exact this)
      clear HE1
      go_region_law (first
       | (go_simp;go_at_call 242;refine (HS3.out _ A6 c6 HB6.out HO6.out).mono ?_;rintro _ w7 ⟨A7,c7,rfl,o7,k7⟩;have HO7:=zz o7;have HB7:=zz (HB6.out.trans (k7.below (Nat.le_refl _) (Nat.le_trans HW4.out.size HB6.out.size) (by simp)));clear o7 k7)
       | (go_simp;go_at_call 242;refine (HS2.out _ A5 c5 HB5.out HO5.out).mono ?_;rintro _ w6 ⟨A6,c6,rfl,o6,k6⟩;have HO6:=zz o6;have HX6:=zz (Kept.blk k6 HX5.out (by simp) (by decide));have HB6:=zz (HB5.out.trans (k6.below (Nat.le_refl _) (Nat.le_trans HW4.out.size HB5.out.size) (by simp)));have f36:=HX6.out.cell 3;simp [ckC] at f36;clear o6 k6)
       | (go_simp;go_at_call 242;refine (HS1.out _ ((Below.refl _ w4).drew) HO4.out.drew).mono ?_;rintro _ w5 ⟨A5,c5,rfl,o5,k5⟩;have HO5:=zz o5;have HX5:=zz (Kept.blk k5 HX4.out.drew (by simp) (by decide));have HB5:=zz (((Below.refl w.heap.size w4).drew).trans (k5.below (Nat.le_refl _) HW4.out.size (by simp)));have f15:=HX5.out.cell 1;have f35:=HX5.out.cell 3;simp [ckC] at f15 f35;clear o5 k5))
      all_goals
       go_wp2_with (go_at_call 242;refine (HS4.out _ A7 c7 (by first|exact HB7.out|exact HB7.out.drew|exact HB7.out.drew.drew) (by first|exact HO7.out|exact HO7.out.drew|exact HO7.out.drew.drew)).mono ?_;rintro _ w8 ⟨A8,c8,rfl,o8,k8⟩;have HO8:=zz o8;have HB8:=zz ((HW4.out.trans (by first|exact HB7.out|exact HB7.out.drew|exact HB7.out.drew.drew)).trans (k8.below (Nat.le_refl _) (Nat.le_trans HW4.out.size HB7.out.size) (by simp)));clear o8 k8)
       go_roundw
       case rel=>exact ⟨k+1,A8,c8,hlt,by rw [HT.out,List.length_append],by go_num,by rw [HT.out];exact HO8,HB8⟩
       case measure=>simp [intOf];omega
  · obtain rfl:k=l.length:=by omega
    rw [List.take_length] at HO ⊢
    go_wp2_with fail
    go_ret
    exact ⟨_,_,rfl,HO.out,HB.out⟩
end
section
open Go.RowKit
theorem zo8 (k n1 n2 n3 d1 d2 d3:Nat) (B1 B2 B3:Option Addr) (w:World) :Calls Tryz.prog 197 #[.agg (ckC k B1 B2 B3 n1 n2 n3 d1 d2 d3)] w fun e w'=>e = .returned (.bool ((k:Int)==4))∧Below w.heap.size w w':=by
 unfold ckC;go_enter Tryz.func197,Tryz.ntmps197
 go_wp2_with fail
 go_ret
 exact ⟨rfl,(Below.refl _ _).alloc (Nat.le_refl _) _⟩
def zcl:List ChunkD→Option Nat
 | []=>none
 | c::l=>if c.kind=4 then some 0 else (zcl l).map (· + 1)
def zdN (l:List ChunkD):Int:=match zcl l with
 | some k=>k
 | none=>-1
theorem znJ {l:List ChunkD} (h:∀(k:Nat) (c:ChunkD),l[k]? = some c→c.kind≠4):zcl l=none:=by
 induction l with
 | nil=>rfl
 | cons x l ih =>
  unfold zcl;rw [if_neg (h 0 x rfl),ih (fun k s hs=>h (k+1) s hs)];rfl
theorem zrO {l:List ChunkD}:∀{k:Nat} {s:ChunkD},(∀(j:Nat) (t:ChunkD),j<k→l[j]? = some t→t.kind≠4)→l[k]? = some s→s.kind=4→zcl l=some k:=by
 induction l with
 | nil=>intro k s _ h;simp at h
 | cons x l ih =>
  intro k s h1 h2 h3;unfold zcl
  cases k with
  | zero =>
   simp at h2;subst h2
   rw [if_pos h3]
  | succ k =>
   rw [if_neg (h1 0 x (by omega) rfl),ih (k:=k) (s:=s) (fun j t hj ht=>h1 (j+1) t (by omega) ht) (by simpa using h2) h3];rfl
theorem zmJ (l:List ChunkD):decide (0≤zdN l)=!l.all (fun c=>c.kind !=4):=by
 have:(zcl l).isSome=!l.all (fun c=>c.kind !=4):=by
  induction l with
  | nil=>rfl
  | cons x l ih =>
   unfold zcl;by_cases hx:x.kind=4
   · rw [if_pos hx];simp [hx]
   · rw [if_neg hx];simp only [Option.isSome_map,ih,List.all_cons]
     have:(x.kind !=4)=true:=bne_iff_ne.2 hx;rw [this,Bool.true_and]
 rw [←this];unfold zdN
 cases zcl l with
 | none=>rfl
 | some k=>simp
theorem zmQ (l:List ChunkD) (A:Option Addr) (c B:Nat) (w:World) (hB:B≤w.heap.size) (hr:CkR w B A l) (hl:l.length≤100000) :Calls Tryz.prog 243 #[.slice A l.length c,.func (.func 197) #[] #[]] w fun r w'=>r = .returned (.int .i64 (zdN l))∧Below w.heap.size w w':=by
 have HR:=zz (show ∀W,Below w.heap.size w W→CkR W B A l from fun W k=>hr.below (k.mono hB));clear hr;go_enter Tryz.func243,Tryz.ntmps243
 go_wp2_with fail
 go_loopw [8] (fun i wr=>∃k:Nat,k≤l.length∧i = .int .i64 k∧Hid (Below w.heap.size w wr)∧Hid (∀(j:Nat) (t:ChunkD),j<k→l[j]? = some t→t.kind≠4)) (fun i _=>l.length-(intOf i).toNat)
 case atStart=>exact ⟨0,Nat.zero_le _,rfl,zz (Below.refl _ _),zz fun j t h=>absurd h (by omega)⟩
 case round =>
  obtain ⟨k,hk,rfl,HB,HALL⟩:=hrel;by_cases hlt:k<l.length
  · obtain ⟨x,hx⟩:∃x,l[k]? = some x:=⟨_,List.getElem?_eq_getElem hlt⟩;obtain ⟨g,off,B1,B2,B3,d1,d2,d3,rfl,_,hload,_,_,_⟩:=(HR.out _ HB.out).at_ hx;have HLD:=zz hload;have HX:=zz hx;have HQ:=zz (zo8 x.kind x.b.length x.o.length x.t.length d1 d2 d3 B1 B2 B3 wr);have hi0:(0:Int)≤(k:Int):=Int.natCast_nonneg _;have hi1:(k:Int)<(l.length:Int):=by omega
    have hz:=HB.out.size;clear hload hx;by_cases hp:x.kind=4
    · have hp2:((x.kind:Int)==4)=true:=beq_iff_eq.2 (by omega);rw [hp2] at HQ;have HP:=zz hp;clear hp hp2
      go_wp2_with (first|(with_reducible refine zad rfl rfl rfl HLD.out ?_)|(go_at_call 197;refine HQ.out.mono ?_;rintro _ w1 ⟨rfl,b1⟩;have HB1:=zz (HB.out.trans (b1.mono hz));clear b1))
      go_ret
      exact ⟨by unfold zdN;rw [zrO HALL.out HX.out HP.out];rfl,HB1.out⟩
    · have hp2:((x.kind:Int)==4)=false:=beq_eq_false_iff_ne.2 (by omega);rw [hp2] at HQ;have HP:=zz hp;clear hp hp2
      go_wp2_with (first|(with_reducible refine zad rfl rfl rfl HLD.out ?_)|(go_at_call 197;refine HQ.out.mono ?_;rintro _ w1 ⟨rfl,b1⟩;have HB1:=zz (HB.out.trans (b1.mono hz));clear b1))
      go_roundw
      case rel =>
       refine ⟨k+1,by omega,by go_num,HB1,zz fun j t hj ht=>?_⟩
       rcases Nat.lt_or_ge j k with q|q
       · exact HALL.out j t q ht
       · obtain rfl:j=k:=by omega
         rw [HX.out] at ht;injection ht with ht;subst ht;exact HP.out
      case measure=>simp [intOf];omega
  · obtain rfl:k=l.length:=by omega
    go_wp2_with fail
    go_ret
    refine ⟨?_,HB.out⟩;unfold zdN;rw [znJ (fun j t ht=>HALL.out j t (List.getElem?_eq_some_iff.1 ht).1 ht)];rfl
theorem znR (l:List ChunkD) (A:Option Addr) (c B:Nat) (w:World) (hB:B≤w.heap.size) (hr:CkR w B A l) (hl:l.length≤100000) :Calls Tryz.prog 196 #[.slice A l.length c,.func (.func 197) #[] #[]] w fun r w'=>r = .returned (.bool (!l.all (fun c=>c.kind !=4)))∧Below w.heap.size w w':=by
 have HQ:=zz (zmQ l A c B w hB hr hl);rw [←zmJ];generalize zdN l=n at *;clear hr;go_enter Tryz.func196,Tryz.ntmps196
 go_wp2_with (go_at_call 243;refine HQ.out.mono ?_)
 rintro _ w1 ⟨rfl,b1⟩
 go_wp2_with fail
 go_ret
 exact ⟨rfl,b1⟩
end
section
def zbb (l:List ChunkD):List (List UInt8):=(l.map (·.b)).flatten
def za7 (l:List ChunkD):List (List UInt8):=(l.map (·.o)).flatten
def zba (l:List ChunkD):List (List UInt8):=(l.map (·.t)).flatten
theorem zhR (l:List ChunkD) (b o t:List (List UInt8)):zbb (addC l b o t)=zbb l++b∧za7 (addC l b o t)=za7 l++o∧zba (addC l b o t)=zba l++t:=by
 by_cases h0:b.length+o.length+t.length=0
 · have:addC l b o t=l:=by unfold addC;rw [if_pos h0]
   rw [this,List.eq_nil_of_length_eq_zero (by omega:b.length=0),List.eq_nil_of_length_eq_zero (by omega:o.length=0),List.eq_nil_of_length_eq_zero (by omega:t.length=0)];simp
 · rcases List.eq_nil_or_concat l with rfl|⟨ini,q,rfl⟩
   · rw [zd1 h0];simp [zbb,za7,zba]
   · rw [List.concat_eq_append] at *;by_cases hk:zV b o t=0∧q.kind=0
     · rw [zec h0 hk.1 hk.2];simp [zbb,za7,zba]
     · rw [zeo h0 (by omega)];simp [zbb,za7,zba]
theorem zdk (l:List (List UInt8)) {i j:Nat} (h:i≤j):l.take i++seg l i j=l.take j:=by
 unfold seg
 conv=>rhs;rw [show j=i+(j-i) by omega]
 rw [List.take_add]
structure FlatInv (b o t:List (List UInt8)) (s:CurC):Prop where
 b:zbb s.out=b.take s.f
 o:za7 s.out=o.take s.i
 t:zba s.out=t.take s.j
theorem FlatInv.step {b o t:List (List UInt8)} {s:CurC} (h:FlatInv b o t s) {k x y:Nat} (h1:s.f≤k) (h2:s.i≤x) (h3:s.j≤y):FlatInv b o t (zam b o t s k (x:Int) (y:Int)):=by
 have e:zam b o t s k (x:Int) (y:Int)=⟨addC (addC s.out (seg b s.f k) (seg o s.i x) (seg t s.j y)) (seg b k (k+1)) (seg o x (x+1)) (seg t y (y+1)),k+1,x+1,y+1⟩:=by
  unfold zam;rw [if_neg (by omega)];simp
 rw [e];obtain ⟨a1,a2,a3⟩:=zhR s.out (seg b s.f k) (seg o s.i x) (seg t s.j y);obtain ⟨b1,b2,b3⟩:=zhR (addC s.out (seg b s.f k) (seg o s.i x) (seg t s.j y)) (seg b k (k+1)) (seg o x (x+1)) (seg t y (y+1));refine ⟨?_,?_,?_⟩
 · rw [b1,a1,h.b,zdk b h1,zdk b (Nat.le_succ k)]
 · rw [b2,a2,h.o,zdk o h2,zdk o (Nat.le_succ x)]
 · rw [b3,a3,h.t,zdk t h3,zdk t (Nat.le_succ y)]
theorem zfH {b o t:List (List UInt8)} {pa pb:List Int} (hb:b.length≤4000) (ho:o.length≤4000) (ht:t.length≤4000) (hla:pa.length=b.length) (hlb:pb.length=b.length) (ha:∀(k:Nat) (x:Int),pa[k]? = some x→x=-1∨(0≤x∧x<o.length)) (hb':∀(k:Nat) (x:Int),pb[k]? = some x→x=-1∨(0≤x∧x<t.length)) (hra:∀(m n:Nat) (u v:Int),pa[m]? = some u→pa[n]? = some v→m<n→0≤u→0≤v→u<v) (hrb:∀(m n:Nat) (u v:Int),pb[m]? = some u→pb[n]? = some v→m<n→0≤u→0≤v→u<v) :∀(n k:Nat) (s:CurC),k+n=b.length→ChInv b o t pa pb k s→FlatInv b o t s→ChInv b o t pa pb b.length (zaB b o t ((pa.zip pb).drop k) k s)∧FlatInv b o t (zaB b o t ((pa.zip pb).drop k) k s)
 | 0,k,s,hn,h1,h2=>by
  obtain rfl:k=b.length:=by omega
  rw [List.drop_eq_nil_of_le (by rw [List.length_zip];omega),zaB]
  exact ⟨h1,h2⟩
 | n+1,k,s,hn,h1,h2=>by
  obtain ⟨x,hx⟩:∃x,pa[k]? = some x:=⟨_,List.getElem?_eq_getElem (by omega)⟩;obtain ⟨y,hy⟩:∃y,pb[k]? = some y:=⟨_,List.getElem?_eq_getElem (by omega)⟩;have hdr:(pa.zip pb).drop k=(x,y)::(pa.zip pb).drop (k+1):=List.drop_eq_getElem?_toList_append.trans (by rw [List.getElem?_zip_eq_some (z:=(x,y)) |>.2 ⟨hx,hy⟩];rfl);rw [hdr,zaB];by_cases h0:x<0∨y<0
  · have e:zam b o t s k x y=s:=by unfold zam;rw [if_pos h0]
    rw [e];exact zfH hb ho ht hla hlb ha hb' hra hrb n (k+1) s (by omega) h1.skip h2
  · obtain ⟨xn,rfl⟩:∃xn:Nat,x=(xn:Int):=⟨x.toNat,by omega⟩
    obtain ⟨yn,rfl⟩:∃yn:Nat,y=(yn:Int):=⟨y.toNat,by omega⟩
    have hxo:xn<o.length:=by have:=ha k _ hx;omega
    have hyt:yn<t.length:=by have:=hb' k _ hy;omega
    obtain ⟨q1,q2,_,_,q5⟩:=h1.step hb ho ht (by omega) hxo hyt hx hy hra hrb;exact zfH hb ho ht hla hlb ha hb' hra hrb n (k+1) _ (by omega) q5 (h2.step h1.f q1 q2)
theorem zji {b o t:List (List UInt8)} (hb:b.length≤4000) (ho:o.length≤4000) (ht:t.length≤4000):zbb (zac b o t)=b∧za7 (zac b o t)=o∧zba (zac b o t)=t∧(zac b o t).length≤8001:=by
 have hla:=zcf (zx b o) 0;have hlb:=zcf (zx b t) 0;obtain ⟨_,hfa,hfo,_⟩:=zd7 b o;obtain ⟨_,hfb,hft,_⟩:=zd7 b t;rw [hfa] at hla;rw [hfb] at hlb;have h:=zfH hb ho ht hla hlb (fun k x hx=>by have:=zcx _ _ _ _ hx;rw [hfo] at this;omega) (fun k x hx=>by have:=zcx _ _ _ _ hx;rw [hft] at this;omega) (fun m n u v=>zdf (zx b o) 0 m n u v) (fun m n u v=>zdf (zx b t) 0 m n u v) b.length 0 ⟨[],0,0,0⟩ (by omega) (ChInv.start _ _ _ _ _) ⟨rfl,rfl,rfl⟩;rw [List.drop_zero] at h;unfold zac;simp only
 generalize zaB b o t ((zu (zx b o) 0).zip (zu (zx b t) 0)) 0 ⟨[],0,0,0⟩=s at *;obtain ⟨a1,a2,a3⟩:=zhR s.out (b.drop s.f) (o.drop s.i) (t.drop s.j);refine ⟨by rw [a1,h.2.b,List.take_append_drop],by rw [a2,h.2.o,List.take_append_drop],by rw [a3,h.2.t,List.take_append_drop],?_⟩;have l1:=zhB s.out (b.drop s.f) (o.drop s.i) (t.drop s.j);have:=h.1.len;omega
theorem zdE (x:List (List UInt8)) (l:List (List (List UInt8))):(zi (x::l).flatten).length=(zi x).length+(zi l.flatten).length:=by
 simp [zi]
theorem zhl (l:List (List UInt8)):(zD l).length≤(zi l).length+1:=by
 rcases zkm l with ⟨_,h⟩|⟨p,x,_,h⟩
 · rw [h];simp
 · rw [h]
   split
   · omega
   · rw [List.length_append];simp
theorem ztB (c:ChunkD):(zbB c).length≤(zi c.b).length+(zi c.o).length+(zi c.t).length+40:=by
 unfold zbB;have h1:=zhl c.b;have h2:=zhl c.o;have h3:=zhl c.t
 split
 · omega
 · omega
 · omega
 · omega
 · simp only [List.length_append,zaW,zbf,zbn,zch,List.length_cons,List.length_nil]
   omega
theorem zgE:∀l:List ChunkD,(zai l).length≤(zi (zbb l)).length+(zi (za7 l)).length+(zi (zba l)).length+40*l.length
 | []=>by simp [zai]
 | c::l=>by
  have ih:=zgE l;have hc:=ztB c;have e1:(zi (zbb (c::l))).length=(zi c.b).length+(zi (zbb l)).length:=zdE _ _;have e2:(zi (za7 (c::l))).length=(zi c.o).length+(zi (za7 l)).length:=zdE _ _;have e3:(zi (zba (c::l))).length=(zi c.t).length+(zi (zba l)).length:=zdE _ _;have e4:(zai (c::l)).length=(zbB c).length+(zai l).length:=by
   unfold zai;rw [List.flatMap_cons,List.length_append]
  simp only [List.length_cons]
  omega
theorem zkL:∀{l:List ChunkD} {c:ChunkD},c∈l→c.b.length≤(zbb l).length∧c.o.length≤(za7 l).length∧c.t.length≤(zba l).length∧(zi c.b).length≤(zi (zbb l)).length∧(zi c.o).length≤(zi (za7 l)).length∧(zi c.t).length≤(zi (zba l)).length
 | x::l,c,h=>by
  have e1:(zi (zbb (x::l))).length=(zi x.b).length+(zi (zbb l)).length:=zdE _ _;have e2:(zi (za7 (x::l))).length=(zi x.o).length+(zi (za7 l)).length:=zdE _ _;have e3:(zi (zba (x::l))).length=(zi x.t).length+(zi (zba l)).length:=zdE _ _;have l1:(zbb (x::l)).length=x.b.length+(zbb l).length:=by simp [zbb]
  have l2:(za7 (x::l)).length=x.o.length+(za7 l).length:=by simp [za7]
  have l3:(zba (x::l)).length=x.t.length+(zba l).length:=by simp [zba]
  rcases List.mem_cons.1 h with rfl|h
  · omega
  · have:=zkL h;omega
end
section
def n4 (l:List ChunkD):Nat:=l.countP fun c=>c.kind==4
end
end Go.Proofs.YtmkmbbjgepcioaaGreatDoor
