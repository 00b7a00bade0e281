/- Contract of treemerge.Merge. No statement of the seat is proved here. -/
import Derived.Test.YtmkmbbjgepcioaaGreatDoorSAHq
import Derived.Test.YtmkmbbjgepcioaaGreatDoorSA31
import Derived.Test.YtmkmbbjgepcioaaGreatDoorSAZw
import Derived.Deep.RegionHeld3
import Derived.BigRegion
namespace Go.Proofs.YtmkmbbjgepcioaaGreatDoor
set_option maxHeartbeats 32000000
set_option maxRecDepth 100000
open Go.RowKit Go.Maps
def zgS (b o t:List FileD) (w:World) (e:Ending) (w':World):Prop:=Below w.heap.size w w'∧((∃n,zG b o t = .error n∧e = .returned (.tuple #[.slice none 0 0,.slice none 0 0,.int .i64 (n:Nat)])) ∨
 ∃x v A c A' c',zG b o t = .ok (x,v)∧e = .returned (.tuple #[.slice A x.length c,.slice A' v.length c',.int .i64 0])∧FI w' w'.heap.size A x∧Own w' w.heap.size 86 2 A' v.length c' (v.flatMap zN))
theorem zsu {b o t:List FileD} (h:zg b≠0):zG b o t = .error (zg b):=by unfold zG;rw [if_pos h]
theorem zo3 {b o t:List FileD} (hb:zg b=0) (h:zg o≠0):zG b o t = .error (zg o):=by unfold zG;rw [if_neg (by omega),if_pos h]
theorem zp6 {b o t:List FileD} (hb:zg b=0) (ho:zg o=0) (h:zg t≠0):zG b o t = .error (zg t):=by unfold zG;rw [if_neg (by omega),if_neg (by omega),if_pos h]
theorem zpQ {l:List FileD} (ha:Apt l) {k:Nat} {x:FileD} (h:l[k]? = some x):hasF (l.take k) x.p=false:=by
 cases q:hasF (l.take k) x.p with
 | false=>rfl
 | true =>
  obtain ⟨g,hg,e⟩:=zaa.1 q;obtain ⟨j,hj⟩:=List.mem_iff_getElem?.1 hg;rw [List.getElem?_take] at hj
  split at hj
  · rename_i hjk
    have h1:=zbs ha (List.mem_of_getElem? hj);have h2:=zbs ha (List.mem_of_getElem? h);rw [e,h2] at h1;subst h1;unfold Apt at ha;rw [List.nodup_iff_pairwise_ne] at ha;obtain ⟨k1,k2⟩:=List.getElem?_eq_some_iff.1 hj;obtain ⟨k3,k4⟩:=List.getElem?_eq_some_iff.1 h;have:=List.pairwise_iff_getElem.1 ha j k (by simpa using k1) (by simpa using k3) hjk;rw [List.getElem_map,List.getElem_map,k2,k4] at this;exact absurd rfl this
  · cases hj
theorem zn8 {b o t:List FileD} (hb:zg b=0) (ho:zg o=0) (ht:zg t=0) (h:(zk b o t).e≠0):zG b o t = .error (zk b o t).e:=by
 unfold zG;rw [if_neg (by omega),if_neg (by omega),if_neg (by omega)];simp only
 rw [if_pos h]
theorem zrG {b o t:List FileD} (hb:zg b=0) (ho:zg o=0) (ht:zg t=0) (he:(zk b o t).e=0) (h:zg (zS (zR (zk b o t).t (zk b o t).c).1)≠0):zG b o t = .error (zg (zS (zR (zk b o t).t (zk b o t).c).1)):=by
 unfold zG;rw [if_neg (by omega),if_neg (by omega),if_neg (by omega)];simp only
 rw [if_neg (by omega),if_pos h]
theorem zsK {b o t:List FileD} (hb:zg b=0) (ho:zg o=0) (ht:zg t=0) (he:(zk b o t).e=0) (h:zg (zS (zR (zk b o t).t (zk b o t).c).1)=0):zG b o t = .ok (zS (zR (zk b o t).t (zk b o t).c).1,zaY (zR (zk b o t).t (zk b o t).c).2):=by
 unfold zG;rw [if_neg (by omega),if_neg (by omega),if_neg (by omega)];simp only
 rw [if_neg (by omega),if_neg (by omega)]
theorem MGE.err {w:World} {z mb so st cb N:Nat} {s:MSt} (h:MGE w z mb so st cb N s):w.cell? ⟨mb,4,none⟩=some (.int .i64 (s.e:Nat)):=by
 obtain ⟨A,c,k,g,e1,e2⟩:=h;exact (e2.blk.cell 4).trans rfl
theorem MGA.dataAt {w:World} {z mb so st cb N g i:Nat} {s:MSt} {f:FileD} (h:MGA w z mb so st cb N (some ⟨g,0,none⟩) s) (hf:s.t[i]? = some f):∃D d,w.cell? ⟨g,i*3+2,none⟩=some (.slice D f.d.length d)∧ze w w.heap.size 1 D f.d.length (f.d.map zh):=by
 obtain ⟨c1,n,f9,h1,h2⟩:=h;obtain ⟨ds,h3,h4,h5⟩:=h2.things;rw [←h3,List.getElem?_map,Option.map_eq_some_iff] at hf;obtain ⟨x,hx,rfl⟩:=hf;have hi:i<ds.length:=(List.getElem?_eq_some_iff.1 hx).1;have hl:ds.length=s.t.length:=by rw [←h3,List.length_map]
 have hc:=zfF hx 2 (.slice x.2.1 x.1.d.length x.2.2) rfl;obtain ⟨D,d,e,_,_,hr⟩:=(h5 x (List.mem_of_getElem? hx)).reads h2.zs;injection e with e1 _ e2;subst e1 e2;exact ⟨_,_,(World.ownsRow.cellAt h4 (i*3+2) (by omega)).trans hc,hr⟩
theorem MGA.sortM {w:World} {z mb so st cb N:Nat} {A:Option Addr} {s:MSt} (h:MGA w z mb so st cb N A s) (hd:Apt s.t) (hn:s.t.length≤1000000000):∃c,w.cell? ⟨mb,2,none⟩=some (.slice A s.t.length c)∧Calls Tryz.prog 73 #[.slice A s.t.length c,.func (.func 74) #[] #[]] w fun e w'=>e = .returned (.tuple #[])∧MGA w' z mb so st cb N A { s with t:=zS s.t }∧Kept z [70] [] w w':=by
 obtain ⟨c,n,f,h1,h2⟩:=h;obtain ⟨ds,h3,h4,h5⟩:=h2.things;have hl:ds.length=s.t.length:=by rw [←h3,List.length_map]
 refine ⟨c,(h2.blk.cell 2).trans rfl,(zk4 (g:=74) (fun args w=>by kernel_rfl) (fun W x y=>zpy W x y) ds w hl hn (by rw [h3];exact hd) h4).mono ?_⟩;rintro e w' ⟨e1,d',hp,hs,ho,hk⟩;have hF:Frm z mb cb w w':=Kept.mono hk (Nat.le_refl _) (by simp) (by simp)
 refine ⟨e1,⟨c,n,f,h1,⟨?_,Nat.le_trans h2.zs hk.size,h2.zm,h2.zc,⟨d',by rw [hs,h3],by rw [zde];exact ho,fun x hx=>(h5 x (hp.mem_iff.1 hx)).mg h2 hF⟩,h2.map.keep hk fun t=>?_,h2.cl⟩⟩,hk⟩
 · rw [zde];exact hk.blk h2.blk (by simp) (by decide)
 · rcases t with t|⟨_,e,_,cs,fz,hcc⟩
   · cases t
   · obtain ⟨D,⟨es,clock,q1,_⟩,_⟩:=h2.map;rw [q1] at hcc;cases hcc
def mgW (w:World) (so st:Nat):World:=((w.alloc (.map #[] 0)).alloc (.cells #[.pointer (some ⟨so,0,none⟩),.pointer (some ⟨st,0,none⟩),.slice none 0 0,.map (some w.heap.size),.int .i64 0] 165)).alloc (.map #[] 0)
theorem zmn (w:World) (so st:Nat):MGE (mgW w so st) w.heap.size (w.heap.size+1) so st w.heap.size 0 ⟨[],[],0⟩∧VM (mgW w so st) (w.heap.size+2) 0 zF∧Below w.heap.size w (mgW w so st):=by
 have s1:(w.alloc (.map #[] 0)).heap.size=w.heap.size+1:=by simp
 have s2:((w.alloc (.map #[] 0)).alloc (.cells #[.pointer (some ⟨so,0,none⟩),.pointer (some ⟨st,0,none⟩),.slice none 0 0,.map (some w.heap.size),.int .i64 0] 165)).heap.size=w.heap.size+2:=by simp
 have hb:Below w.heap.size w (mgW w so st):=(((Below.refl _ w).alloc (Nat.le_refl _) _).alloc (by omega) _).alloc (by omega) _
 refine ⟨⟨none,0,0,zgu,Nat.le_refl _,⟨?_,hb.size,by omega,Nat.le_refl _,FM.nil_ _ _,((VC.made w).alloc _).alloc _,CMap.nil_⟩⟩,?_,hb⟩
 · have:=(Blk.new (w.alloc (.map #[] 0)) 165 #[.pointer (some ⟨so,0,none⟩),.pointer (some ⟨st,0,none⟩),.slice none 0 0,.map (some w.heap.size),.int .i64 0]).alloc (.map #[] 0);rw [s1] at this;exact this
 · have:=VM.made ((w.alloc (.map #[] 0)).alloc (.cells #[.pointer (some ⟨so,0,none⟩),.pointer (some ⟨st,0,none⟩),.slice none 0 0,.map (some w.heap.size),.int .i64 0] 165));rw [s2] at this;exact this
theorem MGE.map1 {w w':World} {z mb so st cb N wb n:Nat} {s:MSt} {f:Mp} (h:MGE w z mb so st cb N s) (hk:Keep (Only wb) w w') (hv:VM w wb n f) (hz:z≤wb) (h1:wb≠mb) (h2:wb≠cb):MGE w' z mb so st cb N s:=by
 obtain ⟨A,c,k,g,e1,e2⟩:=h;obtain ⟨D,⟨es,clock,q1,_⟩,_⟩:=hv
 refine ⟨A,c,k,g,e1,e2.keepG (G:=[wb]) (Kept.ofKeep hk (fun i _ q=>List.mem_singleton.2 q)) (fun x hx=>?_) (fun x hx cs fz hc=>?_)⟩
 · rw [List.mem_singleton] at hx;subst hx;refine ⟨hz,h1,h2,fun a ha e=>?_⟩;obtain ⟨ds,_,h4,_⟩:=e2.things;obtain ⟨_,_,cs,hc⟩:=h4.blkA a ha;unfold Blk at hc;rw [e,q1] at hc;cases hc
 · rw [List.mem_singleton] at hx;subst hx;rw [q1] at hc;cases hc
attribute [local go_sem ↓] ld_f
theorem zt7 (b o t:List FileD) (A1 A2 A3:Option Addr) (c1 c2 c3 B:Nat) (w:World) (hB:B≤w.heap.size) (h1:FI w B A1 b) (h2:FI w B A2 o) (h3:FI w B A3 t) (hv:VarM w) (l1:∀f∈b,f.p.length≤1000000) (l2:∀f∈o,f.p.length≤1000000) (l3:∀f∈t,f.p.length≤1000000) :Calls Tryz.prog 38 #[.slice A1 b.length c1,.slice A2 o.length c2,.slice A3 t.length c3] w (fun e w'=>zgS b o t w e w'):=by
 obtain ⟨z,hz⟩:∃z,w.heap.size=z:=⟨_,rfl⟩;obtain ⟨P,hP⟩:∃P:Ending→World→Prop,(fun e w'=>zgS b o t w e w')=P:=⟨_,rfl⟩;rw [hP];have HP:=zz (fun e w'=>show zgS b o t w e w'→P e w' from fun h=>by rw [←hP];exact h);have HC:=zz (fun W (k:Below z w W)=>And.intro (ze7 b A1 c1 B W (Nat.le_trans hB k.size) (h1.below (k.mono (hz▸hB))) (hv.below k (hz▸hv.pos)) l1) (And.intro (ze7 o A2 c2 B W (Nat.le_trans hB k.size) (h2.below (k.mono (hz▸hB))) (hv.below k (hz▸hv.pos)) l2) (ze7 t A3 c3 B W (Nat.le_trans hB k.size) (h3.below (k.mono (hz▸hB))) (hv.below k (hz▸hv.pos)) l3)));unfold zeN at HC;have H0:=zz (And.intro h1 (And.intro h2 (And.intro h3 hv)));have HZ:=zz hz;have hb0:Blk (w.alloc (.cells #[.slice A1 b.length c1,.slice A2 o.length c2,.slice A3 t.length c3] 37)) z 37 #[.slice A1 b.length c1,.slice A2 o.length c2,.slice A3 t.length c3]:=by rw [←hz];exact Blk.new _ _ _
 have hbe0:Below z w (w.alloc (.cells #[.slice A1 b.length c1,.slice A2 o.length c2,.slice A3 t.length c3] 37)):=by rw [←hz];exact (Below.refl _ w).alloc (Nat.le_refl _) _
 have HB0:=zz (And.intro hb0 hbe0);clear hP h1 h2 h3 hv hb0 hbe0;go_enter Tryz.func38,Tryz.ntmps38
 go_wp2_with fail
 try rw [hz]
 generalize w.alloc (.cells #[.slice A1 b.length c1,.slice A2 o.length c2,.slice A3 t.length c3] 37)=w0 at *;clear hz
 go_loopw [24] (fun s24 wr=>∃k:Nat,s24 = .int .i64 (k:Nat)∧k≤3∧Hid ((0<k→zg b=0)∧(1<k→zg o=0)∧(2<k→zg t=0))∧Hid (Blk wr z 37 #[.slice A1 b.length c1,.slice A2 o.length c2,.slice A3 t.length c3])∧Hid (Below z w wr)) (fun s24 _=>3-(intOf s24).toNat)
 case atStart=>exact ⟨0,rfl,by omega,zz ⟨fun h=>by omega,fun h=>by omega,fun h=>by omega⟩,zz HB0.out.1,zz HB0.out.2⟩
 case round =>
  obtain ⟨k,rfl,hk,HK,HBL,HB⟩:=hrel
  rcases (by omega:k=0∨k=1∨k=2∨k=3) with rfl|rfl|rfl|rfl
  · have e0:=(HBL.out.cell 0).trans (show (#[Value.slice A1 b.length c1,.slice A2 o.length c2,.slice A3 t.length c3])[0]? = some (.slice A1 b.length c1) from rfl);have HQ:=zz (HC.out wr HB.out).1;obtain ⟨E,hE⟩:∃E,zg b=E:=⟨_,rfl⟩;rw [hE] at HQ;have HE:=zz hE;clear hE;by_cases hE0:E=0
    · subst hE0
      go_wp2_with (go_at_call 67;refine HQ.out.mono ?_;rintro _ w2 ⟨rfl,hb2⟩;have HB2:=zz (And.intro (HBL.out.below hb2 HBL.out.lt) (show Below z w w2 from HB.out.trans (hb2.mono (HZ.out▸HB.out.size))));clear hb2)
      go_roundw
      case rel=>exact ⟨1,by go_num,by omega,zz ⟨fun _=>HE.out,fun h=>by omega,fun h=>by omega⟩,zz HB2.out.1,zz HB2.out.2⟩
      case measure=>simp [intOf]
    · have hi:((E:Int)==0)=false:=beq_eq_false_iff_ne.2 (by omega);have hi2:((E:Int) !=0)=true:=by simp [bne,hi]
      have hi3:¬(E:Int)=0:=by omega
      go_wp2_with (go_at_call 67;refine HQ.out.mono ?_;rintro _ w2 ⟨rfl,hb2⟩;have HB2:=zz (show Below z w w2 from HB.out.trans (hb2.mono (HZ.out▸HB.out.size)));clear hb2)
      go_ret3
      exact HP.out _ _ ⟨HZ.out▸HB2.out,.inl ⟨E,by rw [zsu (by rw [HE.out];exact hE0),HE.out],rfl⟩⟩
  · have e0:=(HBL.out.cell 1).trans (show (#[Value.slice A1 b.length c1,.slice A2 o.length c2,.slice A3 t.length c3])[1]? = some (.slice A2 o.length c2) from rfl);have HQ:=zz (HC.out wr HB.out).2.1;obtain ⟨E,hE⟩:∃E,zg o=E:=⟨_,rfl⟩;rw [hE] at HQ;have HE:=zz hE;clear hE;by_cases hE0:E=0
    · subst hE0
      go_wp2_with (go_at_call 67;refine HQ.out.mono ?_;rintro _ w2 ⟨rfl,hb2⟩;have HB2:=zz (And.intro (HBL.out.below hb2 HBL.out.lt) (show Below z w w2 from HB.out.trans (hb2.mono (HZ.out▸HB.out.size))));clear hb2)
      go_roundw
      case rel=>exact ⟨2,by go_num,by omega,zz ⟨fun _=>HK.out.1 (by omega),fun _=>HE.out,fun h=>by omega⟩,zz HB2.out.1,zz HB2.out.2⟩
      case measure=>simp [intOf]
    · have hi:((E:Int)==0)=false:=beq_eq_false_iff_ne.2 (by omega);have hi2:((E:Int) !=0)=true:=by simp [bne,hi]
      have hi3:¬(E:Int)=0:=by omega
      go_wp2_with (go_at_call 67;refine HQ.out.mono ?_;rintro _ w2 ⟨rfl,hb2⟩;have HB2:=zz (show Below z w w2 from HB.out.trans (hb2.mono (HZ.out▸HB.out.size)));clear hb2)
      go_ret3
      exact HP.out _ _ ⟨HZ.out▸HB2.out,.inl ⟨E,by rw [zo3 (HK.out.1 (by omega)) (by rw [HE.out];exact hE0),HE.out],rfl⟩⟩
  · have e0:=(HBL.out.cell 2).trans (show (#[Value.slice A1 b.length c1,.slice A2 o.length c2,.slice A3 t.length c3])[2]? = some (.slice A3 t.length c3) from rfl);have HQ:=zz (HC.out wr HB.out).2.2;obtain ⟨E,hE⟩:∃E,zg t=E:=⟨_,rfl⟩;rw [hE] at HQ;have HE:=zz hE;clear hE;by_cases hE0:E=0
    · subst hE0
      go_wp2_with (go_at_call 67;refine HQ.out.mono ?_;rintro _ w2 ⟨rfl,hb2⟩;have HB2:=zz (And.intro (HBL.out.below hb2 HBL.out.lt) (show Below z w w2 from HB.out.trans (hb2.mono (HZ.out▸HB.out.size))));clear hb2)
      go_roundw
      case rel=>exact ⟨3,by go_num,by omega,zz ⟨fun _=>HK.out.1 (by omega),fun _=>HK.out.2.1 (by omega),fun _=>HE.out⟩,zz HB2.out.1,zz HB2.out.2⟩
      case measure=>simp [intOf]
    · have hi:((E:Int)==0)=false:=beq_eq_false_iff_ne.2 (by omega);have hi2:((E:Int) !=0)=true:=by simp [bne,hi]
      have hi3:¬(E:Int)=0:=by omega
      go_wp2_with (go_at_call 67;refine HQ.out.mono ?_;rintro _ w2 ⟨rfl,hb2⟩;have HB2:=zz (show Below z w w2 from HB.out.trans (hb2.mono (HZ.out▸HB.out.size)));clear hb2)
      go_ret3
      exact HP.out _ _ ⟨HZ.out▸HB2.out,.inl ⟨E,by rw [zp6 (HK.out.1 (by omega)) (HK.out.2.1 (by omega)) (by rw [HE.out];exact hE0),HE.out],rfl⟩⟩
  · obtain ⟨k1,k2,k3⟩:=HK.out;have hcb:=k1 (by omega);have hco:=k2 (by omega);have hct:=k3 (by omega);have HCK:=zz (And.intro hcb (And.intro hco hct));have hz0:B≤z:=HZ.out▸hB;have HS:=zz (fun W (k:Below z w W)=>And.intro (zi7 b o A1 A2 c1 c2 B W (Nat.le_trans hB (HZ.out▸k.size)) (H0.out.1.below (k.mono hz0)) (H0.out.2.1.below (k.mono hz0)) (zjO hcb hco)) (zi7 b t A1 A3 c1 c3 B W (Nat.le_trans hB (HZ.out▸k.size)) (H0.out.1.below (k.mono hz0)) (H0.out.2.2.1.below (k.mono hz0)) (zjO hcb hct)));unfold zg2 at HS;clear k1 k2 k3 HK HBL HC HB0 hcb hco hct;have HS1:=zz (HS.out wr HB.out).1
    go_wp2_with (first
     | (go_at_call 68;with_reducible refine HS1.out.mono ?_;rintro _ w2 ⟨so,b1,b2,b3,n1,n2,n3,f1,f2,f3,rfl,sd1,sb1,hb2⟩;have HB2:=zz (show Below z w w2 from HB.out.trans (hb2.mono (HZ.out▸HB.out.size)));have HSD1:=zz sd1;have HS2:=zz (HS.out w2 HB2.out).2;clear sd1 sb1 hb2)
     | (go_at_call 68;with_reducible refine HS2.out.mono ?_;rintro _ w3 ⟨st,d1,d2,d3,m1,m2,m3,g1,g2,g3,rfl,sd2,sb2,hb3⟩;have HB3:=zz (show Below z w w3 from HB2.out.trans (hb3.mono (HZ.out▸HB2.out.size)));have HSD2:=zz sd2;have HSD1':=zz (HSD1.out.keepB hb3 (Nat.le_trans hz0 (HZ.out▸HB2.out.size)));obtain ⟨y,hy⟩:∃y,w3.heap.size=y:=⟨_,rfl⟩;have mk1:=@run_makeMap Tryz.prog 163 w3;have mk2:=@run_makeMap Tryz.prog 166 ((w3.alloc (.map #[] 0)).alloc (.cells #[.pointer (some ⟨so,0,none⟩),.pointer (some ⟨st,0,none⟩),.slice none 0 0,.map (some y),.int .i64 0] 165));rw [hy] at mk1;have sz2:((w3.alloc (.map #[] 0)).alloc (.cells #[.pointer (some ⟨so,0,none⟩),.pointer (some ⟨st,0,none⟩),.slice none 0 0,.map (some y),.int .i64 0] 165)).heap.size=y+2:=(by simp [hy]);rw [sz2] at mk2;have HMG:=zz (hy▸zmn w3 so st);have HMW:=zz (show mgW w3 so st=((w3.alloc (.map #[] 0)).alloc (.cells #[.pointer (some ⟨so,0,none⟩),.pointer (some ⟨st,0,none⟩),.slice none 0 0,.map (some y),.int .i64 0] 165)).alloc (.map #[] 0) from hy▸rfl);have HY:=zz hy;clear sd2 sb2 hb3 sz2))
    rw [←HMW.out];clear mk1 mk2 HS HS1 HS2 HSD1 HB HB2;generalize mgW w3 so st=w4 at *;clear HMW;have hBy:B≤y:=by have:=HB3.out.size;rw [HY.out,HZ.out] at this;omega
    have HXS:=zz (fun W (k:Below y w3 W)=>And.intro ((HSD1'.out.toX (z:=y) (mb:=y+1) (cb:=y) hBy (by rw [HY.out];omega) (by rw [HY.out];exact Nat.le_refl _)).keepB (HY.out▸k) (by rw [HY.out];exact Nat.le_refl _)) ((HSD2.out.toX (z:=y) (mb:=y+1) (cb:=y) hBy (by rw [HY.out];omega) (by rw [HY.out];exact Nat.le_refl _)).keepB (HY.out▸k) (by rw [HY.out];exact Nat.le_refl _)));have HFB:=zz (fun W (k:Below y w3 W)=>H0.out.1.below ((HB3.out.mono hz0).trans (k.mono hBy)));have HVM:=zz (fun W (k:Below y w3 W)=>(H0.out.2.2.2.below HB3.out (HZ.out▸H0.out.2.2.2.pos)).below k (by have:=HB3.out.size;have:=H0.out.2.2.2.pos;rw [HZ.out] at this;rw [HY.out,HZ.out] at *;omega));have HBB:=zz (fun W (k:Below y w3 W)=>show Below w.heap.size w W from HZ.out▸HB3.out.trans (k.mono (by have:=HB3.out.size;rw [HY.out,HZ.out] at this;exact this)));clear H0 HSD1' HSD2 HB3;have hbn:=(zW HCK.out.1).2.1
    go_loopw [46] (fun s46 wr=>∃(k n:Nat) (f:Mp),s46 = .int .i64 (k:Nat)∧k≤b.length∧n≤k∧Hid (MGE wr y (y+1) so st y (2*k) ((b.take k).foldl (MSt.file (zU b o) (zU b t)) ⟨[],[],0⟩))∧Hid (VM wr (y+2) n f)∧Hid (FMap wr y (b.take k) f)∧Hid (Below y w3 wr)) (fun s46 _=>b.length-(intOf s46).toNat)
    case atStart=>exact ⟨0,0,zF,rfl,Nat.zero_le _,Nat.le_refl _,zz HMG.out.1,zz HMG.out.2.1,zz (FMap.nil_ _ _),zz HMG.out.2.2⟩
    case round =>
     clear HMG;obtain ⟨k,n,f,rfl,hk,hnk,HM,HV,HF,HB⟩:=hrel;have hysz:y≤wr.heap.size:=HY.out▸HB.out.size;by_cases hlt:k<b.length
     · obtain ⟨x,hx⟩:∃x,b[k]? = some x:=⟨_,List.getElem?_eq_getElem hlt⟩;obtain ⟨g,off,DA,dc,eA,hg,hld,_,_,_,hd1,hd2,hd3⟩:=(HFB.out wr HB.out).at_ hx;subst eA;have hload:(LdF (.pointer (some ⟨g,off+k*3,none⟩))).run Tryz.prog wr = .ok (.agg (za x DA dc)) wr:=hld;have HX:=zz hx;have HDR:=zz (show zw wr B x (.slice DA x.d.length dc) from ⟨DA,dc,rfl,hd1,hd2,hd3⟩);clear hld hd3 hx;obtain ⟨q,hq⟩:∃q,wr.heap.size=q:=⟨_,rfl⟩;have HBK:=zz (show Blk (wr.alloc (.cells #[.string ⟨#[]⟩,.int .i64 0,.slice none 0 0] 70)) q 70 #[.string ⟨#[]⟩,.int .i64 0,.slice none 0 0] from hq▸Blk.new _ _ _);have HQ:=zz hq;go_upto_region 13 with (refine zO rfl rfl (vs:=za x DA dc) rfl rfl HBK.out rfl zaw (zaD _ _ _) ?_;intro w6 hx6 hk6 hz6)
       have hb6:Below wr.heap.size wr w6:=((Below.refl wr.heap.size wr).alloc (Nat.le_refl _) _).trans (hk6.below (by simp) (by intro i hi;simp only [Only];omega));have hqy:y+2≠q:=by have:=HV.out.lt;omega
       have hyq:y≤q:=by omega
       have HX6:=zz hx6;have HB6:=zz hb6;have HV6:=zz (HV.out.keep (Below.keep_ hb6 zl) (fun r=>r));have HM6:=zz (HM.out.keepB hb6);have hxp:x.p.length≤328:=zeh HCK.out.1 x (List.mem_of_getElem? HX.out);obtain ⟨w7,hmu,hv7,hk7,hz7⟩:=HV6.out.store Tryz.underlying166 (show n<maxLen by unfold maxLen;omega) (s:=x.p) (by unfold maxLen;omega) (.agg (za x DA dc));have HV7:=zz hv7;have HK7:=zz hk7;have HM7:=zz (HM6.out.map1 hk7 HV6.out (by omega) (by omega) (by omega));have hp6:=(hx6.cell 0).trans (show (za x DA dc)[0]? = some (strC x.p) from rfl);have hl6:(LdF (.pointer (some ⟨q,0,none⟩))).run Tryz.prog w6 = .ok (.agg (za x DA dc)) w6:=zaC hx6;have HX7:=zz (show Blk w7 q 70 (za x DA dc) from (hk7.block q hx6.lt (fun e=>hqy (show q=y+2 from e).symm)).trans hx6);clear hx6 hk6 hz6 hv7 hk7 hz7 hb6 hload hq;simp only [Act.put]
       have hb7:Below y wr w7:=(HB6.out.mono hysz).trans (HK7.out.below (Nat.le_trans hysz HB6.out.size) (by intro i hi;simp only [Only];omega));have HB7:=zz (show Below y w3 w7 from HB.out.trans hb7);have HF7:=zz (((FMap.put HF.out (zpQ (zW HCK.out.1).1.apt HX.out) (HDR.out.more hBy))).below hb7);have HD7:=zz (zo.of_reads ((HDR.out.more hBy).below hb7));have HL7:=zz (zaC HX7.out);have hln:=(zeZ HCK.out.1 HCK.out.2.1 HCK.out.2.2 k hk).len;have hd1:=zck HCK.out.1 x.p;rw [zbs (zW HCK.out.1).1.apt (List.mem_of_getElem? HX.out)] at hd1;have HFL:=zz (zrQ y (y+1) so st y (2*k) _ (zU b o) (zU b t) (x,(DA,dc)) w7 HM7.out (HXS.out w7 HB7.out).1 (HXS.out w7 HB7.out).2 HD7.out (by omega) (by simp only;omega) (by omega) (by simp only;omega) ⟨Nat.le_trans (zfB HCK.out.1 HCK.out.2.1 hxp) (by omega),Nat.le_trans (zck HCK.out.2.1 _) (by omega)⟩ ⟨Nat.le_trans (zfB HCK.out.1 HCK.out.2.2 hxp) (by omega),Nat.le_trans (zck HCK.out.2.2 _) (by omega)⟩);clear hb7 hln hd1;have hl7:(LdF (.pointer (some ⟨q,0,none⟩))).run Tryz.prog w7 = .ok (.agg (za x DA dc)) w7:=HL7.out
       go_wp2_with (go_at_call 69;refine HFL.out.mono ?_;rintro _ w8 ⟨rfl,hm8,hk8⟩;have HM8:=zz hm8;have HK8:=zz hk8;clear hm8 hk8)
       have hys:y≤w7.heap.size:=by have:=HB7.out.size;rw [HY.out] at this;exact this
       have hb8:Below y w7 w8:=HK8.out.below (Nat.le_refl _) hys (by intro i hi;simp only [List.mem_cons,List.not_mem_nil,or_false] at hi;omega);have HM9:=zz (show MGE w8 y (y+1) so st y (2*(k+1)) ((b.take (k+1)).foldl (MSt.file (zU b o) (zU b t)) ⟨[],[],0⟩) from by
        rw [List.take_add_one,HX.out,Option.toList_some,List.foldl_append];exact HM8.out)
       have HV8:=zz (HV7.out.frm HK8.out (by simp));have HF8:=zz (show FMap w8 y (b.take (k+1)) (mput f x.p (.agg (za x DA dc))) from by
        rw [List.take_add_one,HX.out,Option.toList_some];exact HF7.out.below hb8)
       have HB8:=zz (HB7.out.trans hb8);clear hb8
       go_roundw
       case rel=>exact ⟨k+1,_,_,by go_num,hlt,by split <;> omega,HM9,HV8,HF8,HB8⟩
       case measure=>simp [intOf];omega
     · obtain rfl:k=b.length:=by omega
       rw [List.take_length] at HM HF;have hml:=zeZ HCK.out.1 HCK.out.2.1 HCK.out.2.2 b.length (Nat.le_refl _);rw [List.take_length] at hml;have hgm:=zpp HCK.out.1 HCK.out.2.1 HCK.out.2.2;have hln:=hml.len;have hno:=(zW HCK.out.2.1).2.1;have hnt:=(zW HCK.out.2.2).2.1;have HFR:=zz (zmh y (y+1) so st y (2*b.length) _ (zU b o) (zU b t) b wr (y+2) n f HM.out (HXS.out wr HB.out).1 (HXS.out wr HB.out).2 HV.out HF.out (by simp) hno hnt (zfA HCK.out.2.1) (zfA HCK.out.2.2) (fun p=>Nat.le_trans (zck HCK.out.2.1 p) (by omega)) (fun p=>Nat.le_trans (zck HCK.out.2.2 p) (by omega)) (by omega) (by omega));obtain ⟨G,hG⟩:∃G,zk b o t=G:=⟨_,rfl⟩;have HG:=zz hG;rw [hG] at hgm;have HGM:=zz hgm;clear hml hgm hln hno hnt hG HM HV HF;go_upto_region 17 with (go_at_call 70;refine HFR.out.mono ?_;rintro _ w1 ⟨rfl,hm1,hk1⟩;have HM1:=zz (show MGE w1 y (y+1) so st y (2*b.length+4000) G from HG.out▸hm1);have HB1:=zz (show Below y w3 w1 from HB.out.trans (hk1.below (Nat.le_refl _) hysz (by intro i hi;simp only [List.mem_cons,List.not_mem_nil,or_false] at hi;omega)));clear hm1 hk1)
       clear HFR HB;have he:=HM1.out.err;obtain ⟨E,hE⟩:∃E,G.e=E:=⟨_,rfl⟩;rw [hE] at he;have HE:=zz hE;clear hE;by_cases hE0:E=0
       · subst hE0;have HPL:=zz (zrw y (y+1) so st y (2*b.length+4000) G w1 HM1.out HGM.out.len (fun f hf=>Nat.le_trans (HGM.out.p f hf) (by omega)) (by omega));obtain ⟨SP,hSP⟩:∃SP:MSt,{ G with t:=(zR G.t G.c).1,c:=(zR G.t G.c).2 }=SP:=⟨_,rfl⟩;rw [hSP] at HPL;have HSP:=zz hSP;have hpa:=zs2 (l:=G.t) (c:=G.c) HGM.out.p HGM.out.c;have HSA:=zz (show AsI G.t.length (328+G.t.length+G.t.length) SP.t∧zbu (328+G.t.length+G.t.length) SP.c from by rw [←hSP];exact hpa);have HSD:=zz (show ∀f∈SP.t,f.d.length≤1000000 from by rw [←hSP];exact znn (Q:=fun d=>d.length≤1000000) HGM.out.d);obtain ⟨NN,hNN⟩:∃NN,2*b.length+4000+8000=NN:=⟨_,rfl⟩;rw [hNN] at HPL;have hNN2:NN≤14000:=by omega
         have hnt:SP.t.length≤4000:=by rw [HSA.out.1.len];exact HGM.out.len
         clear hSP hpa hNN;have hys1:y≤w1.heap.size:=HY.out▸HB1.out.size;go_upto_region 20 with (go_at_call 71;refine HPL.out.mono ?_;rintro _ w2 ⟨rfl,hm2,hk2⟩;have HM2:=zz hm2;have HB2:=zz (show Below y w3 w2 from HB1.out.trans (hk2.below (Nat.le_refl _) hys1 (by intro i hi;simp only [List.mem_cons,List.not_mem_nil,or_false] at hi;omega)));clear hm2 hk2)
         clear HPL HM1 HB1 he hys1;obtain ⟨A,hma⟩:=HM2.out.a;have HMA:=zz hma;clear hma HM2;obtain ⟨n,hn⟩:∃n,SP.t.length=n:=⟨_,rfl⟩;rw [hn] at hnt;have HN:=zz hn;have HTH:=zz (fun W (h:MGA W y (y+1) so st y NN A SP)=>show ∃c,W.cell? ⟨y+1,2,none⟩=some (.slice A n c) from hn▸h.thg);clear hn;obtain ⟨cc,hcc⟩:=HTH.out w2 HMA.out
         go_wp2_with fail
         clear hcc
         go_loopw [77] (fun s77 wr=>∃k:Nat,s77 = .int .i64 (k:Nat)∧k≤n∧Hid (MGA wr y (y+1) so st y NN A SP)∧Hid (Below y w3 wr)) (fun s77 _=>n-(intOf s77).toNat)
         case atStart=>exact ⟨0,rfl,Nat.zero_le _,HMA,HB2⟩
         case round =>
          clear HMA HB2;obtain ⟨k,rfl,hk,HMA,HB⟩:=hrel;have hysz:y≤wr.heap.size:=HY.out▸HB.out.size;by_cases hlt:k<n
          · obtain ⟨x,hx⟩:∃x,SP.t[k]? = some x:=⟨_,List.getElem?_eq_getElem (by rw [HN.out];exact hlt)⟩;obtain ⟨g,hg⟩:=HMA.out.adr (by rw [HN.out];omega);subst hg;obtain ⟨c9,hc9⟩:=HTH.out wr HMA.out;obtain ⟨D,d,hcd,hrd⟩:=HMA.out.dataAt hx;have hxl:=HSD.out x (List.mem_of_getElem? hx);have HX:=zz hx;have HCL:=zz (zk1 x.d D d wr.heap.size wr.drew (Nat.le_refl _) hrd (by omega));have HDW:=zz (show Below wr.heap.size wr wr.drew from (Kept.refl _ [] [] wr).drew.all);have HCE:=zz (fun W (hb:Below wr.heap.size wr W)=>show W.cell? ⟨y+1,2,none⟩=some (.slice (some ⟨g,0,none⟩) n c9) from (hb.cell (p:=⟨y+1,2,none⟩) HMA.out.e.lts.2.1).trans hc9);have e9:wr.drew.cell? ⟨y+1,2,none⟩=some (.slice (some ⟨g,0,none⟩) n c9):=hc9;have e8:wr.drew.cell? ⟨g,k*3+2,none⟩=some (.slice D x.d.length d):=hcd;have HMD:=zz (fun W (hb:Below wr.heap.size wr W) A' c' (ho:OwnB W wr.heap.size A' c' x.d)=>(HMA.out.keepB hb).data HX.out (show zo W y (x,(A',c')) from ⟨ho.cap_le.1,ho.cap_le.2,.inr (Own.mono ho hysz)⟩));clear hx hrd hxl hc9 hcd;go_upto_region 23 with fail
            have k0:(0:Int)≤(k:Int):=by omega
            have k1:(k:Int)<(n:Int):=by omega
            go_region_law (go_simp;go_at_call 72;(with_reducible refine HCL.out.mono ?_);rintro _ w5 ⟨A5,c5,rfl,ho5,hb4⟩;have hb5:Below wr.heap.size wr w5:=HDW.out.trans (hb4.mono (Nat.le_refl _));clear hb4;have e5:=HCE.out w5 hb5;obtain ⟨v5,hc5,hf5,hm5,hk5⟩:=HMD.out w5 hb5 A5 c5 ho5;have HM5:=zz hm5;have HB5:=zz (show Below y wr _ from (hb5.mono hysz).trans (hk5.below (Nat.le_refl _) (Nat.le_trans hysz hb5.size) (by intro i hi;simp only [List.mem_cons,List.not_mem_nil,or_false] at hi;omega)));clear ho5 hb5 hm5 hk5)
            all_goals
             go_wp2_with fail
             go_roundw
             case rel=>exact ⟨k+1,by go_num,hlt,HM5,zz (HB.out.trans HB5.out)⟩
             case measure=>simp [intOf];omega
          · obtain rfl:k=n:=by omega
            have hap:Apt SP.t:=HSA.out.1.apt;obtain ⟨c9,hc9,hsrt⟩:=HMA.out.sortM hap (by rw [HN.out];omega);have HSR:=zz hsrt;rw [HN.out] at hc9 HSR;clear hsrt;go_upto_region 26 with (go_at_call 73;refine HSR.out.mono ?_;rintro _ w6 ⟨rfl,hm6,hk6⟩;have HM6:=zz hm6;have HB6:=zz (show Below y w3 w6 from HB.out.trans (hk6.below (Nat.le_refl _) hysz (by simp)));clear hm6 hk6)
            clear hc9 HSR HMA HB;have hsl:(zS SP.t).length=k:=by rw [zde,HN.out]
            obtain ⟨c6,hc6⟩:=HM6.out.thg;have hck:=ze7 (zS SP.t) A c6 w6.heap.size w6 (Nat.le_refl _) HM6.out.fi (HVM.out w6 HB6.out) (fun f hf=>Nat.le_trans (HSA.out.1.long f ((za3 _).mem_iff.1 hf)) (by have:=HGM.out.len;omega));unfold zeN at hck;simp only at hc6;rw [hsl] at hc6 hck;have HCH:=zz hck;have HSL:=zz hsl;clear hck hsl;obtain ⟨E2,hE2⟩:∃E2,zg (zS SP.t)=E2:=⟨_,rfl⟩;rw [hE2] at HCH;have HE2:=zz hE2;clear hE2;by_cases hE2:E2=0
            · subst hE2;go_upto_region 30 with (go_at_call 67;refine HCH.out.mono ?_;rintro _ w7 ⟨rfl,hb7⟩;have HM7:=zz (HM6.out.keepB hb7);have HB7:=zz (show Below y w3 w7 from HB6.out.trans (hb7.mono (HY.out▸HB6.out.size)));clear hb7)
              clear hc6 HCH HM6;obtain ⟨cl,n9,f9,hn9,hMG⟩:=HM7.out;have hlc:=HSA.out.2;have hgl:=HGM.out.len;have hvc:VC w7 y n9 f9:=hMG.map;have hcm:CMap SP.c f9:=hMG.cl;have hsk:=(zqj (w:=w7.drew) (l:=SP.c) hvc hcm (by omega) (fun x hx=>⟨by have:=(hlc x hx).1;unfold maxLen;omega,by have:=(hlc x hx).2;omega⟩));have hky:=znM (some y) w7.drew;have hc2:w7.cell? ⟨y+1,2,none⟩=some (.slice A k cl):=by
               have:=(hMG.blk.cell 2).trans (show (mgC so st A (zS SP.t).length cl y SP.e)[2]? = some (.slice A (zS SP.t).length cl) from rfl)
               rwa [HSL.out] at this
              have hc3:w7.cell? ⟨y+1,3,none⟩=some (.map (some y)):=(hMG.blk.cell 3).trans rfl;have hlt1:y+1<w7.heap.size:=hMG.blk.lt;have hb8:Below w7.heap.size w7 (w7.drew.alloc (.cells #[.map (some y)] 163)):=(Kept.refl w7.heap.size [] [] w7).drew.all.trans (((Below.refl _ w7.drew).alloc (Nat.le_refl _) _).mono (Nat.le_refl _));have hq8:w7.drew.heap.size=w7.heap.size:=rfl;rw [hq8] at hsk hky;generalize w7.drew.alloc (.cells #[.map (some y)] 163)=w8 at *;have HSK:=zz hsk;have HKY:=zz hky;clear hsk hky;have HCE:=zz (fun W (hb:Below w7.heap.size w7 W)=>show W.cell? ⟨y+1,2,none⟩=some (.slice A k cl)∧W.cell? ⟨y+1,3,none⟩=some (.map (some y)) from ⟨(hb.cell (p:=⟨y+1,2,none⟩) hlt1).trans hc2,(hb.cell (p:=⟨y+1,3,none⟩) hlt1).trans hc3⟩);have d2:w7.drew.cell? ⟨y+1,2,none⟩=some (.slice A k cl):=hc2;have d3:w7.drew.cell? ⟨y+1,3,none⟩=some (.map (some y)):=hc3;have g2:=(HCE.out w8 hb8).1;have g3:=(HCE.out w8 hb8).2;have HDW7:=zz (show Below w7.heap.size w7 w7.drew from (Kept.refl _ [] [] w7).drew.all);have HHC:=zz (And.intro hlc hgl);clear hvc hcm hMG hc2 hc3 hb8 hlc hgl hq8
              go_region_law (first
               | (go_simp;go_at_call 81;(with_reducible refine HKY.out.mono ?_);rintro _ _ ⟨rfl,rfl⟩)
               | (go_simp;go_at_call 80;(with_reducible refine HSK.out.mono ?_);rintro _ w9 ⟨A9,c9,rfl,ho9,hb9⟩;have hb10:Below w7.heap.size w7 w9:=HDW7.out.trans (hb9.mono (Nat.le_refl _));have g9:=(HCE.out w9 hb10).1;have HO9:=zz ho9;have HB9:=zz hb10;clear ho9 hb9 hb10))
              all_goals
               go_wp2_with fail
               go_ret3
               have hsp:SP.t=(zR (zk b o t).t (zk b o t).c).1:=by rw [HG.out,←HSP.out]
               have hsc:SP.c=(zR (zk b o t).t (zk b o t).c).2:=by rw [HG.out,←HSP.out]
               have hfi:=(HM7.out.keepB HB9.out).fi;have h79:Below w.heap.size w _:=(HBB.out w7 HB7.out).trans (HB9.out.mono (HBB.out w7 HB7.out).size);exact HP.out _ _ ⟨h79,.inr ⟨zS SP.t,zaY SP.c,A,cl,A9,c9,by rw [zsK HCK.out.1 HCK.out.2.1 HCK.out.2.2 (by rw [HG.out];exact HE.out) (by rw [←hsp,HE2.out]),←hsp,←hsc],by rw [HSL.out];rfl,hfi,Own.mono HO9.out (HBB.out w7 HB7.out).size⟩⟩
            · have hi:((E2:Int)==0)=false:=beq_eq_false_iff_ne.2 (by omega);have hi2:((E2:Int) !=0)=true:=by simp [bne,hi]
              have hi3:¬(E2:Int)=0:=by omega
              go_wp2_with (go_at_call 67;refine HCH.out.mono ?_;rintro _ w7 ⟨rfl,hb7⟩;have HB7:=zz (show Below y w3 w7 from HB6.out.trans (hb7.mono (HY.out▸HB6.out.size)));clear hb7)
              go_ret3
              have hsp:SP.t=(zR (zk b o t).t (zk b o t).c).1:=by rw [HG.out,←HSP.out]
              exact HP.out _ _ ⟨HBB.out w7 HB7.out,.inl ⟨E2,by rw [zrG HCK.out.1 HCK.out.2.1 HCK.out.2.2 (by rw [HG.out];exact HE.out) (by rw [←hsp,HE2.out];exact hE2),←hsp,HE2.out],rfl⟩⟩
       · have hi:((E:Int)==0)=false:=beq_eq_false_iff_ne.2 (by omega);have hi2:((E:Int) !=0)=true:=by simp [bne,hi]
         have hi3:¬(E:Int)=0:=by omega
         have he2:w1.drew.cell? ⟨y+1,4,none⟩=some (.int .i64 (E:Nat)):=he;go_upto_region 18 with fail
         go_region_law fail
         go_wp2_with fail
         go_ret3
         exact HP.out _ _ ⟨(HBB.out w1 HB1.out).trans ((Kept.refl w1.heap.size [] [] w1).drew.all.mono (HBB.out w1 HB1.out).size),.inl ⟨E,by rw [zn8 HCK.out.1 HCK.out.2.1 HCK.out.2.2 (by rw [HG.out,HE.out];exact hE0),HG.out,HE.out],rfl⟩⟩
end Go.Proofs.YtmkmbbjgepcioaaGreatDoor
