/- Contract of the merger's places. No statement of the seat is proved here. -/
import Derived.Test.YtmkmbbjgepcioaaGreatDoorSAHq
import Derived.Test.YtmkmbbjgepcioaaGreatDoorSA27
import Derived.Test.YtmkmbbjgepcioaaGreatDoorSA18
import Derived.BigRegion
namespace Go.Proofs.YtmkmbbjgepcioaaGreatDoor
set_option maxHeartbeats 32000000
set_option maxRecDepth 100000
open Go.RowKit Go.Maps
section
variable {w w':World} {q b1 b2 N:Nat} {g1 g2:Pth→Int}
theorem PlX.keep {S:Nat→Prop} (h:PlX w q b1 b2 N g1 g2) (hk:Keep S w w') (h0:¬S q) (h1:¬S b1) (h2:¬S b2):PlX w' q b1 b2 N g1 g2:=by
 obtain ⟨n1,n2,f1,f2,hh⟩:=h;exact ⟨n1,n2,f1,f2,hh.blk.keep hk h0,hh.m1.keep hk h1,hh.m2.keep hk h2,hh.c1,hh.c2,hh.ne,hh.l1,hh.l2⟩
theorem PlX.keepB (h:PlX w q b1 b2 N g1 g2) (hb:Below w.heap.size w w'):PlX w' q b1 b2 N g1 g2:=h.keep (Below.keep_ hb zl) (fun q=>q) (fun q=>q) (fun q=>q)
theorem PlX.frm {z mb cb:Nat} (h:PlX w q b1 b2 N g1 g2) (hk:Frm z mb cb w w') (h0:q∉[mb,cb]) (h1:b1∉[mb,cb]) (h2:b2∉[mb,cb]):PlX w' q b1 b2 N g1 g2:=by
 obtain ⟨n1,n2,f1,f2,hh⟩:=h;have hm:∀b n f,VM w b n f→b∉[mb,cb]→VM w' b n f:=fun b n f hv hb=>hv.keep hk fun t=>by
  rcases t with t|⟨_,e,_,cs,fz,hc⟩
  · exact hb t
  · obtain ⟨D,⟨es,clock,q1,_⟩,_⟩:=hv;rw [q1] at hc;cases hc
 exact ⟨n1,n2,f1,f2,hk.blk hh.blk h0 (by decide),hm _ _ _ hh.m1 h1,hm _ _ _ hh.m2 h2,hh.c1,hh.c2,hh.ne,hh.l1,hh.l2⟩
theorem PlX.of {g1' g2':Pth→Int} {N':Nat} (h:PlX w q b1 b2 N g1 g2) (e1:∀s,g1 s=g1' s) (e2:∀s,g2 s=g2' s) (hn:N≤N'):PlX w q b1 b2 N' g1' g2':=by
 obtain ⟨n1,n2,f1,f2,hh⟩:=h;exact ⟨n1,n2,f1,f2,hh.blk,hh.m1,hh.m2,hh.c1.of e1,hh.c2.of e2,hh.ne,Nat.le_trans hh.l1 hn,Nat.le_trans hh.l2 hn⟩
end
theorem MGA.maps {w w':World} {z mb so st cb N q:Nat} {A:Option Addr} {s:MSt} {G:List Nat} (h:MGA w z mb so st cb N A s) (hk:Keep (fun k=>k∈G) w w') (hz:z≤q) (hm:mb<q) (hc:cb<q) (ha:∀a,A=some a→a.block<q) (hG:∀g∈G,q≤g∧∃n f,VM w g n f):MGA w' z mb so st cb N A s :=
 h.keepG (Kept.ofKeep hk (fun i _ q=>q)) (fun g hg=>by
  have h1:=(hG g hg).1;exact ⟨by omega,by omega,by omega,fun a e=>by have:=ha a e;omega⟩) (fun g hg cs fz hcc=>by
  obtain ⟨_,n,f,hv⟩:=hG g hg;obtain ⟨D,⟨es,clock,q1,_⟩,_⟩:=hv;rw [q1] at hcc;cases hcc)
theorem MGA.thg {w:World} {z mb so st cb N:Nat} {A:Option Addr} {s:MSt} (h:MGA w z mb so st cb N A s):∃c,w.cell? ⟨mb,2,none⟩=some (.slice A s.t.length c):=by
 obtain ⟨c,n,f,h1,h2⟩:=h;exact ⟨c,(h2.blk.cell 2).trans rfl⟩
theorem MGA.fi {w:World} {z mb so st cb N:Nat} {A:Option Addr} {s:MSt} (h:MGA w z mb so st cb N A s):FI w w.heap.size A s.t:=by
 obtain ⟨c,n,f,h1,h2⟩:=h;exact h2.things.fi h2.zs
theorem MGA.adr {w:World} {z mb so st cb N:Nat} {A:Option Addr} {s:MSt} (h:MGA w z mb so st cb N A s) (hn:0<s.t.length):∃g,A=some ⟨g,0,none⟩:=by
 obtain ⟨c,n,f,h1,h2⟩:=h;obtain ⟨ds,_,h3,_⟩:=h2.things;obtain ⟨g,e,_⟩:=h3.adrn hn;exact ⟨g,e⟩
theorem MGA.sort {w:World} {z mb so st cb N:Nat} {A:Option Addr} {s:MSt} (h:MGA w z mb so st cb N A s) (hd:Apt s.t) (hn:s.t.length≤1000000000):∃c,w.cell? ⟨mb,2,none⟩=some (.slice A s.t.length c)∧Calls Tryz.prog 73 #[.slice A s.t.length c,.func (.func 118) #[] #[]] w fun e w'=>e = .returned (.tuple #[])∧MGA w' z mb so st cb N A { s with t:=zS s.t }∧Kept z [70] [] w w':=by
 obtain ⟨c,n,f,h1,h2⟩:=h;obtain ⟨ds,h3,h4,h5⟩:=h2.things;have hl:ds.length=s.t.length:=by rw [←h3,List.length_map]
 refine ⟨c,(h2.blk.cell 2).trans rfl,(zk4 (g:=118) (fun args w=>by kernel_rfl) (fun W x y=>zru W x y) ds w hl hn (by rw [h3];exact hd) h4).mono ?_⟩;rintro e w' ⟨e1,d',hp,hs,ho,hk⟩;have hF:Frm z mb cb w w':=Kept.mono hk (Nat.le_refl _) (by simp) (by simp)
 refine ⟨e1,⟨c,n,f,h1,⟨?_,Nat.le_trans h2.zs hk.size,h2.zm,h2.zc,⟨d',by rw [hs,h3],by rw [zde];exact ho,fun x hx=>(h5 x (hp.mem_iff.1 hx)).mg h2 hF⟩,h2.map.keep hk fun t=>?_,h2.cl⟩⟩,hk⟩
 · rw [zde];exact hk.blk h2.blk (by simp) (by decide)
 · rcases t with t|⟨_,e,_,cs,fz,hcc⟩
   · cases t
   · obtain ⟨D,⟨es,clock,q1,_⟩,_⟩:=h2.map;rw [q1] at hcc;cases hcc
theorem MGA.put {w w':World} {z mb so st cb N q NN:Nat} {A:Option Addr} {s:MSt} {g1 g2:Pth→Int} (h:MGA w z mb so st cb N A s) (hp:PlX w (q+2) q (q+1) NN g1 g2) (hk:Keep (Two q (q+1)) w w') (hz:z≤q) (hm:mb<q) (hc:cb<q) (ha:∀a,A=some a→a.block<q):MGA w' z mb so st cb N A s:=by
 obtain ⟨n1,n2,f1,f2,hh⟩:=hp
 refine h.maps (G:=[q,q+1]) (Keep.mono hk fun i _ t=>?_) hz hm hc ha fun g hg=>?_
 · unfold Two at t;simp only [List.mem_cons,List.not_mem_nil,or_false]
   exact t
 · simp only [List.mem_cons,List.not_mem_nil,or_false] at hg
   rcases hg with rfl|rfl
   · exact ⟨Nat.le_refl _,n1,f1,hh.m1⟩
   · exact ⟨by omega,n2,f2,hh.m2⟩
theorem zhq {l:List FileD} (h:l.length≤100000):zfs (atG l):=fun s=>by
 have h1:atN l s≤l.length:=List.countP_le_length;unfold atG;omega
theorem zeW {l:List FileD} (h:l.length≤100000):zfs (beG l):=fun s=>by
 have h1:za8 l s≤l.length:=List.countP_le_length;unfold beG;omega
theorem zmk {l:List FileD} {k:Nat} {f:FileD} (h:l[k]? = some f) (s:Pth):addO (atG (l.take k)) f.p 1 s=atG (l.take (k+1)) s:=by
 rw [List.take_add_one,h,Option.toList_some,zei,zgY];unfold addO;omega
theorem zny {l:List FileD} {k:Nat} {f:FileD} (h:l[k]? = some f) (s:Pth):addD (beG (l.take k)) f.p 1 s=beG (l.take (k+1)) s:=by
 rw [List.take_add_one,h,Option.toList_some,zem,zfP];unfold addD;omega
theorem zkv {P:Program} {w:World} {a:Addr} {v:Value} {p:Pth} (h:w.cell? a=some v) (hf:w.frozen? a=false):(storeCells a [strC p]).run P w = .ok () (w.setCell a (strC p)):=by
 have ha:a.add 0=a:=by simp [Addr.add]
 simp [storeCells,zhf,stored,h,hf,ha]
theorem zkV {l:List FileD} {L:Nat} (h:∀f∈l,f.p.length≤L):(l.map (fun f=>f.p.length)).sum≤l.length*L:=by
 induction l with
 | nil=>simp
 | cons x l ih =>
  rw [List.map_cons,List.sum_cons,List.length_cons,Nat.add_mul];have h1:=h x (List.mem_cons_self ..);have h2:=ih fun f hf=>h f (List.mem_cons_of_mem _ hf);omega
theorem VM.frm {w w':World} {z mb cb b n:Nat} {f:Mp} (hv:VM w b n f) (hk:Frm z mb cb w w') (hb:b∉[mb,cb]):VM w' b n f:=hv.keep hk fun t=>by
 rcases t with t|⟨_,e,_,cs,fz,hc⟩
 · exact hb t
 · obtain ⟨D,⟨es,clock,q1,_⟩,_⟩:=hv;rw [q1] at hc;cases hc
theorem zkl {l:List FileD} {k:Nat} {f:FileD} {m:Mp} (h:∀x,(m x).isSome=(l.take k).any (fun g=>g.p==x)) (hf:l[k]? = some f) (v:Value):∀x,(mput m f.p v x).isSome=(l.take (k+1)).any (fun g=>g.p==x):=by
 intro x;rw [List.take_add_one,hf,Option.toList_some,List.any_append,←h x];unfold mput;by_cases e:x=f.p
 · subst e;simp
 · have e2:(f.p==x)=false:=beq_eq_false_iff_ne.2 fun q=>e q.symm;simp [e,e2]
attribute [local go_sem] zhf
attribute [local go_sem ↓] ld_f
theorem zrw (z mb so st cb N:Nat) (s:MSt) (w:World) (hm:MGE w z mb so st cb N s) (hl:s.t.length≤4000) (hp:∀f∈s.t,f.p.length≤10000) (hN:N≤500000) :Calls Tryz.prog 71 #[.pointer (some ⟨mb,0,none⟩)] w fun e w'=>e = .returned (.tuple #[])∧MGE w' z mb so st cb (N+8000) { s with t:=(zR s.t s.c).1,c:=(zR s.t s.c).2 }∧Frm z mb cb w w':=by
 obtain ⟨A,hma⟩:=hm.a;obtain ⟨lz1,lz2,lz3,lz4⟩:=hm.lts;have hz:=hm.zs;obtain ⟨q,hq⟩:∃q,w.heap.size=q:=⟨_,rfl⟩;have hla:=hma.lt;rw [hq] at hla lz2 lz4 hz;have s1:(w.alloc (.map #[] 0)).heap.size=q+1:=by simp [hq]
 have s2:((w.alloc (.map #[] 0)).alloc (.map #[] 0)).heap.size=q+2:=by simp [hq]
 have m1:=@run_makeMap Tryz.prog 218 w;have m2:=@run_makeMap Tryz.prog 218 (w.alloc (.map #[] 0));rw [hq] at m1;rw [s1] at m2;have v1:VM ((w.alloc (.map #[] 0)).alloc (.map #[] 0)) q 0 zF:=by rw [←hq];exact (VM.made w).alloc _
 have v2:VM ((w.alloc (.map #[] 0)).alloc (.map #[] 0)) (q+1) 0 zF:=by rw [←s1];exact VM.made _
 have b3:Blk (((w.alloc (.map #[] 0)).alloc (.map #[] 0)).alloc (.cells #[.map (some q),.map (some (q+1))] 239)) (q+2) 239 #[.map (some q),.map (some (q+1))]:=by rw [←s2];exact Blk.new _ _ _
 have hbl:Below w.heap.size w (((w.alloc (.map #[] 0)).alloc (.map #[] 0)).alloc (.cells #[.map (some q),.map (some (q+1))] 239)):=(((Below.refl _ w).alloc (Nat.le_refl _) _).alloc (by simp) _).alloc (by simp;omega) _;have H3:=zz (show PlX (((w.alloc (.map #[] 0)).alloc (.map #[] 0)).alloc (.cells #[.map (some q),.map (some (q+1))] 239)) (q+2) q (q+1) 0 (atG []) (beG [])∧MGA (((w.alloc (.map #[] 0)).alloc (.map #[] 0)).alloc (.cells #[.map (some q),.map (some (q+1))] 239)) z mb so st cb N A s∧Frm z mb cb w (((w.alloc (.map #[] 0)).alloc (.map #[] 0)).alloc (.cells #[.map (some q),.map (some (q+1))] 239)) from
  ⟨⟨0,0,zF,zF,b3,v1.alloc _,v2.alloc _,CntF.nil_,CntF.nil_,by omega,Nat.le_refl _,Nat.le_refl _⟩,hma.keepB hbl,Frm.ofBelow hbl (by rw [hq];exact hz)⟩)
 have HQ:=zz hq;clear v1 v2 b3 hbl s1 s2 hma hm hq;go_enter Tryz.func71,Tryz.ntmps71
 go_upto_region 1 with (refine zC rfl rfl (cs:=#[.map (some q),.map (some (q+1))]) rfl ?_)
 rw [show w.heap.size+1+1=q+2 from by rw [HQ.out]];generalize (((w.alloc (.map #[] 0)).alloc (.map #[] 0)).alloc (.cells #[.map (some q),.map (some (q+1))] 239))=w3 at *;clear m1 m2;obtain ⟨c0,t2⟩:=H3.out.2.1.thg;have HAP:=zz (show ∃l c,(List.range s.t.length).foldl zQ (s.t,s.c)=(l,c) from ⟨_,_,rfl⟩);have HHP:=zz hp;clear hp;obtain ⟨n,hn⟩:∃n,s.t.length=n:=⟨_,rfl⟩;rw [hn] at t2 hl HAP;have HNL:=zz hn
 go_wp2_with fail
 clear t2 hn
 go_loopw [23] (fun s23 wr=>∃(k NN:Nat),s23 = .int .i64 (k:Nat)∧k≤n∧NN≤k*10001∧Hid (PlX wr (q+2) q (q+1) NN (atG (s.t.take k)) (beG (s.t.take k)))∧Hid (MGA wr z mb so st cb N A s)∧Hid (Frm z mb cb w wr)) (fun s23 _=>n-(intOf s23).toNat)
 case atStart=>exact ⟨0,0,rfl,Nat.zero_le _,Nat.zero_le _,zz (by rw [List.take_zero];exact H3.out.1),zz H3.out.2.1,zz H3.out.2.2⟩
 case round =>
  clear H3;obtain ⟨k,NN,rfl,hk,hNN,HP,HM,HF⟩:=hrel;by_cases hlt:k<n
  · obtain ⟨f,hf⟩:∃f,s.t[k]? = some f:=⟨_,List.getElem?_eq_getElem (by rw [HNL.out];exact hlt)⟩;obtain ⟨gg,off,DA,dc,rfl,hgB,hload,_,_,_,_,_,_⟩:=HM.out.fi.at_ hf;have hload:(LdF (.pointer (some ⟨gg,off+k*3,none⟩))).run Tryz.prog wr = .ok (.agg (za f DA dc)) wr:=hload;have i0:(0:Int)≤(k:Int):=by omega
    have i1:(k:Int)<(n:Int):=by omega
    have HTK:=zz (And.intro (zmk hf) (zny hf));have HFL:=zz (HHP.out f (List.mem_of_getElem? hf));clear hf;go_upto_region 4 with (refine zO rfl rfl (vs:=za f DA dc) rfl rfl (Blk.new _ _ _) rfl zaw (zaD _ _ _) ?_;intro w6 hx6 hk6 hz6)
    have HK6:=zz (show Below wr.heap.size wr w6 from (Keep.ofNew hk6).all);have x0:=(hx6.cell 0).trans (show (za f DA dc)[0]? = some (strC f.p) from rfl);have HP6:=zz (HP.out.keepB HK6.out);have HM6:=zz (HM.out.keepB HK6.out);have HF6:=zz (show Frm z mb cb w w6 from HF.out.trans (Frm.ofBelow HK6.out HM.out.e.zs));have HPUT:=zz (zd6 (q+2) q (q+1) NN _ _ f.p 1 w6 HP6.out (by have:=HFL.out;omega) (by omega) ⟨by omega,by omega⟩ (zhq (by rw [List.length_take];omega)) (zeW (by rw [List.length_take];omega)))
    try simp only [Act.put]
    clear hx6 hk6 hz6 hload HP HM HF HK6
    go_wp2_with (go_at_call 116;refine HPUT.out.mono ?_)
    rintro _ w7 ⟨rfl,p7,k7⟩;have HP7:=zz (p7.of HTK.out.1 HTK.out.2 (Nat.le_refl _));have HM7:=zz (HM6.out.put HP6.out k7 hz lz2 lz4 hla);have HF7:=zz (show Frm z mb cb w w7 from HF6.out.then_ k7 fun i hi t=>by unfold Two at t;have:=HQ.out;omega);clear p7 k7 HPUT
    go_wp2_with fail
    go_roundw
    case rel=>exact ⟨k+1,NN+f.p.length+1,by go_num,hlt,by have:=HFL.out;omega,HP7,HM7,HF7⟩
    case measure=>simp [intOf];omega
  · have hkn:n=k:=by omega
    subst hkn;have HP0:=zz (show PlX wr (q+2) q (q+1) NN (atG s.t) (beG s.t) from by have:=HP.out;rw [←HNL.out,List.take_length] at this;exact this);obtain ⟨q3,hq3⟩:∃q3,wr.heap.size=q3:=⟨_,rfl⟩;have hqq:q+2<q3:=by obtain ⟨_,_,_,_,hh⟩:=HP0.out;rw [←hq3];exact hh.blk.lt
    have m3:=@run_makeMap Tryz.prog 218 wr;have hv3:VM (wr.alloc (.map #[] 0)) wr.heap.size 0 zF:=VM.made wr;have hbl:Below wr.heap.size wr (wr.alloc (.map #[] 0)):=(Below.refl _ wr).alloc (Nat.le_refl _) _;rw [hq3] at m3 hv3;have HV3:=zz hv3;have HP3:=zz (HP0.out.keepB hbl);have HM3:=zz (HM.out.keepB hbl);have HF3:=zz (show Frm z mb cb w (wr.alloc (.map #[] 0)) from HF.out.trans (Frm.ofBelow hbl HM.out.e.zs));obtain ⟨c3,t3⟩:=HM3.out.thg;rw [HNL.out] at t3;have HAI:=zz (show ApI n 10000 0 s.t from ⟨HNL.out,by simp [Apt],fun f hf=>HHP.out f hf⟩);clear hv3 hbl HP HM HF HP0 hq3 HAP hk hlt
    go_wp2_with fail
    clear t3 m3
    go_loopw [38] (fun s38 wx=>∃(k NN n3:Nat) (f3:Mp) (l:List FileD) (c:List ClashD),s38 = .int .i64 (k:Nat)∧k≤n∧NN≤n*10001+k*28010∧n3≤k∧Hid ((List.range k).foldl zQ (s.t,s.c)=(l,c))∧Hid (ApI n 10000 k l)∧Hid (PlX wx (q+2) q (q+1) NN (atG l) (beG l))∧Hid (MGA wx z mb so st cb (N+k) A { s with t:=l,c:=c })∧Hid (VM wx q3 n3 f3)∧Hid (∀x,(f3 x).isSome=(l.take k).any (fun g=>g.p==x))∧Hid (Frm z mb cb w wx)) (fun s38 _=>n-(intOf s38).toNat)
    case atStart=>exact ⟨0,NN,0,zF,s.t,s.c,rfl,Nat.zero_le _,by omega,Nat.le_refl _,zz rfl,HAI,HP3,HM3,HV3,zz (fun x=>by simp [zF]),HF3⟩
    case round =>
     clear HP3 HM3 HV3 HF3 HAI;obtain ⟨k,NN,n3,f3,l,c,rfl,hk,hNN2,hn3,HFO,HAI,HP,HM,HV,HSE,HF⟩:=hrel;by_cases hlt:k<n
     · have hll:=HAI.out.len;obtain ⟨f,hf⟩:∃f,l[k]? = some f:=⟨_,List.getElem?_eq_getElem (by rw [hll];exact hlt)⟩;obtain ⟨g,hg⟩:=HM.out.adr (by show 0<l.length;omega);have i0:(0:Int)≤(k:Int):=by omega
       have i1:(k:Int)<(n:Int):=by omega
       obtain ⟨c4,t5⟩:=HM.out.thg;have t4:wr.cell? ⟨mb,2,none⟩=some (.slice A n c4):=hll▸t5;rw [hg] at t4;clear t5;have HG:=zz hg;have hfl:f.p.length≤14000:=by have:=HAI.out.long f (List.mem_of_getElem? hf);omega
       have HF9:=zz hf;have hlk:=HV.out.look_ok (s:=f.p) Tryz.underlying218 (zbw wr) (by unfold maxLen;omega);rw [HSE.out f.p] at hlk;obtain ⟨p0,-,-,-⟩:=(hg▸HM.out:MGA wr z mb so st cb (N+k) (some ⟨g,0,none⟩) { s with t:=l,c:=c }).move hf [];clear hg hll hf
       cases hsec:(l.take k).any (fun g=>g.p==f.p) with
       | false =>
        rw [hsec] at hlk;have HFN:=zz (show (List.range (k+1)).foldl zQ (s.t,s.c)=(l,c) from by rw [zcq,HFO.out,zd2 HF9.out,hsec];rfl);have HAN:=zz (HAI.out.stay HF9.out hsec);obtain ⟨w8,hst,hv8,hk8,hz8⟩:=HV.out.store (s:=f.p) Tryz.underlying218 (by unfold maxLen;omega) (by unfold maxLen;omega) (.int .i64 (k:Nat));have HV8:=zz hv8;have HS8:=zz (zkl HSE.out HF9.out (.int .i64 (k:Nat)));have HP8:=zz (HP.out.keep hk8 (by unfold Only;omega) (by unfold Only;omega) (by unfold Only;omega));have HM8:=zz ((HM.out.maps (G:=[q3]) (Keep.mono hk8 fun i _ t=>by unfold Only at t;simp [t]) hz lz2 lz4 hla (fun g9 hg9=>by rw [List.mem_singleton] at hg9;subst hg9;exact ⟨by omega,_,_,HV.out⟩)).more (N':=N+(k+1)) (by omega));have HF8:=zz (show Frm z mb cb w w8 from HF.out.then_ hk8 fun i hi t=>by unfold Only at t;have:=HQ.out;omega);have hn9:(if (f3 f.p).isSome=true then n3 else n3+1)≤k+1:=by split <;> omega
        clear hv8 hk8 hz8 hsec HFO HAI HP HM HV HSE HF
        go_wp2_with fail
        go_roundw
        case rel=>exact ⟨k+1,NN,_,_,l,c,by go_num,hlt,by omega,hn9,HFN,HAN,HP8,HM8,HV8,HS8,HF8⟩
        case measure=>simp [intOf];omega
       | true =>
        rw [hsec] at hlk;obtain ⟨p',hp'⟩:∃p',zau l false f.p=p':=⟨_,rfl⟩
        have HFN:=zz (show (List.range (k+1)).foldl zQ (s.t,s.c)=(zA l k p',c++[⟨f.p,5⟩]) from by rw [zcq,HFO.out,zd2 HF9.out,hsec,←hp'];rfl);have HAN:=zz (show ApI n 10000 (k+1) (zA l k p') from hp'▸HAI.out.moved HF9.out false);have hpl:p'.length≤14001:=by
         have:=HAN.out.long { f with p:=p' } (List.mem_of_getElem? (zc6 HF9.out p'));simp only at this;omega
        have hsum:(l.map (fun f=>f.p.length)).sum≤1000000000:=by
         have h9:=zkV (l:=l) (L:=14000) (fun f hf=>by have:=HAI.out.long f hf;omega);have:=HAI.out.len;omega
        have HSUM:=zz hsum;have HPN:=zz hp';have hlen:l.length≤4000:=by have:=HAI.out.len;omega
        have HCL:=zz (HM.out.clash f.p 5 (by omega) (by omega) (by omega));have hq0:q+2∉[mb,cb]:=by simp only [List.mem_cons,List.not_mem_nil,or_false];omega
        have hq1:q∉[mb,cb]:=by simp only [List.mem_cons,List.not_mem_nil,or_false];omega
        have hq2:q+1∉[mb,cb]:=by simp only [List.mem_cons,List.not_mem_nil,or_false];omega
        have hq4:q3∉[mb,cb]:=by simp only [List.mem_cons,List.not_mem_nil,or_false];omega
        clear hsec HFO HAI hsum hp';go_upto_region 15 with (go_at_call 111;refine HCL.out.mono ?_;rintro _ w5 ⟨rfl,m5,k5⟩)
        have HM5:=zz m5;have HP5:=zz (HP.out.frm (Frm.ofC k5) hq0 hq1 hq2);have HV5:=zz (HV.out.frm (Frm.ofC k5) hq4);have HF5:=zz (show Frm z mb cb w w5 from HF.out.trans (Frm.ofC k5));have HPUT:=zz (zd6 (q+2) q (q+1) NN _ _ f.p (-1) w5 HP5.out (by omega) (by omega) ⟨by omega,by omega⟩ (zhq (by omega)) (zeW (by omega)));clear m5 k5 HCL HP HM HV HF p0 t4 hlk;go_upto_region 16 with (go_at_call 116;refine HPUT.out.mono ?_;rintro _ w6 ⟨rfl,p6,k6⟩)
        have HP6:=zz p6;have HM6:=zz (HM5.out.put HP5.out k6 hz lz2 lz4 hla);have HV6:=zz (HV5.out.keep k6 (by unfold Two;omega));have HF6:=zz (show Frm z mb cb w w6 from HF5.out.then_ k6 fun i hi t=>by unfold Two at t;have:=HQ.out;omega);have HNX:=zz (zis (q+2) q (q+1) _ l false f.p w6 _ _ HP6.out (fun x hx=>by unfold addO one;rw [if_neg (fun e=>by rw [e] at hx;omega)];omega) (fun h=>by cases h) (by omega) HSUM.out);rw [HPN.out] at HNX;obtain ⟨d0,d1,m7,k7⟩:=(HG.out▸HM6.out:MGA w6 z mb so st cb (N+k+1) (some ⟨g,0,none⟩) _).move HF9.out p';have hstc:=zkv (P:=Tryz.prog) (p:=p') d0 d1;have HM7:=zz m7;have HP7:=zz (HP6.out.frm k7 hq0 hq1 hq2);have HV7:=zz (HV6.out.frm k7 hq4);have HF7:=zz (show Frm z mb cb w (w6.setCell ⟨g,k*3,none⟩ (strC p')) from HF6.out.trans k7);obtain ⟨d7,-,-,-⟩:=m7.move (zc6 HF9.out p') [];clear p6 k6 m7 k7 HPUT HP5 HM5 HV5 HF5;go_upto_region 17 with (go_at_call 117;refine HNX.out.mono ?_;rintro _ _ ⟨rfl,rfl⟩)
        rw [hstc];go_simp;go_upto_region 17 with fail
        generalize w6.setCell ⟨g,k*3,none⟩ (strC p')=w7 at *;have hlen2:∀x,-1000000000≤addD (beG l) f.p (-1) x∧addD (beG l) f.p (-1) x≤1000000000:=fun x=>by
         have h1:=(zeW (l:=l) (by omega)) x;have h2:(zj f.p).count x≤(zj f.p).length:=List.count_le_length;have h3:=zg3 f.p;have h4:za8 l x≤l.length:=List.countP_le_length;unfold addD beG;omega
        have HPUT2:=zz (zd6 (q+2) q (q+1) _ _ _ p' 1 w7 HP7.out (by omega) (by omega) ⟨by omega,by omega⟩ (fun x=>by
         have h4:atN l x≤l.length:=List.countP_le_length;unfold addO atG one
         split <;> omega) hlen2)
        clear hlen2 d0 d1 hstc HNX HP6 HM6 HV6 HF6;go_upto_region 18 with (go_at_call 116;refine HPUT2.out.mono ?_;rintro _ w8 ⟨rfl,p8,k8⟩)
        have HP8:=zz (p8.of (g1':=atG (zA l k p')) (g2':=beG (zA l k p')) (N':=NN+28010) (fun x=>by rw [zlc HF9.out];unfold addO;omega) (fun x=>by rw [zlm HF9.out];unfold addD;omega) (by omega));have HM8:=zz (HM7.out.put HP7.out k8 hz lz2 lz4 (HG.out▸hla));have HV8:=zz (HV7.out.keep k8 (by unfold Two;omega));have HF8:=zz (show Frm z mb cb w w8 from HF7.out.then_ k8 fun i hi t=>by unfold Two at t;have:=HQ.out;omega);obtain ⟨d8,-,-,-⟩:=HM8.out.move (zc6 HF9.out p') [];obtain ⟨w9,hst,hv9,hk9,hz9⟩:=HV8.out.store (s:=p') Tryz.underlying218 (by unfold maxLen;omega) (by unfold maxLen;omega) (.int .i64 (k:Nat));have HV9:=zz hv9;have HS9:=zz (zkl (l:=zA l k p') (f:={ f with p:=p' }) (by rw [zex];exact HSE.out) (zc6 HF9.out p') (.int .i64 (k:Nat)));have HP9:=zz (HP8.out.keep hk9 (by unfold Only;omega) (by unfold Only;omega) (by unfold Only;omega));have HM9:=zz (show MGA w9 z mb so st cb (N+(k+1)) A { s with t:=zA l k p',c:=c++[⟨f.p,5⟩] } from by
         rw [HG.out];exact (HM8.out.maps (G:=[q3]) (Keep.mono hk9 fun i _ t=>by unfold Only at t;simp [t]) hz lz2 lz4 (HG.out▸hla) (fun g9 hg9=>by rw [List.mem_singleton] at hg9;subst hg9;exact ⟨by omega,_,_,HV8.out⟩)).more (by omega))
        have HF9':=zz (show Frm z mb cb w w9 from HF8.out.then_ hk9 fun i hi t=>by unfold Only at t;have:=HQ.out;omega);have hn9:(if (f3 p').isSome=true then n3 else n3+1)≤k+1:=by split <;> omega
        clear p8 k8 hv9 hk9 hz9 HP8 HM8 HV8 HF8 HP7 HM7 HV7 HF7 HSE d7
        go_wp2_with fail
        go_roundw
        case rel=>exact ⟨k+1,NN+28010,_,_,zA l k p',c++[⟨f.p,5⟩],by go_num,hlt,by omega,hn9,HFN,HAN,HP9,HM9,HV9,HS9,HF9'⟩
        case measure=>simp [intOf];omega
     · have hkn:n=k:=by omega
       subst hkn;have hll:=HAI.out.len;have hap:Apt l:=by have:=HAI.out.apt;rw [←hll,List.take_length] at this;exact this
       obtain ⟨c5,t5a,hsrt⟩:=HM.out.sort hap (by show l.length≤1000000000;omega);have t5:wr.cell? ⟨mb,2,none⟩=some (.slice A n c5):=hll▸t5a;clear t5a;have hsrt':Calls Tryz.prog 73 #[.slice A n c5,.func (.func 118) #[] #[]] wr (fun e w'=>e = .returned (.tuple #[])∧MGA w' z mb so st cb (N+n) A { s with t:=zS l,c:=c }∧Kept z [70] [] wr w'):=hll▸hsrt;have HSRT:=zz hsrt';have HLL:=zz hll;have hq0:q+2∉[mb,cb]:=by simp only [List.mem_cons,List.not_mem_nil,or_false];omega
       have hq1:q∉[mb,cb]:=by simp only [List.mem_cons,List.not_mem_nil,or_false];omega
       have hq2:q+1∉[mb,cb]:=by simp only [List.mem_cons,List.not_mem_nil,or_false];omega
       clear hsrt hsrt' hap hll HM HV HSE;go_upto_region 21 with (go_at_call 73;refine HSRT.out.mono ?_;rintro _ w9 ⟨rfl,m9,k9⟩)
       have hk9:Frm z mb cb wr w9:=Kept.mono k9 (Nat.le_refl _) (by simp) (by simp);have HM9:=zz m9;have HF9:=zz (show Frm z mb cb w w9 from HF.out.trans hk9);have HP9:=zz ((HP.out.frm hk9 hq0 hq1 hq2).of (g1':=atG (zS l)) (g2':=beG (zS l)) (fun x=>by unfold atG atN;rw [(za3 l).countP_eq]) (fun x=>by unfold beG za8;rw [(za3 l).countP_eq]) (Nat.le_refl _));have HLO:=zz (show ∀f∈zS l,f.p.length≤14000 from fun f hf=>by have:=HAI.out.long f ((za3 l).mem_iff.1 hf);omega);have HSL:=zz (show (zS l).length=n from by rw [zde];exact HLL.out);obtain ⟨c6,t6a⟩:=HM9.out.thg;have t6:w9.cell? ⟨mb,2,none⟩=some (.slice A n c6):=HSL.out▸t6a;clear t6a;clear m9 k9 hk9 HP HF HSRT t5
       go_wp2_with fail
       clear t6
       go_loopw [93] (fun s93 wx=>∃(k NN:Nat) (l':List FileD) (c':List ClashD),s93 = .int .i64 (k:Nat)∧k≤n∧NN≤n*10001+n*28010+k*36010∧l'.length=n∧Hid ((List.range k).foldl zah (zS l,c)=(l',c'))∧Hid (∀f∈l',f.p.length≤14000+k)∧Hid (PlX wx (q+2) q (q+1) NN (atG l') (beG l'))∧Hid (MGA wx z mb so st cb (N+n+k) A { s with t:=l',c:=c' })∧Hid (Frm z mb cb w wx)) (fun s93 _=>n-(intOf s93).toNat)
       case atStart=>exact ⟨0,_,zS l,c,rfl,Nat.zero_le _,by omega,HSL.out,zz rfl,zz (fun f hf=>HLO.out f hf),HP9,HM9,HF9⟩
       case round =>
        clear HP9 HM9 HF9 HLO HSL;obtain ⟨k,NN,l',c',rfl,hk,hNN3,hl',HFO3,HLO,HP,HM,HF⟩:=hrel;by_cases hlt:k<n
        · obtain ⟨f,hf⟩:∃f,l'[k]? = some f:=⟨_,List.getElem?_eq_getElem (by rw [hl'];exact hlt)⟩;obtain ⟨g,hg⟩:=HM.out.adr (by show 0<l'.length;omega);have i0:(0:Int)≤(k:Int):=by omega
          have i1:(k:Int)<(n:Int):=by omega
          obtain ⟨c4,t5⟩:=HM.out.thg;have t4:wr.cell? ⟨mb,2,none⟩=some (.slice A n c4):=hl'▸t5;rw [hg] at t4;have HG:=zz hg;have hfl:f.p.length≤18000:=by have:=HLO.out f (List.mem_of_getElem? hf);omega
          have HF9:=zz hf;obtain ⟨p0,-,-,-⟩:=(hg▸HM.out:MGA wr z mb so st cb (N+n+k) (some ⟨g,0,none⟩) { s with t:=l',c:=c' }).move hf [];have hpl:∃v1 v2,wr.cell? ⟨q+2,1,none⟩=some (.map (some (q+1)))∧VM wr (q+1) v1 v2∧CntF v2 (beG l'):=by
           obtain ⟨n1,n2,f1,f2,hh⟩:=HP.out;exact ⟨n2,f2,(hh.blk.cell 1).trans rfl,hh.m2,hh.c2⟩
          obtain ⟨v1,v2,e1,hv2,hc2⟩:=hpl;have hlk:=hv2.look (s:=f.p) Tryz.underlying218 (zbw wr) (by unfold maxLen;omega);rw [hc2 f.p] at hlk;clear hg hf t5 hv2 hc2
          cases hbe:decide (0<za8 l' f.p) with
          | false =>
           have hbi:decide ((0:Int)<beG l' f.p)=false:=decide_eq_false (by have:=of_decide_eq_false hbe;unfold beG;omega);have HFN:=zz (show (List.range (k+1)).foldl zah (zS l,c)=(l',c') from by rw [zcq,HFO3.out,zdo HF9.out,if_neg (of_decide_eq_false hbe)]);generalize beG l' f.p=bb at *
           go_wp2_with fail
           go_roundw
           case rel=>exact ⟨k+1,NN,l',c',by go_num,hlt,by omega,hl',HFN,zz (fun f hf=>by have:=HLO.out f hf;omega),HP,zz (HM.out.more (by omega)),HF⟩
           case measure=>simp [intOf];omega
          | true =>
           have hbi:decide ((0:Int)<beG l' f.p)=true:=decide_eq_true (by have:=of_decide_eq_true hbe;unfold beG;omega);obtain ⟨p',hp'⟩:∃p',zau l' true f.p=p':=⟨_,rfl⟩
           have HFN:=zz (show (List.range (k+1)).foldl zah (zS l,c)=(zA l' k p',c'++[⟨f.p,6⟩]) from by rw [zcq,HFO3.out,zdo HF9.out,if_pos (of_decide_eq_true hbe),hp']);have hpl2:p'.length≤14000+(k+1):=by rw [←hp'];exact zeG (L:=14000+k) HLO.out _ f.p (HLO.out f (List.mem_of_getElem? HF9.out))
           have HLN:=zz (show ∀f∈zA l' k p',f.p.length≤14000+(k+1) from fun f hf=>by
            rcases zhh hf with h9|h9
            · have:=HLO.out f h9;omega
            · rw [h9];exact hpl2)
           have HSUM:=zz (show (l'.map (fun f=>f.p.length)).sum≤1000000000 from by
            have h9:=zkV (l:=l') (L:=18000) (fun f hf=>by have:=HLO.out f hf;omega);omega)
           have HPN:=zz hp';have HCL:=zz (HM.out.clash f.p 6 (by omega) (by omega) (by omega));clear hbe hp' HFO3;go_upto_region 28 with (go_at_call 111;refine HCL.out.mono ?_;rintro _ w5 ⟨rfl,m5,k5⟩)
           have HM5:=zz m5;have HP5:=zz (HP.out.frm (Frm.ofC k5) hq0 hq1 hq2);have HF5:=zz (show Frm z mb cb w w5 from HF.out.trans (Frm.ofC k5));have HNX:=zz (zis (q+2) q (q+1) _ l' true f.p w5 _ _ HP5.out (fun _ _=>rfl) (fun _ _ _=>rfl) (by omega) HSUM.out);rw [HPN.out] at HNX;obtain ⟨d0,d1,m7,k7⟩:=(HG.out▸HM5.out:MGA w5 z mb so st cb (N+n+k+1) (some ⟨g,0,none⟩) _).move HF9.out p';have hstc:=zkv (P:=Tryz.prog) (p:=p') d0 d1;have HM7:=zz m7;have HP7:=zz (HP5.out.frm k7 hq0 hq1 hq2);have HF7:=zz (show Frm z mb cb w (w5.setCell ⟨g,k*3,none⟩ (strC p')) from HF5.out.trans k7);clear m5 k5 m7 k7 HCL HP HM HF p0 t4 hlk hbi e1;go_upto_region 29 with (go_at_call 117;refine HNX.out.mono ?_;rintro _ _ ⟨rfl,rfl⟩)
           rw [hstc];go_simp;go_upto_region 29 with fail
           generalize w5.setCell ⟨g,k*3,none⟩ (strC p')=w7 at *;have HPUT:=zz (zd6 (q+2) q (q+1) NN _ _ f.p (-1) w7 HP7.out (by omega) (by omega) ⟨by omega,by omega⟩ (zhq (by omega)) (zeW (by omega)));clear d0 d1 hstc HNX HP5 HM5 HF5;go_upto_region 30 with (go_at_call 116;refine HPUT.out.mono ?_;rintro _ w8 ⟨rfl,p8,k8⟩)
           have HP8:=zz p8;have HM8:=zz (HM7.out.put HP7.out k8 hz lz2 lz4 (HG.out▸hla));have HF8:=zz (show Frm z mb cb w w8 from HF7.out.then_ k8 fun i hi t=>by unfold Two at t;have:=HQ.out;omega);obtain ⟨d8,-,-,-⟩:=HM8.out.move (zc6 HF9.out p') [];have hlen2:∀x,-1000000000≤addD (beG l') f.p (-1) x∧addD (beG l') f.p (-1) x≤1000000000:=fun x=>by
            have h2:(zj f.p).count x≤(zj f.p).length:=List.count_le_length;have h3:=zg3 f.p;have h4:za8 l' x≤l'.length:=List.countP_le_length;unfold addD beG;omega
           have HPUT2:=zz (zd6 (q+2) q (q+1) _ _ _ p' 1 w8 HP8.out (by omega) (by omega) ⟨by omega,by omega⟩ (fun x=>by
            have h4:atN l' x≤l'.length:=List.countP_le_length;unfold addO atG one
            split <;> omega) hlen2)
           clear p8 k8 hlen2 HPUT HP7 HM7 HF7;go_upto_region 31 with (go_at_call 116;refine HPUT2.out.mono ?_;rintro _ w9 ⟨rfl,p9,k9⟩)
           have HP9:=zz (p9.of (g1':=atG (zA l' k p')) (g2':=beG (zA l' k p')) (N':=NN+36010) (fun x=>by rw [zlc HF9.out];unfold addO;omega) (fun x=>by rw [zlm HF9.out];unfold addD;omega) (by omega));have HM9:=zz (show MGA w9 z mb so st cb (N+n+(k+1)) A { s with t:=zA l' k p',c:=c'++[⟨f.p,6⟩] } from by
            rw [HG.out];exact (HM8.out.put HP8.out k9 hz lz2 lz4 (HG.out▸hla)).more (by omega))
           have HF9':=zz (show Frm z mb cb w w9 from HF8.out.then_ k9 fun i hi t=>by unfold Two at t;have:=HQ.out;omega);clear p9 k9 HPUT2 HP8 HM8 HF8 d8
           go_wp2_with fail
           go_roundw
           case rel=>exact ⟨k+1,NN+36010,zA l' k p',c'++[⟨f.p,6⟩],by go_num,hlt,by omega,by rw [zds];exact hl',HFN,HLN,HP9,HM9,HF9'⟩
           case measure=>simp [intOf];omega
        · have hkn:n=k:=by omega
          subst hkn;have HFIN:=zz (show zR s.t s.c=(l',c') from by
           unfold zR;rw [HNL.out,HFO.out];exact HFO3.out)
          go_wp2_with fail
          first|refine bodyPost_end (results_none rfl _ _ _) rfl ?_|refine bodyPost_ret (results_none rfl _ _ _) rfl ?_
          exact ⟨rfl,by rw [HFIN.out];exact HM.out.e.more (by omega),HF.out⟩
end Go.Proofs.YtmkmbbjgepcioaaGreatDoor
