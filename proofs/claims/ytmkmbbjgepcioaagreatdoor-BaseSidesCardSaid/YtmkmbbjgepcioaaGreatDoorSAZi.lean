/- Contract of treemerge.sides. No statement of the seat is proved here. -/
import Derived.Test.YtmkmbbjgepcioaaGreatDoorSAHq
import Derived.Test.YtmkmbbjgepcioaaGreatDoorSA18
import Derived.Test.YtmkmbbjgepcioaaGreatDoorSAYo
import Derived.BigRegion
import Derived.BigQuiet
namespace Go.Proofs.YtmkmbbjgepcioaaGreatDoor
set_option maxHeartbeats 16000000
set_option maxRecDepth 100000
open Go.RowKit Go.Maps
theorem zgm:(Tryz.prog.info? 188).map (·.size)=some 3:=by kernel_rfl
theorem PO.get {w:World} {z:Nat} {A:Option Addr} {c:Nat} {ls:List PairD} (h:PO w z A c ls) {k:Nat} {x:PairD} (hk:ls[k]? = some x):∃g off,A=some ⟨g,off,none⟩∧(LdPr (.pointer (some ⟨g,off+k*3,none⟩))).run Tryz.prog w = .ok (.agg (zv x).toArray) w:=by
 have hlt:k<ls.length:=(List.getElem?_eq_some_iff.1 hk).1;obtain ⟨g,off,rfl,_,hc⟩:=(Own.reads h).at0 (by omega) (by omega);refine ⟨g,off,rfl,zaE w _ (zv x).toArray Tryz.underlying188 rfl zgm (fun j v hj=>?_)⟩;have:=hc _ _ (zaV (f:=zv) (C:=3) (fun _=>rfl) ls k j x hk v (by rw [←hj]));rw [zJ];rw [←Nat.add_assoc] at this;exact this
theorem ztL {w:World} {q:Nat} {x:PairD} (h:Blk w q 188 (zv x).toArray):(LdPr (.pointer (some ⟨q,0,none⟩))).run Tryz.prog w = .ok (.agg (zv x).toArray) w :=
 zcd (P:=Tryz.prog) h 0 (zv x).toArray Tryz.underlying188 rfl zgm (by simp [zv])
structure SidesIn (base l:List FileD):Prop where
 nb:base.length≤1000
 nl:l.length≤1000
 ab:Apt base
 al:Apt l
 fb:Fits base
 fl:Fits l
 kb:zbK base
 kl:zbK l
theorem znm (a b:List FileD):(zT a b).length≤a.length+b.length:=by
 unfold zT;have h1:=List.length_filterMap_le (fun p=>zaH (getF a p) (getF b p)) (zat (a.map (·.p)++b.map (·.p)));have h2:=zc1 (a.map (·.p)++b.map (·.p));rw [List.length_append,List.length_map,List.length_map] at h2;omega
theorem Fits.getP {l:List FileD} (h:Fits l) (s:Pth):(getF l s).p.length≤1000000∧(getF l s).d.length≤1000000:=by
 cases q:hasF l s with
 | false=>rw [zbo q];exact ⟨by decide,by decide⟩
 | true=>exact h.2 _ (zav q).1
theorem SidesIn.det {base l:List FileD} (h:SidesIn base l):DetIn (zT base l) where
 len:=by have:=znm base l;have:=h.nb;have:=h.nl;omega
 old x hx:=by
  obtain ⟨p,_,rfl,_⟩:=zdz.1 hx;exact h.fb.getP p
 new x hx:=by
  obtain ⟨p,_,rfl,_⟩:=zdz.1 hx;exact h.fl.getP p
 n1:=(zkQ (zT base l)).nodup (zdS (zfU h.kb))
 n2:=(zhY (zT base l)).nodup (zdS (zfU h.kb))
def zg2 (base l:List FileD) (B:Nat) (w:World) (e:Ending) (w':World):Prop:=∃q b1 b2 b3 n1 n2 n3 f1 f2 f3,e = .returned (.pointer (some ⟨q,0,none⟩))∧SideM w' B q (zU base l) b1 b2 b3 n1 n2 n3 f1 f2 f3∧(w.heap.size≤q∧w.heap.size≤b1∧w.heap.size≤b2∧w.heap.size≤b3)∧Below w.heap.size w w'
attribute [local go_sem ↓] ld_f zif
theorem zi7 (base l:List FileD) (A1 A2:Option Addr) (c1 c2 B:Nat) (w:World) (hB:B≤w.heap.size) (h1:FI w B A1 base) (h2:FI w B A2 l) (hi:SidesIn base l) :Calls Tryz.prog 68 #[.slice A1 base.length c1,.slice A2 l.length c2] w (zg2 base l B w):=by
 have HP:=zz (show zg2 base l B w=fun e w'=>∃q b1 b2 b3 n1 n2 n3 f1 f2 f3,e = .returned (.pointer (some ⟨q,0,none⟩))∧SideM w' B q (zU base l) b1 b2 b3 n1 n2 n3 f1 f2 f3∧(w.heap.size≤q∧w.heap.size≤b1∧w.heap.size≤b2∧w.heap.size≤b3)∧Below w.heap.size w w' from rfl);rw [HP.out];clear HP;obtain ⟨z,hz⟩:∃z,w.heap.size=z:=⟨_,rfl⟩;have s1:(w.alloc (.map #[] 0)).heap.size=z+1:=by simp [hz]
 have s2:((w.alloc (.map #[] 0)).alloc (.map #[] 0)).heap.size=z+2:=by simp [hz]
 have s3:(((w.alloc (.map #[] 0)).alloc (.map #[] 0)).alloc (.map #[] 0)).heap.size=z+3:=by simp [hz]
 have m1:=@run_makeMap Tryz.prog 166 w;have m2:=@run_makeMap Tryz.prog 224 (w.alloc (.map #[] 0));have m3:=@run_makeMap Tryz.prog 218 ((w.alloc (.map #[] 0)).alloc (.map #[] 0));rw [hz] at m1;rw [s1] at m2;rw [s2] at m3;have v1:VM (((w.alloc (.map #[] 0)).alloc (.map #[] 0)).alloc (.map #[] 0)) z 0 zF:=by rw [←hz];exact ((VM.made w).alloc _).alloc _
 have v2:VM (((w.alloc (.map #[] 0)).alloc (.map #[] 0)).alloc (.map #[] 0)) (z+1) 0 zF:=by rw [←s1];exact (VM.made _).alloc _
 have v3:VM (((w.alloc (.map #[] 0)).alloc (.map #[] 0)).alloc (.map #[] 0)) (z+2) 0 zF:=by rw [←s2];exact VM.made _
 have bb:Below w.heap.size w (((w.alloc (.map #[] 0)).alloc (.map #[] 0)).alloc (.map #[] 0)):=(((Below.refl _ w).alloc (Nat.le_refl _) _).alloc (by simp) _).alloc (by simp;omega) _;have b4:Blk ((((w.alloc (.map #[] 0)).alloc (.map #[] 0)).alloc (.map #[] 0)).alloc (.cells #[.map (some z),.map (some (z+1)),.map (some (z+2))] 226)) (z+3) 226 #[.map (some z),.map (some (z+1)),.map (some (z+2))]:=by rw [←s3];exact Blk.new _ _ _
 have bb4:Below z w ((((w.alloc (.map #[] 0)).alloc (.map #[] 0)).alloc (.map #[] 0)).alloc (.cells #[.map (some z),.map (some (z+1)),.map (some (z+2))] 226)):=hz▸bb.alloc (by simp;omega) _;have HV:=zz (And.intro (v1.alloc (.cells #[.map (some z),.map (some (z+1)),.map (some (z+2))] 226)) (And.intro (v2.alloc (.cells #[.map (some z),.map (some (z+1)),.map (some (z+2))] 226)) (And.intro (v3.alloc (.cells #[.map (some z),.map (some (z+1)),.map (some (z+2))] 226)) (And.intro bb4 b4))));have HH:=zz (And.intro h1 (And.intro h2 (And.intro hi hB)));have HZ:=zz hz;have hnl:=hi.nl;rw [hz];clear v1 v2 v3 bb bb4 b4 h1 h2 hi hB s1 s2 s3 hz;go_enter Tryz.func68,Tryz.ntmps68
 go_upto_region 2 with (refine zC rfl rfl (cs:=#[.map (some z),.map (some (z+1)),.map (some (z+2))]) rfl ?_)
 rw [show w.heap.size+1+1+1=z+3 from by rw [HZ.out]];generalize ((((w.alloc (.map #[] 0)).alloc (.map #[] 0)).alloc (.map #[] 0)).alloc (.cells #[.map (some z),.map (some (z+1)),.map (some (z+2))] 226))=w4 at *;clear m1 m2 m3;have HBZ:=zz (show B≤z from HZ.out▸HH.out.2.2.2)
 go_wp2_with fail
 go_loopw [17] (fun s17 wr=>∃(k n:Nat) (f:Mp),s17 = .int .i64 (k:Nat)∧k≤l.length∧n≤k∧Hid (VM wr z n f)∧Hid (FMap wr B (l.take k) f)∧Hid (Blk wr (z+3) 226 #[.map (some z),.map (some (z+1)),.map (some (z+2))])∧Hid (VM wr (z+1) 0 zF)∧Hid (VM wr (z+2) 0 zF)∧Hid (Below z w wr)) (fun s17 _=>l.length-(intOf s17).toNat)
 case atStart=>exact ⟨0,0,zF,rfl,Nat.zero_le _,Nat.le_refl _,zz HV.out.1,zz (FMap.nil_ _ _),zz HV.out.2.2.2.2,zz HV.out.2.1,zz HV.out.2.2.1,zz HV.out.2.2.2.1⟩
 case round =>
  clear HV;obtain ⟨k,n,f,rfl,hk,hn,HV1,HF,HS,HV2,HV3,HW⟩:=hrel;by_cases hlt:k<l.length
  · obtain ⟨x,hx⟩:∃x,l[k]? = some x:=⟨_,List.getElem?_eq_getElem hlt⟩;obtain ⟨gg,off,DA,dc,rfl,hgB,hload,_,_,_,hfd,hfm,hfr⟩:=(HH.out.2.1.below (HW.out.mono HBZ.out)).at_ hx;have hload:(LdF (.pointer (some ⟨gg,off+k*3,none⟩))).run Tryz.prog wr = .ok (.agg (za x DA dc)) wr:=hload;have i0:(0:Int)≤(k:Int):=by omega
    have i1:(k:Int)<(l.length:Int):=by omega
    have HD:=zz (show zw wr B x (.slice DA x.d.length dc) from ⟨DA,dc,rfl,hfd,hfm,hfr⟩);have HXL:=zz (HH.out.2.2.1.fl.2 x (List.mem_of_getElem? hx)).1;have HTK:=zz (zhv HH.out.2.2.1.al hx);have HTN:=zz (show l.take (k+1)=l.take k++[x] from by rw [List.take_add_one,hx];rfl);clear hx hfd hfm hfr;go_upto_region 5 with (refine zO rfl rfl (vs:=za x DA dc) rfl rfl (Blk.new _ _ _) rfl zaw (zaD _ _ _) ?_;intro w6 hx6 hk6 hz6)
    have HX6:=zz hx6;have HK6:=zz (show Below wr.heap.size wr w6.drew from (Keep.ofNew hk6).all.drew);have HZW:=zz (show z+3<wr.heap.size from HS.out.lt);have HS6:=zz (show Blk w6.drew (z+3) 226 #[.map (some z),.map (some (z+1)),.map (some (z+2))] from HS.out.below HK6.out HS.out.lt);have HV16:=zz (show VM w6.drew z n f from HV1.out.keep (Below.keep_ HK6.out zl) (fun q=>q));have HV26:=zz (show VM w6.drew (z+1) 0 zF from HV2.out.keep (Below.keep_ HK6.out zl) (fun q=>q));have HV36:=zz (show VM w6.drew (z+2) 0 zF from HV3.out.keep (Below.keep_ HK6.out zl) (fun q=>q));have HW6:=zz (show Below z w w6.drew from HW.out.trans (HK6.out.mono (by have:=HZW.out;omega)));have HD6:=zz (show zw w6.drew B x (.slice DA x.d.length dc) from HD.out.below (HK6.out.mono (by have:=HZW.out;have:=HBZ.out;omega)));have HF6:=zz (show FMap w6.drew B (l.take k) f from HF.out.below (HK6.out.mono (by have:=HZW.out;have:=HBZ.out;omega)));obtain ⟨q,hq⟩:∃q,wr.heap.size=q:=⟨_,rfl⟩;rw [hq] at HX6 HZW;simp only [hq]
    try simp only [Act.put]
    have hl6:(LdF (.pointer (some ⟨q,0,none⟩))).run Tryz.prog w6.drew = .ok (.agg (za x DA dc)) w6.drew:=zaC (show Blk w6.drew q 70 _ from HX6.out);have x0:w6.drew.cell? ⟨q,0,none⟩=some (strC x.p):=by have:=HX6.out.cell 0;simpa [za] using this
    have y0:w6.drew.cell? ⟨z+3,0,none⟩=some (.map (some z)):=(HS6.out.cell 0).trans rfl;obtain ⟨w8,hst,hv8,hk8,hz8⟩:=HV16.out.store (s:=x.p) Tryz.underlying166 (by unfold maxLen;omega) (by have:=HXL.out;unfold maxLen;omega) (.agg (za x DA dc));have HV8:=zz hv8;have hzz:z≤w6.drew.heap.size:=HW6.out.size |> fun h=>by rw [HZ.out] at h;exact h
    have hb8:Below z w6.drew w8:=hk8.below hzz (fun j hj q=>by unfold Only at q;omega);have HB8:=zz (show Below z w w8 from HW6.out.trans hb8);have HF8:=zz (show FMap w8 B (l.take (k+1)) (mput f x.p (.agg (za x DA dc))) from by rw [HTN.out];exact (HF6.out.below (hb8.mono HBZ.out)).put HTK.out (HD6.out.below (hb8.mono HBZ.out)));have HS8:=zz (HS6.out.keep hk8 (by unfold Only;omega));have HV28:=zz (HV26.out.keep hk8 (by unfold Only;omega));have HV38:=zz (HV36.out.keep hk8 (by unfold Only;omega));clear hx6 hk6 hz6 hload hv8 hk8 hz8 hzz hb8 hq
    go_region_law (fail)
    all_goals
     go_wp2_with fail
     go_roundw
     case rel=>exact ⟨k+1,_,_,by go_num,hlt,by split <;> omega,HV8,HF8,HS8,HV28,HV38,HB8⟩
     case measure=>simp [intOf];omega
  · obtain rfl:k=l.length:=by omega
    rw [List.take_length] at HF;have HZW:=zz (show z+3<wr.heap.size from HS.out.lt);have hBw:B≤wr.heap.size:=by have:=HZW.out;have:=HBZ.out;omega
    have HDF:=zz (zsA base l A1 _ c1 c2 B wr hBw (HH.out.1.below (HW.out.mono HBZ.out)) (HH.out.2.1.below (HW.out.mono HBZ.out)) HH.out.2.2.1.ab HH.out.2.2.1.al HH.out.2.2.1.fb HH.out.2.2.1.fl);obtain ⟨ps,hps⟩:∃ps,zay (zT base l)=ps:=⟨_,rfl⟩;have HSP:=zz (show zU base l=⟨l,ps⟩ from by unfold zU;rw [hps]);have HND:=zz (show (ps.map (·.old)).Nodup from by rw [←hps];exact (zg9 HH.out.2.2.1.det.n1 HH.out.2.2.1.det.n2).1);have HPL:=zz (show ∀x∈ps,x.old.length≤1000000∧x.new.length≤1000000 from fun x hx=>by
     rw [←hps] at hx;obtain ⟨⟨f1,g1,e1⟩,⟨f2,g2,e2⟩⟩:=zhI hx;rw [←e1,←e2];exact ⟨(HH.out.2.2.1.det.g.2 f1 g1).1,(HH.out.2.2.1.det.c.2 f2 g2).1⟩)
    have HDT:=zz (show ∀(A3:Option Addr) (c3:Nat) (w5:World),CI w5 w5.heap.size A3 (zT base l)→Calls Tryz.prog 106 #[.slice A3 (zT base l).length c3] w5 (fun e w'=>∃A c,e = .returned (.slice A ps.length c)∧PO w' w5.heap.size A c ps∧Below w5.heap.size w5 w') from fun A3 c3 w5 hc=>by
     have h9:=zoU (zT base l) A3 c3 w5.heap.size w5 (Nat.le_refl _) hc HH.out.2.2.1.det;unfold zg4 at h9;rw [hps] at h9;exact h9)
    clear hps hBw
    go_wp2_with (first
     | (go_at_call 107;refine HDF.out.mono ?_;rintro _ w5 ⟨A3,c3,rfl,o3,b3⟩;have HDT5:=zz (HDT.out A3 c3 w5 o3.reads);have HB5:=zz (show Below wr.heap.size wr w5 from b3);clear o3 b3)
     | (go_at_call 106;refine HDT5.out.mono ?_;rintro _ w6 ⟨A5,c5,rfl,o5,b5⟩;have HPO:=zz (show PO w6 z A5 c5 ps from o5.mono (by have:=HZW.out;have:=HB5.out.size;omega));have HB6:=zz (show Below wr.heap.size wr w6 from HB5.out.trans (b5.mono HB5.out.size));clear o5 b5))
    have HZZ:=zz (show z≤wr.heap.size from by have:=HZW.out;omega);have HNL:=zz hn;have HVa:=zz (HV1.out.keep (Below.keep_ HB6.out zl) (fun q=>q));have HVb:=zz (HV2.out.keep (Below.keep_ HB6.out zl) (fun q=>q));have HVc:=zz (HV3.out.keep (Below.keep_ HB6.out zl) (fun q=>q));have HFa:=zz (HF.out.below (HB6.out.mono (Nat.le_trans HBZ.out HZZ.out)));have HSa:=zz (show Blk w6 (z+3) 226 #[.map (some z),.map (some (z+1)),.map (some (z+2))] from HS.out.below HB6.out HS.out.lt);have HWa:=zz (show Below z w w6 from HW.out.trans (HB6.out.mono HZZ.out));have hpm:ps.length≤maxLen:=by have:=Own.cap_le HPO.out;omega
    have hpm2:ps.length≤9223372036854775807:=by have:=hpm;unfold maxLen at this;omega
    have HPM:=zz hpm;clear HV1 HV2 HV3 HF HS HW HB6 HDF HDT HZW HZZ hpm hlt hk hn
    go_wp2_with fail
    go_loopw [34] (fun s34 wr=>∃(k n1 n2 n3:Nat) (f2 f3:Mp),s34 = .int .i64 (k:Nat)∧k≤ps.length∧n2≤k∧n3≤k∧n1≤l.length∧Hid (VM wr (z+1) n2 f2)∧Hid (PMap (ps.take k) f2)∧Hid (VM wr (z+2) n3 f3)∧Hid (WMap (ps.take k) f3)∧Hid (VM wr z n1 f)∧Hid (FMap wr B l f)∧Hid (Blk wr (z+3) 226 #[.map (some z),.map (some (z+1)),.map (some (z+2))])∧Hid (PO wr z A5 c5 ps)∧Hid (Below z w wr)) (fun s34 _=>ps.length-(intOf s34).toNat)
    case atStart=>exact ⟨0,n,0,0,zF,zF,rfl,Nat.zero_le _,Nat.le_refl _,Nat.le_refl _,HNL.out,HVb,zz PMap.nil_,HVc,zz WMap.nil_,HVa,HFa,HSa,HPO,HWa⟩
    case round =>
     clear HVa HVb HVc HFa HSa HPO HWa;obtain ⟨k,n1,n2,n3,f2,f3,rfl,hk,hn2,hn3,hn1,HV2,HP2,HV3,HW3,HV1,HF,HS,HPO,HW⟩:=hrel;by_cases hlt:k<ps.length
     · obtain ⟨x,hx⟩:∃x,ps[k]? = some x:=⟨_,List.getElem?_eq_getElem hlt⟩;obtain ⟨gg,off,rfl,hload⟩:=HPO.out.get hx;have i0:(0:Int)≤(k:Int):=by omega
       have i1:(k:Int)<(ps.length:Int):=by omega
       have HXL:=zz (HPL.out x (List.mem_of_getElem? hx));have HTN:=zz (show ps.take (k+1)=ps.take k++[x] from by rw [List.take_add_one,hx];rfl);have HNE:=zz (show ∀y∈ps.take k,y.old≠x.old from fun y hy e=>by
        have h9:((ps.take (k+1)).map (·.old)).Nodup:=((List.take_sublist (k+1) ps).map _).nodup HND.out;rw [HTN.out,List.map_append,List.nodup_append] at h9;exact h9.2.2 _ (List.mem_map.2 ⟨y,hy,rfl⟩) _ (by simp) e)
       clear hx;go_upto_region 10 with (refine zO rfl rfl (vs:=(zv x).toArray) rfl rfl (Blk.new _ _ _) rfl zgm (by simpa using zdx x) ?_;intro w6 hx6 hk6 hz6)
       have HX6:=zz hx6;have HK6:=zz (show Below wr.heap.size wr w6.drew from (Keep.ofNew hk6).all.drew);have HZW:=zz (show z+3<wr.heap.size from HS.out.lt);have HS6:=zz (show Blk w6.drew (z+3) 226 #[.map (some z),.map (some (z+1)),.map (some (z+2))] from HS.out.below HK6.out HS.out.lt);have HV16:=zz (show VM w6.drew z n1 f from HV1.out.keep (Below.keep_ HK6.out zl) (fun q=>q));have HV26:=zz (show VM w6.drew (z+1) n2 f2 from HV2.out.keep (Below.keep_ HK6.out zl) (fun q=>q));have HV36:=zz (show VM w6.drew (z+2) n3 f3 from HV3.out.keep (Below.keep_ HK6.out zl) (fun q=>q));have HW6:=zz (show Below z w w6.drew from HW.out.trans (HK6.out.mono (by have:=HZW.out;omega)));have HF6:=zz (show FMap w6.drew B l f from HF.out.below (HK6.out.mono (by have:=HZW.out;have:=HBZ.out;omega)));have HPO6:=zz (show PO w6.drew z _ c5 ps from HPO.out.keepB HK6.out);obtain ⟨q,hq⟩:∃q,wr.heap.size=q:=⟨_,rfl⟩;rw [hq] at HX6 HZW;simp only [hq]
       try simp only [Act.put]
       have hl6:(LdPr (.pointer (some ⟨q,0,none⟩))).run Tryz.prog w6.drew = .ok (.agg (zv x).toArray) w6.drew:=ztL (show Blk w6.drew q 188 _ from HX6.out);have x0:w6.drew.cell? ⟨q,0,none⟩=some (strC x.old):=by have:=HX6.out.cell 0;simpa [zv] using this
       have y0:w6.drew.cell? ⟨z+3,1,none⟩=some (.map (some (z+1))):=(HS6.out.cell 1).trans rfl;obtain ⟨w8,hst,hv8,hk8,hz8⟩:=HV26.out.store (s:=x.old) Tryz.underlying224 (by have:=HPM.out;omega) (by have:=HXL.out.1;unfold maxLen;omega) (.agg (zv x).toArray);have hzz:z≤w6.drew.heap.size:=HW6.out.size |> fun h=>by rw [HZ.out] at h;exact h
       have hb8:Below z w6.drew w8.drew:=(hk8.below hzz (fun j hj q=>by unfold Only at q;omega)).drew;have HV28:=zz (show VM w8.drew (z+1) _ _ from hv8);have HV18:=zz (show VM w8.drew z n1 f from (show VM w8 z n1 f from HV16.out.keep hk8 (by unfold Only;omega)));have HV38:=zz (show VM w8.drew (z+2) n3 f3 from (show VM w8 (z+2) n3 f3 from HV36.out.keep hk8 (by unfold Only;omega)));have HS8:=zz (show Blk w8.drew (z+3) 226 #[.map (some z),.map (some (z+1)),.map (some (z+2))] from (show Blk w8 (z+3) _ _ from HS6.out.keep hk8 (by unfold Only;omega)));have HX8:=zz (show Blk w8.drew q 188 (zv x).toArray from (show Blk w8 q _ _ from (show Blk w6.drew q 188 (zv x).toArray from HX6.out).keep hk8 (by unfold Only;have:=HZW.out;omega)));have HPO8:=zz (show PO w8.drew z _ c5 ps from (show PO w8 z _ c5 ps from zdm HPO6.out HV26.out hk8));have x1:w8.drew.cell? ⟨q,1,none⟩=some (strC x.new):=by have:=HX8.out.cell 1;simpa [zv] using this
       have y1:w8.drew.cell? ⟨z+3,2,none⟩=some (.map (some (z+2))):=(HS8.out.cell 2).trans rfl;obtain ⟨w9,hst2,hv9,hk9,hz9⟩:=HV38.out.store (s:=x.new) Tryz.underlying218 (by have:=HPM.out;omega) (by have:=HXL.out.2;unfold maxLen;omega) (.int .i64 (k:Nat));have hzz8:z≤w8.drew.heap.size:=Nat.le_trans hzz hb8.size;have hb9:Below z w8.drew w9:=hk9.below hzz8 (fun j hj q=>by unfold Only at q;omega);have HV39:=zz hv9;have HV19:=zz (HV18.out.keep hk9 (by unfold Only;omega));have HV29:=zz (HV28.out.keep hk9 (by unfold Only;omega));have HS9:=zz (HS8.out.keep hk9 (by unfold Only;omega));have HPO9:=zz (show PO w9 z _ c5 ps from zdm HPO8.out HV38.out hk9);have HW9:=zz (show Below z w w9 from (HW6.out.trans hb8).trans hb9);have HF9:=zz (HF6.out.below ((hb8.trans hb9).mono HBZ.out));have HP9:=zz (show PMap (ps.take (k+1)) (mput f2 x.old (.agg (zv x).toArray)) from by rw [HTN.out];exact HP2.out.put HNE.out);have HW39:=zz (show WMap (ps.take (k+1)) (mput f3 x.new (.int .i64 (k:Nat))) from by rw [HTN.out];exact HW3.out.put x _);clear hx6 hk6 hz6 hload hv8 hk8 hz8 hzz hb8 hq hv9 hk9 hz9 hzz8 hb9
       go_region_law (fail)
       all_goals
        go_wp2_with fail
        go_region_law (fail)
        all_goals
         go_wp2_with fail
         go_roundw
         case rel=>exact ⟨k+1,n1,_,_,_,_,by go_num,hlt,by split <;> omega,by split <;> omega,hn1,HV29,HP9,HV39,HW39,HV19,HF9,HS9,HPO9,HW9⟩
         case measure=>simp [intOf];omega
     · obtain rfl:k=ps.length:=by omega
       rw [List.take_length] at HP2 HW3
       go_wp2_with fail
       go_ret
       exact ⟨z+3,⟨z,z+1,z+2,n1,n2,n3,f,f2,f3,rfl,by rw [HSP.out];exact ⟨HS.out,HV1.out,HV2.out,HV3.out,HF.out,HP2.out,HW3.out,hn1⟩,⟨by omega,by omega,by omega,by omega⟩,HW.out⟩⟩
end Go.Proofs.YtmkmbbjgepcioaaGreatDoor
