/- Contract of tree.Diff. No statement of the seat is proved here. -/
import Derived.Test.YtmkmbbjgepcioaaGreatDoorSAHq
import Derived.Test.YtmkmbbjgepcioaaGreatDoorSA12
import Derived.Deep.QuietTactic
import Derived.BigRegion
import Derived.BigQuiet
import Derived.Deep.DeepCutAuto
import Derived.Deep.CutBlock
namespace Go.Proofs.YtmkmbbjgepcioaaGreatDoor
set_option maxHeartbeats 4000000
set_option maxRecDepth 100000
open Go.RowKit Go.Maps
def LdF (v:Value):Sem Value:=Instr.loadAt 70 v
theorem ld_f (v:Value):Instr.loadAt 70 v=LdF v:=rfl
def BdC (ps:Array (Nat×Value)):Sem Value:=Instr.build 183 ps
theorem bd_c (ps:Array (Nat×Value)):Instr.build 183 ps=BdC ps:=rfl
def SlC (n:Nat) (ps:Array (Nat×Value)):Sem Value:=Instr.buildSlice 115 n ps
theorem sl_c (n:Nat) (ps:Array (Nat×Value)):Instr.buildSlice 115 n ps=SlC n ps:=rfl
theorem zjT (o n:FileD):zaH o n=if (zaH o n).isSome=true then some ⟨o,n⟩ else none:=by
 unfold zaH
 split <;> rfl
theorem zjw (o n:FileD):(zaH o n).isSome=(o.k !=n.k||!decide (o.d=n.d)):=by
 unfold zaH;by_cases h1:o.k=n.k
 · by_cases h2:o.d=n.d
   · simp [h1,h2]
   · simp [h1,h2]
 · simp [h1]
def Fits (l:List FileD):Prop:=l.length≤1000000∧∀f∈l,f.p.length≤1000000∧f.d.length≤1000000
theorem Fits.get {l:List FileD} (h:Fits l) (s:Pth):(getF l s).d.length≤1000000:=by
 cases q:hasF l s with
 | false=>rw [zbo q];decide
 | true=>exact (h.2 _ (zav q).1).2
attribute [local go_sem ↓] ld_f bd_c sl_c
def ziD (a b:List FileD) (w:World) (e:Ending) (w':World):Prop:=∃A c,e = .returned (.slice A (zT a b).length c)∧ChO w' w.heap.size A c (zT a b)∧Below w.heap.size w w'
theorem zsA (a b:List FileD) (A1 A2:Option Addr) (c1 c2 B:Nat) (w:World) (hB:B≤w.heap.size) (h1:FI w B A1 a) (h2:FI w B A2 b) (ha:Apt a) (hb:Apt b) (hfa:Fits a) (hfb:Fits b) :Calls Tryz.prog 107 #[.slice A1 a.length c1,.slice A2 b.length c2] w (ziD a b w):=by
 have HP:=zz (show ziD a b w=fun e w'=>∃A c,e = .returned (.slice A (zT a b).length c)∧ChO w' w.heap.size A c (zT a b)∧Below w.heap.size w w' from rfl);rw [HP.out];clear HP;have HDK:=zz (show ∀ks:List Pth,zae ks→(∀s,s∈ks↔(hasF a s||hasF b s)=true)→zT a b=ks.filterMap fun p=>zaH (getF a p) (getF b p) from fun ks h hm=>zmR h hm);generalize zT a b=R at *;have H1:=zz h1;have H2:=zz h2;have HA:=zz ha;have HBB:=zz hb;have HFA:=zz hfa;have HFB:=zz hfb;have hal:=hfa.1;have hbl:=hfb.1;clear h1 h2 ha hb hfa hfb;have hmm:=@run_makeMap Tryz.prog;go_enter Tryz.func107,Tryz.ntmps107
 go_wp2_with fail
 go_loopw [18] (fun s18 wr=>∃(k n:Nat) (f:Mp),s18 = .int .i64 (k:Nat)∧k≤a.length∧n≤k∧Hid (VM wr w.heap.size n f)∧Hid (ChM wr B (a.take k) [] f)∧Hid (Below w.heap.size w wr)) (fun s18 _=>a.length-(intOf s18).toNat)
 case atStart=>exact ⟨0,0,zF,rfl,Nat.zero_le _,Nat.le_refl _,zz (VM.made w),zz (by rw [List.take_zero];exact ChM.nil_ _ _),zz ((Below.refl _ _).alloc (Nat.le_refl _) _)⟩
 case round =>
  obtain ⟨k,n,f,rfl,hk,hn,HV,HC,HW⟩:=hrel;by_cases hlt:k<a.length
  · obtain ⟨x,hx⟩:∃x,a[k]? = some x:=⟨_,List.getElem?_eq_getElem hlt⟩;obtain ⟨g,off,DA,dc,rfl,hg,hload,_,_,_,_,_,hrd⟩:=(H1.out.below (HW.out.mono hB)).at_ hx;have HLD:=zz hload;have HRD:=zz hrd;have HX:=zz hx;have i0:(0:Int)≤(k:Int):=by omega
    have i1:(k:Int)<(a.length:Int):=by omega
    have HAT:=zz (zhv HA.out hx);have HXL:=zz (HFA.out.2 x (List.mem_of_getElem? hx));clear hload hrd hx
    go_wp2_with (first|(with_reducible refine zad rfl rfl rfl HLD.out ?_)|(refine zO rfl rfl (vs:=za x DA dc) rfl rfl (Blk.new _ _ _) rfl zaw (zaD x DA dc) ?_;intro w5 hx5 hk5 hz5;have HQ5:=zz (zaC hx5);have HK5:=zz (show Keep zl wr w5 from Keep.ofNew hk5);have f0:=hx5.cell 0;simp [za] at f0;obtain ⟨w6,hst,hv6,hk6,hz6⟩:=(HV.out.keep HK5.out (fun q=>q)).store (s:=x.p) Tryz.underlying270 (by unfold maxLen;omega) (by have:=HXL.out;unfold maxLen;omega) (.agg (chgC ⟨x,zbJ⟩ (.slice DA x.d.length dc) (.slice none 0 0)));have HV6:=zz hv6;have HB6:=zz (show Below w.heap.size wr w6 from (HK5.out.all.mono HW.out.size).trans (hk6.below (by have:=HW.out.size;have:=HK5.out.size;omega) (fun j hj q=>by unfold Only at q;omega)));clear hx5 hk5 hz5 hv6 hk6)|(with_reducible refine zad rfl rfl rfl HQ5.out ?_)|(refine znU rfl rfl (vs:=#[(0,.agg (za x DA dc))]) rfl (zt9 _ _ _ _) ?_))
    go_roundw
    case rel=>exact ⟨k+1,_,_,by go_num,hlt,by split <;> omega,HV6,zz (by rw [List.take_add_one,HX.out];exact (HC.out.below (HB6.out.mono hB)).putA HAT.out (HRD.out.below (HB6.out.mono hB))),zz (HW.out.trans HB6.out)⟩
    case measure=>simp [intOf];omega
  · obtain rfl:k=a.length:=by omega
    rw [List.take_length] at HC
    go_wp2_with fail
    clear hlt hk HA H1
    go_loopw [30] (fun s30 wr=>∃(k n:Nat) (f:Mp),s30 = .int .i64 (k:Nat)∧k≤b.length∧n≤1000000+k∧Hid (VM wr w.heap.size n f)∧Hid (ChM wr B a (b.take k) f)∧Hid (Below w.heap.size w wr)) (fun s30 _=>b.length-(intOf s30).toNat)
    case atStart=>exact ⟨0,n,f,rfl,Nat.zero_le _,by omega,HV,zz (by rw [List.take_zero];exact HC.out),HW⟩
    case round =>
     clear HV HC HW hn;obtain ⟨k,n,f,rfl,hk,hn,HV,HC,HW⟩:=hrel;by_cases hlt:k<b.length
     · obtain ⟨x,hx⟩:∃x,b[k]? = some x:=⟨_,List.getElem?_eq_getElem hlt⟩;obtain ⟨g,off,DA,dc,rfl,hg,hload,_,_,_,_,_,hrd⟩:=(H2.out.below (HW.out.mono hB)).at_ hx;have HLD:=zz hload;have HRD:=zz hrd;have HX:=zz hx;have i0:(0:Int)≤(k:Int):=by omega
       have i1:(k:Int)<(b.length:Int):=by omega
       have HAT:=zz (zhv HBB.out hx);have HXL:=zz (HFB.out.2 x (List.mem_of_getElem? hx));obtain ⟨oA,oc,nA,nc,hget,hro,_⟩:=HC.out.get x.p;rw [zbo HAT.out] at hget;have HPT:=zz (fun W (hW:Below B wr W) (hr:ze W B 1 DA x.d.length (x.d.map zh))=>(HC.out.below hW).putB (c:=dc) (oc:=oc) HAT.out hr (hro.below hW));obtain ⟨o,ho⟩:∃o,getF a x.p=o:=⟨_,rfl⟩;rw [ho] at hget hro HPT;have HGT:=zz hget;clear hload hrd hx hget hro ho HC
       go_wp2_with (first
        | (with_reducible refine zad rfl rfl rfl HLD.out ?_)
        | (refine zO rfl rfl (vs:=za x DA dc) rfl rfl (Blk.new _ _ _) rfl zaw (zaD x DA dc) ?_;intro w5 hx5 hk5 hz5;have HX5:=zz hx5;have HK5:=zz (show Keep zl wr w5 from Keep.ofNew hk5);have f0:=hx5.cell 0;simp [za] at f0;have hlk:=(HV.out.keep HK5.out (fun q=>q)).look (s:=x.p) Tryz.underlying270 (zgO _) (by have:=HXL.out;unfold maxLen;omega);rw [HGT.out] at hlk;have HN6:=zz (show Blk (w5.alloc (.cells #[.string ⟨#[]⟩,.int .i64 0,.slice none 0 0,.string ⟨#[]⟩,.int .i64 0,.slice none 0 0] 183)) (wr.heap.size+1) 183 #[.string ⟨#[]⟩,.int .i64 0,.slice none 0 0,.string ⟨#[]⟩,.int .i64 0,.slice none 0 0] from by { have:=Blk.new w5 183 #[.string ⟨#[]⟩,.int .i64 0,.slice none 0 0,.string ⟨#[]⟩,.int .i64 0,.slice none 0 0];rw [hz5] at this;simpa using this });have HZ5:=zz hz5;clear hx5 hk5)
        | (refine zO rfl rfl (vs:=chgC ⟨o,zbJ⟩ (.slice oA o.d.length oc) (.slice nA zbJ.d.length nc)) rfl rfl HN6.out rfl zea (zfk _ rfl rfl) ?_;intro w6 hx6 hk6 hz6;have HX6:=zz hx6;have HK6:=zz (show Keep zl w5 w6 from Keep.ofNew (by rw [HZ5.out];simpa using hk6));have HQ6:=zz (zaC (HX5.out.keep HK6.out (fun q=>q)));clear hx6 hk6 HN6)
        | (with_reducible refine zad rfl rfl rfl HQ6.out ?_)
        | (refine znx rfl rfl (q:=wr.heap.size+1) (off:=3) (vs:=za x DA dc) rfl rfl HX6.out (by simp [chgC,za]) zaw (zaD x DA dc) ?_;intro w7 hx7 hk7 hz7;have hx7':Blk w7 (wr.heap.size+1) 183 (chgC ⟨o,x⟩ (.slice oA o.d.length oc) (.slice DA x.d.length dc)):=hx7;have HQ7:=zz (zph hx7');have f7:=((HX5.out.keep HK6.out (fun q=>q)).keep hk7 (by unfold Only;omega)).cell 0;simp [za] at f7;have HK7:=zz (show Keep zl wr w7 from (HK5.out.trans HK6.out).then_ hk7 (by intro i hi q;unfold Only at q;omega));obtain ⟨w8,hst,hv8,hk8,hz8⟩:=(HV.out.keep HK7.out (fun q=>q)).store (s:=x.p) Tryz.underlying270 (by unfold maxLen;omega) (by have:=HXL.out;unfold maxLen;omega) (.agg (chgC ⟨o,x⟩ (.slice oA o.d.length oc) (.slice DA x.d.length dc)));have HV8:=zz hv8;have HB8:=zz (show Below w.heap.size wr w8 from (HK7.out.all.mono HW.out.size).trans (hk8.below (by have:=HW.out.size;have:=HK7.out.size;omega) (fun j hj q=>by unfold Only at q;omega)));clear hx7 hx7' hk7 hz7 hv8 hk8)
        | (with_reducible refine zad rfl rfl rfl HQ7.out ?_))
       go_roundw
       case rel=>exact ⟨k+1,_,_,by go_num,hlt,by split <;> omega,HV8,zz (by rw [List.take_add_one,HX.out];exact HPT.out _ (HB8.out.mono hB) (HRD.out.below (HB8.out.mono hB))),zz (HW.out.trans HB8.out)⟩
       case measure=>simp [intOf];omega
     · obtain rfl:k=b.length:=by omega
       rw [List.take_length] at HC;clear hlt hk HBB H2;have HCM:=zz HC.out.1
       go_wp2_with (first
        | (go_at_call 149;refine (zs7 (some w.heap.size) wr).mono ?_;rintro _ w1 ⟨rfl,rfl⟩)
        | (go_at_call 114;refine (zoR HV.out (by omega)).mono ?_))
       rintro _ w2 ⟨ks,A4,c4,rfl,hrise,hmem,hown,hbel⟩;have HW2:=zz (show Below wr.heap.size wr w2 from ((Below.refl _ wr).alloc (Nat.le_refl _) _).trans (hbel.mono (by simp)));have HKS:=zz hown.reads;have HR:=zz (HDK.out ks hrise fun s=>by rw [hmem,HCM.out]);have HV2:=zz (show VM w2 w.heap.size n f from HV.out.keep (Below.keep_ HW2.out zl) (fun q=>q));have HC2:=zz (show ChM w2 B a b f from HC.out.below (HW2.out.mono (Nat.le_trans hB HW.out.size)));have HB2:=zz (show Below w.heap.size w w2 from HW.out.trans (HW2.out.mono HW.out.size));have HKL:=zz (show ∀p∈ks,p.length≤maxLen from fun p hp=>by
        have:=(hmem p).1 hp;rw [HCM.out,Bool.or_eq_true,zaa,zaa] at this;unfold maxLen
        rcases this with ⟨g,hg,rfl⟩|⟨g,hg,rfl⟩
        · have:=(HFA.out.2 g hg).1;omega
        · have:=(HFB.out.2 g hg).1;omega)
       have HKN:=zz (show ks.length≤2000000 from by
        have e1:zat (a.map (·.p)++b.map (·.p))=ks:=zda (zbI _) hrise fun x=>by
         rw [zbm,hmem,HCM.out,Bool.or_eq_true,List.mem_append,zaa,zaa,List.mem_map,List.mem_map]
        have e2:=zc1 (a.map (·.p)++b.map (·.p));rw [e1,List.length_append,List.length_map,List.length_map] at e2;omega)
       have HGA:=zz (fun s=>HFA.out.get s);have HGB:=zz (fun s=>HFB.out.get s);clear hrise hmem hown hbel HV HC HW HW2 HDK HCM HFA HFB hn
       go_wp2_with fail
       go_loopw [11,49] (fun s11 s49 wr=>∃(k:Nat) (l:List ChangeD) (A6:Option Addr) (c6:Nat),s11 = .slice A6 l.length c6∧s49 = .int .i64 (k:Nat)∧k≤ks.length∧l.length≤k∧Hid (l++(ks.drop k).filterMap (fun p=>zaH (getF a p) (getF b p))=R)∧Hid (ChO wr w2.heap.size A6 c6 l)∧Hid (Below w2.heap.size w2 wr)) (fun _ s49 _=>ks.length-(intOf s49).toNat)
       case atStart=>exact ⟨0,[],none,0,rfl,rfl,Nat.zero_le _,Nat.zero_le _,zz (by rw [List.drop_zero];exact HR.out.symm),zz (ChO.nil_ _ _),zz (Below.refl _ _)⟩
       case round =>
        obtain ⟨k,l,A6,c6,rfl,rfl,hk,hlk,HL,HO,HW⟩:=hrel;have hkn:=HKN.out;by_cases hlt:k<ks.length
        · obtain ⟨p,hp⟩:∃p,ks[k]? = some p:=⟨_,List.getElem?_eq_getElem hlt⟩;obtain ⟨g4,f4,rfl,_,hc4⟩:=(HKS.out.below HW.out).at0 (by omega) (by omega);have d4:=hc4 k (strC p) (by simp [strL,hp,strC]);have i0:(0:Int)≤(k:Int):=by omega
          have i1:(k:Int)<(ks.length:Int):=by omega
          have hkl:=HKL.out p (List.mem_of_getElem? hp);have hv:=HV2.out.keep (Below.keep_ HW.out zl) (fun q=>q);have hlook:=hv.look (s:=p) Tryz.underlying270 (zgO _) hkl;obtain ⟨oA,oc,nA,nc,hget,hro,hrn⟩:=(HC2.out.below (HW.out.mono (Nat.le_trans hB HB2.out.size))).get p;rw [hget] at hlook;have HLN:=zz (show l++((zaH (getF a p) (getF b p)).toList++(ks.drop (k+1)).filterMap (fun p=>zaH (getF a p) (getF b p)))=R from by
           have:=HL.out;rw [show ks.drop k=p::ks.drop (k+1) from List.drop_eq_getElem?_toList_append.trans (by rw [hp];rfl),List.filterMap_cons] at this
           cases hc:zaH (getF a p) (getF b p) with
           | none=>rw [hc] at this;exact this
           | some x=>rw [hc] at this;exact this)
          have hoL:=HGA.out p;have hnL:=HGB.out p;have HRO:=zz hro;have HRN:=zz hrn;generalize getF a p=o at *;generalize getF b p=n' at *;clear hc4 hv hro hrn hget HL hkl;go_upto_region 19 with (refine zO rfl rfl (vs:=chgC ⟨o,n'⟩ (.slice oA o.d.length oc) (.slice nA n'.d.length nc)) rfl rfl (Blk.new _ _ _) rfl zea (zfk _ rfl rfl) ?_;intro w6 hx6 hk6 hz6)
          have HX6:=zz hx6;have HK6:=zz (show Keep zl wr w6 from Keep.ofNew hk6);have HW6:=zz (show Below w2.heap.size w2 w6 from HW.out.trans (HK6.out.all.mono HW.out.size));have HO6:=zz (show ChO w6 w2.heap.size A6 c6 l from HO.out.keepB HK6.out.all);have HRO6:=zz (show ze w6 B 1 oA o.d.length (o.d.map zh) from HRO.out.below (HK6.out.all.mono (Nat.le_trans hB (Nat.le_trans HB2.out.size HW.out.size))));have HRN6:=zz (show ze w6 B 1 nA n'.d.length (n'.d.map zh) from HRN.out.below (HK6.out.all.mono (Nat.le_trans hB (Nat.le_trans HB2.out.size HW.out.size))));have HBQ:=zz (show Calls Tryz.prog 150 #[.slice oA o.d.length oc,.slice nA n'.d.length nc] w6 (fun e w'=>e = .returned (.bool (decide (o.d=n'.d)))∧w'=w6) from zdT HRO6.out HRN6.out);have x1:=hx6.cell 1;have x2:=hx6.cell 2;have x4:=hx6.cell 4;have x5:=hx6.cell 5;simp [chgC] at x1 x2 x4 x5;have HQ:=zz (show w.heap.size≤w2.heap.size∧B≤w6.heap.size from ⟨HB2.out.size,Nat.le_trans hB (Nat.le_trans HB2.out.size HW6.out.size)⟩);generalize wr.heap.size=q at *;clear hx6 hk6 hz6 HRO HRN HO HW HK6 hlook d4;simp only [Act.put]
          go_cut [72] (fun s72 wx=>s72 = .bool (zaH o n').isSome∧wx=w6)
          case first =>
           cases hkk:(o.k !=n'.k) with
           | true =>
            go_wp2_with fail
            go_meet
            exact ⟨by rw [zjw,hkk];rfl,rfl⟩
           | false =>
            go_wp2_with (go_at_call 150;refine HBQ.out.mono ?_;rintro _ _ ⟨rfl,rfl⟩)
            go_meet
            exact ⟨by rw [zjw,hkk];rfl,rfl⟩
          case rest =>
           obtain ⟨rfl,rfl⟩:=hcut;clear x1 x2 x4 x5 HBQ;have HCP:=zz (zjT o n')
           cases hch:(zaH o n').isSome with
           | false =>
            rw [hch] at HCP
            go_wp2_with fail
            go_roundw
            case rel=>exact ⟨k+1,l,A6,c6,rfl,by go_num,hlt,by omega,zz (by have:=HLN.out;rw [HCP.out] at this;exact this),HO6,HW6⟩
            case measure=>simp [intOf];omega
           | true =>
            have HLO:=zz (show l++([⟨o,n'⟩]++(ks.drop (k+1)).filterMap (fun p=>zaH (getF a p) (getF b p)))=R from by
             have:=HLN.out;rw [zjT,hch,if_pos rfl] at this;exact this)
            clear HCP HLN;have HX:=HX6.out;obtain ⟨tv,ht1,ht2,ht3⟩:=HO6.out;have HT2:=zz ht2;have HT1:=zz ht1;have HM:=zz (show l.length+1≤maxLen∧(l.length+1)*96≤140737488355328 from by have:=HKN.out;unfold maxLen;omega);have HT3:=zz ht3;have hl1:∀W,Below wc.heap.size wc W→(LdF (.pointer (some ⟨q,0,none⟩))).run Tryz.prog W = .ok (.agg (za o oA oc)) W:=fun W hW=>zf6 (HX.below hW HX.lt);have hl2:∀W,Below wc.heap.size wc W→(LdF (.pointer (some ⟨q,3,none⟩))).run Tryz.prog W = .ok (.agg (za n' nA nc)) W:=fun W hW=>zgD (HX.below hW HX.lt);have hd1:=hl1 wc.drew (Below.refl _ wc).drew;have hd2:=hl2 wc.drew (Below.refl _ wc).drew;have HL1:=zz hl1;have HL2:=zz hl2;have hbd:∀(A A':Option Addr) (c c':Nat) (W:World),(BdC #[(0,.agg (za o A c)),(1,.agg (za n' A' c'))]).run Tryz.prog W = .ok (.agg (chgC ⟨o,n'⟩ (.slice A o.d.length c) (.slice A' n'.d.length c'))) W:=fun A A' c c' W=>znt o n' A A' c c' W;have hbs:∀(A A':Option Addr) (c c':Nat) (W:World),(SlC 1 #[(0,.agg (chgC ⟨o,n'⟩ (.slice A o.d.length c) (.slice A' n'.d.length c')))]).run Tryz.prog W = .ok (.slice (some ⟨W.heap.size,0,none⟩) 1 1) (W.alloc (.cells (chgC ⟨o,n'⟩ (.slice A o.d.length c) (.slice A' n'.d.length c')) 183)):=fun A A' c c' W=>zbU zkg zgO rfl rfl (by omega) W;have HOO:=zz (fun W (hW:Below wc.heap.size wc W)=>zku o oA oc B W (Nat.le_trans HQ.out.2 hW.size) (HRO6.out.below (hW.mono HQ.out.2)) (Nat.le_trans hoL (by decide)));have HON:=zz (fun W (hW:Below wc.heap.size wc W)=>zku n' nA nc B W (Nat.le_trans HQ.out.2 hW.size) (HRN6.out.below (hW.mono HQ.out.2)) (Nat.le_trans hnL (by decide)));clear ht1 ht2 ht3 hl1 hl2 HX HX6 hch
            go_wp2_with fail
            go_region_law (first
             | (go_simp;go_at_call 151;refine (HOO.out _ (by first|exact (Below.refl _ wc).drew|exact (Below.refl _ wc).drew.drew)).mono ?_;rintro _ w7 ⟨A7,c7,rfl,o7,b7⟩;have HO7:=zz o7;have HB7:=zz (show Below wc.heap.size wc w7 from (Below.refl _ wc).drew.trans b7);have hd7:=HL2.out _ HB7.out;clear o7 b7)
             | (go_simp;go_at_call 151;refine (HON.out _ HB7.out).mono ?_;rintro _ w8 ⟨A8,c8,rfl,o8,b8⟩;have HB8:=zz (show Below wc.heap.size wc w8 from HB7.out.trans (b8.mono HB7.out.size));have HD8:=zz (show za4 w8 w2.heap.size o (.slice A7 o.d.length c7)∧za4 w8 w2.heap.size n' (.slice A8 n'.d.length c8) from ⟨⟨A7,c7,rfl,Own.mono (Own.kept (b':=0) (E:=[]) (G:=[]) HO7.out (Kept.ofBelow b8) (by simp) (by simp)) HW6.out.size⟩,⟨A8,c8,rfl,Own.mono o8 (Nat.le_trans HW6.out.size HB7.out.size)⟩⟩);clear o8 b8)
             | (refine zdZ (by rfl) zkg (by rfl) (by rfl) (n:=l.length) (xs:=chgL l tv) ((Own.kept (b':=0) (E:=[]) (G:=[]) HT2.out (Kept.ofBelow HB8.out) (by simp) (by simp)).alloc _) (by rfl) (ze.of_blk (n:=1) (xs:=(chgC ⟨o,n'⟩ (.slice A7 o.d.length c7) (.slice A8 n'.d.length c8)).toList) (heap_alloc_new _ _) rfl rfl) (zfk _ rfl rfl) HM.out.1 HM.out.2 (by have:=HW6.out.size;have:=HB8.out.size;simp;omega) ?_;intro A9 c9 w9 o9 k9;have O9:=zz o9;have K9:=zz k9;clear o9 k9))
            all_goals
             have HO9:=zz (ChO.snoc (x:=⟨o,n'⟩) (y:=(.slice A7 o.d.length c7,.slice A8 n'.d.length c8)) HT1.out (fun i x y e1 e2=>⟨(HT3.out i x y e1 e2).1.kept (b:=0) (E:=[]) (Kept.ofBelow HB8.out) (by simp),(HT3.out i x y e1 e2).2.kept (b:=0) (E:=[]) (Kept.ofBelow HB8.out) (by simp)⟩) HD8.out O9.out (((Kept.refl _ _ _ _).alloc _).trans K9.out));have HB9:=zz (show Below w2.heap.size w2 w9 from ((HW6.out.trans (HB8.out.mono HW6.out.size)).alloc (Nat.le_trans HW6.out.size HB8.out.size) _).trans (K9.out.below (Nat.le_refl _) (by have:=HW6.out.size;have:=HB8.out.size;simp;omega) (by simp)))
             go_wp2_with fail
             go_roundw
             case rel=>exact ⟨k+1,l++[⟨o,n'⟩],A9,c9,by rw [List.length_append];rfl,by go_num,hlt,by rw [List.length_append,List.length_singleton];omega,zz (by rw [List.append_assoc];exact HLO.out),HO9,HB9⟩
             case measure=>simp [intOf];omega
        · obtain rfl:k=ks.length:=by omega
          have hL:=HL.out;rw [List.drop_length,List.filterMap_nil,List.append_nil] at hL;subst hL
          go_wp2_with fail
          go_ret
          exact ⟨A6,c6,rfl,HO.out.mono HB2.out.size,HB2.out.trans (HW.out.mono HB2.out.size)⟩
end Go.Proofs.YtmkmbbjgepcioaaGreatDoor
