/- Contract of the law's Good. No statement of the seat is proved here. -/
import Derived.Test.YtmkmbbjgepcioaaGreatDoorSAHq
import Derived.Test.YtmkmbbjgepcioaaGreatDoorSA28
import Derived.Test.YtmkmbbjgepcioaaGreatDoorSAZy
namespace Go.Proofs.YtmkmbbjgepcioaaGreatDoor
set_option maxHeartbeats 8000000
set_option maxRecDepth 100000
open Go.RowKit Go.Maps
def kG (f:FileD) (l:List FileD):Nat:=(l.takeWhile fun g=>decide (g.p<f.p)).length
theorem zjM (f:FileD):∀l:List FileD,insG f l=l.take (kG f l)++[f]++l.drop (kG f l)
 | []=>rfl
 | g::l=>by
  unfold insG kG;by_cases h:g.p<f.p
  · rw [if_pos h,List.takeWhile_cons_of_pos (by simpa using h),zjM f l];rfl
  · rw [if_neg h,List.takeWhile_cons_of_neg (by simpa using h)];rfl
theorem zk6 (f:FileD) (l:List FileD):kG f l≤l.length:=(List.takeWhile_sublist _).length_le
theorem zld (f g:FileD) (l:List FileD):kG f (g::l)=if g.p<f.p then kG f l+1 else 0:=by
 unfold kG;by_cases h:g.p<f.p
 · rw [if_pos h,List.takeWhile_cons_of_pos (by simpa using h)];rfl
 · rw [if_neg h,List.takeWhile_cons_of_neg (by simpa using h)];rfl
theorem zl7 {f x:FileD}:∀{l:List FileD} {k:Nat},k≤kG f l→l[k]? = some x→(x.p<f.p→k+1≤kG f l)∧(¬x.p<f.p→k=kG f l)
 | [],_,_,h=>by cases h
 | g::l,0,hk,hx=>by
  obtain rfl:g=x:=Option.some.inj hx;rw [zld]
  exact ⟨fun h=>by rw [if_pos h];omega,fun h=>by rw [if_neg h]⟩
 | g::l,k+1,hk,hx=>by
  rw [zld] at hk ⊢;by_cases h:g.p<f.p
  · rw [if_pos h] at hk ⊢;have:=zl7 (f:=f) (l:=l) (k:=k) (by omega) hx;exact ⟨fun q=>by have:=this.1 q;omega,fun q=>by have:=this.2 q;omega⟩
  · rw [if_neg h] at hk;omega
def zc7 (l:List FileD) (j:Nat) (f:FileD):Bool:=zcF (l.take j) f
theorem ztT {l:List FileD} {j:Nat} {g f:FileD} (h:l[j]? = some g):zc7 l (j+1) f=(zc7 l j f&&(g.p !=f.p&&!zbD g.p f.p&&!zbD f.p g.p)):=by
 unfold zc7 zcF;rw [List.take_add_one,h,Option.toList_some,List.all_append];simp
theorem zo6 (f:FileD):(za9 f).d.length≤2000∧(za9 f).d.length≤f.d.length:=by
 unfold za9;simp only [List.length_take]
 omega
theorem ze.pre {w:World} {B n k:Nat} {A:Option Addr} {xs:List Value} (h:ze w B 1 A n xs) (hk:k≤n):ze w B 1 A k (xs.take k):=by
 refine ⟨by rw [List.length_take,h.1];omega,fun h0=>?_⟩;obtain ⟨ad,e1,e2,e3⟩:=h.2 (by omega);refine ⟨ad,e1,e2,fun j u hj=>e3 j u ?_⟩;rw [List.getElem?_take] at hj
 split at hj
 · exact hj
 · cases hj
attribute [local go_sem ↓] ld_f
theorem zlj (l:List FileD) (A:Option Addr) (c B:Nat) (w:World) (hB:B≤w.heap.size) (hr:FI w B A l) (hp:∀f∈l,f.p.length≤100000000) :Calls Tryz.prog 35 #[.slice A l.length c] w fun e w'=>∃A' c',e = .returned (.slice A' (zbW l).length c')∧FI w' w'.heap.size A' (zbW l)∧Below w.heap.size w w':=by
 obtain ⟨z,hz⟩:∃z,w.heap.size=z:=⟨_,rfl⟩;obtain ⟨R,hR⟩:∃R,zbW l=R:=⟨_,rfl⟩;rw [hz,hR];have HR:=zz hR;have HZ:=zz hz;have hBz:B≤z:=hz▸hB;have HFI:=zz (fun W (k:Below z w W)=>hr.below (k.mono hBz));clear hR hr;go_enter Tryz.func35,Tryz.ntmps35
 go_wp2_with fail
 go_loopw [3,4] (fun s3 s4 wr=>∃(n i:Nat) (A':Option Addr) (c':Nat) (fs:List FileD),s3 = .slice A' n c'∧s4 = .int .i64 (i:Nat)∧n≤i∧i≤l.length∧i≤40∧Hid (fs=(l.take i).foldl zbE []∧fs.length=n)∧Hid (FM wr z A' c' fs)∧Hid (Below z w wr)) (fun _ s4 _=>l.length-(intOf s4).toNat)
 case atStart=>exact ⟨0,0,none,0,[],rfl,rfl,by omega,by omega,by omega,zz ⟨rfl,rfl⟩,zz (FM.nil_ _ _),zz (Below.refl _ _)⟩
 case round =>
  obtain ⟨n,i,A',c',fs,rfl,rfl,hni,hil,hi4,HF,HM,HB⟩:=hrel;have hwz:z≤wr.heap.size:=HZ.out▸HB.out.size;by_cases hlt:i<l.length
  · have ht:(i:Int)<(l.length:Int):=by omega
    by_cases h40:i<40
    · have ht4:(i:Int)<40:=by omega
      obtain ⟨x,hx⟩:∃x,l[i]? = some x:=⟨_,List.getElem?_eq_getElem hlt⟩;obtain ⟨g,off,DA,dc,rfl,hg,hld,_,_,_,hd1,hd2,hd3⟩:=(HFI.out wr HB.out).at_ hx;have hload:(LdF (.pointer (some ⟨g,off+i*3,none⟩))).run Tryz.prog wr = .ok (.agg (za x DA dc)) wr:=hld;have HX:=zz hx;have HD3:=zz hd3;clear hld hd3 hx;obtain ⟨q,hq⟩:∃q,wr.heap.size=q:=⟨_,rfl⟩;have HQ:=zz hq;have HBK:=zz (show Blk (wr.alloc (.cells #[.string ⟨#[]⟩,.int .i64 0,.slice none 0 0] 70)) q 70 #[.string ⟨#[]⟩,.int .i64 0,.slice none 0 0] from hq▸Blk.new _ _ _);go_upto_region 6 with (refine zO rfl rfl (vs:=za x DA dc) rfl rfl HBK.out rfl zaw (zaD _ _ _) ?_;intro w6 hx6 hk6 hz6)
      have hb6:Below q wr w6:=by rw [←hq];exact ((Below.refl wr.heap.size wr).alloc (Nat.le_refl _) _).trans (hk6.below (by simp) (by intro i hi;simp only [Only];omega))
      simp only [Act.put]
      have hxl:=hp x (List.mem_of_getElem? HX.out);have HWI:=zz (zrz (wrap64 (x.k-1)) 3 w6 (by omega) (by omega));have hkr0:0≤wrap64 (x.k-1)%3:=Int.emod_nonneg _ (by omega);have hkr1:wrap64 (x.k-1)%3<3:=Int.emod_lt_of_pos _ (by omega);have HGX:=zz (show za9 x=⟨x.p,1+wrap64 (x.k-1)%3,x.d.take 2000⟩ from by unfold za9;simp only [IntWalk.i64_left]);have e61:=(hx6.cell 1).trans (show (za x DA dc)[1]? = some (.int .i64 x.k) from rfl);have f61:=hx6.frozen 1;generalize wrap64 (x.k-1)%3=kr at *;have hx7:=hx6.set_ 1 (.int .i64 (1+kr));have hx7':Blk (w6.setCell ⟨q,1,none⟩ (.int .i64 (1+kr))) q 70 (za { x with k:=1+kr } DA dc):=hx7;have hb7:Below q wr (w6.setCell ⟨q,1,none⟩ (.int .i64 (1+kr))):=hb6.setCell (p:=⟨q,1,none⟩) (Nat.le_refl _) _;have e72:=(hx7'.cell 2).trans (show (za { x with k:=1+kr } DA dc)[2]? = some (.slice DA x.d.length dc) from rfl);have f72:=hx7'.frozen 2;have HX7:=zz (And.intro hx7' hb7);clear hx7 hx7' hb7;go_upto_if 33 with (go_at_call 56;(with_reducible refine HWI.out.mono ?_);rintro _ _ ⟨rfl,rfl⟩)
      have hBq:B≤wr.heap.size:=Nat.le_trans hBz hwz;go_cut [33] (fun _ wx=>∃(D:Option Addr) (d:Nat),Hid (Blk wx q 70 (za (za9 x) D d))∧Hid (zw wx B (za9 x) (.slice D (za9 x).d.length d))∧Hid (Below q wr wx))
      case first =>
       by_cases hbig:2000<x.d.length
       · have hb1:(2000:Int)<(x.d.length:Int):=by omega
         have hl2:(x.d.take 2000).length=2000:=by rw [List.length_take];omega
         have HBB:Below q wr ((w6.setCell ⟨q,1,none⟩ (.int .i64 (1+kr))).setCell ⟨q,2,none⟩ (.slice DA 2000 dc)):=HX7.out.2.setCell (p:=⟨q,2,none⟩) (Nat.le_refl _) _
         go_wp2_with fail
         go_meet
         refine ⟨DA,dc,zz ?_,zz ?_,zz HBB⟩
         · rw [HGX.out];unfold za;simp only [hl2]
           exact HX7.out.1.set_ 2 (.slice DA 2000 dc)
         · rw [HGX.out];refine ⟨DA,dc,by simp only,by simp only [hl2];omega,hd2,?_⟩;have h1:=(HD3.out.pre (show 2000≤x.d.length by omega)).below (HBB.mono (HQ.out▸hBq));simp only [hl2]
           rw [List.map_take];exact h1
       · have hb1:¬(2000:Int)<(x.d.length:Int):=by omega
         have hl2:x.d.take 2000=x.d:=List.take_of_length_le (by omega)
         go_wp2_with fail
         go_meet
         refine ⟨DA,dc,zz ?_,zz ?_,zz HX7.out.2⟩
         · rw [HGX.out,hl2];exact HX7.out.1
         · rw [HGX.out,hl2];exact ⟨DA,dc,rfl,hd1,hd2,HD3.out.below (HX7.out.2.mono (HQ.out▸hBq))⟩
      case rest =>
       obtain ⟨D,d,HBX,HDR,HBW⟩:=hcut;have hgle:=zo6 x;have hgp:(za9 x).p=x.p:=by rw [HGX.out]
       obtain ⟨y,hy⟩:∃y,za9 x=y:=⟨_,rfl⟩;rw [hy] at HBX HDR hgle hgp;have HY:=zz hy;have hyp:y.p.length≤100000000:=by rw [hgp];exact hxl
       clear hgp hy HWI HX7 HD3 HGX HBK hkr0 hkr1 f61 e61 f72 e72 hx6 hk6 hz6 hb6 hload;have hl:(LdF (.pointer (some ⟨q,0,none⟩))).run Tryz.prog wc = .ok (.agg (za y D d)) wc:=zaC HBX.out;obtain ⟨q9,hq9⟩:∃q9,wc.heap.size=q9:=⟨_,rfl⟩;have hqq:q≤q9:=by rw [←hq9,←hq];exact HBW.out.size
       have hal:Below q9 wc (wc.alloc (.cells (za y D d) 70)):=by rw [←hq9];exact (Below.refl _ wc).alloc (Nat.le_refl _) _
       have hfy:FI (wc.alloc (.cells (za y D d) 70)) (wc.alloc (.cells (za y D d) 70)).heap.size (some ⟨q9,0,none⟩) [y]:=by
        refine ⟨[.slice D y.d.length d],rfl,?_,fun k a b e1 e2=>?_⟩
        · rw [←hq9];exact (ze.of_blk (w:=wc.alloc (.cells (za y D d) 70)) (n:=1) (size:=3) (xs:=zdO y (.slice D y.d.length d)) (heap_alloc_new _ _) rfl rfl).more (by simp)
        · rcases k with _|k
          · obtain rfl:=Option.some.inj e1;obtain rfl:=Option.some.inj e2;exact (HDR.out.below (hal.mono (Nat.le_trans hBq (Nat.le_trans (HQ.out▸Nat.le_refl _) hqq)))).more (Nat.le_trans hBq (Nat.le_trans (HQ.out▸Nat.le_refl _) (Nat.le_trans hqq (by simp [hq9]))))
          · cases e1
       have HCK:=zz (zpL y (some ⟨q9,0,none⟩) 1 _ _ (Nat.le_refl _) hfy hyp);have HAL:=zz (HBW.out.trans (hal.mono hqq));have HQ9:=zz hq9;clear hal hfy;obtain ⟨E,hE⟩:∃E,zP y=E:=⟨_,rfl⟩;rw [hE] at HCK;have HE:=zz hE;clear hE;by_cases hE0:E=0
       · subst hE0
         go_upto_block 2 with (first
          | (refine zbi rfl zaf rfl zaU rfl rfl (by omega) rfl ?_)
          | (go_at_call 42;(with_reducible refine HCK.out.mono ?_);rintro _ w9 ⟨rfl,hb9⟩;have HB9:=zz (And.intro (show Below q wr w9 from HAL.out.trans (hb9.mono (by have:=HAL.out.size;rw [HQ.out] at this;exact this))) (show Below q9 wc w9 from (((Below.refl wc.heap.size wc).alloc (Nat.le_refl _) (.cells (za y D d) 70)).trans (hb9.mono (by simp))).mono (HQ9.out▸Nat.le_refl _)));clear hb9))
         have hq2:q<q9:=by have:=HBX.out.lt;omega
         have HX9:=zz (show Blk w9 q 70 (za y D d) from HBX.out.below HB9.out.2 hq2);have HM9:=zz (HM.out.keepB (HQ.out▸HB9.out.1) hwz);have HF9:=zz (HM9.out.fi (Nat.le_trans hwz (HQ.out▸HB9.out.1.size)));have yp9:w9.cell? ⟨q,0,none⟩=some (.string ⟨y.p.toArray⟩):=(HX9.out.cell 0).trans rfl;have HFN:=HF.out.2;clear hl HBX HCK HAL HBW;go_cut [7] (fun s7 wx=>s7 = .int .i64 (kG y fs:Nat)∧∃kk,wx=w9.drewN kk)
         case first =>
          go_wp2_with fail
          go_loopw [7] (fun s7 wx=>∃k kk:Nat,s7 = .int .i64 (k:Nat)∧k≤n∧Hid (k≤kG y fs)∧wx=w9.drewN kk) (fun s7 _=>n-(intOf s7).toNat)
          case atStart=>exact ⟨0,0,rfl,Nat.zero_le _,zz (Nat.zero_le _),rfl⟩
          case round =>
           obtain ⟨k,kk,rfl,hkn,HKG,rfl⟩:=hrel;by_cases hk:k<n
           · obtain ⟨v,hv⟩:∃v,fs[k]? = some v:=⟨_,List.getElem?_eq_getElem (by omega)⟩;obtain ⟨g9,o9,_,_,eA,_,_,v0,_,_,_,_,_⟩:=HF9.out.at_ hv;subst eA;have hlt2:=zl7 HKG.out hv;rw [←decide_eq_true_eq (p:=v.p<y.p),←bytesLess_eq] at hlt2;have HLT:=zz hlt2;clear hlt2 hv;have k0:(0:Int)≤(k:Int):=by omega
             have k1:(k:Int)<(n:Int):=by omega
             have v1:w9.cell? ⟨g9,o9+k*3,none⟩=some (.string ⟨v.p.toArray⟩):=v0;clear v0;go_upto_region 12 with fail
             go_region
             clear v1
             cases hb:Op.bytesLess v.p y.p with
             | true =>
              rw [hb] at HLT
              go_wp2_with fail
              go_roundw
              case rel=>exact ⟨k+1,kk+1,by go_num,hk,zz (HLT.out.1 rfl),rfl⟩
              case measure=>simp [intOf];omega
             | false =>
              rw [hb] at HLT;have hkk:k=kG y fs:=HLT.out.2 (by simp)
              go_wp2_with fail
              go_meet
              exact ⟨by rw [hkk],kk+1,rfl⟩
           · have hkk:k=kG y fs:=by have:=HKG.out;have:=zk6 y fs;omega
             obtain rfl:k=n:=by omega
             have HKK:=zz hkk;clear hkk;go_upto_region 12 with fail
             go_region
             go_wp2_with fail
             go_meet
             exact ⟨by rw [←HKK.out],kk+1,rfl⟩
         case rest =>
          obtain ⟨rfl,kk,rfl⟩:=hcut;obtain ⟨K,hK⟩:∃K,kG y fs=K:=⟨_,rfl⟩;have hKn:K≤n:=by have:=zk6 y fs;omega
          have HKE:=zz hK;rw [hK];clear hK;go_upto_block 4 with fail
          go_cut [6] (fun s6 wx=>s6 = .bool (zcF fs y)∧∃kk,wx=w9.drewN kk)
          case first =>
           go_wp2_with fail
           go_loopw [6,8] (fun s6 s8 wx=>∃j kk:Nat,s6 = .bool (zc7 fs j y)∧s8 = .int .i64 (j:Nat)∧j≤n∧wx=w9.drewN kk) (fun _ s8 _=>n-(intOf s8).toNat)
           case atStart=>exact ⟨0,kk,by simp [zc7,zcF],rfl,Nat.zero_le _,rfl⟩
           case round =>
            obtain ⟨j,kk,rfl,rfl,hjn,rfl⟩:=hrel;by_cases hj:j<n
            · obtain ⟨v,hv⟩:∃v,fs[j]? = some v:=⟨_,List.getElem?_eq_getElem (by omega)⟩;obtain ⟨g9,o9,_,_,eA,_,_,v0,_,_,_,_,_⟩:=HF9.out.at_ hv;subst eA;have HFS:=zz (ztT (f:=y) hv);clear hv;have k0:(0:Int)≤(j:Int):=by omega
              have k1:(j:Int)<(n:Int):=by omega
              have v1:w9.cell? ⟨g9,o9+j*3,none⟩=some (.string ⟨v.p.toArray⟩):=v0;clear v0;have hb1:∀m,Calls Tryz.prog 57 #[strC v.p,strC y.p] (w9.drewN (kk+m)) (fun e w''=>e = .returned (.bool (zbD v.p y.p))∧∃n,w''=w9.drewN (kk+n)):=fun m=>(zir v.p y.p (w9.drewN (kk+m))).mono fun _ _ h=>⟨h.1,m,h.2.symm⟩;have hb2:∀m,Calls Tryz.prog 57 #[strC y.p,strC v.p] (w9.drewN (kk+m)) (fun e w''=>e = .returned (.bool (zbD y.p v.p))∧∃n,w''=w9.drewN (kk+n)):=fun m=>(zir y.p v.p (w9.drewN (kk+m))).mono fun _ _ h=>⟨h.1,m,h.2.symm⟩;unfold strC at hb1 hb2
              cases hft:zc7 fs j y with
              | false =>
               rw [hft,Bool.false_and] at HFS;clear hb1 hb2;go_upto_region 17 with fail
               go_region
               go_wp2_with fail
               go_roundw
               case rel=>exact ⟨j+1,kk+1,by rw [HFS.out],by go_num,hj,rfl⟩
               case measure=>simp [intOf];omega
              | true =>
               rw [hft,Bool.true_and] at HFS
               cases hne:(v.p==y.p) with
               | true =>
                have hne2:(v.p !=y.p)=false:=by simp [bne,hne]
                rw [hne2,Bool.false_and,Bool.false_and] at HFS;clear hb1 hb2;go_upto_region 17 with fail
                go_region
                go_wp2_with fail
                go_roundw
                case rel=>exact ⟨j+1,kk+1,by rw [HFS.out],by go_num,hj,rfl⟩
                case measure=>simp [intOf];omega
               | false =>
                have hne2:(v.p !=y.p)=true:=by simp [bne,hne]
                rw [hne2,Bool.true_and] at HFS;obtain ⟨B1,hB1⟩:∃B1,zbD v.p y.p=B1:=⟨_,rfl⟩;obtain ⟨B2,hB2⟩:∃B2,zbD y.p v.p=B2:=⟨_,rfl⟩;rw [hB1,hB2] at HFS;rw [hB1] at hb1;rw [hB2] at hb2;clear hB1 hB2;have HQ1:=zz hb1;have HQ2:=zz hb2;clear hb1 hb2
                cases B1 with
                | true =>
                 go_upto_region 17 with fail
                 go_quiet ((first|(go_at_call 57;with_reducible exact HQ1.out _)|(go_at_call 57;with_reducible exact HQ2.out _)))
                 go_wp2_with fail
                 go_roundw
                 case rel=>exact ⟨j+1,_,by rw [HFS.out];rfl,by go_num,hj,rfl⟩
                 case measure=>simp [intOf];omega
                | false =>
                 go_upto_region 17 with fail
                 go_quiet ((first|(go_at_call 57;with_reducible exact HQ1.out _)|(go_at_call 57;with_reducible exact HQ2.out _)))
                 go_wp2_with fail
                 go_roundw
                 case rel=>exact ⟨j+1,_,by rw [HFS.out];rfl,by go_num,hj,rfl⟩
                 case measure=>simp [intOf];omega
            · obtain rfl:j=n:=by omega
              go_wp2_with fail
              go_meet
              exact ⟨by unfold zc7;rw [List.take_of_length_le (by omega)],kk,rfl⟩
          case rest =>
           obtain ⟨rfl,kk,rfl⟩:=hcut;have hdw:Below w9.heap.size w9 (w9.drewN kk):=((Kept.refl w9.heap.size [] [] w9).drewN kk).all;have HM10:=zz (HM9.out.keepB hdw (Nat.le_trans hwz (HQ.out▸HB9.out.1.size)));have HX10:=zz (show Blk (w9.drewN kk) q 70 (za y D d) from HX9.out.below hdw HX9.out.lt);have HB10:=zz (show Below q wr (w9.drewN kk) from HB9.out.1.trans (hdw.mono (by have:=HX9.out.lt;omega)));have HDW:=zz (show zw (w9.drewN kk) B y (.slice D y.d.length d) from HDR.out.below ((HB9.out.2.trans (hdw.mono (show q9≤w9.heap.size from HQ9.out▸HB9.out.2.size))).mono (Nat.le_trans hBq (HQ.out▸hqq))));have hfr:zbE fs x=if zcF fs y=true then insG y fs else fs:=by
            unfold zbE;rw [HY.out,if_neg (by rw [HE.out];simp)]
           have HFR:=zz hfr;clear hfr hdw HM9 HF9 HX9 HB9 yp9;generalize w9.drewN kk=w10 at *
           cases hfg:zcF fs y with
           | false =>
            rw [hfg,if_neg (by simp)] at HFR
            go_wp2_with fail
            go_roundw
            case rel =>
             refine ⟨n,i+1,A',c',fs,rfl,by go_num,by omega,by omega,by omega,zz ⟨?_,HF.out.2⟩,zz (HM.out.keepB (HQ.out▸HB10.out) hwz),zz (HB.out.trans (HB10.out.mono (HQ.out▸hwz)))⟩;rw [List.take_add_one,HX.out,Option.toList_some,List.foldl_append,←HF.out.1];exact HFR.out.symm
            case measure=>simp [intOf];omega
           | true =>
            rw [hfg,if_pos rfl] at HFR;obtain ⟨ds,hds,hown,hdk⟩:=HM10.out;rw [HF.out.2] at hown;have hdl:ds.length=n:=by rw [←HF.out.2,←hds,List.length_map]
            have hz10:z≤w10.heap.size:=Nat.le_trans hwz (HQ.out▸HB10.out.size);have HO:=zz hown;have HDS:=zz hds;have HDK:=zz hdk;have R1:=zz (show ze w10 w10.heap.size 3 A' K ((ds.take K).flatMap ftL) from by
             refine ⟨by rw [zdv,List.length_take,Nat.min_eq_left (by omega)],fun h0=>?_⟩;obtain ⟨ad,e1,e2,e3⟩:=hown.reads.2 (by omega);refine ⟨ad,e1,e2,fun j u hj=>e3 j u ?_⟩;rw [←hj]
             conv=>lhs;rw [←List.take_append_drop K ds,List.flatMap_append]
             rw [List.getElem?_append_left];have:=(List.getElem?_eq_some_iff.1 hj).1;exact this)
            have hl10:(LdF (.pointer (some ⟨q,0,none⟩))).run Tryz.prog w10 = .ok (.agg (za y D d)) w10:=zaC HX10.out;clear hds hown hdk;have K0:(0:Int)≤(K:Int):=by omega
            have Kn:(K:Int)≤(n:Int):=by omega
            have hnc:n≤c':=HO.out.cap_le.1;have Kc:(K:Int)≤(c':Int):=by omega
            have hzq:z≤w10.heap.size:=hz10;have HIL:=zz (show (insG y fs).length=K+1+(n-K) from by rw [zgw];omega);have HFM:=zz (fun (A3:Option Addr) (c3:Nat) (w13:World) (ho:Own w13 w10.heap.size 70 3 A3 (K+1+(n-K)) c3 ((ds.take K).flatMap ftL++ftL (y,(D,d))++(ds.drop K).flatMap ftL)) (hb:Below w10.heap.size w10 w13)=>show FM w13 z A3 c3 (insG y fs) from by
             refine ⟨ds.take K++[(y,(D,d))]++ds.drop K,?_,?_,fun v hv=>?_⟩
             · rw [zjM,HKE.out,←HDS.out];simp
             · rw [HIL.out,List.flatMap_append,List.flatMap_append];have:=Own.mono ho hz10;simpa using this
             · rw [List.mem_append,List.mem_append,List.mem_singleton] at hv
               rcases hv with (hv|rfl)|hv
               · exact (HDK.out v (List.mem_of_mem_take hv)).keepB hb hz10
               · exact (zo.of_reads ((HDW.out.below (hb.mono (Nat.le_trans hBz hz10))).more hBz))
               · exact (HDK.out v (List.mem_of_mem_drop hv)).keepB hb hz10)
            by_cases hKlt:K<n
            · obtain ⟨gA,rfl,hgA⟩:=HO.out.adrn (by omega);have R2:=zz (fun W (hb:Below w10.heap.size w10 W)=>show ze W W.heap.size 3 (some ⟨gA,K*3,none⟩) (n-K) ((ds.drop K).flatMap ftL) from by
               refine ⟨by rw [zdv,List.length_drop,hdl],fun _=>⟨_,rfl,Nat.lt_of_lt_of_le (HO.out.blkA _ rfl).2.1 hb.size,fun j u hj=>?_⟩⟩;rw [zJ];refine (hb.cell (p:=⟨gA,K*3+j,none⟩) (HO.out.blkA _ rfl).2.1).trans ?_;have hjl:=(List.getElem?_eq_some_iff.1 hj).1;rw [zdv,List.length_drop,hdl] at hjl;refine (World.ownsRow.cellAt HO.out (K*3+j) (by omega)).trans ?_;rw [←hj]
               conv=>lhs;rw [←List.take_append_drop K ds,List.flatMap_append]
               have ht:((ds.take K).flatMap ftL).length=K*3:=by rw [zdv,List.length_take,Nat.min_eq_left (by omega)]
               rw [List.getElem?_append_right (by omega),ht,Nat.add_sub_cancel_left])
              have Kc2:(K:Int)<(c':Int):=by omega
              have Kc3:K<c':=by omega
              have Kc4:¬c'=K:=by omega
              have Kc5:¬(c':Int)=(K:Int):=by omega
              have Kc6:¬c'≤K:=by omega
              go_wp2_with (first
               | (at_builtin;refine zH rfl zaf rfl rfl (n:=0) (xs:=[]) (Own.nil _ w10.heap.size _ _) rfl R1.out (by simp only [List.mem_flatMap];rintro u ⟨v,_,hv⟩;exact zb7 v u hv) (by unfold maxLen;omega) (by omega) (Nat.le_refl _) ?_;intro A1 c1 w11 o11 k11;have O11:=zz o11;have hb11:Below w10.heap.size w10 w11:=k11.below (Nat.le_refl _) (Nat.le_refl _) (by simp);have HB11:=zz hb11;have HX11:=zz (show Blk w11 q 70 (za y D d) from HX10.out.below hb11 HX10.out.lt);have hl11:(LdF (.pointer (some ⟨q,0,none⟩))).run Tryz.prog w11 = .ok (.agg (za y D d)) w11:=zaC HX11.out;have HO11:=zz (show Own w11 w10.heap.size 70 3 A1 K c1 ((ds.take K).flatMap ftL) from by have:=O11.out;rw [Nat.zero_add,List.nil_append] at this;exact this);clear o11 k11 hb11)
               | (refine zbi rfl zaf rfl zaU rfl rfl (by omega) rfl ?_)
               | (at_builtin;refine zH rfl zaf rfl rfl (n:=K) (xs:=(ds.take K).flatMap ftL) (HO11.out.alloc _) rfl (ze.of_blk (n:=1) (size:=3) (xs:=ftL (y,(D,d))) (heap_alloc_new _ _) rfl rfl) (zb7 (y,(D,d))) (by unfold maxLen;omega) (by omega) (by have:=HB11.out.size;simp;omega) ?_;intro A2 c2 w12 o12 k12;have HO12:=zz o12;have HB12:=zz (HB11.out.trans ((((Kept.refl _ _ _ _).alloc _).trans k12).below (Nat.le_refl _) HB11.out.size (by simp)));clear o12 k12)
               | (at_builtin;refine zH rfl zaf rfl rfl (n:=K+1) (xs:=(ds.take K).flatMap ftL++ftL (y,(D,d))) HO12.out rfl (news:=(ds.drop K).flatMap ftL) (R2.out _ HB12.out) (by simp only [List.mem_flatMap];rintro u ⟨v,_,hv⟩;exact zb7 v u hv) (by unfold maxLen;omega) (by omega) HB12.out.size ?_;intro A3 c3 w13 o13 k13;have HO13:=zz o13;have HB13:=zz (HB12.out.trans (k13.below (Nat.le_refl _) HB12.out.size (by simp)));clear o13 k13))
              go_roundw
              case rel =>
               refine ⟨_,i+1,A3,c3,insG y fs,rfl,by go_num,by omega,by omega,by omega,zz ⟨?_,HIL.out⟩,zz (HFM.out A3 c3 w13 HO13.out HB13.out),zz (HB.out.trans ((HB10.out.mono (HQ.out▸hwz)).trans (HB13.out.mono hz10)))⟩;rw [List.take_add_one,HX.out,Option.toList_some,List.foldl_append,←HF.out.1];exact HFR.out.symm
              case measure=>simp [intOf];omega
            · obtain rfl:K=n:=by omega
              have hd0:ds.drop K=[]:=List.drop_eq_nil_of_le (by omega);have R2:=zz (fun (W:World) (S:Option Addr)=>show ze W W.heap.size 3 S 0 [] from ze.none_)
              rcases A' with _|a
              · go_wp2_with (first
                 | (at_builtin;refine zH rfl zaf rfl rfl (n:=0) (xs:=[]) (Own.nil _ w10.heap.size _ _) rfl R1.out (by simp only [List.mem_flatMap];rintro u ⟨v,_,hv⟩;exact zb7 v u hv) (by unfold maxLen;omega) (by omega) (Nat.le_refl _) ?_;intro A1 c1 w11 o11 k11;have O11:=zz o11;have hb11:Below w10.heap.size w10 w11:=k11.below (Nat.le_refl _) (Nat.le_refl _) (by simp);have HB11:=zz hb11;have HX11:=zz (show Blk w11 q 70 (za y D d) from HX10.out.below hb11 HX10.out.lt);have hl11:(LdF (.pointer (some ⟨q,0,none⟩))).run Tryz.prog w11 = .ok (.agg (za y D d)) w11:=zaC HX11.out;have HO11:=zz (show Own w11 w10.heap.size 70 3 A1 K c1 ((ds.take K).flatMap ftL) from by have:=O11.out;rw [Nat.zero_add,List.nil_append] at this;exact this);clear o11 k11 hb11)
                 | (refine zbi rfl zaf rfl zaU rfl rfl (by omega) rfl ?_)
                 | (at_builtin;refine zH rfl zaf rfl rfl (n:=K) (xs:=(ds.take K).flatMap ftL) (HO11.out.alloc _) rfl (ze.of_blk (n:=1) (size:=3) (xs:=ftL (y,(D,d))) (heap_alloc_new _ _) rfl rfl) (zb7 (y,(D,d))) (by unfold maxLen;omega) (by omega) (by have:=HB11.out.size;simp;omega) ?_;intro A2 c2 w12 o12 k12;have HO12:=zz o12;have HB12:=zz (HB11.out.trans ((((Kept.refl _ _ _ _).alloc _).trans k12).below (Nat.le_refl _) HB11.out.size (by simp)));clear o12 k12)
                 | (at_builtin;(refine zH rfl zaf rfl rfl (n:=K+1) (xs:=(ds.take K).flatMap ftL++ftL (y,(D,d))) HO12.out rfl (news:=[]) (m:=0) (R2.out w12 _) (by intro u hu;cases hu) (by unfold maxLen;omega) (by omega) HB12.out.size ?_;intro A3 c3 w13 o13 k13;have HO13:=zz o13;have HB13:=zz (HB12.out.trans (k13.below (Nat.le_refl _) HB12.out.size (by simp)));clear o13 k13)))
                go_roundw
                case rel =>
                 refine ⟨_,i+1,A3,c3,insG y fs,rfl,by go_num,by omega,by omega,by omega,zz ⟨?_,by have:=HIL.out;omega⟩,zz (HFM.out A3 c3 w13 (by have:=HO13.out;rw [hd0];simpa using this) HB13.out),zz (HB.out.trans ((HB10.out.mono (HQ.out▸hwz)).trans (HB13.out.mono hz10)))⟩;rw [List.take_add_one,HX.out,Option.toList_some,List.foldl_append,←HF.out.1];exact HFR.out.symm
                case measure=>simp [intOf];omega
              · go_wp2_with (first
                 | (at_builtin;refine zH rfl zaf rfl rfl (n:=0) (xs:=[]) (Own.nil _ w10.heap.size _ _) rfl R1.out (by simp only [List.mem_flatMap];rintro u ⟨v,_,hv⟩;exact zb7 v u hv) (by unfold maxLen;omega) (by omega) (Nat.le_refl _) ?_;intro A1 c1 w11 o11 k11;have O11:=zz o11;have hb11:Below w10.heap.size w10 w11:=k11.below (Nat.le_refl _) (Nat.le_refl _) (by simp);have HB11:=zz hb11;have HX11:=zz (show Blk w11 q 70 (za y D d) from HX10.out.below hb11 HX10.out.lt);have hl11:(LdF (.pointer (some ⟨q,0,none⟩))).run Tryz.prog w11 = .ok (.agg (za y D d)) w11:=zaC HX11.out;have HO11:=zz (show Own w11 w10.heap.size 70 3 A1 K c1 ((ds.take K).flatMap ftL) from by have:=O11.out;rw [Nat.zero_add,List.nil_append] at this;exact this);clear o11 k11 hb11)
                 | (refine zbi rfl zaf rfl zaU rfl rfl (by omega) rfl ?_)
                 | (at_builtin;refine zH rfl zaf rfl rfl (n:=K) (xs:=(ds.take K).flatMap ftL) (HO11.out.alloc _) rfl (ze.of_blk (n:=1) (size:=3) (xs:=ftL (y,(D,d))) (heap_alloc_new _ _) rfl rfl) (zb7 (y,(D,d))) (by unfold maxLen;omega) (by omega) (by have:=HB11.out.size;simp;omega) ?_;intro A2 c2 w12 o12 k12;have HO12:=zz o12;have HB12:=zz (HB11.out.trans ((((Kept.refl _ _ _ _).alloc _).trans k12).below (Nat.le_refl _) HB11.out.size (by simp)));clear o12 k12)
                 | (at_builtin;(refine zH rfl zaf rfl rfl (n:=K+1) (xs:=(ds.take K).flatMap ftL++ftL (y,(D,d))) HO12.out rfl (news:=[]) (m:=0) (R2.out w12 _) (by intro u hu;cases hu) (by unfold maxLen;omega) (by omega) HB12.out.size ?_;intro A3 c3 w13 o13 k13;have HO13:=zz o13;have HB13:=zz (HB12.out.trans (k13.below (Nat.le_refl _) HB12.out.size (by simp)));clear o13 k13)))
                go_roundw
                case rel =>
                 refine ⟨_,i+1,A3,c3,insG y fs,rfl,by go_num,by omega,by omega,by omega,zz ⟨?_,by have:=HIL.out;omega⟩,zz (HFM.out A3 c3 w13 (by have:=HO13.out;rw [hd0];simpa using this) HB13.out),zz (HB.out.trans ((HB10.out.mono (HQ.out▸hwz)).trans (HB13.out.mono hz10)))⟩;rw [List.take_add_one,HX.out,Option.toList_some,List.foldl_append,←HF.out.1];exact HFR.out.symm
                case measure=>simp [intOf];omega
       · have hi1:((E:Int)==0)=false:=beq_eq_false_iff_ne.2 (by omega);have hi2:((E:Int) !=0)=true:=by simp [bne,hi1]
         have hi3:¬(E:Int)=0:=by omega
         go_wp2_with (first
          | (refine zbi rfl zaf rfl zaU rfl rfl (by omega) rfl ?_)
          | (go_at_call 42;(with_reducible refine HCK.out.mono ?_);rintro _ w9 ⟨rfl,hb9⟩;have HB9:=zz (show Below q wr w9 from HAL.out.trans (hb9.mono (by have:=HAL.out.size;rw [HQ.out] at this;exact this)));clear hb9))
         go_roundw
         case rel =>
          refine ⟨n,i+1,A',c',fs,rfl,by go_num,by omega,by omega,by omega,zz ⟨?_,HF.out.2⟩,zz (HM.out.keepB (HQ.out▸HB9.out) hwz),zz (HB.out.trans (HB9.out.mono (HQ.out▸hwz)))⟩;rw [List.take_add_one,HX.out,Option.toList_some,List.foldl_append,←HF.out.1];show _=zbE fs x;unfold zbE;rw [HY.out,if_pos (by rw [HE.out];exact hE0)]
         case measure=>simp [intOf];omega
    · have h40':¬(i:Int)<40:=by omega
      have hR:fs=R:=by rw [←HR.out,HF.out.1];unfold zbW;rw [show i=40 from by omega]
      subst hR
      go_wp2_with fail
      go_ret
      exact ⟨A',⟨c',by rw [HF.out.2];rfl⟩,HM.out.fi hwz,HB.out⟩
  · have hlt':¬(i:Int)<(l.length:Int):=by omega
    have hR:fs=R:=by rw [←HR.out,HF.out.1];unfold zbW;rw [List.take_of_length_le (by omega),List.take_of_length_le (by omega)]
    subst hR
    go_wp2_with fail
    go_ret
    exact ⟨A',⟨c',by rw [HF.out.2];rfl⟩,HM.out.fi hwz,HB.out⟩
end Go.Proofs.YtmkmbbjgepcioaaGreatDoor
