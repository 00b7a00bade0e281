/- Contracts of law 18's within, path, put. No statement of the seat is proved here. -/
import Derived.Test.YtmkmbbjgepcioaaGreatDoorSAHq
import Derived.Test.YtmkmbbjgepcioaaGreatDoorSA29
import Derived.Test.YtmkmbbjgepcioaaGreatDoorSAGd
import Derived.Test.YtmkmbbjgepcioaaGreatDoorSA15
namespace Go.Proofs.YtmkmbbjgepcioaaGreatDoor
set_option maxHeartbeats 2000000
set_option maxRecDepth 100000
open Go.RowKit Go.Maps
theorem zge (k n:Int) (w:World) (hn:0<n) (hb:n≤1000000):Calls Tryz.prog 10 #[.int .i64 k,.int .i64 n] w fun e w'=>e = .returned (.int .i64 (k%n))∧w=w':=by
 have h2:=Int.tmod_lt_of_pos k hn;have h3:=Int.lt_tmod_of_pos k hn;have HE:=zz (zgK k n hn);have hn0:(n==0)=false:=beq_eq_false_iff_ne.2 (by omega);have hn1:(n==-1)=false:=beq_eq_false_iff_ne.2 (by omega);have hn2:n≠0:=by omega
 have hn3:n≠-1:=by omega
 generalize k%n=v at *;go_enter Tryz.func10,Tryz.ntmps10
 go_wp2_with fail
 · rename_i h4
   go_ret
   exact ⟨by rw [HE.out,if_pos h4];rfl,rfl⟩
 · rename_i h4
   go_ret
   exact ⟨by rw [HE.out,if_neg (by omega)];rfl,rfl⟩
theorem zsF (k n:Int) (w:World) (hn:0<n) (hb:n≤1000000):Calls Tryz.prog 34 #[.int .i64 k,.int .i64 n] w fun e w'=>e = .returned (.int .i64 (k%n))∧w=w':=by
 have h2:=Int.tmod_lt_of_pos k hn;have h3:=Int.lt_tmod_of_pos k hn;have HE:=zz (zgK k n hn);have hn0:(n==0)=false:=beq_eq_false_iff_ne.2 (by omega);have hn1:(n==-1)=false:=beq_eq_false_iff_ne.2 (by omega);have hn2:n≠0:=by omega
 have hn3:n≠-1:=by omega
 generalize k%n=v at *;go_enter Tryz.func34,Tryz.ntmps34
 go_wp2_with fail
 · rename_i h4
   go_ret
   exact ⟨by rw [HE.out,if_pos h4];rfl,rfl⟩
 · rename_i h4
   go_ret
   exact ⟨by rw [HE.out,if_neg (by omega)];rfl,rfl⟩
def zeu:Array Value:=#[strC [97],strC [98],strC [100,47,97],strC [100,47,98],strC [101,47,102,47,103],strC [100,50]]
theorem zpr (k:Nat) (hk:k<6):zeu[k]? = some (strC ((zfa[k]?).getD [])):=by
 rcases (by omega:k=0∨k=1∨k=2∨k=3∨k=4∨k=5) with rfl|rfl|rfl|rfl|rfl|rfl <;> rfl
theorem znq (n:Int) (w:World):Calls Tryz.prog 21 #[.int .i64 n] w fun e w'=>e = .returned (strC (zcL n))∧Below w.heap.size w w':=by
 obtain ⟨k,hk,hn⟩:∃k:Nat,k<6∧n%6=(k:Int):=⟨(n%6).toNat,by omega,by omega⟩
 have HPP:=zz (show zcL n=(zfa[k]?).getD [] from by unfold zcL;rw [hn];rfl);have HW:=zz (fun W=>zge n 6 W (by omega) (by omega));have hbs:(Instr.buildSlice 95 6 #[(0,strC [97]),(1,strC [98]),(2,strC [100,47,97]),(3,strC [100,47,98]),(4,strC [101,47,102,47,103]),(5,strC [100,50])]).run Tryz.prog w = .ok (.slice (some ⟨w.heap.size,0,none⟩) 6 6) (w.alloc (.cells zeu 9)):=by kernel_rfl
 have hc:=(Blk.new w 9 zeu).cell k;rw [zpr k hk] at hc;have HB:=zz ((Below.refl w.heap.size w).alloc (Nat.le_refl _) (.cells zeu 9));have h0:(0:Int)≤(k:Int):=by omega
 have h6:(k:Int)<6:=by omega
 rw [HPP.out];clear HPP;go_enter Tryz.func21,Tryz.ntmps21
 go_wp2_with (go_at_call 10;(with_reducible refine (HW.out _).mono ?_);rintro _ w2 ⟨rfl,rfl⟩;rw [hn])
 go_ret
 refine ⟨?_,HB.out⟩;clear hc hbs h0 h6 hn HW;rcases (by omega:k=0∨k=1∨k=2∨k=3∨k=4∨k=5) with rfl|rfl|rfl|rfl|rfl|rfl <;> rfl
theorem ze.of_cellsF {w:World} {g:Nat} {cs:Array Value} {t:TypeId} {size n:Nat} {xs:List Value} (h:w.heap[g]? = some (.cells cs t (0,0))) (hx:cs.toList=xs) (hl:xs.length=n*size):ze w w.heap.size size (some ⟨g,0,none⟩) n xs:=by
 refine ⟨hl,fun _=>⟨_,rfl,(Array.getElem?_eq_some_iff.1 h).1,fun j u hj=>?_⟩⟩;rw [zJ,cell_of_row w g (0+j) cs t (0,0) h,Nat.zero_add,←hj,←hx];simp
theorem znk {l:List FileD} {i:Nat} {x:FileD} {p:Pth} (h:l[i]? = some x):(l.take (i+1)).filter (fun g=>g.p !=p)=(l.take i).filter (fun g=>g.p !=p)++if x.p=p then [] else [x]:=by
 rw [List.take_add_one,h,List.filter_append];by_cases e:x.p=p
 · simp [e]
 · simp [e]
attribute [local go_sem ↓] ld_f
theorem zr5 (l:List FileD) (f:FileD) (A D:Option Addr) (c d B:Nat) (w:World) (hB:B≤w.heap.size) (hr:FI w B A l) (hd:zw w B f (.slice D f.d.length d)) (hl:l.length≤1000) (hp:∀x∈l,x.p.length≤1000000) (hfp:f.p.length≤1000000) :Calls Tryz.prog 22 #[.slice A l.length c,.agg (za f D d)] w fun e w'=>∃A' c',e = .returned (.slice A' (zcu l f).length c')∧FI w' w'.heap.size A' (zcu l f)∧Below w.heap.size w w':=by
 obtain ⟨z,hz⟩:∃z,w.heap.size=z:=⟨_,rfl⟩;have hb0:Below z w (w.alloc (.cells (za f D d) 70)):=(Below.refl z w).alloc (by omega) _;have hf0:=Blk.new w 70 (za f D d);rw [hz] at hf0;have hz1:(w.alloc (.cells (za f D d) 70)).heap.size=z+1:=by rw [←hz];simp
 have HF0:=zz hf0;have HR0:=zz (hr.below (hb0.mono (by omega)));have HD0:=zz (hd.below (hb0.mono (by omega)));have HB0:=zz hb0;have HPL:=zz (And.intro hp hfp);rw [hz];rw [hz] at hB;clear hb0 hf0 hr hd hp;go_enter Tryz.func22,Tryz.ntmps22
 go_upto_region 1 with (first|(refine zC rfl rfl (cs:=za f D d) rfl ?_))
 generalize w.alloc (.cells (za f D d) 70)=w1 at *;have hz1':z+1≤w1.heap.size:=by omega
 have HB1:Hid (Below (z+1) w1 w1):=zz (Below.refl _ _);clear hz1
 go_wp2_with fail
 go_loopg [5,6] l.length (fun kx s5 s6 wr=>∃(i n:Nat) (A1:Option Addr) (c1:Nat) (fs:List FileD),s6 = .int .i64 i∧s5 = .slice A1 n c1∧i≤l.length∧l.length-i≤kx∧Hid (fs=(l.take i).filter (fun g=>g.p !=f.p))∧fs.length=n∧n≤i∧Hid (FO wr (z+1) B A1 c1 fs)∧Hid (Below (z+1) w1 wr)∧z+1≤wr.heap.size)
 case atStart=>exact ⟨0,0,none,0,[],rfl,rfl,Nat.zero_le _,Nat.le_refl _,zz rfl,rfl,Nat.le_refl _,zz (FO.nil_ _ _ _),HB1,hz1'⟩
 case round =>
  clear HB1 hz1';obtain ⟨i,n,A1,c1,fs,rfl,rfl,hil,hkx,HFS,hfn,hni,HO,HB,hzr⟩:=hrel;have hbf:=HF0.out.below HB.out (by omega);by_cases hlt:i<l.length
  · obtain ⟨x,hx⟩:∃x,l[i]? = some x:=⟨_,List.getElem?_eq_getElem hlt⟩;obtain ⟨g,off,DA,dc,rfl,hg,hld,e0,e1,e2,hc1,hc2,hrd⟩:=(HR0.out.below (HB.out.mono (by omega))).at_ hx;have d0:=hbf.cell 0;simp [za] at d0;have hltz:(i:Int)<(l.length:Int):=by omega
    have HRD:=zz (And.intro hc1 (And.intro hc2 hrd));have HST:=zz (znk (p:=f.p) hx);clear hc1 hc2 hrd hbf hld e1 e2;unfold strC at e0 d0;by_cases he:x.p=f.p
    · have hb1:(x.p==f.p)=true:=beq_iff_eq.2 he;have hb2:(x.p !=f.p)=false:=by rw [bne,hb1];rfl
      go_upto_region 5 with fail
      go_cut [20] (fun s20 wx=>s20 = .bool false∧Hid (FO wx (z+1) B A1 c1 fs)∧Hid (Below (z+1) w1 wx)∧z+1≤wx.heap.size)
      case first =>
       have e0':wr.drew.cell? ⟨g,off+i*3,none⟩=_:=e0;have d0':wr.drew.cell? ⟨z,0,none⟩=_:=d0
       go_region_law (fail)
       all_goals
        go_wp2_with fail
        go_meet
        exact ⟨rfl,zz (HO.out.keepB ((Below.refl _ wr).drew) (by omega)),zz HB.out.drew,hzr⟩
      case rest =>
       obtain ⟨rfl,HO2,HB2,hz2⟩:=hcut;have HF2:=zz (show fs=(l.take (i+1)).filter (fun g=>g.p !=f.p) from by rw [HST.out,if_pos he,List.append_nil];exact HFS.out);clear e0 d0 HO HB HRD hb1 hb2 he HST HFS
       go_wp2_with fail
       go_roundg (l.length-(i+1))
       case measure=>omega
       case rel=>exact ⟨i+1,n,A1,c1,fs,by go_num,rfl,by omega,Nat.le_refl _,HF2,hfn,by omega,HO2,HB2,hz2⟩
    · have hb1:(x.p==f.p)=false:=beq_eq_false_iff_ne.2 he;have hb2:(x.p !=f.p)=true:=by rw [bne,hb1];rfl
      go_upto_region 5 with fail
      go_cut [20] (fun s20 wx=>s20 = .bool true∧Hid (FO wx (z+1) B A1 c1 fs)∧Hid (Below (z+1) w1 wx)∧z+1≤wx.heap.size)
      case first =>
       have e0':wr.drew.cell? ⟨g,off+i*3,none⟩=_:=e0;have d0':wr.drew.cell? ⟨z,0,none⟩=_:=d0
       go_region_law (fail)
       all_goals
        go_wp2_with fail
        go_meet
        exact ⟨rfl,zz (HO.out.keepB ((Below.refl _ wr).drew) (by omega)),zz HB.out.drew,hzr⟩
      case rest =>
       obtain ⟨rfl,HO2,HB2,hz2⟩:=hcut;have HF2:=zz (show fs++[x]=(l.take (i+1)).filter (fun g=>g.p !=f.p) from by rw [HST.out,if_neg he,HFS.out]);clear e0 d0 HO HB HRD hb1 hb2 he HST HFS;generalize wc=w2 at *;obtain ⟨g',off',DA',dc',eA,hg',hld,_,_,_,hc1,hc2,hrd⟩:=(HR0.out.below (HB2.out.mono (by omega))).at_ hx;injection eA with eA;injection eA with eA1 eA2;subst eA1 eA2;have hlf:(LdF (.pointer (some ⟨g,off+i*3,none⟩))).run Tryz.prog w2 = .ok (.agg (za x DA' dc')) w2:=hld;obtain ⟨tv,h1,h2,h3⟩:=HO2.out;have HT:=zz (And.intro h1 h3);have HX:=zz (show zw w2 B x (.slice DA' x.d.length dc') from ⟨DA',dc',rfl,hc1,hc2,hrd⟩);rw [hfn] at h2;have HO3:=zz (h2.alloc (.cells (za x DA' dc') 70));have hnew:=heap_alloc_new w2 (.cells (za x DA' dc') 70);have HRN:=zz (ze.of_cellsF (n:=1) (size:=3) (xs:=(za x DA' dc').toList) hnew rfl rfl);have hm1:n+1≤maxLen:=by unfold maxLen;omega
       have hm2:(n+1)*48≤140737488355328:=by omega
       have hz3:z+1≤(w2.alloc (.cells (za x DA' dc') 70)).heap.size:=by simp;omega
       have HB3:=zz (HB2.out.alloc hz2 (.cells (za x DA' dc') 70));clear h1 h2 h3 hld hc1 hc2 hrd hnew
       go_wp2_with (first
        | (refine zbi rfl zaf rfl zaU rfl rfl (by omega) rfl ?_)
        | (refine zH rfl zaf rfl rfl HO3.out rfl HRN.out (by intro u hu;simp [za] at hu;rcases hu with rfl|rfl|rfl <;> rfl) hm1 hm2 hz3 ?_;intro A6 c6 w6 ho6 hk6;have HO6:=zz ho6;have HK6:=zz hk6;clear ho6 hk6))
       have hBw:B≤(w2.alloc (.cells (za x DA' dc') 70)).heap.size:=Nat.le_trans (by omega) hz3;have HO7:=zz (FO.snoc (w:=w2) (w':=w6) (B:=B) HT.out.1 HT.out.2 HX.out (by rw [hfn];exact HO6.out) (((Below.refl B w2).alloc (by omega) _).trans (HK6.out.below (by omega) hBw (by simp))));have HB6:=zz (HB3.out.trans (HK6.out.below (Nat.le_refl _) hz3 (by simp)));have hz6:z+1≤w6.heap.size:=Nat.le_trans hz3 HK6.out.size;have hl6:(fs++[x]).length=n+1:=by rw [List.length_append,hfn];rfl
       clear HO6 HK6 HO3 HO2 HB2 HB3 HT HX HRN
       go_roundg (l.length-(i+1))
       case measure=>omega
       case rel=>exact ⟨i+1,n+1,A6,c6,fs++[x],by go_num,rfl,by omega,Nat.le_refl _,HF2,hl6,by omega,HO7,HB6,hz6⟩
  · obtain rfl:i=l.length:=by omega
    have hfs:fs=l.filter (fun g=>g.p !=f.p):=by
     have:=HFS.out
     rwa [List.take_length] at this
    have c2:=hbf.cell 2;simp [za] at c2;have HPF:=zz (show ∀g∈fs,g.p.length≤100000000 from fun g hg=>by
     rw [hfs] at hg;have:=HPL.out.1 g (List.mem_filter.1 hg).1;omega)
    clear HFS;by_cases hd0:0<f.d.length
    · have HE:=zz (show zbW (fs++[f])=zcu l f from by unfold zcu;rw [if_pos hd0,hfs]);have g1:decide ((0:Int)<(f.d.length:Int))=true:=decide_eq_true (by omega);have hlf:(LdF (.pointer (some ⟨z,0,none⟩))).run Tryz.prog wr = .ok (.agg (za f D d)) wr:=zaE wr _ (za f D d) Tryz.underlying70 rfl (by kernel_rfl) (fun j v hj=>by rw [zJ,hbf.cell,←hj];simp);obtain ⟨tv,h1,h2,h3⟩:=HO.out;have HT:=zz (And.intro h1 h3);have HX:=zz (HD0.out.below (HB.out.mono (by omega)));rw [hfn] at h2;have HO3:=zz (h2.alloc (.cells (za f D d) 70));have hnew:=heap_alloc_new wr (.cells (za f D d) 70);have HRN:=zz (ze.of_cellsF (n:=1) (size:=3) (xs:=(za f D d).toList) hnew rfl rfl);have hm1:n+1≤maxLen:=by unfold maxLen;omega
      have hm2:(n+1)*48≤140737488355328:=by omega
      have hz3:z+1≤(wr.alloc (.cells (za f D d) 70)).heap.size:=by simp;omega
      have hBw:B≤(wr.alloc (.cells (za f D d) 70)).heap.size:=Nat.le_trans (by omega) hz3;have HB3:=zz (HB.out.alloc hzr (.cells (za f D d) 70));clear h1 h2 h3 hnew hbf hfs
      go_upto_region 9 with (first
       | (refine zbi rfl zaf rfl zaU rfl rfl (by omega) rfl ?_)
       | (refine zH rfl zaf rfl rfl HO3.out rfl HRN.out (by intro u hu;simp [za] at hu;rcases hu with rfl|rfl|rfl <;> rfl) hm1 hm2 hz3 ?_;intro A6 c6 w6 ho6 hk6;have HO6:=zz ho6;have HK6:=zz hk6;clear ho6 hk6))
      have hb6:Below (z+1) w1 w6:=HB3.out.trans (HK6.out.below (Nat.le_refl _) hz3 (by simp));have ho7:=FO.snoc (w:=wr) (w':=w6) (B:=B) HT.out.1 HT.out.2 HX.out (by rw [hfn];exact HO6.out) (((Below.refl B wr).alloc (by omega) _).trans (HK6.out.below (by omega) hBw (by simp)));have hl6:(fs++[f]).length=n+1:=by rw [List.length_append,hfn];rfl
      have hz6:z+1≤w6.heap.size:=Nat.le_trans hz3 HK6.out.size
      have hgd:=zlj (fs++[f]) A6 c6 w6.heap.size w6 (Nat.le_refl _) (ho7.fi (by omega)) (fun g hg=>by
       rcases List.mem_append.1 hg with q|q
       · exact HPF.out g q
       · rw [List.mem_singleton.1 q];have:=HPL.out.2;omega)
      rw [hl6,HE.out] at hgd;have HGD:=zz hgd;have HB6:=zz hb6;clear hgd ho7 hb6 HO6 HK6 HO3
      go_wp2_with (go_at_call 35;(with_reducible refine HGD.out.mono ?_);rintro _ w7 ⟨A7,c7,rfl,hf7,hb7⟩;have HF7:=zz hf7;have HB7:=zz hb7;clear hf7 hb7)
      go_ret
      exact ⟨A7,c7,rfl,HF7.out,HB0.out.trans ((HB6.out.mono (by omega)).trans (HB7.out.mono (by omega)))⟩
    · have HE:=zz (show zbW fs=zcu l f from by unfold zcu;rw [if_neg hd0,List.append_nil,hfs]);have g1:decide ((0:Int)<(f.d.length:Int))=false:=decide_eq_false (by omega);have hgd:=zlj fs A1 c1 wr.heap.size wr (Nat.le_refl _) (HO.out.fi (by omega)) HPF.out;rw [hfn,HE.out] at hgd;have HGD:=zz hgd;clear hgd hfs hbf
      go_wp2_with (go_at_call 35;(with_reducible refine HGD.out.mono ?_);rintro _ w7 ⟨A7,c7,rfl,hf7,hb7⟩;have HF7:=zz hf7;have HB7:=zz hb7;clear hf7 hb7)
      go_ret
      exact ⟨A7,c7,rfl,HF7.out,HB0.out.trans ((HB.out.mono (by omega)).trans (HB7.out.mono (by omega)))⟩
end Go.Proofs.YtmkmbbjgepcioaaGreatDoor
