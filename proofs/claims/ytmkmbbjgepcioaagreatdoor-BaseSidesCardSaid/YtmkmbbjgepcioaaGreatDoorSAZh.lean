/- Contract of the merger's file. No statement of the seat is proved here. -/
import Derived.Test.YtmkmbbjgepcioaaGreatDoorSAHq
import Derived.Test.YtmkmbbjgepcioaaGreatDoorSAZf
namespace Go.Proofs.YtmkmbbjgepcioaaGreatDoor
set_option maxHeartbeats 16000000
set_option maxRecDepth 100000
open Go.RowKit Go.Maps
def zan (w:World) (z mb cb q:Nat) (s:SideD):Prop:=∃b1 b2 b3 n1 n2 n3 f1 f2 f3,SideM w z q s b1 b2 b3 n1 n2 n3 f1 f2 f3∧q∉[mb,cb]∧b1∉[mb,cb]∧b2∉[mb,cb]∧b3∉[mb,cb]
section
variable {w w':World} {z mb cb q:Nat} {s:SideD}
theorem zan.keepB (h:zan w z mb cb q s) (hb:Below w.heap.size w w') (hz:z≤w.heap.size):zan w' z mb cb q s:=by
 obtain ⟨b1,b2,b3,n1,n2,n3,f1,f2,f3,h1,h2⟩:=h;exact ⟨b1,b2,b3,n1,n2,n3,f1,f2,f3,h1.keepB hb hz,h2⟩
theorem zan.frm (h:zan w z mb cb q s) (hk:Frm z mb cb w w') (hz:z≤w.heap.size) (hm:z≤mb) (hc:z≤cb):zan w' z mb cb q s:=by
 obtain ⟨b1,b2,b3,n1,n2,n3,f1,f2,f3,h1,g0,g1,g2,g3⟩:=h;exact ⟨b1,b2,b3,n1,n2,n3,f1,f2,f3,h1.frm hk hz (by intro g hg;simp only [List.mem_cons,List.not_mem_nil,or_false] at hg;rcases hg with rfl|rfl <;> assumption) (by decide) g0 g1 g2 g3,g0,g1,g2,g3⟩
theorem zan.goes (h:zan w z mb cb q s) (p:Pth) (hp:p.length≤1000000):Calls Tryz.prog 108 #[.pointer (some ⟨q,0,none⟩),strC p] w fun e w'=>e = .returned (.tuple #[strC (s.goes p).1,.bool (s.goes p).2])∧Below w.heap.size w w':=by
 obtain ⟨b1,b2,b3,n1,n2,n3,f1,f2,f3,h1,_⟩:=h;exact zpb p w h1 hp
theorem zan.look (h:zan w z mb cb q s):∃b1,w.cell? ⟨q,0,none⟩=some (.map (some b1))∧∀p:Pth,p.length≤maxLen→∃D d,zw w z (getF s.f p) (.slice D (getF s.f p).d.length d)∧∀w',Below w.heap.size w w'→(Instr.lookup 166 (.map (some b1)) (strC p) false).run Tryz.prog w' = .ok (.agg (za (getF s.f p) D d)) w':=by
 obtain ⟨b1,b2,b3,n1,n2,n3,f1,f2,f3,h1,_⟩:=h;refine ⟨b1,(h1.blk.cell 0).trans rfl,fun p hp=>?_⟩;obtain ⟨D,d,e1,e2⟩:=h1.p1.get p;refine ⟨D,d,e2,fun w' hw=>?_⟩;rw [(h1.m1.keep (Below.keep_ hw zl) (fun q=>q)).look Tryz.underlying166 (zaU w') hp,e1]
end
theorem MGE.ptrs {w:World} {z mb so st cb N:Nat} {s:MSt} (h:MGE w z mb so st cb N s):w.cell? ⟨mb,0,none⟩=some (.pointer (some ⟨so,0,none⟩))∧w.cell? ⟨mb,1,none⟩=some (.pointer (some ⟨st,0,none⟩)):=by
 obtain ⟨A,c,n,f,h1,h2⟩:=h;exact ⟨(h2.blk.cell 0).trans rfl,(h2.blk.cell 1).trans rfl⟩
theorem zan.lt {w:World} {z mb cb q:Nat} {s:SideD} (h:zan w z mb cb q s):q<w.heap.size:=by
 obtain ⟨b1,b2,b3,n1,n2,n3,f1,f2,f3,h1,_⟩:=h;exact h1.blk.lt
def StF (p v:Value):Sem Unit:=Instr.storeAt 70 p v
theorem st_f (p v:Value):Instr.storeAt 70 p v=StF p v:=rfl
theorem zfc {w:World} {g:Nat} {cs:Array Value} {x:FT} (h:Blk w g 70 cs) (hs:cs.size=3:=by rfl):∃w',(StF (.pointer (some ⟨g,0,none⟩)) (.agg (za x.1 x.2.1 x.2.2))).run Tryz.prog w = .ok () w'∧Blk w' g 70 (za x.1 x.2.1 x.2.2)∧Keep (Only g) w w':=by
 have h1:=zdn (P:=Tryz.prog) (ty:=70) h 0 (vs:=za x.1 x.2.1 x.2.2) zaw (by rw [hs];exact Nat.le_refl _) (zaD _ _ _);rw [zdF (by rw [hs];rfl)] at h1;exact ⟨_,h1,h.row _,Keep.setRow (Keep.refl (Only g) w) (.inl rfl) _⟩
theorem zd3 (s:MSt) (p:Pth) (f:FileD):(s.stay p f).t.length=s.t.length+1:=by unfold MSt.stay;simp
attribute [local go_sem] zeP zeS zfr zfC
attribute [local go_sem ↓] ld_f st_f
theorem zrQ (z mb so st cb N:Nat) (s:MSt) (o t:SideD) (f:FT) (w:World) (hm:MGE w z mb so st cb N s) (ho:zan w z mb cb so o) (ht:zan w z mb cb st t) (hf:zo w z f) (hl:s.t.length+2≤1000000) (hp:f.1.p.length≤1000000) (hN:N+2≤1000000) (l1:f.1.d.length≤100000) (lo:(o.goes f.1.p).1.length≤1000000∧(getF o.f (o.goes f.1.p).1).d.length≤100000) (lt:(t.goes f.1.p).1.length≤1000000∧(getF t.f (t.goes f.1.p).1).d.length≤100000) :Calls Tryz.prog 69 #[.pointer (some ⟨mb,0,none⟩),.agg (za f.1 f.2.1 f.2.2)] w fun e w'=>e = .returned (.tuple #[])∧MGE w' z mb so st cb (N+2) (s.file o t f.1)∧Frm z mb cb w w':=by
 have hz:=hm.zs;obtain ⟨A,hma⟩:=hm.a;obtain ⟨q,hq⟩:∃q,w.heap.size=q:=⟨_,rfl⟩;have HA:=zz (show ∀a,A=some a→a.block<q from hq▸hma.lt);have HMB:=zz (show mb<q from hq▸hm.lts.2.1);have hbl:Below w.heap.size w (w.alloc (.cells (za f.1 f.2.1 f.2.2) 70)):=(Below.refl _ w).alloc (Nat.le_refl _) _;have hb1:=Blk.new w 70 (za f.1 f.2.1 f.2.2);rw [hq] at hb1;have H1:=zz (And.intro hb1 (And.intro hbl (And.intro (hma.keepB hbl) (And.intro (ho.keepB hbl hz) (And.intro (ht.keepB hbl hz) (hf.keepB hbl hz))))));have HQ:=zz hq;clear hbl hb1 hm hma ho ht hf;go_enter Tryz.func69,Tryz.ntmps69
 go_upto_region 1 with (refine zC rfl rfl (cs:=za f.1 f.2.1 f.2.2) rfl ?_)
 rw [hq];simp only [Act.put,List.setIfInBounds_toArray,List.set]
 generalize w.alloc (.cells (za f.1 f.2.1 f.2.2) 70)=w1 at *;clear hq;have e0:=H1.out.2.2.1.e.ptrs.1;have e1:=H1.out.2.2.1.e.ptrs.2;have c0:=(H1.out.1.cell 0).trans (show (za f.1 f.2.1 f.2.2)[0]? = some (strC f.1.p) from rfl);have HG1:=zz (zan.goes (w:=w1.drew) (H1.out.2.2.2.1.keepB (Below.refl _ w1).drew H1.out.2.2.1.e.zs) f.1.p hp);obtain ⟨GO,hGO⟩:∃G,o.goes f.1.p=G:=⟨_,rfl⟩;obtain ⟨GT,hGT⟩:∃G,t.goes f.1.p=G:=⟨_,rfl⟩;rw [hGO] at HG1 lo;rw [hGT] at lt;have HGO:=zz hGO;have HGT:=zz hGT;clear hGO hGT;go_cut [4,5] (fun s4 s5 wx=>s4=strC GO.1∧s5 = .bool GO.2∧Hid (Below w1.heap.size w1 wx))
 case first =>
  go_region_law (go_simp;go_at_call 108;refine HG1.out.mono ?_;rintro _ w2 ⟨rfl,b2⟩;have HB2:=zz (show Below w1.heap.size w1 w2 from (Below.refl _ w1).drew.trans b2);clear b2)
  all_goals
   go_wp2_with fail
   go_meet
   exact ⟨rfl,rfl,HB2⟩
 case rest =>
  obtain ⟨rfl,rfl,HB2⟩:=hcut;generalize wc=w2 at *;clear e0 e1 c0 HG1;have hz1:=H1.out.2.2.1.e.zs;have H2:=zz (And.intro (H1.out.1.below HB2.out H1.out.1.lt) (And.intro (H1.out.2.1.trans (HB2.out.mono H1.out.2.1.size)) (And.intro (H1.out.2.2.1.keepB HB2.out) (And.intro (H1.out.2.2.2.1.keepB HB2.out hz1) (And.intro (H1.out.2.2.2.2.1.keepB HB2.out hz1) (H1.out.2.2.2.2.2.keepB HB2.out hz1))))));clear H1 HB2 hz1;have e0:=H2.out.2.2.1.e.ptrs.1;have e1:=H2.out.2.2.1.e.ptrs.2;have c0:=(H2.out.1.cell 0).trans (show (za f.1 f.2.1 f.2.2)[0]? = some (strC f.1.p) from rfl);have HG2:=zz (zan.goes (w:=w2.drew) (H2.out.2.2.2.2.1.keepB (Below.refl _ w2).drew H2.out.2.2.1.e.zs) f.1.p hp);rw [HGT.out] at HG2;go_upto_region 2 with fail
  go_cut [6,7] (fun s6 s7 wx=>s6=strC GT.1∧s7 = .bool GT.2∧Hid (Below w2.heap.size w2 wx))
  case first =>
   go_region_law (go_simp;go_at_call 108;refine HG2.out.mono ?_;rintro _ w3 ⟨rfl,b3⟩;have HB3:=zz (show Below w2.heap.size w2 w3 from (Below.refl _ w2).drew.trans b3);clear b3)
   all_goals
    go_wp2_with fail
    go_meet
    exact ⟨rfl,rfl,HB3⟩
  case rest =>
   obtain ⟨rfl,rfl,HB3⟩:=hcut;generalize wc=w3 at *;clear e0 e1 c0 HG2;have hz2:=H2.out.2.2.1.e.zs;have H3:=zz (And.intro (H2.out.1.below HB3.out H2.out.1.lt) (And.intro (H2.out.2.1.trans (HB3.out.mono H2.out.2.1.size)) (And.intro (H2.out.2.2.1.keepB HB3.out) (And.intro (H2.out.2.2.2.1.keepB HB3.out hz2) (And.intro (H2.out.2.2.2.2.1.keepB HB3.out hz2) (H2.out.2.2.2.2.2.keepB HB3.out hz2))))));clear H2 HB3 hz2;have e0:=H3.out.2.2.1.e.ptrs.1;have e1:=H3.out.2.2.1.e.ptrs.2;obtain ⟨p1,m1,k1⟩:=H3.out.2.2.2.1.look;obtain ⟨D1,d1,r1,lk1⟩:=k1 GO.1 (by have:=lo.1;unfold maxLen;omega);obtain ⟨p2,m2,k2⟩:=H3.out.2.2.2.2.1.look;obtain ⟨D2,d2,r2,lk2⟩:=k2 GT.1 (by have:=lt.1;unfold maxLen;omega);have HR1:=zz r1;have HR2:=zz r2;have HLK1:=zz lk1;have HLK2:=zz lk2;clear k1 k2 r1 r2 lk1 lk2;obtain ⟨x,hx⟩:∃x,getF o.f GO.1=x:=⟨_,rfl⟩;obtain ⟨y,hy⟩:∃y,getF t.f GT.1=y:=⟨_,rfl⟩;rw [hx] at HR1 HLK1 lo;rw [hy] at HR2 HLK2 lt;have HXY:=zz (And.intro hx hy);clear hx hy;obtain ⟨q3,hq3⟩:∃q3,w3.heap.size=q3:=⟨_,rfl⟩;have lm:mb<w3.heap.size:=H3.out.2.2.1.e.lts.2.1;have ls:so<w3.heap.size:=H3.out.2.2.2.1.lt;have lt2:st<w3.heap.size:=H3.out.2.2.2.2.1.lt;have hA0:Below w3.heap.size w3 w3.drew:=(Below.refl _ w3).drew;have hA1:∀o,Below w3.heap.size w3 (w3.alloc o).drew:=fun o=>((Below.refl _ w3).alloc (Nat.le_refl _) o).drew;have hA2:∀o o',Below w3.heap.size w3 ((w3.alloc o).alloc o').drew:=fun o o'=>(((Below.refl _ w3).alloc (Nat.le_refl _) o).alloc (by simp) o').drew;have hz0:Blk ((w3.alloc (.cells #[.string ⟨#[]⟩,.int .i64 0,.slice none 0 0] 70)).alloc (.cells #[.string ⟨#[]⟩,.int .i64 0,.slice none 0 0] 70)).drew q3 70 #[.string ⟨#[]⟩,.int .i64 0,.slice none 0 0]:=by rw [←hq3];exact (Blk.new w3 70 _).alloc _
   have hz1:Blk ((w3.alloc (.cells #[.string ⟨#[]⟩,.int .i64 0,.slice none 0 0] 70)).alloc (.cells #[.string ⟨#[]⟩,.int .i64 0,.slice none 0 0] 70)).drew (q3+1) 70 #[.string ⟨#[]⟩,.int .i64 0,.slice none 0 0]:=by
    have:=Blk.new (w3.alloc (.cells #[.string ⟨#[]⟩,.int .i64 0,.slice none 0 0] 70)) 70 #[.string ⟨#[]⟩,.int .i64 0,.slice none 0 0];rw [show (w3.alloc (.cells #[.string ⟨#[]⟩,.int .i64 0,.slice none 0 0] 70)).heap.size=q3+1 from by simp [hq3]] at this;exact this
   obtain ⟨B1,st1,bb1,kb1⟩:=zfc (x:=(x,(D1,d1))) hz0;obtain ⟨C1,st2,cc1,kc1⟩:=zfc (x:=(y,(D2,d2))) (hz1.keep kb1 (by unfold Only;omega));obtain ⟨B2,st3,bb2,kb2⟩:=zfc (x:=(x,(D1,d1))) hz1;obtain ⟨C2,st4,cc2,kc2⟩:=zfc (x:=(y,(D2,d2))) (hz0.keep kb2 (by unfold Only;omega));have hB1:Below w3.heap.size w3 B1:=(hA2 _ _).trans (kb1.below (hA2 _ _).size (fun j hj q=>by unfold Only at q;omega));have hB2:Below w3.heap.size w3 B2:=(hA2 _ _).trans (kb2.below (hA2 _ _).size (fun j hj q=>by unfold Only at q;omega));have HC1:=zz (show Below w3.heap.size w3 C1∧Blk C1 q3 70 (za x D1 d1)∧Blk C1 (q3+1) 70 (za y D2 d2) from ⟨hB1.trans (kc1.below hB1.size (fun j hj q=>by unfold Only at q;omega)),bb1.keep kc1 (by unfold Only;omega),cc1⟩);have HC2:=zz (show Below w3.heap.size w3 C2∧Blk C2 (q3+1) 70 (za x D1 d1)∧Blk C2 q3 70 (za y D2 d2) from ⟨hB2.trans (kc2.below hB2.size (fun j hj q=>by unfold Only at q;omega)),bb2.keep kc2 (by unfold Only;omega),cc2⟩);have f1:∀o,(w3.alloc o).cell? ⟨mb,0,none⟩=some (.pointer (some ⟨so,0,none⟩)):=fun o=>((hA1 o).cell (p:=⟨mb,0,none⟩) lm).trans e0;have f2:∀o o',((w3.alloc o).alloc o').cell? ⟨mb,0,none⟩=some (.pointer (some ⟨so,0,none⟩)):=fun o o'=>((hA2 o o').cell (p:=⟨mb,0,none⟩) lm).trans e0;have f3:B1.cell? ⟨mb,0,none⟩=some (.pointer (some ⟨so,0,none⟩)):=hB1.cell (p:=⟨mb,0,none⟩) lm |>.trans e0
   have f4:B2.cell? ⟨mb,0,none⟩=some (.pointer (some ⟨so,0,none⟩)):=hB2.cell (p:=⟨mb,0,none⟩) lm |>.trans e0
   have f5:∀o,(w3.alloc o).cell? ⟨mb,1,none⟩=some (.pointer (some ⟨st,0,none⟩)):=fun o=>((hA1 o).cell (p:=⟨mb,1,none⟩) lm).trans e1;have f6:∀o o',((w3.alloc o).alloc o').cell? ⟨mb,1,none⟩=some (.pointer (some ⟨st,0,none⟩)):=fun o o'=>((hA2 o o').cell (p:=⟨mb,1,none⟩) lm).trans e1;have f7:B1.cell? ⟨mb,1,none⟩=some (.pointer (some ⟨st,0,none⟩)):=hB1.cell (p:=⟨mb,1,none⟩) lm |>.trans e1
   have f8:B2.cell? ⟨mb,1,none⟩=some (.pointer (some ⟨st,0,none⟩)):=hB2.cell (p:=⟨mb,1,none⟩) lm |>.trans e1
   have f9:∀o,(w3.alloc o).cell? ⟨so,0,none⟩=some (.map (some p1)):=fun o=>((hA1 o).cell (p:=⟨so,0,none⟩) ls).trans m1;have f10:∀o o',((w3.alloc o).alloc o').cell? ⟨so,0,none⟩=some (.map (some p1)):=fun o o'=>((hA2 o o').cell (p:=⟨so,0,none⟩) ls).trans m1;have f11:B1.cell? ⟨so,0,none⟩=some (.map (some p1)):=hB1.cell (p:=⟨so,0,none⟩) ls |>.trans m1
   have f12:B2.cell? ⟨so,0,none⟩=some (.map (some p1)):=hB2.cell (p:=⟨so,0,none⟩) ls |>.trans m1
   have f13:∀o,(w3.alloc o).cell? ⟨st,0,none⟩=some (.map (some p2)):=fun o=>((hA1 o).cell (p:=⟨st,0,none⟩) lt2).trans m2;have f14:∀o o',((w3.alloc o).alloc o').cell? ⟨st,0,none⟩=some (.map (some p2)):=fun o o'=>((hA2 o o').cell (p:=⟨st,0,none⟩) lt2).trans m2;have f15:B1.cell? ⟨st,0,none⟩=some (.map (some p2)):=hB1.cell (p:=⟨st,0,none⟩) lt2 |>.trans m2
   have f16:B2.cell? ⟨st,0,none⟩=some (.map (some p2)):=hB2.cell (p:=⟨st,0,none⟩) lt2 |>.trans m2
   have f17:(Instr.lookup 166 (.map (some p1)) (strC GO.1) false).run Tryz.prog w3.drew = .ok (.agg (za x D1 d1)) w3.drew:=HLK1.out _ (hA0);have f18:∀o,(Instr.lookup 166 (.map (some p1)) (strC GO.1) false).run Tryz.prog (w3.alloc o).drew = .ok (.agg (za x D1 d1)) (w3.alloc o).drew:=fun o=>HLK1.out _ (hA1 o);have f19:∀o o',(Instr.lookup 166 (.map (some p1)) (strC GO.1) false).run Tryz.prog ((w3.alloc o).alloc o').drew = .ok (.agg (za x D1 d1)) ((w3.alloc o).alloc o').drew:=fun o o'=>HLK1.out _ (hA2 o o');have f20:(Instr.lookup 166 (.map (some p1)) (strC GO.1) false).run Tryz.prog B1 = .ok (.agg (za x D1 d1)) B1:=HLK1.out _ (hB1);have f21:(Instr.lookup 166 (.map (some p1)) (strC GO.1) false).run Tryz.prog B2 = .ok (.agg (za x D1 d1)) B2:=HLK1.out _ (hB2);have f22:(Instr.lookup 166 (.map (some p2)) (strC GT.1) false).run Tryz.prog w3.drew = .ok (.agg (za y D2 d2)) w3.drew:=HLK2.out _ (hA0);have f23:∀o,(Instr.lookup 166 (.map (some p2)) (strC GT.1) false).run Tryz.prog (w3.alloc o).drew = .ok (.agg (za y D2 d2)) (w3.alloc o).drew:=fun o=>HLK2.out _ (hA1 o);have f24:∀o o',(Instr.lookup 166 (.map (some p2)) (strC GT.1) false).run Tryz.prog ((w3.alloc o).alloc o').drew = .ok (.agg (za y D2 d2)) ((w3.alloc o).alloc o').drew:=fun o o'=>HLK2.out _ (hA2 o o');have f25:(Instr.lookup 166 (.map (some p2)) (strC GT.1) false).run Tryz.prog B1 = .ok (.agg (za y D2 d2)) B1:=HLK2.out _ (hB1);have f26:(Instr.lookup 166 (.map (some p2)) (strC GT.1) false).run Tryz.prog B2 = .ok (.agg (za y D2 d2)) B2:=HLK2.out _ (hB2);have hC1:=HC1.out.1;have hC2:=HC2.out.1;have f101:C1.cell? ⟨mb,0,none⟩=some (.pointer (some ⟨so,0,none⟩)):=hC1.cell (p:=⟨mb,0,none⟩) lm |>.trans e0
   have f102:C2.cell? ⟨mb,0,none⟩=some (.pointer (some ⟨so,0,none⟩)):=hC2.cell (p:=⟨mb,0,none⟩) lm |>.trans e0
   have f103:C1.cell? ⟨mb,1,none⟩=some (.pointer (some ⟨st,0,none⟩)):=hC1.cell (p:=⟨mb,1,none⟩) lm |>.trans e1
   have f104:C2.cell? ⟨mb,1,none⟩=some (.pointer (some ⟨st,0,none⟩)):=hC2.cell (p:=⟨mb,1,none⟩) lm |>.trans e1
   have f105:C1.cell? ⟨so,0,none⟩=some (.map (some p1)):=hC1.cell (p:=⟨so,0,none⟩) ls |>.trans m1
   have f106:C2.cell? ⟨so,0,none⟩=some (.map (some p1)):=hC2.cell (p:=⟨so,0,none⟩) ls |>.trans m1
   have f107:C1.cell? ⟨st,0,none⟩=some (.map (some p2)):=hC1.cell (p:=⟨st,0,none⟩) lt2 |>.trans m2
   have f108:C2.cell? ⟨st,0,none⟩=some (.map (some p2)):=hC2.cell (p:=⟨st,0,none⟩) lt2 |>.trans m2
   have f109:(Instr.lookup 166 (.map (some p1)) (strC GO.1) false).run Tryz.prog C1 = .ok (.agg (za x D1 d1)) C1:=HLK1.out _ hC1;have f110:(Instr.lookup 166 (.map (some p1)) (strC GO.1) false).run Tryz.prog C2 = .ok (.agg (za x D1 d1)) C2:=HLK1.out _ hC2;have f111:(Instr.lookup 166 (.map (some p2)) (strC GT.1) false).run Tryz.prog C1 = .ok (.agg (za y D2 d2)) C1:=HLK2.out _ hC1;have f112:(Instr.lookup 166 (.map (some p2)) (strC GT.1) false).run Tryz.prog C2 = .ok (.agg (za y D2 d2)) C2:=HLK2.out _ hC2;clear hC1 hC2 hA0 hA1 hA2 hz0 hz1 bb1 kb1 cc1 kc1 bb2 kb2 cc2 kc2 hB1 hB2 HLK1 HLK2 lm ls lt2;go_upto_region 3 with fail
   go_cut [8,9] (fun s8 s9 wx=>∃g8 g9,s8 = .pointer (some ⟨g8,0,none⟩)∧s9 = .pointer (some ⟨g9,0,none⟩)∧q3≤g8∧q3≤g9∧Hid (Below w3.heap.size w3 wx∧Blk wx g8 70 (za x D1 d1)∧Blk wx g9 70 (za y D2 d2)))
   case first =>
    go_region_held3 (fun W=>W.cell? ⟨mb,0,none⟩=some (.pointer (some ⟨so,0,none⟩))∧W.cell? ⟨mb,1,none⟩=some (.pointer (some ⟨st,0,none⟩))∧W.cell? ⟨so,0,none⟩=some (.map (some p1))∧W.cell? ⟨st,0,none⟩=some (.map (some p2))∧(Instr.lookup 166 (.map (some p1)) (strC GO.1) false).run Tryz.prog W = .ok (.agg (za x D1 d1)) W∧(Instr.lookup 166 (.map (some p2)) (strC GT.1) false).run Tryz.prog W = .ok (.agg (za y D2 d2)) W) (first|go_keep) (fail)
    all_goals
     go_wp2_with fail
     go_meet
     first
      | exact ⟨q3,q3+1,rfl,rfl,Nat.le_refl _,by omega,HC1⟩
      | exact ⟨q3+1,q3,rfl,rfl,by omega,Nat.le_refl _,HC2⟩
   case rest =>
    obtain ⟨g8,g9,rfl,rfl,hg8,hg9,HC⟩:=hcut;generalize wc=w4 at *;have hz3:=H3.out.2.2.1.e.zs;have H4:=zz (And.intro (H3.out.1.below HC.out.1 H3.out.1.lt) (And.intro (H3.out.2.1.trans (HC.out.1.mono H3.out.2.1.size)) (And.intro (H3.out.2.2.1.keepB HC.out.1) (H3.out.2.2.2.2.2.keepB HC.out.1 hz3))));have HDX:=zz (show zo w4 z (x,(D1,d1)) from zo.of_reads (HR1.out.below (HC.out.1.mono hz3)));have HDY:=zz (show zo w4 z (y,(D2,d2)) from zo.of_reads (HR2.out.below (HC.out.1.mono hz3)));have HF:=zz (show Frm z mb cb w w4 from Frm.ofBelow H4.out.2.1 hz);have HAL:=zz (show ∀a,A=some a→a.block<q from HA.out);have HS:=zz (show s.file o t f.1=if GO.2=true∧GT.2=false then s.alone f.1 GO.1 x else if GT.2=true∧GO.2=false then s.alone f.1 GT.1 y else if GO.2=false then s else if GO.1≠GT.1∧GO.1≠f.1.p∧GT.1≠f.1.p then ((s.stay GO.1 x).stay GT.1 y).clash f.1.p 4 else if GT.1=f.1.p then s.both GO.1 f.1 f.1.k x y else s.both GT.1 f.1 f.1.k x y from by
     unfold MSt.file;simp only [HGO.out,HGT.out,HXY.out.1,HXY.out.2])
    have HLT:=zz (show q<w4.heap.size∧mb<q∧q≤q3 from ⟨H4.out.1.lt,HMB.out,hq3▸Nat.le_of_lt H3.out.1.lt⟩);have HB8:=zz HC.out.2;clear HC H3 HR1 HR2 HXY HGO HGT hz3 e0 e1 m1 m2 hq3;have hlx:(LdF (.pointer (some ⟨g8,0,none⟩))).run Tryz.prog w4 = .ok (.agg (za x D1 d1)) w4:=zaC HB8.out.1;have hly:(LdF (.pointer (some ⟨g9,0,none⟩))).run Tryz.prog w4 = .ok (.agg (za y D2 d2)) w4:=zaC HB8.out.2;have hlf:(LdF (.pointer (some ⟨q,0,none⟩))).run Tryz.prog w4 = .ok (.agg (za f.1 f.2.1 f.2.2)) w4:=zaC H4.out.1;have c0:=(H4.out.1.cell 0).trans (show (za f.1 f.2.1 f.2.2)[0]? = some (strC f.1.p) from rfl);have c1:=(H4.out.1.cell 1).trans (show (za f.1 f.2.1 f.2.2)[1]? = some (.int .i64 f.1.k) from rfl);have HAX:=zz (zjW z mb so st cb N s f GO.1 (x,(D1,d1)) w4 H4.out.2.2.1.e H4.out.2.2.2 HDX.out (by omega) lo.1 (by omega));have HAY:=zz (zjW z mb so st cb N s f GT.1 (y,(D2,d2)) w4 H4.out.2.2.1.e H4.out.2.2.2 HDY.out (by omega) lt.1 (by omega));have HBO:=zz (fun (p9:Pth) (hp9:p9.length≤1000000)=>zj3 z mb so st cb N s p9 f f.1.k (x,(D1,d1)) (y,(D2,d2)) w4 H4.out.2.2.1.e H4.out.2.2.2 HDX.out HDY.out (by omega) hp9 hN l1 lo.2 lt.2);obtain ⟨po,mine⟩:=GO;obtain ⟨pt,other⟩:=GT;simp only at HS HAX HAY HBO lo lt ⊢;have hlo:=lo.1;have hlt:=lt.1
    cases mine with
    | false =>
     cases other with
     | false =>
      go_wp2_with fail
      first|refine bodyPost_end (results_none rfl _ _ _) rfl ?_|refine bodyPost_ret (results_none rfl _ _ _) rfl ?_
      exact ⟨rfl,by rw [HS.out];exact H4.out.2.2.1.e.more (by omega),HF.out⟩
     | true =>
      go_wp2_with (go_at_call 109;refine HAY.out.mono ?_;rintro _ w5 ⟨rfl,m5,k5⟩;have HM5:=zz m5;have HK5:=zz (HF.out.trans k5);clear m5 k5)
      first|refine bodyPost_end (results_none rfl _ _ _) rfl ?_|refine bodyPost_ret (results_none rfl _ _ _) rfl ?_
      exact ⟨rfl,by rw [HS.out];exact HM5.out.more (by omega),HK5.out⟩
    | true =>
     cases other with
     | false =>
      go_wp2_with (go_at_call 109;refine HAX.out.mono ?_;rintro _ w5 ⟨rfl,m5,k5⟩;have HM5:=zz m5;have HK5:=zz (HF.out.trans k5);clear m5 k5)
      first|refine bodyPost_end (results_none rfl _ _ _) rfl ?_|refine bodyPost_ret (results_none rfl _ _ _) rfl ?_
      exact ⟨rfl,by rw [HS.out];exact HM5.out.more (by omega),HK5.out⟩
     | true =>
      have HS2:=zz (show s.file o t f.1=if po≠pt∧po≠f.1.p∧pt≠f.1.p then ((s.stay po x).stay pt y).clash f.1.p 4 else if pt=f.1.p then s.both po f.1 f.1.k x y else s.both pt f.1 f.1.k x y from by rw [HS.out];rfl);clear HS HAX HAY
      cases e1:decide (po≠pt∧po≠f.1.p∧pt≠f.1.p) with
      | true =>
       obtain ⟨n1,n2,n3⟩:=of_decide_eq_true e1;have HS3:=zz (show s.file o t f.1=((s.stay po x).stay pt y).clash f.1.p 4 from by rw [HS2.out,if_pos ⟨n1,n2,n3⟩]);have a1:(po !=pt)=true:=by simpa using n1
       have a2:(po !=f.1.p)=true:=by simpa using n2
       have a3:(pt !=f.1.p)=true:=by simpa using n3
       have a4:(po==pt)=false:=by simpa using n1
       have a5:(po==f.1.p)=false:=by simpa using n2
       have a6:(pt==f.1.p)=false:=by simpa using n3
       have HST:=zz (H4.out.2.2.1.stay HDX.out po (by omega));clear e1 n1 n2 n3 HBO;have tk1:True:=trivial
       go_wp2_with (first
        | (go_at_call 110;have _t:=tk1;clear _t tk1;refine HST.out.mono ?_;rintro _ w5 ⟨rfl,⟨A5,m5,s5⟩,k5⟩;have HK5:=zz (HF.out.trans k5);have hne9:g9≠mb:=(by have:=HLT.out.2.1;have:=HLT.out.2.2;omega);have r9:=s5 g9 HB8.out.2.lt hne9 (fun a ha=>by have:=HAL.out a ha;have:=HLT.out.2.2;omega);have rq:=s5 q HLT.out.1 (by have:=HLT.out.2.1;omega) (fun a ha=>by have:=HAL.out a ha;omega);have hly5:(LdF (.pointer (some ⟨g9,0,none⟩))).run Tryz.prog w5 = .ok (.agg (za y D2 d2)) w5:=zaC (show Blk w5 g9 70 _ from r9.1.trans HB8.out.2);have HQ5:=zz (show Blk w5 q 70 (za f.1 f.2.1 f.2.2)∧∀a,A5=some a→a.block≠q from ⟨rq.1.trans H4.out.1,rq.2⟩);have HST2:=zz (m5.stay (H4.out.2.2.1.e.data HDY.out k5) pt (by rw [zd3];omega));have HM5:=zz m5;clear m5 s5 k5 r9 rq)
        | (go_at_call 110;refine HST2.out.mono ?_;rintro _ w6 ⟨rfl,⟨A6,m6,s6⟩,k6⟩;have HK6:=zz (HK5.out.trans k6);have rq6:=s6 q HQ5.out.1.lt (by have:=HLT.out.2.1;omega) HQ5.out.2;have c06:=((show Blk w6 q 70 (za f.1 f.2.1 f.2.2) from rq6.1.trans HQ5.out.1).cell 0).trans (show (za f.1 f.2.1 f.2.2)[0]? = some (strC f.1.p) from rfl);have HCL:=zz (m6.clash f.1.p 4 hp (by omega) (by omega));clear m6 s6 k6 rq6)
        | (go_at_call 111;refine HCL.out.mono ?_;rintro _ w7 ⟨rfl,m7,k7⟩;have HM7:=zz m7;have HK7:=zz (HK6.out.trans (Frm.ofC k7));clear m7 k7))
       first|refine bodyPost_end (results_none rfl _ _ _) rfl ?_|refine bodyPost_ret (results_none rfl _ _ _) rfl ?_
       exact ⟨rfl,by rw [HS3.out];exact HM7.out.e.more (by omega),HK7.out⟩
      | false =>
       have hne:=of_decide_eq_false e1;have HS3:=zz (show s.file o t f.1=if pt=f.1.p then s.both po f.1 f.1.k x y else s.both pt f.1 f.1.k x y from by rw [HS2.out,if_neg hne]);go_upto_region 10 with fail
       go_cut [81] (fun s81 wx=>s81 = .bool false∧w4=wx)
       case first =>
        cases a1:(po==pt) with
        | true =>
         have a1':(po !=pt)=false:=by unfold bne;rw [a1];rfl
         go_wp2_with fail
         go_meet
         exact ⟨rfl,rfl⟩
        | false =>
         have a1':(po !=pt)=true:=by unfold bne;rw [a1];rfl
         cases a2:(po==f.1.p) with
         | true =>
          have a2':(po !=f.1.p)=false:=by unfold bne;rw [a2];rfl
          go_wp2_with fail
          go_meet
          exact ⟨rfl,rfl⟩
         | false =>
          have a2':(po !=f.1.p)=true:=by unfold bne;rw [a2];rfl
          have a3:(pt==f.1.p)=true:=by
           rw [beq_iff_eq];exact Decidable.not_not.1 fun q=>hne ⟨beq_eq_false_iff_ne.1 a1,beq_eq_false_iff_ne.1 a2,q⟩
          have a3':(pt !=f.1.p)=false:=by unfold bne;rw [a3];rfl
          go_wp2_with fail
          go_meet
          exact ⟨rfl,rfl⟩
       case rest =>
        obtain ⟨rfl,rfl⟩:=hcut
        cases b1:(pt==f.1.p) with
        | true =>
         have HS4:=zz (show s.file o t f.1=s.both po f.1 f.1.k x y from by rw [HS3.out,if_pos (eq_of_beq b1)]);have HBO1:=zz (HBO.out po hlo)
         go_wp2_with (go_at_call 112;refine HBO1.out.mono ?_;rintro _ w5 ⟨rfl,m5,k5⟩;have HM5:=zz m5;have HK5:=zz (HF.out.trans k5);clear m5 k5)
         first|refine bodyPost_end (results_none rfl _ _ _) rfl ?_|refine bodyPost_ret (results_none rfl _ _ _) rfl ?_
         exact ⟨rfl,by rw [HS4.out];exact HM5.out,HK5.out⟩
        | false =>
         have HS4:=zz (show s.file o t f.1=s.both pt f.1 f.1.k x y from by rw [HS3.out,if_neg (beq_eq_false_iff_ne.1 b1)]);have HBO1:=zz (HBO.out pt hlt)
         go_wp2_with (go_at_call 112;refine HBO1.out.mono ?_;rintro _ w5 ⟨rfl,m5,k5⟩;have HM5:=zz m5;have HK5:=zz (HF.out.trans k5);clear m5 k5)
         first|refine bodyPost_end (results_none rfl _ _ _) rfl ?_|refine bodyPost_ret (results_none rfl _ _ _) rfl ?_
         exact ⟨rfl,by rw [HS4.out];exact HM5.out,HK5.out⟩
end Go.Proofs.YtmkmbbjgepcioaaGreatDoor
