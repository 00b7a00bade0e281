/- Plain: what the merger gathers with sides changed about. No statement of the seat is proved here. -/
import Derived.Test.YtmkmbbjgepcioaaGreatDoorSAHq
import Derived.Test.YtmkmbbjgepcioaaGreatDoorSA07
import Derived.Test.YtmkmbbjgepcioaaGreatDoorSA12
import Derived.BigRegion
import Derived.Test.YtmkmbbjgepcioaaGreatDoorSA16
namespace Go.Proofs.YtmkmbbjgepcioaaGreatDoor
set_option maxHeartbeats 4000000
set_option maxRecDepth 100000
section
def za9 (f:FileD):FileD:=⟨f.p,1+(IntKind.i64.wrap (f.k-1))%3,f.d.take 2000⟩
def zbD (p up:Pth):Bool:=(zj p).contains up
def zcF (out:List FileD) (f:FileD):Bool:=out.all fun g=>g.p !=f.p&&!zbD g.p f.p&&!zbD f.p g.p
def insG (f:FileD):List FileD→List FileD
 | []=>[f]
 | g::l=>if g.p<f.p then g::insG f l else f::g::l
def zbE (out:List FileD) (f:FileD):List FileD:=if zP (za9 f)≠0 then out else if zcF out (za9 f)=true then insG (za9 f) out else out
def zbW (l:List FileD):List FileD:=(l.take 40).foldl zbE []
theorem zcX {f g:FileD}:∀{l:List FileD},g∈insG f l↔g=f∨g∈l
 | []=>by simp [insG]
 | x::l=>by
  unfold insG
  split
  · rw [List.mem_cons,List.mem_cons,zcX (l:=l)];constructor
    · rintro (h|h|h)
      · exact .inr (.inl h)
      · exact .inl h
      · exact .inr (.inr h)
    · rintro (h|h|h)
      · exact .inr (.inl h)
      · exact .inl h
      · exact .inr (.inr h)
  · rw [List.mem_cons]
theorem zgw (f:FileD):∀l:List FileD,(insG f l).length=l.length+1
 | []=>rfl
 | x::l=>by
  unfold insG
  split
  · rw [List.length_cons,zgw f l,List.length_cons]
  · rfl
theorem zkI {f:FileD}:∀{l:List FileD},zae (l.map (·.p))→(∀g∈l,g.p≠f.p)→zae ((insG f l).map (·.p))
 | [],_,_=>by simp [insG,zae]
 | x::l,h,hn=>by
  unfold zae at h ⊢;rw [List.map_cons,List.pairwise_cons] at h;unfold insG
  split
  · rename_i hl
    rw [List.map_cons,List.pairwise_cons];refine ⟨fun y hy=>?_,zkI h.2 fun g hg=>hn g (List.mem_cons_of_mem _ hg)⟩;obtain ⟨g,hg,rfl⟩:=List.mem_map.1 hy
    rcases zcX.1 hg with rfl|hg
    · exact hl
    · exact h.1 _ (List.mem_map.2 ⟨g,hg,rfl⟩)
  · rename_i hl
    have hfx:f.p<x.p:=by
     rcases zbp f.p x.p with q|q|q
     · exact q
     · exact absurd q.symm (hn x (List.mem_cons_self ..))
     · exact absurd q hl
    rw [List.map_cons,List.map_cons,List.pairwise_cons,List.pairwise_cons];refine ⟨fun y hy=>?_,h.1,h.2⟩
    rcases List.mem_cons.1 hy with rfl|hy
    · exact hfx
    · exact zef hfx (h.1 y hy)
structure GoodT (l:List FileD):Prop where
 tree:TreeOk l
 data:∀f∈l,f.d.length≤2000
theorem GoodT.nil_:GoodT []:=⟨⟨fun _ h=>(by cases h),List.Pairwise.nil,fun _ h=>(by cases h)⟩,fun _ h=>(by cases h)⟩
theorem zsS (p:Pth):p∉zj p:=fun h=>List.lt_irrefl _ (zkU h)
theorem GoodT.step {out:List FileD} (h:GoodT out) (f:FileD):GoodT (zbE out f):=by
 unfold zbE
 split
 · exact h
 · rename_i h0
   split
   · rename_i hf
     unfold zcF at hf;rw [List.all_eq_true] at hf;have hf':∀g∈out,g.p≠(za9 f).p∧(za9 f).p∉zj g.p∧g.p∉zj (za9 f).p:=fun g hg=>by
      have:=hf g hg;simp only [Bool.and_eq_true,bne_iff_ne,Bool.not_eq_true',zbD,List.contains_eq_mem,decide_eq_false_iff_not] at this;exact ⟨this.1.1,this.1.2,this.2⟩
     refine ⟨⟨fun g hg=>?_,zkI h.tree.rise fun g hg=>(hf' g hg).1,fun g hg k hk=>?_⟩,fun g hg=>?_⟩
     · rcases zcX.1 hg with rfl|hg
       · exact Decidable.not_not.1 h0
       · exact h.tree.file g hg
     · rcases zcX.1 hg with rfl|hg
       · rcases zcX.1 hk with rfl|hk
         · exact zsS _
         · exact (hf' k hk).2.2
       · rcases zcX.1 hk with rfl|hk
         · exact (hf' g hg).2.1
         · exact h.tree.apart g hg k hk
     · rcases zcX.1 hg with rfl|hg
       · unfold za9;simp only [List.length_take];omega
       · exact h.data g hg
   · exact h
theorem zj5:∀(l out:List FileD),GoodT out→GoodT (l.foldl zbE out)∧(l.foldl zbE out).length≤out.length+l.length
 | [],out,h=>⟨h,by simp⟩
 | f::l,out,h=>by
  have hs:(zbE out f).length≤out.length+1:=by
   unfold zbE
   split
   · omega
   · split
     · rw [zgw];omega
     · omega
  obtain ⟨h1,h2⟩:=zj5 l _ (h.step f);refine ⟨h1,?_⟩;rw [List.foldl_cons,List.length_cons];omega
theorem ztN (l:List FileD):GoodT (zbW l)∧(zbW l).length≤40:=by
 obtain ⟨h1,h2⟩:=zj5 (l.take 40) [] GoodT.nil_;refine ⟨h1,?_⟩;unfold zbW;rw [List.length_nil,Nat.zero_add,List.length_take] at h2;omega
theorem zuj {l:List FileD} (h:TreeOk l) (hl:l.length≤64):zbx l=false:=by
 unfold zbx;rw [List.any_eq_false];intro e _ q;simp only [decide_eq_true_eq] at q;unfold zab at q;have h1:=zc1 (((z8 l).filter fun x=>x.1==e.1).map (·.2));have h2:=List.length_filter_le (fun x=>x.1==e.1) (z8 l);have h3:=zhj h.file;rw [List.length_map] at h1;omega
theorem zgJ {l:List FileD} (h:GoodT l) (hl:l.length≤64):zg l=0:=zrK h.tree (by omega) (zuj h.tree hl)
end
section
open Go.RowKit
theorem zoi (p up:Pth):zbD p up=(decide (up.length<p.length)&&(p.take up.length==up&&p[up.length]? == some 47)):=by
 unfold zbD;rw [List.contains_eq_mem,Bool.eq_iff_iff];simp only [decide_eq_true_eq,Bool.and_eq_true,beq_iff_eq]
 rw [ziP];constructor
 · rintro ⟨q,rfl⟩;simp
 · rintro ⟨h1,h2,h3⟩;refine ⟨p.drop (up.length+1),?_⟩
   conv=>lhs;rw [←List.take_append_drop up.length p,h2,List.drop_eq_getElem?_toList_append,h3]
   rfl
theorem zir (p up:Pth) (w:World):Calls Tryz.prog 57 #[strC p,strC up] w fun e w'=>e = .returned (.bool (zbD p up))∧w=w':=by
 rw [zoi];have hsz:(⟨p.toArray⟩:ByteArray).size=p.length:=by simp [ByteArray.size]
 have hE:=zlM p 0 up.length;rw [Nat.sub_zero,List.drop_zero] at hE;unfold strC;by_cases h1:up.length<p.length
 · obtain ⟨x,hx⟩:∃x,p[up.length]? = some x:=⟨_,List.getElem?_eq_getElem h1⟩;have hx1:p[up.length]=x:=by
    have:=List.getElem?_eq_getElem h1;rw [hx] at this;exact (Option.some.inj this).symm
   have hb:((⟨p.toArray⟩:ByteArray)[up.length]'(by rw [hsz];exact h1))=x:=hx1;have h2:(up.length:Int)<(p.length:Int):=by omega
   have h3:(up.length:Int)≤(p.length:Int):=by omega
   rw [hx];have hx47:(some x==some (47:UInt8))=((x.toNat:Int)==47):=by
    rw [Bool.eq_iff_iff];simp only [beq_iff_eq,Option.some.injEq]
    constructor
    · rintro rfl;rfl
    · intro e;apply UInt8.toNat_inj.1;show x.toNat=47;omega
   rw [hx47,decide_eq_true h1,Bool.true_and];clear hx hx1 hx47;go_enter Tryz.func57,Tryz.ntmps57
   go_wp2_with fail
   · rename_i h4
     go_ret
     exact ⟨by rw [h4];simp,rfl⟩
   · rename_i h4
     go_ret
     exact ⟨by rw [beq_eq_false_iff_ne.2 h4];rfl,rfl⟩
 · have h2:¬(up.length:Int)<(p.length:Int):=by omega
   rw [decide_eq_false h1,Bool.false_and];go_enter Tryz.func57,Tryz.ntmps57
   go_wp2_with fail
   go_ret
   exact ⟨rfl,rfl⟩
theorem zgK (k n:Int) (hn:0<n):k%n=if k.tmod n<0 then k.tmod n+n else k.tmod n:=by
 have h1:k%n=(k.tmod n)%n:=by
  conv=>lhs;rw [←Int.tmod_add_mul_tdiv k n]
  exact Int.add_mul_emod_self_left _ _ _
 have h2:=Int.tmod_lt_of_pos k hn;have h3:=Int.lt_tmod_of_pos k hn;rw [h1]
 split
 · rw [←Int.add_emod_right];exact Int.emod_eq_of_lt (by omega) (by omega)
 · exact Int.emod_eq_of_lt (by omega) h2
theorem zrz (k n:Int) (w:World) (hn:0<n) (hb:n≤1000000):Calls Tryz.prog 56 #[.int .i64 k,.int .i64 n] w fun e w'=>e = .returned (.int .i64 (k%n))∧w=w':=by
 have h2:=Int.tmod_lt_of_pos k hn;have h3:=Int.lt_tmod_of_pos k hn;have HE:=zz (zgK k n hn);have hn0:(n==0)=false:=beq_eq_false_iff_ne.2 (by omega);have hn1:(n==-1)=false:=beq_eq_false_iff_ne.2 (by omega);have hn2:n≠0:=by omega
 have hn3:n≠-1:=by omega
 generalize k%n=v at *;go_enter Tryz.func56,Tryz.ntmps56
 go_wp2_with fail
 · rename_i h4
   go_ret
   exact ⟨by rw [HE.out,if_pos h4];rfl,rfl⟩
 · rename_i h4
   go_ret
   exact ⟨by rw [HE.out,if_neg (by omega)];rfl,rfl⟩
end
section
open Go.RowKit
theorem ze.zero {w:World} {S:Option Addr} {size:Nat}:ze w 0 size S 0 []:=ze.none_
theorem zrP (f:FileD) (A:Option Addr) (c B:Nat) (w:World) (hB:B≤w.heap.size) (hr:FI w B A [f]) (hp:f.p.length≤100000000) (h0:0<(rnP f.p).length) :Calls Tryz.prog 128 #[.slice A 1 c] w fun e w'=>∃A c,e = .returned (.slice A 1 c)∧Below w.heap.size w w':=by
 obtain ⟨g,off,DA,dc,rfl,hg,hld,e0,e1,e2,hd1,hd2,hd3⟩:=hr.at_ (k:=0) (x:=f) rfl;rw [Nat.zero_mul,Nat.add_zero] at hld e0 e1 e2;have HN:=zz (zk2 f.p w hp);go_enter Tryz.func128,Tryz.ntmps128
 go_wp2_with fail
 obtain ⟨z,hz⟩:∃z,w.heap.size=z:=⟨_,rfl⟩;rw [hz] at HN;have HZ:=zz hz
 go_loopw [3,4] (fun s3 s4 wr=>∃(n:Nat) (A':Option Addr) (c':Nat) (xs:List Pth),s3 = .slice A' n c'∧s4 = .int .i64 (n:Nat)∧n≤1∧Hid (n=0→wr=w)∧Hid (xs.length=n∧Own wr z 9 1 A' n c' (strL xs))∧Hid (Below z w wr)) (fun _ s4 _=>1-(intOf s4).toNat)
 case atStart=>exact ⟨0,none,0,[],rfl,rfl,by omega,zz fun _=>rfl,zz ⟨rfl,Own.nil _ _ _ _⟩,zz (Below.refl _ _)⟩
 case round =>
  obtain ⟨n,A',c',xs,rfl,rfl,hn,H0,HO,HB⟩:=hrel
  rcases (by omega:n=0∨n=1) with rfl|rfl
  · obtain rfl:=H0.out rfl;obtain ⟨R,hR⟩:∃R,rnP f.p=R:=⟨_,rfl⟩;rw [hR] at HN h0;obtain ⟨r0,hr0⟩:∃r0,R[0]? = some r0:=⟨_,List.getElem?_eq_getElem h0⟩;have hl1:(0:Int)<(R.length:Int):=by omega
    have hwz:wr.heap.size=z:=hz;obtain rfl:xs=[]:=List.eq_nil_of_length_eq_zero HO.out.1;unfold strC at HN e0;go_upto_region 6 with (go_at_call 83;refine HN.out.mono ?_;rintro _ w2 ⟨A2,c2,rfl,ho2,hb2⟩;obtain ⟨g2,rfl,_⟩:=ho2.adrn h0;have hc2:w2.cell? ⟨g2,0,none⟩=some (.string ⟨r0.toArray⟩):=((World.ownsRow.cellAt ho2 0 (by omega)).trans (by show (strL R)[0]? = _;unfold strL;rw [List.getElem?_map,hr0];rfl));have HB2:=zz hb2;have HZ2:=zz (show z≤w2.heap.size from by have:=hb2.size;omega);have HO2:=zz (HO.out.2.kept (Kept.ofBelow (base:=0) (E:=[]) (G:=[]) (hwz▸hb2)) (by simp) (by simp));clear ho2 hb2)
    clear hr hld e0 e1 e2 hd3 hc2 HN HB HO
    go_wp2_with fail
    go_loopw [6] (fun s6 wx=>s6 = .int .i64 0∧wx=w2) (fun _ _=>0)
    case atStart=>exact ⟨rfl,rfl⟩
    case round =>
     obtain ⟨rfl,rfl⟩:=hrel
     go_wp2_with (first
      | (at_builtin;refine zH rfl zbG rfl rfl (n:=0) (xs:=[]) (Own.nil _ z _ _) rfl (m:=0) (news:=[]) ze.zero (by simp) (by unfold maxLen;omega) (by omega) HZ2.out ?_;intro A5 c5 w5 o5 k5;have O5:=zz o5;have HB5:=zz (HB2.out.trans (k5.below (Nat.le_refl _) HZ2.out (by simp)));clear o5 k5)
      | (at_builtin;refine zH rfl zbG rfl rfl (n:=0) (xs:=[]) (O5.out.alloc _) rfl (ze.of_blk (n:=1) (size:=1) (xs:=strL [r0]) (heap_alloc_new _ _) rfl rfl) (zb5 [r0]) (by unfold maxLen;omega) (by omega) (by have:=HB5.out.size;simp;omega) ?_;intro A6 c6 w6 o6 k6;have O6:=zz o6;have HB6:=zz (HB5.out.trans ((((Kept.refl _ _ _ _).alloc _).trans k6).below (Nat.le_refl _) (hwz▸HB5.out.size) (by simp)));clear o6 k6)
      | (at_builtin;refine zH rfl zbG rfl rfl (n:=1) (xs:=strL [r0]) O6.out rfl (m:=0) (news:=[]) ze.zero (by simp) (by unfold maxLen;omega) (by omega) (by have:=HB6.out.size;omega) ?_;intro A7 c7 w7 o7 k7;have O7:=zz o7;have HB7:=zz (HB6.out.trans (k7.below (Nat.le_refl _) (hwz▸HB6.out.size) (by simp)));clear o7 k7))
     go_roundw
     case rel=>exact ⟨1,A7,c7,[r0],rfl,by go_num,by omega,zz fun h=>by omega,zz ⟨rfl,O7.out⟩,HB7⟩
     case measure=>simp [intOf]
  · go_wp2_with fail
    go_ret
    exact ⟨A',c',rfl,HZ.out▸HB.out⟩
theorem zqU (f:FileD) (A:Option Addr) (c B:Nat) (w:World) (hB:B≤w.heap.size) (hr:FI w B A [f]) (hp:f.p.length≤100000000) (h0:0<(rnP f.p).length) :Calls Tryz.prog 84 #[.slice A 1 c] w fun e w'=>e = .returned (.bool false)∧Below w.heap.size w w':=by
 have HT:=zz (zrP f A c B w hB hr hp h0);clear hr;go_enter Tryz.func84,Tryz.ntmps84
 go_wp2_with (go_at_call 128;refine HT.out.mono ?_;rintro _ w1 ⟨A1,c1,rfl,hb1⟩;have HB1:=zz hb1;clear hb1)
 go_ret
 exact ⟨rfl,HB1.out⟩
theorem zsT (f:FileD):(f.k<1∨3<f.k)∧zP f=3∨(1≤f.k∧f.k≤3)∧((rnP f.p).length=0∧zP f=7∨0<(rnP f.p).length∧(65536<f.d.length∧zP f=5∨f.d.length≤65536∧zP f=0)):=by
 by_cases h1:f.k≠1∧f.k≠2∧f.k≠3
 · exact .inl ⟨by omega,by unfold zP;rw [if_pos h1]⟩
 · refine .inr ⟨by omega,?_⟩;by_cases h2:(rnP f.p).length=0
   · exact .inl ⟨h2,by unfold zP;rw [if_neg h1,if_pos ((zks f.p).1 h2)]⟩
   · refine .inr ⟨by omega,?_⟩;have h2':=fun q=>h2 ((zks f.p).2 q);by_cases h3:65536<f.d.length
     · exact .inl ⟨h3,by unfold zP;rw [if_neg h1,if_neg h2',if_pos h3]⟩
     · exact .inr ⟨by omega,by unfold zP;rw [if_neg h1,if_neg h2',if_neg h3]⟩
theorem zpL (f:FileD) (A:Option Addr) (c B:Nat) (w:World) (hB:B≤w.heap.size) (hr:FI w B A [f]) (hp:f.p.length≤100000000) :Calls Tryz.prog 42 #[.slice A 1 c] w fun e w'=>e = .returned (.int .i64 (zP f:Nat))∧Below w.heap.size w w':=by
 have HC:=zz (fun W (k:Below w.heap.size w W) (h:0<(rnP f.p).length)=>zqU f A c B W (Nat.le_trans hB k.size) (hr.below (k.mono hB)) hp h);obtain ⟨g,off,DA,dc,rfl,hg,hld,e0,e1,e2,hd1,hd2,hd3⟩:=hr.at_ (k:=0) (x:=f) rfl;rw [Nat.zero_mul,Nat.add_zero] at hld e0 e1 e2;have HN:=zz (zk2 f.p w hp);have hcs:=zsT f;obtain ⟨R,hR⟩:∃R,rnP f.p=R:=⟨_,rfl⟩;obtain ⟨E,hE⟩:∃E,zP f=E:=⟨_,rfl⟩;rw [hR] at HN hcs HC;rw [hE] at hcs ⊢;have HCE:=zz (fun W (k:Below w.heap.size w W)=>show W.cell? ⟨g,off+2,none⟩=some (.slice DA f.d.length dc) from ((k.mono hB).cell (p:=⟨g,off+2,none⟩) hg).trans e2);clear hr hld hd3 hR hE;unfold strC at HN e0;go_enter Tryz.func42,Tryz.ntmps42
 go_wp2_with fail
 go_loopw [3] (fun s3 wr=>∃n:Nat,s3 = .int .i64 (n:Nat)∧n≤1∧Hid (n=0→wr=w)∧Hid (n=1→E=0∧0<R.length)∧Hid (Below w.heap.size w wr)) (fun s3 _=>1-(intOf s3).toNat)
 case atStart=>exact ⟨0,rfl,by omega,zz fun _=>rfl,zz fun h=>by omega,zz (Below.refl _ _)⟩
 case round =>
  obtain ⟨n,rfl,hn,H0,H1,HB⟩:=hrel
  rcases (by omega:n=0∨n=1) with rfl|rfl
  · obtain rfl:=H0.out rfl
    rcases hcs with ⟨q1,rfl⟩|⟨⟨q1,q2⟩,q3⟩
    · rcases q1 with q1|q1
      · go_wp2_with fail
        go_ret
        exact ⟨rfl,HB.out⟩
      · have q2:¬f.k<1:=by omega
        go_wp2_with fail
        go_ret
        exact ⟨rfl,HB.out⟩
    · have q4:¬f.k<1:=by omega
      have q5:¬3<f.k:=by omega
      rcases q3 with ⟨q3,rfl⟩|⟨q3,⟨q6,rfl⟩|⟨q6,rfl⟩⟩
      · obtain rfl:=List.eq_nil_of_length_eq_zero q3
        go_wp2_with (go_at_call 83;refine HN.out.mono ?_;rintro _ w2 ⟨A2,c2,rfl,_,hb2⟩;have HB2:=zz hb2;clear hb2)
        go_ret
        exact ⟨rfl,HB2.out⟩
      · have q7:(65536:Int)<(f.d.length:Int):=by omega
        have q8:((R.length:Int)==0)=false:=beq_eq_false_iff_ne.2 (by omega);have q9:¬(R.length:Int)=0:=by omega
        go_wp2_with (go_at_call 83;refine HN.out.mono ?_;rintro _ w2 ⟨A2,c2,rfl,_,hb2⟩;have e9:=HCE.out _ hb2;have HB2:=zz hb2;clear hb2)
        go_ret
        exact ⟨rfl,HB2.out⟩
      · have q7:¬(65536:Int)<(f.d.length:Int):=by omega
        have q8:((R.length:Int)==0)=false:=beq_eq_false_iff_ne.2 (by omega);have q9:¬(R.length:Int)=0:=by omega
        go_upto_region 12 with (go_at_call 83;refine HN.out.mono ?_;rintro _ w2 ⟨A2,c2,rfl,_,hb2⟩;have e9:=HCE.out _ hb2;have HB2:=zz hb2;clear hb2)
        go_region
        go_wp2_with fail
        go_loopw [4] (fun s4 wx=>s4 = .int .i64 0∧∃k,wx=w2.drewN k) (fun _ _=>0)
        case atStart=>exact ⟨rfl,1,rfl⟩
        case round =>
         obtain ⟨rfl,kk,rfl⟩:=hrel
         go_wp2_with fail
         go_roundw
         case rel=>exact ⟨1,by go_num,by omega,zz fun h=>by omega,zz fun _=>⟨by first|rfl|trivial,q3⟩,zz (HB2.out.trans (((Kept.refl w2.heap.size [] [] w2).drewN kk).all.mono HB2.out.size))⟩
         case measure=>simp [intOf]
  · obtain ⟨rfl,q3⟩:=H1.out rfl;have HCW:=zz (HC.out wr HB.out q3)
    go_wp2_with (go_at_call 84;refine HCW.out.mono ?_;rintro _ w2 ⟨rfl,hb2⟩;have HB2:=zz (HB.out.trans (hb2.mono HB.out.size));clear hb2)
    go_ret
    exact ⟨rfl,HB2.out⟩
end
section
theorem zsN (b x y:Int):(zaj b y x).2=(zaj b x y).2∧((zaj b x y).2=true→(zaj b y x).1=(zaj b x y).1):=by
 unfold zaj;by_cases h1:b=y
 · by_cases h2:b=x
   · subst h1 h2;simp
   · subst h1;have h3:¬x=b:=fun e=>h2 e.symm;simp [h3]
 · by_cases h2:b=x
   · subst h2;have h3:¬y=b:=fun e=>h1 e.symm;simp [h3]
   · rw [if_neg (by simp [h1,h2]),if_neg (by simp [h1,h2])];by_cases h3:x=y
     · subst h3;simp
     · have h4:¬y=x:=fun e=>h3 e.symm;simp [h3,h4]
theorem zs4 (b:FileD) (k:Int) (x y:FileD):(zZ b k y x).2=(zZ b k x y).2∧((zZ b k x y).2.1=true→(zZ b k y x).1=(zZ b k x y).1):=by
 unfold zZ;have e:(zM k&&zM y.k&&zM x.k)=(zM k&&zM x.k&&zM y.k):=by rw [Bool.and_assoc,Bool.and_comm (zM y.k),←Bool.and_assoc]
 rw [e];by_cases h0:x.d=y.d
 · rw [if_pos (.inl h0.symm),if_pos (.inl h0)];exact ⟨rfl,fun _=>h0.symm⟩
 · have h0':¬y.d=x.d:=fun q=>h0 q.symm;by_cases h1:y.d=b.d
   · by_cases h2:x.d=b.d
     · exact absurd (h2.trans h1.symm) h0
     · rw [if_neg (show ¬(y.d=x.d∨x.d=b.d) from fun q=>q.elim h0' h2),if_pos h1,if_pos (show x.d=y.d∨y.d=b.d from .inr h1)];exact ⟨rfl,fun _=>rfl⟩
   · by_cases h2:x.d=b.d
     · rw [if_pos (show y.d=x.d∨x.d=b.d from .inr h2),if_neg (show ¬(x.d=y.d∨y.d=b.d) from fun q=>q.elim h0 h1),if_pos h2];exact ⟨rfl,fun _=>rfl⟩
     · rw [if_neg (show ¬(y.d=x.d∨x.d=b.d) from fun q=>q.elim h0' h2),if_neg h1,if_neg (show ¬(x.d=y.d∨y.d=b.d) from fun q=>q.elim h0 h1),if_neg h2];by_cases h3:(zM k&&zM x.k&&zM y.k)=true
       · rw [if_pos h3,if_pos h3]
         rcases zjr b.d x.d y.d with ⟨q1,q2⟩|⟨u,v,c,q1,q2,_,q4⟩
         · rw [q1,q2];exact ⟨rfl,fun _=>rfl⟩
         · rw [q1,q2];exact ⟨rfl,q4⟩
       · rw [if_neg h3,if_neg h3];exact ⟨rfl,fun q=>by cases q⟩
structure SwM (d d':MSt):Prop where
 c:d'.c=d.c
 e:d'.e=d.e
 paths:(d'.t.map (·.p)).Perm (d.t.map (·.p))
 same:d.c=[]→d'.t=d.t
theorem SwM.refl (d:MSt):SwM d d:=⟨rfl,rfl,List.Perm.refl _,fun _=>rfl⟩
theorem SwM.app {d d' s s':MSt} (h:SwM d d') (k:SwM s s'):SwM (d.app s) (d'.app s') where
 c:=by show d'.c++s'.c=d.c++s.c;rw [h.c,k.c]
 e:=by show (if d'.e=0 then s'.e else d'.e)=(if d.e=0 then s.e else d.e);rw [h.e,k.e]
 paths:=by
  show ((d'.t++s'.t).map (·.p)).Perm ((d.t++s.t).map (·.p));rw [List.map_append,List.map_append];exact h.paths.append k.paths
 same q:=by
  obtain ⟨q1,q2⟩:=List.append_eq_nil_iff.1 (show d.c++s.c=[] from q);show d'.t++s'.t=d.t++s.t;rw [h.same q1,k.same q2]
theorem SwM.sum {α:Type} {f g:α→MSt}:∀{l:List α},(∀a∈l,SwM (f a) (g a))→SwM (sumM (l.map f)) (sumM (l.map g))
 | [],_=>SwM.refl _
 | a::_,h=>(h a (List.mem_cons_self ..)).app (SwM.sum fun b hb=>h b (List.mem_cons_of_mem _ hb))
theorem zd0 (p:Pth) (b:FileD) (k:Int) (x y:FileD):SwM (m0.both p b k x y) (m0.both p b k y x):=by
 obtain ⟨k1,k2⟩:=zsN b.k x.k y.k;obtain ⟨d1,d2⟩:=zs4 b k x y;rw [zgV,zgV];refine ⟨by simp only;rw [k1,d1],by simp only;rw [d1],List.Perm.refl _,fun q=>?_⟩;simp only at q;obtain ⟨q1,q2⟩:=List.append_eq_nil_iff.1 q;have e1:(zaj b.k x.k y.k).2=true:=by
  cases h:(zaj b.k x.k y.k).2 with
  | true=>rfl
  | false=>rw [h] at q1;simp at q1
 have e2:(zZ b k x y).2.1=true:=by
  cases h:(zZ b k x y).2.1 with
  | true=>rfl
  | false=>rw [h] at q2;simp at q2
 simp only
 rw [k2 e1,d2 e2]
theorem zrV (o t:SideD) (f:FileD):SwM (zc9 o t f) (zc9 t o f):=by
 unfold zc9 MSt.file;simp only
 generalize getF o.f (o.goes f.p).1=x;generalize getF t.f (t.goes f.p).1=y;obtain ⟨po,mo⟩:=o.goes f.p;obtain ⟨pt,mt⟩:=t.goes f.p;simp only
 cases mo <;> cases mt
 · simp;exact SwM.refl _
 · simp;exact SwM.refl _
 · simp;exact SwM.refl _
 · simp only [Bool.true_eq_false,and_false,if_false]
   by_cases h1:po=pt
   · subst h1;simp only [ne_eq,not_true_eq_false,false_and,if_false]
     split
     · exact zd0 _ _ _ _ _
     · exact zd0 _ _ _ _ _
   · have h1':¬pt=po:=fun e=>h1 e.symm;by_cases h2:po=f.p
     · subst h2;simp only [ne_eq,not_true_eq_false,false_and,and_false,if_false,h1',if_true]
       exact zd0 _ _ _ _ _
     · by_cases h3:pt=f.p
       · subst h3;simp only [ne_eq,not_true_eq_false,false_and,and_false,if_false,h1,if_true]
         exact zd0 _ _ _ _ _
       · rw [if_pos ⟨h1,h2,h3⟩,if_pos ⟨h1',h3,h2⟩]
         refine ⟨rfl,rfl,?_,fun q=>?_⟩
         · show ([pt,po]:List Pth).Perm [po,pt];exact List.Perm.swap _ _ _
         · simp [MSt.clash,MSt.stay,m0] at q
theorem zqI (base:List FileD) (o t:SideD) (p:Pth):SwM (zc8 base o t p) (zc8 base t o p):=by
 unfold zc8 MSt.fresh1;cases o.isNew base p <;> cases t.isNew base p
 · exact SwM.refl _
 · exact SwM.refl _
 · exact SwM.refl _
 · exact zd0 _ _ _ _ _
theorem zib (a b:List Pth):zat (a++b)=zat (b++a):=zda (zbI _) (zbI _) fun x=>by
 rw [zbm,zbm,List.mem_append,List.mem_append,or_comm]
theorem zrL (base ours theirs:List FileD):SwM (zk base ours theirs) (zk base theirs ours):=by
 rw [zhM,zhM,zib (theirs.map (·.p))];exact (SwM.sum fun f _=>zrV _ _ f).app (SwM.sum fun p _=>zqI _ _ _ p)
def FitF (f:FileD):Prop:=(f.k=1∨f.k=2∨f.k=3)∧f.d.length≤65536
def FitM (d:MSt):Prop:=(∀f∈d.t,FitF f)∧d.e=0
theorem FitM.app {d s:MSt} (h:FitM d) (k:FitM s):FitM (d.app s):=⟨fun f hf=>by
 rcases List.mem_append.1 (show f∈d.t++s.t from hf) with q|q
 · exact h.1 f q
 · exact k.1 f q,by show (if d.e=0 then s.e else d.e)=0;rw [if_pos h.2,k.2]⟩
theorem FitM.sum {α:Type} {f:α→MSt}:∀{l:List α},(∀a∈l,FitM (f a))→FitM (sumM (l.map f))
 | [],_=>⟨fun _ h=>(by cases h),rfl⟩
 | a::_,h=>(h a (List.mem_cons_self ..)).app (FitM.sum fun b hb=>h b (List.mem_cons_of_mem _ hb))
def SmF (f:FileD):Prop:=(f.k=1∨f.k=2∨f.k=3)∧f.d.length≤2000
theorem zhz {f:FileD} (h:SmF f) (p:Pth):FitF { f with p:=p }:=⟨h.1,by have:=h.2;simp only;omega⟩
theorem ziM {f x:FileD} {p:Pth} (hx:SmF x):FitM (m0.alone f p x):=by
 unfold MSt.alone
 split
 · exact ⟨fun _ h=>(by cases h),rfl⟩
 · refine ⟨fun g hg=>?_,rfl⟩;have:g∈[{ x with p:=p }]:=hg;rw [List.mem_singleton.1 this];exact zhz hx p
theorem SmF.get {l:List FileD} (h:∀f∈l,SmF f) {p:Pth} (hp:hasF l p=true):SmF (getF l p):=h _ (zav hp).1
theorem zfd {l:List FileD} (h:GoodT l):∀f∈l,SmF f:=fun f hf=>⟨h.tree.kinds f hf,h.data f hf⟩
end
end Go.Proofs.YtmkmbbjgepcioaaGreatDoor
