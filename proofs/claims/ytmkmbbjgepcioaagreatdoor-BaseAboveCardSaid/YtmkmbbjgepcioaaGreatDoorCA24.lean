/- Contracts of the reference's tops, crowded, Check at one file. No statement of the seat is proved here. -/
import Derived.Test.YtmkmbbjgepcioaaGreatDoorCAHq
import Derived.Test.YtmkmbbjgepcioaaGreatDoorCA08
import Derived.Test.YtmkmbbjgepcioaaGreatDoorCA13
import Derived.BigRegion
namespace Go.Proofs.YtmkmbbjgepcioaaGreatDoor
set_option maxHeartbeats 4000000
set_option maxRecDepth 100000
section
def zaS (f:FileD):FileD:=⟨f.p,1+(IntKind.i64.wrap (f.k-1))%3,f.d.take 2000⟩
def zbx (p up:Pth):Bool:=(zl p).contains up
def zcl (out:List FileD) (f:FileD):Bool:=out.all fun g=>g.p !=f.p&&!zbx g.p f.p&&!zbx f.p g.p
def insG (f:FileD):List FileD→List FileD
 | []=>[f]
 | g::l=>if g.p<f.p then g::insG f l else f::g::l
def zbu (out:List FileD) (f:FileD):List FileD:=if zL (zaS f)≠0 then out else if zcl out (zaS f)=true then insG (zaS f) out else out
def zbL (l:List FileD):List FileD:=(l.take 40).foldl zbu []
theorem zcT {f g:FileD}:∀{l:List FileD},g∈insG f l↔g=f∨g∈l
 | []=>by simp [insG]
 | x::l=>by
  unfold insG
  split
  · rw [List.mem_cons,List.mem_cons,zcT (l:=l)];constructor
    · rintro (h|h|h)
      · exact .inr (.inl h)
      · exact .inl h
      · exact .inr (.inr h)
    · rintro (h|h|h)
      · exact .inr (.inl h)
      · exact .inl h
      · exact .inr (.inr h)
  · rw [List.mem_cons]
theorem zfX (f:FileD):∀l:List FileD,(insG f l).length=l.length+1
 | []=>rfl
 | x::l=>by
  unfold insG
  split
  · rw [List.length_cons,zfX f l,List.length_cons]
  · rfl
theorem zjZ {f:FileD}:∀{l:List FileD},z8 (l.map (·.p))→(∀g∈l,g.p≠f.p)→z8 ((insG f l).map (·.p))
 | [],_,_=>by simp [insG,z8]
 | x::l,h,hn=>by
  unfold z8 at h ⊢;rw [List.map_cons,List.pairwise_cons] at h;unfold insG
  split
  · rename_i hl
    rw [List.map_cons,List.pairwise_cons];refine ⟨fun y hy=>?_,zjZ h.2 fun g hg=>hn g (List.mem_cons_of_mem _ hg)⟩;obtain ⟨g,hg,rfl⟩:=List.mem_map.1 hy
    rcases zcT.1 hg with rfl|hg
    · exact hl
    · exact h.1 _ (List.mem_map.2 ⟨g,hg,rfl⟩)
  · rename_i hl
    have hfx:f.p<x.p:=by
     rcases zbo f.p x.p with q|q|q
     · exact q
     · exact absurd q.symm (hn x (List.mem_cons_self ..))
     · exact absurd q hl
    rw [List.map_cons,List.map_cons,List.pairwise_cons,List.pairwise_cons];refine ⟨fun y hy=>?_,h.1,h.2⟩
    rcases List.mem_cons.1 hy with rfl|hy
    · exact hfx
    · exact zdF hfx (h.1 y hy)
structure GoodT (l:List FileD):Prop where
 tree:TreeOk l
 data:∀f∈l,f.d.length≤2000
theorem GoodT.nil_:GoodT []:=⟨⟨fun _ h=>(by cases h),List.Pairwise.nil,fun _ h=>(by cases h)⟩,fun _ h=>(by cases h)⟩
theorem znJ (p:Pth):p∉zl p:=fun h=>List.lt_irrefl _ (zjR h)
theorem GoodT.step {out:List FileD} (h:GoodT out) (f:FileD):GoodT (zbu out f):=by
 unfold zbu
 split
 · exact h
 · rename_i h0
   split
   · rename_i hf
     unfold zcl at hf;rw [List.all_eq_true] at hf;have hf':∀g∈out,g.p≠(zaS f).p∧(zaS f).p∉zl g.p∧g.p∉zl (zaS f).p:=fun g hg=>by
      have:=hf g hg;simp only [Bool.and_eq_true,bne_iff_ne,Bool.not_eq_true',zbx,List.contains_eq_mem,decide_eq_false_iff_not] at this;exact ⟨this.1.1,this.1.2,this.2⟩
     refine ⟨⟨fun g hg=>?_,zjZ h.tree.rise fun g hg=>(hf' g hg).1,fun g hg k hk=>?_⟩,fun g hg=>?_⟩
     · rcases zcT.1 hg with rfl|hg
       · exact Decidable.not_not.1 h0
       · exact h.tree.file g hg
     · rcases zcT.1 hg with rfl|hg
       · rcases zcT.1 hk with rfl|hk
         · exact znJ _
         · exact (hf' k hk).2.2
       · rcases zcT.1 hk with rfl|hk
         · exact (hf' g hg).2.1
         · exact h.tree.apart g hg k hk
     · rcases zcT.1 hg with rfl|hg
       · unfold zaS;simp only [List.length_take];omega
       · exact h.data g hg
   · exact h
theorem zj4:∀(l out:List FileD),GoodT out→GoodT (l.foldl zbu out)∧(l.foldl zbu out).length≤out.length+l.length
 | [],out,h=>⟨h,by simp⟩
 | f::l,out,h=>by
  have hs:(zbu out f).length≤out.length+1:=by
   unfold zbu
   split
   · omega
   · split
     · rw [zfX];omega
     · omega
  obtain ⟨h1,h2⟩:=zj4 l _ (h.step f);refine ⟨h1,?_⟩;rw [List.foldl_cons,List.length_cons];omega
theorem zrb (l:List FileD):GoodT (zbL l)∧(zbL l).length≤40:=by
 obtain ⟨h1,h2⟩:=zj4 (l.take 40) [] GoodT.nil_;refine ⟨h1,?_⟩;unfold zbL;rw [List.length_nil,Nat.zero_add,List.length_take] at h2;omega
theorem zpS {l:List FileD} (h:TreeOk l) (hl:l.length≤64):zbr l=false:=by
 unfold zbr;rw [List.any_eq_false];intro e _ q;simp only [decide_eq_true_eq] at q;unfold zU at q;have h1:=zc2 (((zY l).filter fun x=>x.1==e.1).map (·.2));have h2:=List.length_filter_le (fun x=>x.1==e.1) (zY l);have h3:=zf0 h.file;rw [List.length_map] at h1;omega
theorem zpH {l:List FileD} (h:GoodT l) (hl:l.length≤64):zf l=0:=zsm h.tree (by omega) (zpS h.tree hl)
end
section
open Go.RowKit
theorem zqa (p up:Pth):zbx p up=(decide (up.length<p.length)&&(p.take up.length==up&&p[up.length]? == some 47)):=by
 unfold zbx;rw [List.contains_eq_mem,Bool.eq_iff_iff];simp only [decide_eq_true_eq,Bool.and_eq_true,beq_iff_eq]
 rw [zjK];constructor
 · rintro ⟨q,rfl⟩;simp
 · rintro ⟨h1,h2,h3⟩;refine ⟨p.drop (up.length+1),?_⟩
   conv=>lhs;rw [←List.take_append_drop up.length p,h2,List.drop_eq_getElem?_toList_append,h3]
   rfl
theorem zhn (p up:Pth) (w:World):Calls Tryz.prog 57 #[strC p,strC up] w fun e w'=>e = .returned (.bool (zbx p up))∧w=w':=by
 rw [zqa];have hsz:(⟨p.toArray⟩:ByteArray).size=p.length:=by simp [ByteArray.size]
 have hE:=zlu p 0 up.length;rw [Nat.sub_zero,List.drop_zero] at hE;unfold strC;by_cases h1:up.length<p.length
 · obtain ⟨x,hx⟩:∃x,p[up.length]? = some x:=⟨_,List.getElem?_eq_getElem h1⟩;have hx1:p[up.length]=x:=by
    have:=List.getElem?_eq_getElem h1;rw [hx] at this;exact (Option.some.inj this).symm
   have hb:((⟨p.toArray⟩:ByteArray)[up.length]'(by rw [hsz];exact h1))=x:=hx1;have h2:(up.length:Int)<(p.length:Int):=by omega
   have h3:(up.length:Int)≤(p.length:Int):=by omega
   rw [hx];have hx47:(some x==some (47:UInt8))=((x.toNat:Int)==47):=by
    rw [Bool.eq_iff_iff];simp only [beq_iff_eq,Option.some.injEq]
    constructor
    · rintro rfl;rfl
    · intro e;apply UInt8.toNat_inj.1;show x.toNat=47;omega
   rw [hx47,decide_eq_true h1,Bool.true_and];clear hx hx1 hx47;go_enter Tryz.func57,Tryz.ntmps57
   go_wp2_with fail
   · rename_i h4
     go_ret
     exact ⟨by rw [h4];simp,rfl⟩
   · rename_i h4
     go_ret
     exact ⟨by rw [beq_eq_false_iff_ne.2 h4];rfl,rfl⟩
 · have h2:¬(up.length:Int)<(p.length:Int):=by omega
   rw [decide_eq_false h1,Bool.false_and];go_enter Tryz.func57,Tryz.ntmps57
   go_wp2_with fail
   go_ret
   exact ⟨rfl,rfl⟩
theorem zhb (k n:Int) (hn:0<n):k%n=if k.tmod n<0 then k.tmod n+n else k.tmod n:=by
 have h1:k%n=(k.tmod n)%n:=by
  conv=>lhs;rw [←Int.tmod_add_mul_tdiv k n]
  exact Int.add_mul_emod_self_left _ _ _
 have h2:=Int.tmod_lt_of_pos k hn;have h3:=Int.lt_tmod_of_pos k hn;rw [h1]
 split
 · rw [←Int.add_emod_right];exact Int.emod_eq_of_lt (by omega) (by omega)
 · exact Int.emod_eq_of_lt (by omega) h2
theorem zsW (k n:Int) (w:World) (hn:0<n) (hb:n≤1000000):Calls Tryz.prog 56 #[.int .i64 k,.int .i64 n] w fun e w'=>e = .returned (.int .i64 (k%n))∧w=w':=by
 have h2:=Int.tmod_lt_of_pos k hn;have h3:=Int.lt_tmod_of_pos k hn;have HE:=zz (zhb k n hn);have hn0:(n==0)=false:=beq_eq_false_iff_ne.2 (by omega);have hn1:(n==-1)=false:=beq_eq_false_iff_ne.2 (by omega);have hn2:n≠0:=by omega
 have hn3:n≠-1:=by omega
 generalize k%n=v at *;go_enter Tryz.func56,Tryz.ntmps56
 go_wp2_with fail
 · rename_i h4
   go_ret
   exact ⟨by rw [HE.out,if_pos h4];rfl,rfl⟩
 · rename_i h4
   go_ret
   exact ⟨by rw [HE.out,if_neg (by omega)];rfl,rfl⟩
end
section
open Go.RowKit
theorem ze.zero {w:World} {S:Option Addr} {size:Nat}:ze w 0 size S 0 []:=ze.none_
theorem zmt (f:FileD) (A:Option Addr) (c B:Nat) (w:World) (hB:B≤w.heap.size) (hr:FI w B A [f]) (hp:f.p.length≤100000000) (h0:0<(rnP f.p).length) :Calls Tryz.prog 128 #[.slice A 1 c] w fun e w'=>∃A c,e = .returned (.slice A 1 c)∧Below w.heap.size w w':=by
 obtain ⟨g,off,DA,dc,rfl,hg,hld,e0,e1,e2,hd1,hd2,hd3⟩:=hr.at_ (k:=0) (x:=f) rfl;rw [Nat.zero_mul,Nat.add_zero] at hld e0 e1 e2;have HN:=zz (zin f.p w hp);go_enter Tryz.func128,Tryz.ntmps128
 go_wp2_with fail
 obtain ⟨z,hz⟩:∃z,w.heap.size=z:=⟨_,rfl⟩;rw [hz] at HN;have HZ:=zz hz
 go_loopw [3,4] (fun s3 s4 wr=>∃(n:Nat) (A':Option Addr) (c':Nat) (xs:List Pth),s3 = .slice A' n c'∧s4 = .int .i64 (n:Nat)∧n≤1∧Hid (n=0→wr=w)∧Hid (xs.length=n∧Own wr z 9 1 A' n c' (strL xs))∧Hid (Below z w wr)) (fun _ s4 _=>1-(intOf s4).toNat)
 case atStart=>exact ⟨0,none,0,[],rfl,rfl,by omega,zz fun _=>rfl,zz ⟨rfl,Own.nil _ _ _ _⟩,zz (Below.refl _ _)⟩
 case round =>
  obtain ⟨n,A',c',xs,rfl,rfl,hn,H0,HO,HB⟩:=hrel
  rcases (by omega:n=0∨n=1) with rfl|rfl
  · obtain rfl:=H0.out rfl;obtain ⟨R,hR⟩:∃R,rnP f.p=R:=⟨_,rfl⟩;rw [hR] at HN h0;obtain ⟨r0,hr0⟩:∃r0,R[0]? = some r0:=⟨_,List.getElem?_eq_getElem h0⟩;have hl1:(0:Int)<(R.length:Int):=by omega
    have hwz:wr.heap.size=z:=hz;obtain rfl:xs=[]:=List.eq_nil_of_length_eq_zero HO.out.1;unfold strC at HN e0;go_upto_region 6 with (go_at_call 83;refine HN.out.mono ?_;rintro _ w2 ⟨A2,c2,rfl,ho2,hb2⟩;obtain ⟨g2,rfl,_⟩:=ho2.adrn h0;have hc2:w2.cell? ⟨g2,0,none⟩=some (.string ⟨r0.toArray⟩):=((World.ownsRow.cellAt ho2 0 (by omega)).trans (by show (strL R)[0]? = _;unfold strL;rw [List.getElem?_map,hr0];rfl));have HB2:=zz hb2;have HZ2:=zz (show z≤w2.heap.size from by have:=hb2.size;omega);have HO2:=zz (HO.out.2.kept (Kept.ofBelow (base:=0) (E:=[]) (G:=[]) (hwz▸hb2)) (by simp) (by simp));clear ho2 hb2)
    clear hr hld e0 e1 e2 hd3 hc2 HN HB HO
    go_wp2_with fail
    go_loopw [6] (fun s6 wx=>s6 = .int .i64 0∧wx=w2) (fun _ _=>0)
    case atStart=>exact ⟨rfl,rfl⟩
    case round =>
     obtain ⟨rfl,rfl⟩:=hrel
     go_wp2_with (first
      | (at_builtin;refine zy rfl zbA rfl rfl (n:=0) (xs:=[]) (Own.nil _ z _ _) rfl (m:=0) (news:=[]) ze.zero (by simp) (by unfold maxLen;omega) (by omega) HZ2.out ?_;intro A5 c5 w5 o5 k5;have O5:=zz o5;have HB5:=zz (HB2.out.trans (k5.below (Nat.le_refl _) HZ2.out (by simp)));clear o5 k5)
      | (at_builtin;refine zy rfl zbA rfl rfl (n:=0) (xs:=[]) (O5.out.alloc _) rfl (ze.of_blk (n:=1) (size:=1) (xs:=strL [r0]) (heap_alloc_new _ _) rfl rfl) (zbX [r0]) (by unfold maxLen;omega) (by omega) (by have:=HB5.out.size;simp;omega) ?_;intro A6 c6 w6 o6 k6;have O6:=zz o6;have HB6:=zz (HB5.out.trans ((((Kept.refl _ _ _ _).alloc _).trans k6).below (Nat.le_refl _) (hwz▸HB5.out.size) (by simp)));clear o6 k6)
      | (at_builtin;refine zy rfl zbA rfl rfl (n:=1) (xs:=strL [r0]) O6.out rfl (m:=0) (news:=[]) ze.zero (by simp) (by unfold maxLen;omega) (by omega) (by have:=HB6.out.size;omega) ?_;intro A7 c7 w7 o7 k7;have O7:=zz o7;have HB7:=zz (HB6.out.trans (k7.below (Nat.le_refl _) (hwz▸HB6.out.size) (by simp)));clear o7 k7))
     go_roundw
     case rel=>exact ⟨1,A7,c7,[r0],rfl,by go_num,by omega,zz fun h=>by omega,zz ⟨rfl,O7.out⟩,HB7⟩
     case measure=>simp [intOf]
  · go_wp2_with fail
    go_ret
    exact ⟨A',c',rfl,HZ.out▸HB.out⟩
theorem zqi (f:FileD) (A:Option Addr) (c B:Nat) (w:World) (hB:B≤w.heap.size) (hr:FI w B A [f]) (hp:f.p.length≤100000000) (h0:0<(rnP f.p).length) :Calls Tryz.prog 84 #[.slice A 1 c] w fun e w'=>e = .returned (.bool false)∧Below w.heap.size w w':=by
 have HT:=zz (zmt f A c B w hB hr hp h0);clear hr;go_enter Tryz.func84,Tryz.ntmps84
 go_wp2_with (go_at_call 128;refine HT.out.mono ?_;rintro _ w1 ⟨A1,c1,rfl,hb1⟩;have HB1:=zz hb1;clear hb1)
 go_ret
 exact ⟨rfl,HB1.out⟩
theorem zmX (f:FileD):(f.k<1∨3<f.k)∧zL f=3∨(1≤f.k∧f.k≤3)∧((rnP f.p).length=0∧zL f=7∨0<(rnP f.p).length∧(65536<f.d.length∧zL f=5∨f.d.length≤65536∧zL f=0)):=by
 by_cases h1:f.k≠1∧f.k≠2∧f.k≠3
 · exact .inl ⟨by omega,by unfold zL;rw [if_pos h1]⟩
 · refine .inr ⟨by omega,?_⟩;by_cases h2:(rnP f.p).length=0
   · exact .inl ⟨h2,by unfold zL;rw [if_neg h1,if_pos ((zkO f.p).1 h2)]⟩
   · refine .inr ⟨by omega,?_⟩;have h2':=fun q=>h2 ((zkO f.p).2 q);by_cases h3:65536<f.d.length
     · exact .inl ⟨h3,by unfold zL;rw [if_neg h1,if_neg h2',if_pos h3]⟩
     · exact .inr ⟨by omega,by unfold zL;rw [if_neg h1,if_neg h2',if_neg h3]⟩
theorem zpz (f:FileD) (A:Option Addr) (c B:Nat) (w:World) (hB:B≤w.heap.size) (hr:FI w B A [f]) (hp:f.p.length≤100000000) :Calls Tryz.prog 42 #[.slice A 1 c] w fun e w'=>e = .returned (.int .i64 (zL f:Nat))∧Below w.heap.size w w':=by
 have HC:=zz (fun W (k:Below w.heap.size w W) (h:0<(rnP f.p).length)=>zqi f A c B W (Nat.le_trans hB k.size) (hr.below (k.mono hB)) hp h);obtain ⟨g,off,DA,dc,rfl,hg,hld,e0,e1,e2,hd1,hd2,hd3⟩:=hr.at_ (k:=0) (x:=f) rfl;rw [Nat.zero_mul,Nat.add_zero] at hld e0 e1 e2;have HN:=zz (zin f.p w hp);have hcs:=zmX f;obtain ⟨R,hR⟩:∃R,rnP f.p=R:=⟨_,rfl⟩;obtain ⟨E,hE⟩:∃E,zL f=E:=⟨_,rfl⟩;rw [hR] at HN hcs HC;rw [hE] at hcs ⊢;have HCE:=zz (fun W (k:Below w.heap.size w W)=>show W.cell? ⟨g,off+2,none⟩=some (.slice DA f.d.length dc) from ((k.mono hB).cell (p:=⟨g,off+2,none⟩) hg).trans e2);clear hr hld hd3 hR hE;unfold strC at HN e0;go_enter Tryz.func42,Tryz.ntmps42
 go_wp2_with fail
 go_loopw [3] (fun s3 wr=>∃n:Nat,s3 = .int .i64 (n:Nat)∧n≤1∧Hid (n=0→wr=w)∧Hid (n=1→E=0∧0<R.length)∧Hid (Below w.heap.size w wr)) (fun s3 _=>1-(intOf s3).toNat)
 case atStart=>exact ⟨0,rfl,by omega,zz fun _=>rfl,zz fun h=>by omega,zz (Below.refl _ _)⟩
 case round =>
  obtain ⟨n,rfl,hn,H0,H1,HB⟩:=hrel
  rcases (by omega:n=0∨n=1) with rfl|rfl
  · obtain rfl:=H0.out rfl
    rcases hcs with ⟨q1,rfl⟩|⟨⟨q1,q2⟩,q3⟩
    · rcases q1 with q1|q1
      · go_wp2_with fail
        go_ret
        exact ⟨rfl,HB.out⟩
      · have q2:¬f.k<1:=by omega
        go_wp2_with fail
        go_ret
        exact ⟨rfl,HB.out⟩
    · have q4:¬f.k<1:=by omega
      have q5:¬3<f.k:=by omega
      rcases q3 with ⟨q3,rfl⟩|⟨q3,⟨q6,rfl⟩|⟨q6,rfl⟩⟩
      · obtain rfl:=List.eq_nil_of_length_eq_zero q3
        go_wp2_with (go_at_call 83;refine HN.out.mono ?_;rintro _ w2 ⟨A2,c2,rfl,_,hb2⟩;have HB2:=zz hb2;clear hb2)
        go_ret
        exact ⟨rfl,HB2.out⟩
      · have q7:(65536:Int)<(f.d.length:Int):=by omega
        have q8:((R.length:Int)==0)=false:=beq_eq_false_iff_ne.2 (by omega);have q9:¬(R.length:Int)=0:=by omega
        go_wp2_with (go_at_call 83;refine HN.out.mono ?_;rintro _ w2 ⟨A2,c2,rfl,_,hb2⟩;have e9:=HCE.out _ hb2;have HB2:=zz hb2;clear hb2)
        go_ret
        exact ⟨rfl,HB2.out⟩
      · have q7:¬(65536:Int)<(f.d.length:Int):=by omega
        have q8:((R.length:Int)==0)=false:=beq_eq_false_iff_ne.2 (by omega);have q9:¬(R.length:Int)=0:=by omega
        go_upto_region 12 with (go_at_call 83;refine HN.out.mono ?_;rintro _ w2 ⟨A2,c2,rfl,_,hb2⟩;have e9:=HCE.out _ hb2;have HB2:=zz hb2;clear hb2)
        go_region
        go_wp2_with fail
        go_loopw [4] (fun s4 wx=>s4 = .int .i64 0∧∃k,wx=w2.drewN k) (fun _ _=>0)
        case atStart=>exact ⟨rfl,1,rfl⟩
        case round =>
         obtain ⟨rfl,kk,rfl⟩:=hrel
         go_wp2_with fail
         go_roundw
         case rel=>exact ⟨1,by go_num,by omega,zz fun h=>by omega,zz fun _=>⟨by first|rfl|trivial,q3⟩,zz (HB2.out.trans (((Kept.refl w2.heap.size [] [] w2).drewN kk).all.mono HB2.out.size))⟩
         case measure=>simp [intOf]
  · obtain ⟨rfl,q3⟩:=H1.out rfl;have HCW:=zz (HC.out wr HB.out q3)
    go_wp2_with (go_at_call 84;refine HCW.out.mono ?_;rintro _ w2 ⟨rfl,hb2⟩;have HB2:=zz (HB.out.trans (hb2.mono HB.out.size));clear hb2)
    go_ret
    exact ⟨rfl,HB2.out⟩
end
end Go.Proofs.YtmkmbbjgepcioaaGreatDoor
