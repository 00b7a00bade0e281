/- Contract of maps.Keys on the map of clashes. No statement of the seat is proved here. -/
import Derived.Test.YtmkmbbjgepcioaaGreatDoorSAHq
import Derived.Test.YtmkmbbjgepcioaaGreatDoorSA18
import Derived.Test.YtmkmbbjgepcioaaGreatDoorSA15
import Derived.Test.YtmkmbbjgepcioaaGreatDoorSAYk
import Derived.Test.YtmkmbbjgepcioaaGreatDoorSA07
import Derived.Deep.RegionHeld3
import Derived.Test.YtmkmbbjgepcioaaGreatDoorSA05
namespace Go.Proofs.YtmkmbbjgepcioaaGreatDoor
set_option maxHeartbeats 16000000
set_option maxRecDepth 100000
section
open Go.RowKit Go.Sort Go.Shelf
instance:Inhabited LikD:=⟨⟨[],[],0,0⟩⟩
instance:Inhabited PairD:=⟨⟨[],[],0⟩⟩
instance:Inhabited FileD:=⟨⟨[],0,[]⟩⟩
theorem zf1 (x:LikD):∀v∈likL x,v.oneCell'=true:=by
 intro v hv;simp only [likL,strC,List.mem_cons,List.not_mem_nil,or_false] at hv;rcases hv with rfl|rfl|rfl|rfl <;> rfl
theorem ztM {base:Nat} {A:Option Addr} {n c:Nat} (d:List LikD) (w:World) (hn:d.length=n) (hn2:n≤1000000000) (hown:Own w base 265 4 A n c (d.flatMap likL)) :Calls Tryz.prog 145 #[.slice A n c,.func (.func 146) #[] #[]] w fun e w'=>e = .returned (.tuple #[])∧Own w' base 265 4 A n c ((zaJ zaT d).flatMap likL)∧Kept base [265] [] w w':=by
 have:=zen Tryz.sortFLik (k:=4) (fun w=>by kernel_rfl) (fun w=>by kernel_rfl) likL (fun _=>rfl) zf1 cmpL (by rw [zlp];exact zkj.swo) 146 (fun args w=>by kernel_rfl) (fun W x y=>zsL W x y) d w hn (by omega) hown;refine this.mono ?_;rintro e w' ⟨h1,d',hp,hs,ho,hk⟩;rw [zna hp hs] at ho;exact ⟨h1,ho,hk⟩
theorem zq9 {base:Nat} {A:Option Addr} {n c:Nat} (d:List PairD) (w:World) (hn:d.length=n) (hn2:n≤1000000000) (hd:(d.map (·.old)).Nodup) (hown:Own w base 188 3 A n c (d.flatMap zv)) :Calls Tryz.prog 147 #[.slice A n c,.func (.func 148) #[] #[]] w fun e w'=>e = .returned (.tuple #[])∧Own w' base 188 3 A n c ((zaJ (fun a b=>decide (a.old<b.old)) d).flatMap zv)∧Kept base [188] [] w w':=by
 have:=zen Tryz.sortFPair (k:=3) (fun w=>by kernel_rfl) (fun w=>by kernel_rfl) zv (fun _=>rfl) zdx (fun x y:PairD=>cmpS x.old y.old) (by rw [zkN];exact (zcs _).swo) 148 (fun args w=>by kernel_rfl) (fun W x y=>zt0 W x y) d w hn (by omega) hown;refine this.mono ?_;rintro e w' ⟨h1,d',hp,hs,ho,hk⟩;rw [zpG hp hs hd] at ho;exact ⟨h1,ho,hk⟩
end
section
open Go.RowKit
theorem ztk {w:World} {B:Nat} {A:Option Addr} {l:List ChangeD} (h:CI w B A l) {k:Nat} {x:ChangeD} (hk:l[k]? = some x):∃g off oA oc nA nc,A=some ⟨g,off,none⟩∧g<B ∧(Instr.loadAt 183 (.pointer (some ⟨g,off+k*6,none⟩))).run Tryz.prog w = .ok (.agg (chgC x (.slice oA x.old.d.length oc) (.slice nA x.new.d.length nc))) w ∧zw w B x.old (.slice oA x.old.d.length oc)∧zw w B x.new (.slice nA x.new.d.length nc):=by
 obtain ⟨tv,h1,h2,h3⟩:=h;have hlt:k<l.length:=(List.getElem?_eq_some_iff.1 hk).1;obtain ⟨y,hy⟩:∃y,tv[k]? = some y:=⟨_,List.getElem?_eq_getElem (by omega)⟩;obtain ⟨⟨oA,oc,e1,o1,o2,o3⟩,⟨nA,nc,e2,n1,n2,n3⟩⟩:=h3 k x y hk hy;obtain ⟨g,off,rfl,hg,hc⟩:=h2.at0 (by omega) (by omega);obtain ⟨y1,y2⟩:=y;simp only at e1 e2;subst e1 e2;refine ⟨g,off,oA,oc,nA,nc,rfl,hg,zaE w _ (chgC x (.slice oA x.old.d.length oc) (.slice nA x.new.d.length nc)) Tryz.underlying183 rfl zea (fun j v hj=>?_),⟨oA,oc,rfl,o1,o2,o3⟩,⟨nA,nc,rfl,n1,n2,n3⟩⟩;have:=hc _ _ (zmt hk hy j v (by rw [←hj];simp [chgV,chgC]));rw [zJ];rw [←Nat.add_assoc] at this;exact this
theorem CI.below {w w':World} {B:Nat} {A:Option Addr} {l:List ChangeD} (h:CI w B A l) (hb:Below B w w'):CI w' B A l:=by
 obtain ⟨tv,h1,h2,h3⟩:=h;exact ⟨tv,h1,h2.below hb,fun k x y e1 e2=>⟨(h3 k x y e1 e2).1.below hb,(h3 k x y e1 e2).2.below hb⟩⟩
structure TwoF (wr:World) (z B:Nat) (gA:Option Addr) (gc:Nat) (cA:Option Addr) (cc:Nat) (gs cs:List FileD):Prop where
 go:FO wr z B gA gc gs
 co:FO wr z B cA cc cs
 ap:zbl gA cA
 pa:zbl cA gA
 hz:B≤z
 hs:z≤wr.heap.size
section
variable {wr w9:World} {z B:Nat} {gA:Option Addr} {gc:Nat} {cA:Option Addr} {cc:Nat} {gs cs:List FileD}
theorem TwoF.keepB (h:TwoF wr z B gA gc cA cc gs cs) (hb:Below wr.heap.size wr w9):TwoF w9 z B gA gc cA cc gs cs :=
 ⟨h.go.keepB hb (Nat.le_trans h.hz h.hs),h.co.keepB hb (Nat.le_trans h.hz h.hs),h.ap,h.pa,h.hz,Nat.le_trans h.hs hb.size⟩
theorem zbl.symm {A C:Option Addr} (h:zbl A C):zbl C A:=fun a c ha hc e=>h c a hc ha e.symm
theorem TwoF.left {tv:List Value} {f:FileD} {D:Option Addr} {d c9:Nat} {A9:Option Addr} (h:TwoF wr z B gA gc cA cc gs cs) (h1:tv.length=gs.length) (h3:∀(k:Nat) x y,gs[k]? = some x→tv[k]? = some y→zw wr B x y) (hx:zw wr B f (.slice D f.d.length d)) (o9:Own w9 z 70 3 A9 (gs.length+1) c9 (zK gs tv++(za f D d).toList)) (k9:Kept z [70] [] (wr.alloc (.cells (za f D d) 70)) w9) (n9:∀p,p<(wr.alloc (.cells (za f D d) 70)).heap.size→NotB gA gs.length gc p→w9.heap[p]? = (wr.alloc (.cells (za f D d) 70)).heap[p]?∧NotB A9 (gs.length+1) c9 p):TwoF w9 z B A9 c9 cA cc (gs++[f]) cs∧Below z wr w9:=by
 obtain ⟨q1,q2,q3,q4⟩:=FO.push2 h1 h3 hx h.co h.pa h.hz h.hs o9 k9 n9;exact ⟨⟨q1,q2,q3.symm,q3,h.hz,Nat.le_trans h.hs (by have:=k9.size;simp at this;omega)⟩,q4⟩
theorem TwoF.right {tv:List Value} {f:FileD} {D:Option Addr} {d c9:Nat} {A9:Option Addr} (h:TwoF wr z B gA gc cA cc gs cs) (h1:tv.length=cs.length) (h3:∀(k:Nat) x y,cs[k]? = some x→tv[k]? = some y→zw wr B x y) (hx:zw wr B f (.slice D f.d.length d)) (o9:Own w9 z 70 3 A9 (cs.length+1) c9 (zK cs tv++(za f D d).toList)) (k9:Kept z [70] [] (wr.alloc (.cells (za f D d) 70)) w9) (n9:∀p,p<(wr.alloc (.cells (za f D d) 70)).heap.size→NotB cA cs.length cc p→w9.heap[p]? = (wr.alloc (.cells (za f D d) 70)).heap[p]?∧NotB A9 (cs.length+1) c9 p):TwoF w9 z B gA gc A9 c9 gs (cs++[f])∧Below z wr w9:=by
 obtain ⟨q1,q2,q3,q4⟩:=FO.push2 h1 h3 hx h.go h.ap h.hz h.hs o9 k9 n9;exact ⟨⟨q2,q1,q3,q3.symm,h.hz,Nat.le_trans h.hs (by have:=k9.size;simp at this;omega)⟩,q4⟩
end
theorem zt2 {l:List ChangeD} {k:Nat} {x:ChangeD} (h:l[k]? = some x):zY (l.take (k+1))=zY (l.take k)++(if (x.new.k==0&&zaL x.old)=true then [x.old] else []):=by
 unfold zY;rw [List.take_add_one,h,List.filterMap_append]
 congr 1
 simp only [Option.toList_some,List.filterMap_cons,List.filterMap_nil,Bool.and_eq_true,beq_iff_eq]
 split <;> (rename_i q;split at q <;> simp_all)
theorem zoW {l:List ChangeD} {k:Nat} {x:ChangeD} (h:l[k]? = some x):zX (l.take (k+1))=zX (l.take k)++(if (x.new.k==0&&zaL x.old)=true then [] else if (x.old.k==0&&zaL x.new)=true then [x.new] else []):=by
 unfold zX;rw [List.take_add_one,h,List.filterMap_append]
 congr 1
 simp only [Option.toList_some,List.filterMap_cons,List.filterMap_nil,Bool.and_eq_true,beq_iff_eq]
 by_cases h1:x.new.k=0∧zaL x.old=true
 · rw [if_pos h1,if_pos h1]
 · rw [if_neg h1,if_neg h1];by_cases h2:x.old.k=0∧zaL x.new=true
   · rw [if_pos h2,if_pos h2]
   · rw [if_neg h2,if_neg h2]
theorem zli (l:List ChangeD):(zY l).length≤l.length:=List.length_filterMap_le _ _
theorem zsO (l:List ChangeD):(zX l).length≤l.length:=List.length_filterMap_le _ _
theorem znP {l:List ChangeD} {f:FileD} (h:f∈zY l):∃x∈l,f=x.old:=by
 unfold zY at h;obtain ⟨x,hx,e⟩:=List.mem_filterMap.1 h
 split at e
 · injection e with e;exact ⟨x,hx,e.symm⟩
 · cases e
theorem ztJ {l:List ChangeD} {f:FileD} (h:f∈zX l):∃x∈l,f=x.new:=by
 unfold zX at h;obtain ⟨x,hx,e⟩:=List.mem_filterMap.1 h
 split at e
 · cases e
 · split at e
   · injection e with e;exact ⟨x,hx,e.symm⟩
   · cases e
def LO (w:World) (z:Nat) (A:Option Addr) (c:Nat) (ls:List LikD):Prop:=Own w z 265 4 A ls.length c (ls.flatMap likL)
theorem LO.nil_ (w:World) (z:Nat):LO w z none 0 []:=Own.nil _ _ _ _
theorem LO.keepB {w w':World} {z:Nat} {A:Option Addr} {c:Nat} {ls:List LikD} (h:LO w z A c ls) (hb:Below w.heap.size w w'):LO w' z A c ls:=Own.kept (b':=0) (E:=[]) (G:=[]) h (Kept.ofBelow hb) (by simp) (by simp)
theorem LO.snoc {w:World} {z:Nat} {A:Option Addr} {c:Nat} {ls:List LikD} {x:LikD} (ho:Own w z 265 4 A (ls.length+1) c (ls.flatMap likL++likL x)):LO w z A c (ls++[x]):=by
 unfold LO;rw [List.length_append,List.flatMap_append];simpa using ho
theorem ziY:Elem Tryz.prog 263 265 4 48:=by
 refine ⟨Tryz.underlying263,?_,by decide⟩;obtain ⟨i,hi,h1,h2,h3⟩:=info_parts (show (Tryz.prog.info? 265).map (fun i=>(i.zero,i.size,i.bytes))=some (some (.agg #[.string ⟨#[]⟩,.string ⟨#[]⟩,.int .i64 0,.int .i64 0]),4,48) by kernel_rfl);exact ⟨i,_,hi,h1,h2,h3,rfl⟩
theorem znj (w:World):(zeroValue 265).run Tryz.prog w = .ok (.agg #[.string ⟨#[]⟩,.string ⟨#[]⟩,.int .i64 0,.int .i64 0]) w:=by kernel_rfl
theorem zqK (o n:Pth) (k m:Int) (w:World):(Instr.build 265 #[(0,.agg #[strC o,strC n,.int .i64 k]),(1,.int .i64 m)]).run Tryz.prog w = .ok (.agg #[strC o,strC n,.int .i64 k,.int .i64 m]) w:=by kernel_rfl
theorem zh4 (gone come:List FileD) (h1:gone.length≤100) (h2:come.length≤100):(zbt gone come).length≤10000:=by
 rw [zes,if_pos ⟨h1,h2⟩];have key:∀g:List FileD,(g.flatMap fun f=>come.filterMap (likS f)).length≤g.length*100:=by
  intro g
  induction g with
  | nil=>simp
  | cons x g ih =>
   rw [List.flatMap_cons,List.length_append,List.length_cons];have:=List.length_filterMap_le (likS x) come;omega
 have:=key gone;omega
end
section
open Go.RowKit Go.Sort Go.Shelf
theorem zru (W:World) (x y:FT):Calls Tryz.prog 118 #[.agg (ftL x).toArray,.agg (ftL y).toArray] W fun e w'=>e = .returned (.int .i64 (cmpS x.1.p y.1.p))∧∃q os',w'=grow (W.drewN q) os':=by
 have HG:=zz (zhc W (.cells (ftL x).toArray 70) (.cells (ftL y).toArray 70));have hx:=(Blk.new W 70 (ftL x).toArray).alloc (.cells (ftL y).toArray 70);have hy:=Blk.new (W.alloc (.cells (ftL x).toArray 70)) 70 (ftL y).toArray;rw [show (W.alloc (.cells (ftL x).toArray 70)).heap.size=W.heap.size+1 from by simp] at hy;have c1:=(hx.cell 0).trans (show (ftL x).toArray[0]? = some (strC x.1.p) from rfl);have c2:=(hy.cell 0).trans (show (ftL y).toArray[0]? = some (strC y.1.p) from rfl);have HX:=zz (And.intro c1 c2);clear hx hy c1 c2;have HC:=zz (fun w=>zeI x.1.p y.1.p w);go_enter Tryz.func118,Tryz.ntmps118
 go_wp2_with (first
  | (refine zC rfl rfl (cs:=(ftL x).toArray) rfl ?_)
  | (refine zC rfl rfl (cs:=(ftL y).toArray) rfl ?_;obtain ⟨c1,c2⟩:=HX.out;clear HX;generalize (W.alloc (.cells (ftL x).toArray 70)).alloc (.cells (ftL y).toArray 70)=w1 at *)
  | (go_at_call 78;refine (HC.out _).mono ?_;rintro _ _ ⟨rfl,rfl⟩))
 go_ret
 exact ⟨rfl,HG.out⟩
theorem zf4:∀a b:Pth,Lib.compareBytes a b=cmpS a b
 | [],[]=>by simp [Lib.compareBytes,cmpS]
 | [],_::_=>by simp [Lib.compareBytes,cmpS]
 | _::_,[]=>by simp [Lib.compareBytes,cmpS]
 | a::la,b::lb=>by
  rw [Lib.compareBytes,zf4 la lb];unfold cmpS;simp only [List.cons_lt_cons_iff]
  by_cases h1:a<b
  · simp [h1]
  · by_cases h2:b<a
    · have h3:¬a=b:=fun e=>by subst e;exact h1 h2
      simp [h1,h2,h3]
    · have h3:a=b:=by
       apply UInt8.toNat_inj.1;have q1:¬a.toNat<b.toNat:=h1;have q2:¬b.toNat<a.toNat:=h2;omega
      subst h3;simp [h1]
theorem znf (a b:Pth) (w:World):Calls Tryz.prog 75 #[strC a,strC b] w fun e w'=>e = .returned (.int .i64 (cmpS a b))∧w=w':=by
 unfold strC;refine (Tryz.strings_Compare ⟨a.toArray⟩ ⟨b.toArray⟩ w).mono ?_;rintro e w' ⟨h1,h2⟩;refine ⟨?_,h2.symm⟩;rw [h1];show Ending.returned (.int .i64 (Lib.compareBytes a b))=_;rw [zf4]
theorem zpy (W:World) (x y:FT):Calls Tryz.prog 74 #[.agg (ftL x).toArray,.agg (ftL y).toArray] W fun e w'=>e = .returned (.int .i64 (cmpS x.1.p y.1.p))∧∃q os',w'=grow (W.drewN q) os':=by
 have HG:=zz (zhc W (.cells (ftL x).toArray 70) (.cells (ftL y).toArray 70));have hx:=(Blk.new W 70 (ftL x).toArray).alloc (.cells (ftL y).toArray 70);have hy:=Blk.new (W.alloc (.cells (ftL x).toArray 70)) 70 (ftL y).toArray;rw [show (W.alloc (.cells (ftL x).toArray 70)).heap.size=W.heap.size+1 from by simp] at hy;have c1:=(hx.cell 0).trans (show (ftL x).toArray[0]? = some (strC x.1.p) from rfl);have c2:=(hy.cell 0).trans (show (ftL y).toArray[0]? = some (strC y.1.p) from rfl);have HX:=zz (And.intro c1 c2);clear hx hy c1 c2;have HC:=zz (fun w=>znf x.1.p y.1.p w);go_enter Tryz.func74,Tryz.ntmps74
 go_wp2_with (first
  | (refine zC rfl rfl (cs:=(ftL x).toArray) rfl ?_)
  | (refine zC rfl rfl (cs:=(ftL y).toArray) rfl ?_;obtain ⟨c1,c2⟩:=HX.out;clear HX;generalize (W.alloc (.cells (ftL x).toArray 70)).alloc (.cells (ftL y).toArray 70)=w1 at *)
  | (go_at_call 75;refine (HC.out _).mono ?_;rintro _ _ ⟨rfl,rfl⟩))
 go_ret
 exact ⟨rfl,HG.out⟩
theorem zls:ltOf (fun x y:FT=>cmpS x.1.p y.1.p)=fun a b=>decide (a.1.p<b.1.p):=by
 funext a b
 exact zdG _ _
theorem zk4 {base:Nat} {A:Option Addr} {n c g:Nat} (eg:∀args w,(callFunc g args).run Tryz.prog w = .ok (.enter g args) w) (hcmp:∀(W:World) (x y:FT),Calls Tryz.prog g #[.agg (ftL x).toArray,.agg (ftL y).toArray] W fun e w'=>e = .returned (.int .i64 (cmpS x.1.p y.1.p))∧∃q os',w'=grow (W.drewN q) os') (d:List FT) (w:World) (hn:d.length=n) (hn2:n≤1000000000) (hd:Apt (d.map (·.1))) (hown:Own w base 70 3 A n c (d.flatMap ftL)) :Calls Tryz.prog 73 #[.slice A n c,.func (.func g) #[] #[]] w fun e w'=>e = .returned (.tuple #[])∧∃d':List FT,d'.Perm d∧d'.map (·.1)=zS (d.map (·.1))∧Own w' base 70 3 A n c (d'.flatMap ftL)∧Kept base [70] [] w w':=by
 haveI:Inhabited FT:=⟨(⟨[],0,[]⟩,(none,0))⟩
 have:=zen Tryz.sortFFile (k:=3) (fun w=>by kernel_rfl) (fun w=>by kernel_rfl) ftL (fun _=>rfl) zb7 (fun x y:FT=>cmpS x.1.p y.1.p) (by rw [zls];exact (zcs (fun x:FT=>x.1.p)).swo) g eg hcmp d w hn (by omega) hown;refine this.mono ?_;rintro e w' ⟨h1,d',hp,hs,ho,hk⟩;refine ⟨h1,d',hp,?_,ho,hk⟩;rw [zls] at hs;refine (zhm (hp.map _).symm ?_ hd).symm;unfold zbC;rw [List.pairwise_map];exact hs
end
section
open Go.RowKit Go.Sort Go.Shelf
def zN (x:ClashD):List Value:=[strC x.p,.int .i64 (x.why:Nat)]
def cmpC (a b:ClashD):Int:=orP [cmpS a.p b.p,Lib.compareInt a.why b.why]
theorem ztl (W:World) (x y:ClashD):Calls Tryz.prog 76 #[.agg (zN x).toArray,.agg (zN y).toArray] W fun e w'=>e = .returned (.int .i64 (cmpC x y))∧∃q os',w'=grow (W.drewN q) os':=by
 have hx:=(Blk.new W 86 (zN x).toArray).alloc (.cells (zN y).toArray 86);have hy:=Blk.new (W.alloc (.cells (zN x).toArray 86)) 86 (zN y).toArray;rw [show (W.alloc (.cells (zN x).toArray 86)).heap.size=W.heap.size+1 from by simp] at hy;have HX:=zz (And.intro hx hy);have hg:(W.alloc (.cells (zN x).toArray 86)).alloc (.cells (zN y).toArray 86)=grow W #[.cells (zN x).toArray 86,.cells (zN y).toArray 86]:=by rw [alloc_eq_grow,alloc_eq_grow,grow_grow];rfl
 have HG:=zz hg;clear hx hy hg;obtain ⟨p1,k1⟩:=x;obtain ⟨p2,k2⟩:=y;unfold zN strC at HX HG ⊢;simp only at HX HG ⊢;go_enter Tryz.func76,Tryz.ntmps76
 go_upto_region 1 with (first
  | (refine zC rfl rfl (cs:=#[.string ⟨p1.toArray⟩,.int .i64 (k1:Int)]) rfl ?_)
  | (refine zC rfl rfl (cs:=#[.string ⟨p2.toArray⟩,.int .i64 (k2:Int)]) rfl ?_))
 generalize (W.alloc (.cells [Value.string ⟨p1.toArray⟩,.int .i64 (k1:Int)].toArray 86)).alloc (.cells [Value.string ⟨p2.toArray⟩,.int .i64 (k2:Int)].toArray 86)=w1 at *;have HI:=zz (fun (w:World)=>show Calls Tryz.prog 79 #[.int .i64 (k1:Int),.int .i64 (k2:Int)] w (fun e w'=>e = .returned (.int .i64 (Lib.compareInt (k1:Int) (k2:Int)))∧w=w') from (Tryz.cmp_Compare_int (k1:Int) (k2:Int) w).mono fun _ _ h=>⟨h.1,h.2.symm⟩);have HS:=zz (fun (w:World)=>show Calls Tryz.prog 78 #[.string ⟨p1.toArray⟩,.string ⟨p2.toArray⟩] w (fun e w'=>e = .returned (.int .i64 (cmpS p1 p2))∧w=w') from zeI p1 p2 w);have x0:w1.drew.cell? ⟨W.heap.size,0,none⟩=some (.string ⟨p1.toArray⟩):=HX.out.1.cell 0;have x1:w1.drew.cell? ⟨W.heap.size,1,none⟩=some (.int .i64 (k1:Int)):=HX.out.1.cell 1;have y0:w1.drew.cell? ⟨W.heap.size+1,0,none⟩=some (.string ⟨p2.toArray⟩):=HX.out.2.cell 0;have y1:w1.drew.cell? ⟨W.heap.size+1,1,none⟩=some (.int .i64 (k2:Int)):=HX.out.2.cell 1;have hcl:cmpC ⟨p1,k1⟩ ⟨p2,k2⟩=orP [cmpS p1 p2,Lib.compareInt k1 k2]:=rfl;have HLT:=zz (show W.heap.size<w1.heap.size∧W.heap.size+1<w1.heap.size from ⟨HX.out.1.lt,HX.out.2.lt⟩);have HOR:=zz (fun (a b:Int) (A:Option Addr) (k B:Nat) (w:World) (h:ze w B 1 A 2 (intL [a,b]))=>zjx [a,b] A k B w h (by simp));have tx0:∀o,(w1.alloc o).drew.cell? ⟨W.heap.size,0,none⟩=some (.string ⟨p1.toArray⟩):=fun o=>(World.cell?_alloc_lt w1 o ⟨W.heap.size,0,none⟩ HLT.out.1).trans x0;have tx1:∀o,(w1.alloc o).drew.cell? ⟨W.heap.size,1,none⟩=some (.int .i64 (k1:Int)):=fun o=>(World.cell?_alloc_lt w1 o ⟨W.heap.size,1,none⟩ HLT.out.1).trans x1;have ty0:∀o,(w1.alloc o).drew.cell? ⟨W.heap.size+1,0,none⟩=some (.string ⟨p2.toArray⟩):=fun o=>(World.cell?_alloc_lt w1 o ⟨W.heap.size+1,0,none⟩ HLT.out.2).trans y0;have ty1:∀o,(w1.alloc o).drew.cell? ⟨W.heap.size+1,1,none⟩=some (.int .i64 (k2:Int)):=fun o=>(World.cell?_alloc_lt w1 o ⟨W.heap.size+1,1,none⟩ HLT.out.2).trans y1;generalize cmpS p1 p2=v1 at *;generalize Lib.compareInt k1 k2=v2 at *;have HCL:=zz hcl;clear HX hcl
 go_region_held3 (fun w'=>w'.cell? ⟨W.heap.size,0,none⟩=some (.string ⟨p1.toArray⟩)∧w'.cell? ⟨W.heap.size,1,none⟩=some (.int .i64 (k1:Int))∧w'.cell? ⟨W.heap.size+1,0,none⟩=some (.string ⟨p2.toArray⟩)∧w'.cell? ⟨W.heap.size+1,1,none⟩=some (.int .i64 (k2:Int))) (first|go_keep) (first
  | (go_simp;go_at_call 79;with_reducible refine (HI.out _).mono ?_;rintro _ _ ⟨rfl,rfl⟩)
  | (go_simp;go_at_call 78;with_reducible refine (HS.out _).mono ?_;rintro _ _ ⟨rfl,rfl⟩)
  | (go_simp;go_at_call 77;refine (HOR.out v1 v2 _ 2 (w1.heap.size+1) _ (ze.of_blk (n:=2) (heap_alloc_new w1.drew _) rfl rfl)).mono ?_;rintro _ _ ⟨rfl,rfl⟩))
 all_goals
  go_wp2_with fail
  go_ret
  refine ⟨by rw [HCL.out];rfl,1,#[.cells #[.string ⟨p1.toArray⟩,.int .i64 (k1:Int)] 86,.cells #[.string ⟨p2.toArray⟩,.int .i64 (k2:Int)] 86,.cells #[.int .i64 v1,.int .i64 v2] 3],?_⟩;rw [HG.out];simp only [alloc_eq_grow,drew_grow,grow_grow]
  rfl
theorem zkn:ltOf cmpC=ltC:=by
 funext a b
 show decide (cmpC a b<0)=_;unfold cmpC ltC;rw [zdM,zdM,zdG,ziW,zgn];simp [orP]
theorem ztx:Ord ltC:=by
 have:ltC=fun a b:ClashD=>decide (a.p<b.p)||(!decide (b.p<a.p)&&decide (a.why<b.why)):=by
  funext a b
  unfold ltC;rw [lexS]
 rw [this];exact (zcs (fun x:ClashD=>x.p)).lex (zh5 (fun x:ClashD=>x.why))
end
section
open Go.RowKit Go.Sort Go.Shelf
theorem zmD (x:ClashD):∀v∈zN x,v.oneCell'=true:=by
 intro v hv;simp only [zN,strC,List.mem_cons,List.not_mem_nil,or_false] at hv;rcases hv with rfl|rfl <;> rfl
theorem zqu {l m:List ClashD} (hp:m.Perm l) (hs:m.Pairwise fun a b=>ltOf cmpC b a=false) (hd:l.Nodup):m=zaY l:=by
 rw [zkn] at hs;have hn:m.Nodup:=hp.nodup_iff.2 hd;refine zeM ?_ (zcQ l) fun x=>by rw [zcp];exact hp.mem_iff
 unfold zct;refine List.Pairwise.imp₂ (fun a b h1 h2=>?_) hs hn
 rcases zjG a b with q|q|q
 · exact q
 · exact absurd q h2
 · rw [h1] at q;cases q
theorem zml {base:Nat} {A:Option Addr} {n c:Nat} (d:List ClashD) (w:World) (hn:d.length=n) (hn2:n≤1000000000) (hd:d.Nodup) (hown:Own w base 86 2 A n c (d.flatMap zN)) :Calls Tryz.prog 125 #[.slice A n c,.func (.func 76) #[] #[]] w fun e w'=>e = .returned (.tuple #[])∧Own w' base 86 2 A n c ((zaY d).flatMap zN)∧Kept base [86] [] w w':=by
 haveI:Inhabited ClashD:=⟨⟨[],0⟩⟩
 have:=zen Tryz.sortFClash (k:=2) (fun w=>by kernel_rfl) (fun w=>by kernel_rfl) zN (fun _=>rfl) zmD cmpC (by rw [zkn];exact ztx.swo) 76 (fun args w=>by kernel_rfl) (fun W x y=>ztl W x y) d w hn (by omega) hown;refine this.mono ?_;rintro e w' ⟨h1,d',hp,hs,ho,hk⟩;rw [zqu hp hs hd] at ho;exact ⟨h1,ho,hk⟩
end
section
open Go.RowKit Go.Maps
theorem znM (mb:Option Nat) (W:World):Calls Tryz.prog 81 #[.map mb] W fun e w'=>e = .returned (.func (.func 126) #[] #[.pointer (some ⟨W.heap.size,0,none⟩)])∧w'=W.alloc (.cells #[.map mb] 163):=by
 go_enter Tryz.func81,Tryz.ntmps81
 go_wp2_with (refine zC rfl rfl (cs:=#[.map mb]) rfl ?_)
 go_ret
 exact ⟨rfl,rfl⟩
end
end Go.Proofs.YtmkmbbjgepcioaaGreatDoor
