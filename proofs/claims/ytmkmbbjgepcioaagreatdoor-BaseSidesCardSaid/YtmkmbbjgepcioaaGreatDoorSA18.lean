/- Contract of the merger's both. No statement of the seat is proved here. -/
import Derived.Test.YtmkmbbjgepcioaaGreatDoorSAHq
import Derived.Test.YtmkmbbjgepcioaaGreatDoorSA15
import Derived.Test.YtmkmbbjgepcioaaGreatDoorSA06
import Derived.Test.YtmkmbbjgepcioaaGreatDoorSA05
import Derived.Test.YtmkmbbjgepcioaaGreatDoorSAVl
import Derived.BigRegion
import Derived.BigQuiet
import Derived.Deep.DeepCutAuto
import Derived.Test.YtmkmbbjgepcioaaGreatDoorSAMi
import Derived.Deep.CutBlock
namespace Go.Proofs.YtmkmbbjgepcioaaGreatDoor
set_option maxHeartbeats 4000000
set_option maxRecDepth 100000
section
open Go.Sort
theorem Ord.lex {α:Type} {l1 l2:α→α→Bool} (H1:Ord l1) (H2:Ord l2):Ord (fun a b=>l1 a b||(!l1 b a&&l2 a b)) where
 asym x y h:=by
  simp only [Bool.or_eq_true,Bool.and_eq_true,Bool.not_eq_true'] at h
  rcases h with h|⟨h1,h2⟩
  · simp [h,H1.asym _ _ h]
  · simp [h1,H2.asym _ _ h2]
 ntr x y z h k:=by
  simp only [Bool.or_eq_false_iff,Bool.and_eq_false_iff,Bool.not_eq_false'] at h k ⊢;obtain ⟨h1,h2⟩:=h;obtain ⟨k1,k2⟩:=k;have c1:=H1.ntr _ _ _ h1 k1;refine ⟨c1,?_⟩
  cases q:l1 x z with
  | true=>exact .inl rfl
  | false =>
   have a1:=H1.ntr _ _ _ k1 q;have a2:=H1.ntr _ _ _ q h1;rw [a1] at h2;rw [a2] at k2;simp only [Bool.false_eq_true,false_or] at h2 k2;exact .inr (H2.ntr _ _ _ h2 k2)
theorem Ord.swo {α:Type} {lt:α→α→Bool} (H:Ord lt):SWO lt where
 irrefl x:=by
  cases h:lt x x with
  | false=>rfl
  | true=>rw [H.asym _ _ h] at h;cases h
 trans x y z h k:=by
  cases q:lt x z with
  | true=>rfl
  | false =>
   have:=H.ntr _ _ _ (H.asym _ _ k) q;rw [this] at h;cases h
 ntrans x y z h k:=H.ntr _ _ _ k h
theorem zh5 {α:Type} (f:α→Nat):Ord (fun a b:α=>decide (f a<f b)) where
 asym x y h:=by simp only [decide_eq_true_eq,decide_eq_false_iff_not] at *;omega
 ntr x y z h k:=by simp only [decide_eq_false_iff_not] at *;omega
theorem zpY {α:Type} (f:α→Nat):Ord (fun a b:α=>decide (f b<f a)) where
 asym x y h:=by simp only [decide_eq_true_eq,decide_eq_false_iff_not] at *;omega
 ntr x y z h k:=by simp only [decide_eq_false_iff_not] at *;omega
theorem lexN (x y:Nat) (r:Bool):(decide (x<y)||(x==y&&r))=(decide (x<y)||(!decide (y<x)&&r)):=by
 rcases Nat.lt_trichotomy x y with h|h|h
 · simp [h]
 · subst h;simp
 · have e:(x==y)=false:=by rw [beq_eq_false_iff_ne];omega
   rw [e];simp [h]
theorem lexS (x y:Pth) (r:Bool):(decide (x<y)||(x==y&&r))=(decide (x<y)||(!decide (y<x)&&r)):=by
 rcases zbp x y with h|h|h
 · simp only [h,decide_true,Bool.true_or]
 · subst h;rw [decide_eq_false (List.lt_irrefl x)];simp
 · have e:(x==y)=false:=by rw [beq_eq_false_iff_ne];intro q;subst q;exact List.lt_irrefl _ h
   rw [e,decide_eq_true h];simp
theorem zlI (a b:LikD):zaT a b=(decide (b.sc<a.sc)||(!decide (a.sc<b.sc)&&(decide (a.near<b.near)||(!decide (b.near<a.near)&&(decide (a.old<b.old)||(!decide (b.old<a.old)&&decide (a.new<b.new))))))):=by
 unfold zaT;rw [show (a.sc==b.sc)=(b.sc==a.sc) from Bool.beq_comm,lexS,lexN,lexN]
theorem zkj:Ord zaT:=by
 have:zaT=fun a b:LikD=>decide (b.sc<a.sc)||(!decide (a.sc<b.sc)&&(decide (a.near<b.near)||(!decide (b.near<a.near)&&(decide (a.old<b.old)||(!decide (b.old<a.old)&&decide (a.new<b.new)))))):=by
  funext a b;exact zlI a b
 rw [this];exact (zpY (fun x:LikD=>x.sc)).lex ((zh5 (fun x:LikD=>x.near)).lex ((zcs (fun x:LikD=>x.old)).lex (zcs (fun x:LikD=>x.new))))
theorem zrj {a b:LikD} (h:zaT a b=false) (k:zaT b a=false):a=b:=by
 rw [zlI] at h k;simp only [Bool.or_eq_false_iff,Bool.and_eq_false_iff,Bool.not_eq_false',decide_eq_false_iff_not,decide_eq_true_eq] at h k;obtain ⟨h1,h2⟩:=h;obtain ⟨k1,k2⟩:=k
 rcases h2 with h2|⟨h2,h3⟩
 · exact absurd h2 k1
 rcases k2 with k2|⟨k2,k3⟩
 · exact absurd k2 h1
 rcases h3 with h3|⟨h3,h4⟩
 · exact absurd h3 k2
 rcases k3 with k3|⟨k3,k4⟩
 · exact absurd k3 h2
 rcases h4 with h4|h4
 · exact absurd h4 k3
 rcases k4 with k4|k4
 · exact absurd k4 h3
 obtain ⟨o1,n1,s1,m1⟩:=a;obtain ⟨o2,n2,s2,m2⟩:=b;simp only at h1 k1 h2 k2 h3 k3 h4 k4;rw [ze9 h3 k3,ze9 h4 k4,show s1=s2 by omega,show m1=m2 by omega]
theorem zdM (x:Int) (l:List Int):decide (orP (x::l)<0)=(decide (x<0)||(x==0&&decide (orP l<0))):=by
 rw [show orP (x::l)=if x=0 then orP l else x from rfl];by_cases h:x=0
 · subst h;simp
 · rw [if_neg h,show (x==0)=false from by simpa using h];simp
theorem zgn (a b:Nat):decide (Lib.compareInt (a:Int) (b:Int)<0)=decide (a<b):=by
 unfold Lib.compareInt;rw [Bool.eq_iff_iff,decide_eq_true_eq,decide_eq_true_eq]
 split <;> first|omega|(split <;> omega)
theorem zjF (a b:Nat):(Lib.compareInt (a:Int) (b:Int)==0)=(a==b):=by
 unfold Lib.compareInt;rw [Bool.eq_iff_iff,beq_iff_eq,beq_iff_eq]
 split <;> first|omega|(split <;> omega)
theorem zdG (a b:Pth):decide (cmpS a b<0)=decide (a<b):=by
 unfold cmpS;rw [Bool.eq_iff_iff,decide_eq_true_eq,decide_eq_true_eq]
 rcases zbp a b with q|q|q
 · simp [q]
 · subst q;simp [List.lt_irrefl]
 · rw [if_neg (zbz q),if_pos q];constructor
   · intro h;omega
   · intro h;exact absurd h (zbz q)
theorem ziW (a b:Pth):(cmpS a b==0)=(a==b):=by
 unfold cmpS;rw [Bool.eq_iff_iff,beq_iff_eq,beq_iff_eq]
 rcases zbp a b with q|q|q
 · rw [if_pos q];constructor
   · intro h;omega
   · intro h;subst h;exact absurd q (List.lt_irrefl _)
 · subst q;simp [List.lt_irrefl]
 · rw [if_neg (zbz q),if_pos q];constructor
   · intro h;omega
   · intro h;subst h;exact absurd q (List.lt_irrefl _)
theorem zlp:ltOf cmpL=zaT:=by
 funext a b
 show decide (cmpL a b<0)=_;unfold cmpL zaT;rw [zdM,zdM,zdM,zdM,zgn,zjF,zgn,zjF,zdG,ziW,zdG,Bool.beq_comm (a:=a.sc)];simp [orP]
theorem zkN:ltOf (fun x y:PairD=>cmpS x.old y.old)=fun a b=>decide (a.old<b.old):=by
 funext a b
 exact zdG _ _
theorem zna {l m:List LikD} (hp:m.Perm l) (hs:m.Pairwise fun a b=>ltOf cmpL b a=false):m=zaJ zaT l:=by
 rw [zlp] at hs;exact zfx (hp.trans (zcb l).symm) hs (zej zkj l) fun x _ y _ h k=>zrj h k
theorem zlT {α β:Type} {f:α→β}:∀{l:List α},(l.map f).Nodup→∀x∈l,∀y∈l,f x=f y→x=y
 | [],_,x,hx,_,_,_=>by cases hx
 | a::l,h,x,hx,y,hy,e=>by
  rw [List.map_cons,List.nodup_cons] at h
  rcases List.mem_cons.1 hx with h1|h1
  · rcases List.mem_cons.1 hy with h2|h2
    · rw [h1,h2]
    · exact absurd (List.mem_map.2 ⟨y,h2,by rw [←e,h1]⟩) h.1
  · rcases List.mem_cons.1 hy with h2|h2
    · exact absurd (List.mem_map.2 ⟨x,h1,by rw [e,h2]⟩) h.1
    · exact zlT h.2 x h1 y h2 e
theorem zpG {l m:List PairD} (hp:m.Perm l) (hs:m.Pairwise fun a b=>ltOf (fun x y:PairD=>cmpS x.old y.old) b a=false) (hd:(l.map (·.old)).Nodup):m=zaJ (fun a b=>decide (a.old<b.old)) l:=by
 rw [zkN] at hs;refine zfx (hp.trans (zcb l).symm) hs (zej (zcs _) l) fun x hx y hy h k=>?_;simp only [decide_eq_false_iff_not] at h k;exact zlT hd x (hp.mem_iff.1 hx) y (hp.mem_iff.1 hy) (ze9 h k)
def likS (f g:FileD):Option LikD:=if 50≤zbr f.d g.d then some ⟨f.p,g.p,zbr f.d g.d,zaS f.p g.p⟩ else none
theorem zes (gone come:List FileD):zbt gone come=if gone.length≤100∧come.length≤100 then gone.flatMap fun f=>come.filterMap (likS f) else []:=rfl
def SetM (f:Mp) (a:List Pth):Prop:=∀s,(f s).getD (.int .i64 0) = .int .i64 (if s∈a then 1 else 0)
theorem SetM.nil_:SetM zF []:=fun _=>rfl
theorem SetM.put {f:Mp} {a:List Pth} (h:SetM f a) (s:Pth):SetM (mput f s (.int .i64 1)) (s::a):=by
 intro t;unfold mput;by_cases e:t=s
 · subst e;simp
 · rw [if_neg e,h];have:(t∈s::a)↔t∈a:=by rw [List.mem_cons];exact ⟨fun q=>q.resolve_left e,.inr⟩
   by_cases q:t∈a
   · rw [if_pos q,if_pos (this.2 q)]
   · rw [if_neg q,if_neg (fun r=>q (this.1 r))]
theorem zto (x:LikD) (l:List LikD) (a b:List Pth):zal (x::l) a b=if x.old∈a∨x.new∈b then zal l a b else ⟨x.old,x.new,x.sc⟩::zal l (x.old::a) (x.new::b):=rfl
end
section
open Go.RowKit Go.Maps
abbrev FT:Type:=FileD×(Option Addr×Nat)
def ftL (x:FT):List Value:=[strC x.1.p,.int .i64 x.1.k,.slice x.2.1 x.1.d.length x.2.2]
theorem zb7 (x:FT):∀v∈ftL x,v.oneCell'=true:=by
 intro v hv;simp only [ftL,strC,List.mem_cons,List.not_mem_nil,or_false] at hv;rcases hv with rfl|rfl|rfl <;> rfl
def zo (w:World) (z:Nat) (x:FT):Prop:=x.1.d.length≤x.2.2∧x.2.2≤maxLen∧(ze w z 1 x.2.1 x.1.d.length (x.1.d.map zh)∨OwnB w z x.2.1 x.2.2 x.1.d)
def FM (w:World) (z:Nat) (A:Option Addr) (c:Nat) (fs:List FileD):Prop:=∃ds:List FT,ds.map (·.1)=fs∧Own w z 70 3 A fs.length c (ds.flatMap ftL)∧∀x∈ds,zo w z x
def zbH (w:World) (G:List Nat) (e:TypeId):Prop:=∀g∈G,∀cs fz,w.heap[g]?≠some (.cells cs e fz)
section
variable {w w':World} {z b mb cb:Nat} {A:Option Addr} {c:Nat} {fs:List FileD} {E:List TypeId} {G:List Nat}
theorem Own.frm {base:Nat} {e:TypeId} {size n:Nat} {xs:List Value} (h:Own w base e size A n c xs) (hk:Kept b E G w w') (he:e∉E) (hG:zbH w G e):Own w' base e size A n c xs :=
 h.same fun k _ hlt ⟨cs,hc⟩=>hk.block k hlt fun q=>by
  rcases q with q|⟨_,e',he',cs',fz,hc'⟩
  · exact hG k q _ _ hc
  · rw [hc] at hc';injection hc' with hc';injection hc' with _ hc';subst hc';exact he he'
theorem zo.frm {x:FT} (h:zo w z x) (hk:Kept z E G w w') (hz:z≤w.heap.size) (hg:∀g∈G,z≤g) (he:5∉E) (hG:zbH w G 5):zo w' z x:=by
 obtain ⟨h1,h2,h3⟩:=h;refine ⟨h1,h2,?_⟩
 rcases h3 with h3|h3
 · exact .inl (h3.below (hk.below (Nat.le_refl _) hz hg))
 · exact .inr (Own.frm h3 hk he hG)
theorem zo.keepB {x:FT} (h:zo w z x) (hb:Below w.heap.size w w') (hz:z≤w.heap.size):zo w' z x :=
 h.frm (E:=[]) (G:=[]) (Kept.ofBelow hb) hz (by simp) (by simp) (by intro g hg;cases hg)
theorem zo.reads {x:FT} (h:zo w z x) (hz:z≤w.heap.size):zw w w.heap.size x.1 (.slice x.2.1 x.1.d.length x.2.2):=by
 obtain ⟨h1,h2,h3⟩:=h;refine ⟨_,_,rfl,h1,h2,?_⟩
 rcases h3 with h3|h3
 · exact h3.more hz
 · exact Own.reads h3
theorem zo.of_reads {x:FileD} {D:Option Addr} {d:Nat} (h:zw w z x (.slice D x.d.length d)):zo w z (x,(D,d)):=by
 obtain ⟨A,c,e,h1,h2,h3⟩:=h;injection e with e1 _ e2;subst e1 e2;exact ⟨h1,h2,.inl h3⟩
theorem FM.nil_ (w:World) (z:Nat):FM w z none 0 []:=⟨[],rfl,Own.nil _ _ _ _,fun _ h=>by cases h⟩
theorem FM.frm (h:FM w z A c fs) (hk:Kept z E G w w') (hz:z≤w.heap.size) (hg:∀g∈G,z≤g) (he:5∉E) (hG:zbH w G 5) (he':70∉E) (hG':zbH w G 70):FM w' z A c fs:=by
 obtain ⟨ds,h1,h2,h3⟩:=h;exact ⟨ds,h1,h2.frm hk he' hG',fun x hx=>(h3 x hx).frm hk hz hg he hG⟩
theorem FM.keepB (h:FM w z A c fs) (hb:Below w.heap.size w w') (hz:z≤w.heap.size):FM w' z A c fs :=
 h.frm (E:=[]) (G:=[]) (Kept.ofBelow hb) hz (by simp) (by simp) (by intro g hg;cases hg) (by simp) (by intro g hg;cases hg)
theorem zdv (ds:List FT):(ds.flatMap ftL).length=ds.length*3:=zcj (f:=ftL) (C:=3) (fun _=>rfl) ds
theorem zfF {ds:List FT} {k:Nat} {x:FT} (h:ds[k]? = some x) (j:Nat) (u:Value) (hj:(ftL x)[j]? = some u):(ds.flatMap ftL)[k*3+j]? = some u:=zaV (f:=ftL) (C:=3) (fun _=>rfl) ds k j x h u hj
theorem FM.fi (h:FM w z A c fs) (hz:z≤w.heap.size):FI w w.heap.size A fs:=by
 obtain ⟨ds,h1,h2,h3⟩:=h;have hl:ds.length=fs.length:=by rw [←h1,List.length_map]
 refine ⟨ds.map fun x => .slice x.2.1 x.1.d.length x.2.2,by rw [List.length_map,hl],?_,fun k x y e1 e2=>?_⟩
 · have:zK fs (ds.map fun x => .slice x.2.1 x.1.d.length x.2.2)=ds.flatMap ftL:=by
    rw [←h1];clear h1 h2 h3 hl
    induction ds with
    | nil=>rfl
    | cons x ds ih=>simp only [List.map_cons,zK,List.zip_cons_cons,List.flatMap_cons] at ih ⊢;rw [ih];rfl
   rw [this];exact h2.reads
 · rw [List.getElem?_map,Option.map_eq_some_iff] at e2;obtain ⟨v,hv,rfl⟩:=e2;rw [←h1,List.getElem?_map,hv] at e1;injection e1 with e1;subst e1;exact (h3 v (List.mem_of_getElem? hv)).reads hz
theorem FM.snoc {A':Option Addr} {c':Nat} {ds:List FT} {x:FT} (h1:ds.map (·.1)=fs) (h3:∀x∈ds,zo w' z x) (hx:zo w' z x) (ho:Own w' z 70 3 A' (fs.length+1) c' (ds.flatMap ftL++ftL x)):FM w' z A' c' (fs++[x.1]):=by
 refine ⟨ds++[x],by rw [List.map_append,h1];rfl,by rw [List.length_append,List.flatMap_append];simpa using ho,fun y hy=>?_⟩
 rcases List.mem_append.1 hy with q|q
 · exact h3 y q
 · rw [List.mem_singleton] at q;subst q;exact hx
end
def FMap (w:World) (z:Nat) (l:List FileD) (f:Mp):Prop:=(∀s,(f s).isSome=hasF l s)∧∀s v,f s=some v→∃D d,v = .agg (za (getF l s) D d)∧zw w z (getF l s) (.slice D (getF l s).d.length d)
theorem FMap.nil_ (w:World) (z:Nat):FMap w z [] zF:=⟨fun _=>rfl,fun _ _ h=>by cases h⟩
theorem FMap.below {w w':World} {z:Nat} {l:List FileD} {f:Mp} (h:FMap w z l f) (hb:Below z w w'):FMap w' z l f :=
 ⟨h.1,fun s v e=>by
  obtain ⟨D,d,h1,h2⟩:=h.2 s v e;exact ⟨D,d,h1,h2.below hb⟩⟩
theorem FMap.put {w:World} {z:Nat} {l:List FileD} {f:Mp} {x:FileD} {D:Option Addr} {d:Nat} (h:FMap w z l f) (hx:hasF l x.p=false) (hr:zw w z x (.slice D x.d.length d)):FMap w z (l++[x]) (mput f x.p (.agg (za x D d))):=by
 refine ⟨fun s=>?_,fun s v e=>?_⟩
 · rw [zhP];unfold mput;by_cases q:s=x.p
   · rw [if_pos q,decide_eq_true q];simp
   · rw [if_neg q,decide_eq_false q,Bool.or_false];exact h.1 s
 · rw [zg5 hx];unfold mput at e;by_cases q:s=x.p
   · rw [if_pos q] at e ⊢;injection e with e;exact ⟨D,d,e.symm,hr⟩
   · rw [if_neg q] at e ⊢;exact h.2 s v e
theorem FMap.get {w:World} {z:Nat} {l:List FileD} {f:Mp} (h:FMap w z l f) (s:Pth):∃D d,(f s).getD (.agg #[.string ⟨#[]⟩,.int .i64 0,.slice none 0 0]) = .agg (za (getF l s) D d)∧zw w z (getF l s) (.slice D (getF l s).d.length d):=by
 cases hf:f s with
 | some v =>
  obtain ⟨D,d,h1,h2⟩:=h.2 s v hf
  exact ⟨D,d,h1,h2⟩
 | none =>
  have:=h.1 s;rw [hf] at this;have h1:hasF l s=false:=this.symm;rw [zbo h1];exact ⟨none,0,rfl,none,0,rfl,Nat.le_refl _,Nat.zero_le _,ze.none_⟩
def PMap (l:List PairD) (f:Mp):Prop:=∀s,f s=(l.find? (fun x=>x.old==s)).map fun x => .agg (zv x).toArray
def WMap (l:List PairD) (f:Mp):Prop:=∀s,(f s).isSome=l.any (fun x=>x.new==s)
theorem PMap.nil_:PMap [] zF:=fun _=>rfl
theorem WMap.nil_:WMap [] zF:=fun _=>rfl
theorem PMap.put {l:List PairD} {f:Mp} (h:PMap l f) {x:PairD} (hx:∀y∈l,y.old≠x.old):PMap (l++[x]) (mput f x.old (.agg (zv x).toArray)):=by
 intro s;unfold mput;rw [List.find?_append];by_cases q:s=x.old
 · subst q;have:l.find? (fun y=>y.old==x.old)=none:=by
    rw [List.find?_eq_none];intro y hy e;exact hx y hy (by simpa using e)
   rw [if_pos rfl,this];simp
 · rw [if_neg q,h s]
   cases l.find? (fun y=>y.old==s) with
   | some y=>rfl
   | none =>
    have:(x.old==s)=false:=beq_eq_false_iff_ne.2 (fun e=>q e.symm);simp [this]
theorem WMap.put {l:List PairD} {f:Mp} (h:WMap l f) (x:PairD) (v:Value):WMap (l++[x]) (mput f x.new v):=by
 intro s;unfold mput;rw [List.any_append];by_cases q:s=x.new
 · subst q;simp
 · have:(x.new==s)=false:=beq_eq_false_iff_ne.2 (fun e=>q e.symm);rw [if_neg q,h s];simp [this]
structure SideM (w:World) (z q:Nat) (s:SideD) (b1 b2 b3 n1 n2 n3:Nat) (f1 f2 f3:Mp):Prop where
 blk:Blk w q 226 #[.map (some b1),.map (some b2),.map (some b3)]
 m1:VM w b1 n1 f1
 m2:VM w b2 n2 f2
 m3:VM w b3 n3 f3
 p1:FMap w z s.f f1
 p2:PMap s.l f2
 p3:WMap s.l f3
 sz:n1≤s.f.length
theorem SideM.frm {w w':World} {z q:Nat} {s:SideD} {b1 b2 b3 n1 n2 n3:Nat} {f1 f2 f3:Mp} {E:List TypeId} {G:List Nat} (h:SideM w z q s b1 b2 b3 n1 n2 n3 f1 f2 f3) (hk:Kept z E G w w') (hz:z≤w.heap.size) (hg:∀g∈G,z≤g) (hE:226∉E) (h0:q∉G) (h1:b1∉G) (h2:b2∉G) (h3:b3∉G):SideM w' z q s b1 b2 b3 n1 n2 n3 f1 f2 f3:=by
 have hm:∀b n f,VM w b n f→b∉G→VM w' b n f:=fun b n f hv hb=>hv.keep hk fun t=>by
  rcases t with t|⟨_,e,_,cs,fz,hc⟩
  · exact hb t
  · obtain ⟨D,⟨es,clock,q1,_⟩,_⟩:=hv;rw [q1] at hc;cases hc
 exact ⟨hk.blk h.blk h0 hE,hm _ _ _ h.m1 h1,hm _ _ _ h.m2 h2,hm _ _ _ h.m3 h3,h.p1.below (hk.below (Nat.le_refl _) hz hg),h.p2,h.p3,h.sz⟩
theorem SideM.keepB {w w':World} {z q:Nat} {s:SideD} {b1 b2 b3 n1 n2 n3:Nat} {f1 f2 f3:Mp} (h:SideM w z q s b1 b2 b3 n1 n2 n3 f1 f2 f3) (hb:Below w.heap.size w w') (hz:z≤w.heap.size):SideM w' z q s b1 b2 b3 n1 n2 n3 f1 f2 f3 :=
 h.frm (E:=[]) (G:=[]) (Kept.ofBelow hb) hz (by simp) (by simp) (by simp) (by simp) (by simp) (by simp)
def CMap (l:List ClashD) (f:Mc):Prop:=∀s:CK,(f s).isSome=true↔∃x∈l,x.p=s.1.1∧(x.why:Int)=s.1.2
theorem CMap.nil_:CMap [] zgu:=fun s=>⟨fun h=>(by cases h),fun ⟨_,h,_⟩=>(by cases h)⟩
theorem CMap.put {l:List ClashD} {f:Mc} (h:CMap l f) (x:ClashD) (k:CK) (hk:k.1=(x.p,(x.why:Int))) (v:Value):CMap (l++[x]) (cput f k v):=by
 intro s;unfold cput;by_cases q:s=k
 · subst q;rw [if_pos rfl]
   refine ⟨fun _=>⟨x,by simp,?_,?_⟩,fun _=>rfl⟩
   · rw [hk]
   · rw [hk]
 · rw [if_neg q,h s];constructor
   · rintro ⟨y,hy,e⟩;exact ⟨y,List.mem_append.2 (.inl hy),e⟩
   · rintro ⟨y,hy,e1,e2⟩
     rcases List.mem_append.1 hy with r|r
     · exact ⟨y,r,e1,e2⟩
     · rw [List.mem_singleton] at r;subst r;exact absurd (Subtype.ext (by rw [hk];exact Prod.ext e1.symm e2.symm)) q
def mgC (so st:Nat) (A:Option Addr) (n c cb:Nat) (e:Nat):Array Value:=#[.pointer (some ⟨so,0,none⟩),.pointer (some ⟨st,0,none⟩),.slice A n c,.map (some cb),.int .i64 (e:Nat)]
structure MG (w:World) (z mb so st cb:Nat) (A:Option Addr) (c n:Nat) (f:Mc) (s:MSt):Prop where
 blk:Blk w mb 165 (mgC so st A s.t.length c cb s.e)
 zs:z≤w.heap.size
 zm:z≤mb
 zc:z≤cb
 things:FM w z A c s.t
 map:VC w cb n f
 cl:CMap s.c f
abbrev Frm (z mb cb:Nat) (w w':World):Prop:=Kept z [70] [mb,cb] w w'
section
variable {w w':World} {z mb so st cb:Nat} {A:Option Addr} {c n:Nat} {f:Mc} {s:MSt}
theorem MG.noRow (h:MG w z mb so st cb A c n f s) {e:TypeId} (he:e≠165):zbH w [mb,cb] e:=by
 intro g hg cs fz hc;simp only [List.mem_cons,List.not_mem_nil,or_false] at hg
 rcases hg with rfl|rfl
 · have hb:=h.blk;unfold Blk at hb;rw [hb] at hc;injection hc with hc;injection hc with _ hc;exact he hc.symm
 · obtain ⟨D,⟨es,clock,q1,_⟩,_⟩:=h.map;rw [q1] at hc;cases hc
theorem MG.keepB (h:MG w z mb so st cb A c n f s) (hb:Below w.heap.size w w'):MG w' z mb so st cb A c n f s :=
 ⟨h.blk.below hb h.blk.lt,Nat.le_trans h.zs hb.size,h.zm,h.zc,h.things.keepB hb h.zs,h.map.keep (Below.keep_ hb zl) (fun q=>q),h.cl⟩
theorem zo.mg {x:FT} (h:zo w z x) (hm:MG w z mb so st cb A c n f s) (hk:Frm z mb cb w w'):zo w' z x :=
 h.frm hk hm.zs (by intro g hg;simp only [List.mem_cons,List.not_mem_nil,or_false] at hg;rcases hg with rfl|rfl <;> first|exact hm.zm|exact hm.zc) (by decide) (hm.noRow (by decide))
end
end
section
open Go.RowKit Go.Maps
def zgG (w w':World) (mb:Nat) (A A':Option Addr):Prop:=∀p,p<w.heap.size→p≠mb→(∀a,A=some a→a.block≠p)→w'.heap[p]? = w.heap[p]?∧∀a,A'=some a→a.block≠p
theorem zuh {A:Option Addr} {n c p:Nat} (h:∀a,A=some a→a.block≠p):NotB A n c p:=by
 intro q
 rcases A with _|b
 · cases q
 · injection q with q;exact h b rfl q
theorem zoA {A:Option Addr} {n c p:Nat} (h:NotB A n c p):∀a,A=some a→a.block≠p:=by
 rintro a rfl q;exact h (by rw [←q];rfl)
theorem MG.stayed {w w4:World} {z mb so st cb:Nat} {A A4:Option Addr} {c n c4:Nat} {f:Mc} {s:MSt} {ds:List FT} {y:FT} (hm:MG w z mb so st cb A c n f s) (h1:ds.map (·.1)=s.t) (h3:∀x∈ds,zo w z x) (hy:zo w z y) (o4:Own w4 z 70 3 A4 (s.t.length+1) c4 (ds.flatMap ftL++ftL y)) (k4:Kept z [70] [] w w4) :w4.cell? ⟨mb,2,none⟩=some (.slice A s.t.length c)∧w4.frozen? ⟨mb,2,none⟩=false∧MG (w4.setCell ⟨mb,2,none⟩ (.slice A4 (s.t.length+1) c4)) z mb so st cb A4 c4 n f { s with t:=s.t++[y.1] }∧Frm z mb cb w (w4.setCell ⟨mb,2,none⟩ (.slice A4 (s.t.length+1) c4)):=by
 have hb4:=k4.blk hm.blk (by simp) (by decide);have hk:Kept z [70] [mb,cb] w (w4.setCell ⟨mb,2,none⟩ (.slice A4 (s.t.length+1) c4)):=(Kept.mono k4 (Nat.le_refl _) (by simp) (by simp)).setCell (p:=⟨mb,2,none⟩) (.inl (by simp)) _;have hd:∀x,zo w z x→zo (w4.setCell ⟨mb,2,none⟩ (.slice A4 (s.t.length+1) c4)) z x:=fun x hx=>hx.mg hm hk;have hset:=hb4.set_ 2 (.slice A4 (s.t.length+1) c4)
 refine ⟨(hb4.cell 2).trans rfl,hb4.frozen 2,⟨?_,by have:=k4.size;have:=hm.zs;simp [World.setCell];omega,hm.zm,hm.zc,?_,?_,hm.cl⟩,hk⟩
 · rw [List.length_append,List.length_singleton];simpa [mgC] using hset
 · refine FM.snoc h1 (fun x hx=>hd x (h3 x hx)) (hd y hy) ?_;exact Own.setCell (p:=⟨mb,2,none⟩) o4 hb4 (by decide) _
 · refine (VC.keep (S:=Tch z [70] [] w) hm.map k4 (fun t=>?_)).setCell (p:=⟨mb,2,none⟩) (fun e=>?_) _
   · rcases t with t|⟨_,e,_,cs,fz,hc⟩
     · cases t
     · obtain ⟨D,⟨es,clock,q1,_⟩,_⟩:=hm.map;rw [q1] at hc;cases hc
   · obtain ⟨D,⟨es,clock,q1,_⟩,_⟩:=hm.map;have e:cb=mb:=e;have hb:=hm.blk;unfold Blk at hb;rw [←e,q1] at hb;cases hb
theorem zhf {P:Program} (w:World) (a:Addr) (m:Mode) (p:Pth):(store a (strC p) m).run P w=stored P w a (strC p) m:=run_store P w a _ m rfl
def SlB (n:Nat) (ps:Array (Nat×Value)):Sem Value:=Instr.buildSlice 37 n ps
theorem sl_b (n:Nat) (ps:Array (Nat×Value)):Instr.buildSlice 37 n ps=SlB n ps:=rfl
attribute [local go_sem] zhf
attribute [local go_sem ↓] ld_f sl_b
theorem zjf (z mb so st cb:Nat) (A:Option Addr) (c n:Nat) (f:Mc) (s:MSt) (p:Pth) (x:FT) (w:World) (hm:MG w z mb so st cb A c n f s) (hx:zo w z x) (hl:s.t.length≤1000000) :Calls Tryz.prog 110 #[.pointer (some ⟨mb,0,none⟩),strC p,.agg (za x.1 x.2.1 x.2.2)] w fun e w'=>e = .returned (.tuple #[])∧(∃A' c',MG w' z mb so st cb A' c' n f (s.stay p x.1)∧zgG w w' mb A A')∧Frm z mb cb w w':=by
 have HX:=zz (And.intro (Blk.new w 70 (za x.1 x.2.1 x.2.2)) ((Below.refl w.heap.size w).alloc (Nat.le_refl _) (.cells (za x.1 x.2.1 x.2.2) 70)));have HM:=zz hm;have HD:=zz hx;have HS:=zz (show s.stay p x.1={ s with t:=s.t++[{ x.1 with p:=p }] } from rfl);clear hm hx;obtain ⟨q,hq⟩:∃q,w.heap.size=q:=⟨_,rfl⟩;have HQ:=zz hq;go_enter Tryz.func110,Tryz.ntmps110
 go_upto_region 1 with (refine zC rfl rfl (cs:=za x.1 x.2.1 x.2.2) rfl ?_)
 generalize w.alloc (.cells (za x.1 x.2.1 x.2.2) 70)=w1 at *;have c0:=(HX.out.1.cell 0).trans (show (za x.1 x.2.1 x.2.2)[0]? = some (strC x.1.p) from rfl);have f0:=HX.out.1.frozen 0;rw [hq] at c0 f0;simp only [hq]
 have HX2:=zz (show Blk (w1.setCell ⟨q,0,none⟩ (strC p)) q 70 (za { x.1 with p:=p } x.2.1 x.2.2) from hq▸HX.out.1.set_ 0 (strC p));have HB2:=zz (show Below w.heap.size w (w1.setCell ⟨q,0,none⟩ (strC p)) from HX.out.2.setCell (p:=⟨q,0,none⟩) (by rw [hq];exact Nat.le_refl _) _);clear HX;go_upto_region 2 with fail
 generalize w1.setCell ⟨q,0,none⟩ (strC p)=w2 at *;have HB3:=zz (show Below w.heap.size w w2.drew from HB2.out.trans ((Below.refl _ w2).drew.mono HB2.out.size));have HM2:=zz (HM.out.keepB HB3.out);have HD2:=zz (show zo w2.drew z ({ x.1 with p:=p },x.2) from by
  have h9:zo w2.drew z x:=HD.out.keepB HB3.out HM.out.zs;exact h9)
 have hl1:(LdF (.pointer (some ⟨q,0,none⟩))).run Tryz.prog w2.drew = .ok (.agg (za { x.1 with p:=p } x.2.1 x.2.2)) w2.drew:=zaC (show Blk w2.drew q 70 _ from HX2.out);have d2:w2.drew.cell? ⟨mb,2,none⟩=some (.slice A s.t.length c):=(HM2.out.blk.cell 2).trans rfl;clear hq c0 f0;obtain ⟨ds,h1,h2,h3⟩:=HM2.out.things;have H1:=zz h1;have H2:=zz h2;have H3:=zz h3;have HL:=zz (show s.t.length+1≤maxLen∧(s.t.length+1)*48≤140737488355328 from by unfold maxLen;omega);clear h1 h2 h3;have d3:∀o,(w2.alloc o).cell? ⟨mb,2,none⟩=some (.slice A s.t.length c):=fun o=>(World.cell?_alloc_lt w2 o ⟨mb,2,none⟩ HM2.out.blk.lt).trans d2;have hbs:∀W,(SlB 1 #[(0,.agg (za { x.1 with p:=p } x.2.1 x.2.2))]).run Tryz.prog W = .ok (.slice (some ⟨W.heap.size,0,none⟩) 1 1) (W.alloc (.cells (za { x.1 with p:=p } x.2.1 x.2.2) 70)):=fun W=>zbU zaf zaU rfl rfl (by omega) W
 go_region_law (first
  | (refine zsP (by rfl) zaf (by rfl) (by rfl) (n:=s.t.length) (xs:=ds.flatMap ftL) (Own.alloc H2.out _) (m:=1) (by omega) (by rfl) (ze.of_blk (n:=1) (xs:=ftL ({ x.1 with p:=p },x.2)) (heap_alloc_new _ _) rfl rfl) (zb7 _) HL.out.1 HL.out.2 (by have:=HM2.out.zs;simp at this ⊢;omega) ?_;intro A4 c4 w4 o4 k4 n4;obtain ⟨e1,e2,e3,e4⟩:=HM2.out.stayed (y:=({ x.1 with p:=p },x.2)) H1.out H3.out HD2.out o4 (((Kept.refl _ _ _ _).alloc _).trans k4);have HE3:=zz e3;have HE4:=zz e4;have HE5:=zz (show zgG w (w4.setCell ⟨mb,2,none⟩ (.slice A4 (s.t.length+1) c4)) mb A A4 from fun r hr hm9 ha=>by
      have hr2:r<w2.drew.heap.size:=Nat.lt_of_lt_of_le hr HB3.out.size;obtain ⟨m1,m2⟩:=n4 r (by simp at hr2 ⊢;omega) (zuh ha);refine ⟨?_,zoA m2⟩;rw [Below.heap_setCell _ _ _ _ (by simpa using hm9),m1];exact (Below.heap_alloc w2.drew _ _ hr2).trans (HB3.out.block r hr));clear e3 e4 o4 k4 n4))
 all_goals
  go_wp2_with fail
  first|refine bodyPost_end (results_none rfl _ _ _) rfl ?_|refine bodyPost_ret (results_none rfl _ _ _) rfl ?_
  exact ⟨rfl,⟨A4,⟨c4,by rw [HS.out];exact HE3.out⟩,HE5.out⟩,(Kept.mono (Kept.ofBelow (E:=[]) (base:=w.heap.size) (G:=[]) HB3.out) HM.out.zs (by simp) (by simp)).trans HE4.out⟩
theorem MG.clashed {w w4:World} {z mb so st cb:Nat} {A:Option Addr} {c n n':Nat} {f:Mc} {s:MSt} {x:ClashD} {k:CK} {v:Value} (hm:MG w z mb so st cb A c n f s) (hk:k.1=(x.p,(x.why:Int))) (hv:VC w4 cb n' (cput f k v)) (kk:Keep (Only cb) w w4):MG w4 z mb so st cb A c n' (cput f k v) { s with c:=s.c++[x] }∧Kept z [] [mb,cb] w w4:=by
 have hf:Kept z [] [mb,cb] w w4:=Kept.ofKeep kk (fun i _ q=>by unfold Only at q;subst q;simp);have hne:mb≠cb:=by
  rintro rfl;obtain ⟨D,⟨es,clock,q1,_⟩,_⟩:=hm.map;have hb:=hm.blk;unfold Blk at hb;rw [q1] at hb;cases hb
 have hk0:Kept z [] [cb] w w4:=Kept.ofKeep kk (fun i _ q=>by unfold Only at q;subst q;simp);have hnr:∀e,zbH w [cb] e:=fun e g hg cs fz hc=>by
  rw [List.mem_singleton] at hg;subst hg;obtain ⟨D,⟨es,clock,q1,_⟩,_⟩:=hm.map;rw [q1] at hc;cases hc
 exact ⟨⟨hm.blk.keep kk (by unfold Only;exact hne),Nat.le_trans hm.zs kk.size,hm.zm,hm.zc,hm.things.frm hk0 hm.zs (by intro g hg;rw [List.mem_singleton] at hg;subst hg;exact hm.zc) (by simp) (hnr _) (by simp) (hnr _),hv,hm.cl.put x k hk v⟩,hf⟩
def BdK (ps:Array (Nat×Value)):Sem Value:=Instr.build 86 ps
theorem bd_k (ps:Array (Nat×Value)):Instr.build 86 ps=BdK ps:=rfl
theorem zsj (p:Pth) (k:Int) (w:World):(Instr.build 86 #[(0,strC p),(1,.int .i64 k)]).run Tryz.prog w = .ok (.agg #[strC p,.int .i64 k]) w:=by kernel_rfl
attribute [local go_sem ↓] bd_k
theorem zle (z mb so st cb:Nat) (A:Option Addr) (c n:Nat) (f:Mc) (s:MSt) (p:Pth) (why:Nat) (w:World) (hm:MG w z mb so st cb A c n f s) (hp:p.length≤1000000) (hw:why≤1000) (hn:n≤1000000) :Calls Tryz.prog 111 #[.pointer (some ⟨mb,0,none⟩),strC p,.int .i64 (why:Nat)] w fun e w'=>e = .returned (.tuple #[])∧(∃n' f',n'≤n+1∧MG w' z mb so st cb A c n' f' (s.clash p why))∧Kept z [] [mb,cb] w w':=by
 have hwf:(Lit.int .i64 (why:Int)).wf=true:=Go.WalkArith.wf_i64 (by omega);obtain ⟨k,hk⟩:∃k:CK,k.1=(p,(why:Int)):=⟨⟨(p,(why:Int)),by unfold maxLen;simp only;omega,hwf⟩,rfl⟩
 have hcl:clV k = .agg #[strC p,.int .i64 (why:Nat)]:=by unfold clV;rw [hk]
 have HM2:=zz (hm.keepB (w':=w.drew) (Below.refl _ w).drew);have HS:=zz (show s.clash p why={ s with c:=s.c++[⟨p,why⟩] } from rfl);have d3:w.drew.cell? ⟨mb,3,none⟩=some (.map (some cb)):=(HM2.out.blk.cell 3).trans rfl;have hlen:=HM2.out.map.len Tryz.underlying163 3;obtain ⟨w4,hst,hv4,hk4,_⟩:=HM2.out.map.store (s:=k) Tryz.underlying163 (by unfold maxLen;omega) (.int .i64 (n:Nat));rw [hcl] at hst;obtain ⟨m4,r4⟩:=HM2.out.clashed (x:=⟨p,why⟩) hk hv4 hk4;have HM4:=zz m4;have HR4:=zz (show Kept z [] [mb,cb] w w4 from (Kept.refl z [] [mb,cb] w).drew.trans r4);have hbd:∀W,(BdK #[(0,strC p),(1,.int .i64 (why:Nat))]).run Tryz.prog W = .ok (.agg #[strC p,.int .i64 (why:Nat)]) W:=fun W=>zsj p why W;have HN:=zz (show (if (f k).isSome=true then n else n+1)≤n+1 from by split <;> omega);clear hm hwf hcl hv4 hk4 m4 r4 hk;go_enter Tryz.func111,Tryz.ntmps111
 go_wp2_with fail
 go_region_law (fail)
 all_goals
  go_wp2_with fail
  first|refine bodyPost_end (results_none rfl _ _ _) rfl ?_|refine bodyPost_ret (results_none rfl _ _ _) rfl ?_
  exact ⟨rfl,⟨_,_,HN.out,by rw [HS.out];exact HM4.out⟩,HR4.out⟩
end
section
open Go.RowKit Go.Maps
def MGA (w:World) (z mb so st cb N:Nat) (A:Option Addr) (s:MSt):Prop:=∃c n f,n≤N∧MG w z mb so st cb A c n f s
def MGE (w:World) (z mb so st cb N:Nat) (s:MSt):Prop:=∃A c n f,n≤N∧MG w z mb so st cb A c n f s
theorem Frm.ofC {w w':World} {z mb cb:Nat} (h:Kept z [] [mb,cb] w w'):Frm z mb cb w w':=Kept.mono h (Nat.le_refl _) (by simp) (fun _ h => .inl h)
section
variable {w w':World} {z mb so st cb N:Nat} {s:MSt}
theorem MGA.e {A:Option Addr} (h:MGA w z mb so st cb N A s):MGE w z mb so st cb N s:=by
 obtain ⟨c,n,f,h1,h2⟩:=h;exact ⟨A,c,n,f,h1,h2⟩
theorem MGE.a (h:MGE w z mb so st cb N s):∃A,MGA w z mb so st cb N A s:=by
 obtain ⟨A,c,n,f,h1,h2⟩:=h;exact ⟨A,c,n,f,h1,h2⟩
theorem MGA.lt {A:Option Addr} (h:MGA w z mb so st cb N A s):∀a,A=some a→a.block<w.heap.size:=by
 obtain ⟨c,n,f,h1,h2⟩:=h;obtain ⟨ds,_,h3,_⟩:=h2.things;exact fun a ha=>(h3.blkA a ha).2.1
theorem MGE.lts (h:MGE w z mb so st cb N s):z≤mb∧mb<w.heap.size∧z≤cb∧cb<w.heap.size:=by
 obtain ⟨A,c,n,f,h1,h2⟩:=h;exact ⟨h2.zm,h2.blk.lt,h2.zc,h2.map.lt⟩
theorem MGA.keepB {A:Option Addr} (h:MGA w z mb so st cb N A s) (hb:Below w.heap.size w w'):MGA w' z mb so st cb N A s:=by
 obtain ⟨c,n,f,h1,h2⟩:=h;exact ⟨c,n,f,h1,h2.keepB hb⟩
theorem MGA.stay {A:Option Addr} (hm:MGA w z mb so st cb N A s) {x:FT} (hx:zo w z x) (p:Pth) (hl:s.t.length≤1000000) :Calls Tryz.prog 110 #[.pointer (some ⟨mb,0,none⟩),strC p,.agg (za x.1 x.2.1 x.2.2)] w fun e w'=>e = .returned (.tuple #[])∧(∃A',MGA w' z mb so st cb N A' (s.stay p x.1)∧zgG w w' mb A A')∧Frm z mb cb w w':=by
 obtain ⟨c,n,f,h1,h2⟩:=hm;refine (zjf z mb so st cb A c n f s p x w h2 hx hl).mono ?_;rintro e w' ⟨h3,⟨A',c',h4,h6⟩,h5⟩;exact ⟨h3,⟨A',⟨c',n,f,h1,h4⟩,h6⟩,h5⟩
theorem MGE.keepB (h:MGE w z mb so st cb N s) (hb:Below w.heap.size w w'):MGE w' z mb so st cb N s:=by
 obtain ⟨A,c,n,f,h1,h2⟩:=h;exact ⟨A,c,n,f,h1,h2.keepB hb⟩
theorem MGE.zs (h:MGE w z mb so st cb N s):z≤w.heap.size:=by
 obtain ⟨A,c,n,f,h1,h2⟩:=h;exact h2.zs
theorem MGE.more {N':Nat} (h:MGE w z mb so st cb N s) (hn:N≤N'):MGE w z mb so st cb N' s:=by
 obtain ⟨A,c,n,f,h1,h2⟩:=h;exact ⟨A,c,n,f,Nat.le_trans h1 hn,h2⟩
theorem MGE.data {x:FT} (hm:MGE w z mb so st cb N s) (h:zo w z x) (hk:Frm z mb cb w w'):zo w' z x:=by
 obtain ⟨A,c,n,f,h1,h2⟩:=hm;exact h.mg h2 hk
theorem MGE.stay (hm:MGE w z mb so st cb N s) {x:FT} (hx:zo w z x) (p:Pth) (hl:s.t.length≤1000000) :Calls Tryz.prog 110 #[.pointer (some ⟨mb,0,none⟩),strC p,.agg (za x.1 x.2.1 x.2.2)] w fun e w'=>e = .returned (.tuple #[])∧MGE w' z mb so st cb N (s.stay p x.1)∧Frm z mb cb w w':=by
 obtain ⟨A,c,n,f,h1,h2⟩:=hm;refine (zjf z mb so st cb A c n f s p x w h2 hx hl).mono ?_;rintro e w' ⟨h3,⟨A',c',h4,_⟩,h5⟩;exact ⟨h3,⟨A',c',n,f,h1,h4⟩,h5⟩
theorem MGE.clash (hm:MGE w z mb so st cb N s) (p:Pth) (why:Nat) (hp:p.length≤1000000) (hw:why≤1000) (hn:N≤1000000) :Calls Tryz.prog 111 #[.pointer (some ⟨mb,0,none⟩),strC p,.int .i64 (why:Nat)] w fun e w'=>e = .returned (.tuple #[])∧MGE w' z mb so st cb (N+1) (s.clash p why)∧Kept z [] [mb,cb] w w':=by
 obtain ⟨A,c,n,f,h1,h2⟩:=hm;refine (zle z mb so st cb A c n f s p why w h2 hp hw (by omega)).mono ?_;rintro e w' ⟨h3,⟨n',f',h6,h4⟩,h5⟩;exact ⟨h3,⟨A,c,n',f',by omega,h4⟩,h5⟩
end
theorem Frm.ofBelow {w w':World} {z mb cb:Nat} (h:Below w.heap.size w w') (hz:z≤w.heap.size):Frm z mb cb w w':=Kept.mono (Kept.ofBelow (E:=[]) (base:=w.heap.size) (G:=[]) h) hz (by simp) (by simp)
theorem zgs (k:Int) (w:World):Calls Tryz.prog 152 #[.int .i64 k] w fun e w'=>e = .returned (.bool (zM k))∧w=w':=by
 have hk:zM k=(k==1||k==2):=rfl;rw [hk];clear hk;go_enter Tryz.func152,Tryz.ntmps152
 cases h1:(k==1) with
 | true =>
  go_wp2_with fail
  go_ret
  exact ⟨rfl,rfl⟩
 | false =>
  go_wp2_with fail
  go_ret
  exact ⟨rfl,rfl⟩
theorem zeP (a b:Pth) (w:World):(binOp .eql 9 (strC a) (strC b)).run Tryz.prog w = .ok (.bool (a==b)) w:=by
 unfold strC;go_simp
theorem zeS (a b:Pth) (w:World):(binOp .neq 9 (strC a) (strC b)).run Tryz.prog w = .ok (.bool (a !=b)) w:=by
 unfold strC;go_simp;simp [bne]
theorem zfr (x y:Operand) (a b:Pth) (w:World):(eqGuard .eql 9 x y (strC a) (strC b)).run Tryz.prog w = .ok () w:=by
 unfold strC;go_simp
theorem zfC (x y:Operand) (a b:Pth) (w:World):(eqGuard .neq 9 x y (strC a) (strC b)).run Tryz.prog w = .ok () w:=by
 unfold strC;go_simp
attribute [local go_sem] zeP zeS zfr zfC
attribute [local go_sem ↓] ld_f
theorem zjW (z mb so st cb N:Nat) (s:MSt) (f:FT) (q:Pth) (x:FT) (w:World) (hm:MGE w z mb so st cb N s) (hf:zo w z f) (hx:zo w z x) (hl:s.t.length≤1000000) (hq:q.length≤1000000) (hN:N≤1000000) :Calls Tryz.prog 109 #[.pointer (some ⟨mb,0,none⟩),.agg (za f.1 f.2.1 f.2.2),strC q,.agg (za x.1 x.2.1 x.2.2)] w fun e w'=>e = .returned (.tuple #[])∧MGE w' z mb so st cb (N+1) (s.alone f.1 q x.1)∧Frm z mb cb w w':=by
 have hz:=hm.zs;have hs:s.alone f.1 q x.1=if q=f.1.p∧x.1.k=f.1.k∧x.1.d=f.1.d then s else (s.stay q x.1).clash q 2:=rfl
 have hb1:=(Blk.new w 70 (za f.1 f.2.1 f.2.2)).alloc (.cells (za x.1 x.2.1 x.2.2) 70);have hb2:=Blk.new (w.alloc (.cells (za f.1 f.2.1 f.2.2) 70)) 70 (za x.1 x.2.1 x.2.2);rw [show (w.alloc (.cells (za f.1 f.2.1 f.2.2) 70)).heap.size=w.heap.size+1 from by simp] at hb2;have hbl:Below w.heap.size w ((w.alloc (.cells (za f.1 f.2.1 f.2.2) 70)).alloc (.cells (za x.1 x.2.1 x.2.2) 70)):=((Below.refl _ w).alloc (Nat.le_refl _) _).alloc (by simp) _;have HB1:=zz hb1;have HB2:=zz hb2;have HBL:=zz hbl;have HS:=zz hs;have HM:=zz (hm.keepB hbl);have HF:=zz (hf.keepB hbl hz);have HX:=zz (hx.keepB hbl hz);clear hb1 hb2 hbl hs hm hf hx;go_enter Tryz.func109,Tryz.ntmps109
 go_upto_region 1 with (first|(refine zC rfl rfl (cs:=za f.1 f.2.1 f.2.2) rfl ?_)|(refine zC rfl rfl (cs:=za x.1 x.2.1 x.2.2) rfl ?_))
 generalize (w.alloc (.cells (za f.1 f.2.1 f.2.2) 70)).alloc (.cells (za x.1 x.2.1 x.2.2) 70)=w2 at *;have c0:=(HB1.out.cell 0).trans (show (za f.1 f.2.1 f.2.2)[0]? = some (strC f.1.p) from rfl);have c1:=(HB1.out.cell 1).trans (show (za f.1 f.2.1 f.2.2)[1]? = some (.int .i64 f.1.k) from rfl);have c2:=(HB1.out.cell 2).trans (show (za f.1 f.2.1 f.2.2)[2]? = some (.slice f.2.1 f.1.d.length f.2.2) from rfl);have d1:=(HB2.out.cell 1).trans (show (za x.1 x.2.1 x.2.2)[1]? = some (.int .i64 x.1.k) from rfl);have d2:=(HB2.out.cell 2).trans (show (za x.1 x.2.1 x.2.2)[2]? = some (.slice x.2.1 x.1.d.length x.2.2) from rfl);have HEQ:=zz (show Calls Tryz.prog 150 #[.slice x.2.1 x.1.d.length x.2.2,.slice f.2.1 f.1.d.length f.2.2] w2 (fun e w'=>e = .returned (.bool (decide (x.1.d=f.1.d)))∧w2=w') from by
  obtain ⟨D1,d1,e1,_,_,r1⟩:=HX.out.reads HM.out.zs;obtain ⟨D2,d2,e2,_,_,r2⟩:=HF.out.reads HM.out.zs;injection e1 with e1 _ e3;injection e2 with e2 _ e4;subst D1 D2 d1 d2;exact (zdT r1 r2).mono fun _ _ h=>⟨h.1,h.2.symm⟩)
 simp only [Act.put,List.setIfInBounds_toArray,List.set]
 rw [show (w.alloc (.cells (za f.1 f.2.1 f.2.2) 70)).heap.size=w.heap.size+1 from by simp];go_cut [25] (fun s25 wx=>s25 = .bool (decide (q=f.1.p∧x.1.k=f.1.k∧x.1.d=f.1.d))∧w2=wx)
 case first =>
  cases e1:(q==f.1.p) with
  | false =>
   go_wp2_with fail
   go_meet
   exact ⟨by rw [decide_eq_false];intro h;rw [h.1] at e1;simp at e1,rfl⟩
  | true =>
   cases e2:(x.1.k==f.1.k) with
   | false =>
    go_wp2_with fail
    go_meet
    exact ⟨by rw [decide_eq_false];intro h;rw [h.2.1] at e2;simp at e2,rfl⟩
   | true =>
    go_wp2_with (go_at_call 150;refine HEQ.out.mono ?_;rintro _ _ ⟨rfl,rfl⟩)
    go_meet
    exact ⟨by congr 1;rw [Bool.eq_iff_iff,decide_eq_true_eq,decide_eq_true_eq];exact ⟨fun h=>⟨eq_of_beq e1,eq_of_beq e2,h⟩,fun h=>h.2.2⟩,rfl⟩
 case rest =>
  obtain ⟨rfl,rfl⟩:=hcut;clear c0 c1 c2 d1 d2 HEQ
  cases hd:decide (q=f.1.p∧x.1.k=f.1.k∧x.1.d=f.1.d) with
  | true =>
   go_wp2_with fail
   first|refine bodyPost_end (results_none rfl _ _ _) rfl ?_|refine bodyPost_ret (results_none rfl _ _ _) rfl ?_
   exact ⟨rfl,by rw [HS.out,if_pos (of_decide_eq_true hd)];exact HM.out.more (by omega),Frm.ofBelow HBL.out hz⟩
  | false =>
   have hl1:(LdF (.pointer (some ⟨w.heap.size+1,0,none⟩))).run Tryz.prog w2 = .ok (.agg (za x.1 x.2.1 x.2.2)) w2:=zaC HB2.out;have HST:=zz (HM.out.stay HX.out q hl)
   go_wp2_with (go_at_call 110;refine HST.out.mono ?_)
   rintro _ w3 ⟨rfl,m3,k3⟩;have HK3:=zz k3;have HCL:=zz (m3.clash q 2 hq (by omega) hN);clear m3 k3 HST
   go_wp2_with (go_at_call 111;refine HCL.out.mono ?_)
   rintro _ w4 ⟨rfl,m4,k4⟩;have HM4:=zz m4;have HK4:=zz (show Frm z mb cb w w4 from ((Frm.ofBelow HBL.out hz).trans HK3.out).trans (Frm.ofC k4));clear m4 k4 HCL
   go_wp2_with fail
   first|refine bodyPost_end (results_none rfl _ _ _) rfl ?_|refine bodyPost_ret (results_none rfl _ _ _) rfl ?_
   exact ⟨rfl,by rw [HS.out,if_neg (of_decide_eq_false hd)];exact HM4.out,HK4.out⟩
end
section
open Go.RowKit Go.Maps
theorem zki:(Tryz.prog.info? 188).map (·.size)=some 3:=by kernel_rfl
theorem zpb {z q:Nat} {s:SideD} {b1 b2 b3 n1 n2 n3:Nat} {f1 f2 f3:Mp} (p:Pth) (w:World) (h:SideM w z q s b1 b2 b3 n1 n2 n3 f1 f2 f3) (hp:p.length≤1000000) :Calls Tryz.prog 108 #[.pointer (some ⟨q,0,none⟩),strC p] w fun e w'=>e = .returned (.tuple #[strC (s.goes p).1,.bool (s.goes p).2])∧Below w.heap.size w w':=by
 have e1:=(h.blk.cell 1).trans (show (#[.map (some b1),.map (some b2),.map (some b3)]:Array Value)[1]? = some (.map (some b2)) from rfl);have hlk:=h.m2.look_ok (s:=p) Tryz.underlying224 (zgk w) (by unfold maxLen;omega);rw [h.p2 p] at hlk;have HH:=zz h;obtain ⟨G,hG⟩:∃G,s.goes p=G:=⟨_,rfl⟩;rw [hG];have HG:=zz hG;clear h hG
 cases hf:s.l.find? (fun x=>x.old==p) with
 | some x =>
  have HE:=zz (show G=(x.new,true) from by rw [←HG.out];unfold SideD.goes;rw [hf]);rw [hf] at hlk;have hlk:(Instr.lookup 224 (.map (some b2)) (strC p) true).run Tryz.prog w = .ok (.tuple #[.agg (zv x).toArray,.bool true]) w:=hlk;clear HG hf HH;go_enter Tryz.func108,Tryz.ntmps108
  go_upto_region 2 with (refine zO rfl rfl (vs:=(zv x).toArray) rfl rfl (Blk.new _ _ _) rfl zki (by simpa using zdx x) ?_;intro w6 hx6 hk6 hz6)
  have HK6:=zz (show Below w.heap.size w w6 from (Keep.ofNew hk6).all);have y1:=(hx6.cell 1).trans (show (zv x).toArray[1]? = some (strC x.new) from rfl);clear hx6 hk6 hz6
  go_wp2_with fail
  go_ret2
  exact ⟨by rw [HE.out];rfl,HK6.out⟩
 | none =>
  have HE:=zz (show G=(p,hasF s.f p) from by rw [←HG.out];unfold SideD.goes;rw [hf]);rw [hf] at hlk;have hlk:(Instr.lookup 224 (.map (some b2)) (strC p) true).run Tryz.prog w = .ok (.tuple #[.agg #[.string ⟨#[]⟩,.string ⟨#[]⟩,.int .i64 0],.bool false]) w:=hlk;clear HG hf;go_enter Tryz.func108,Tryz.ntmps108
  go_upto_region 2 with (refine zO rfl rfl (vs:=(zv ⟨[],[],0⟩).toArray) rfl rfl (Blk.new _ _ _) rfl zki (by simpa using zdx ⟨[],[],0⟩) ?_;intro w6 hx6 hk6 hz6)
  have HK6:=zz (show Below w.heap.size w w6 from (Keep.ofNew hk6).all);clear hx6 hk6 hz6;have e0:=((HH.out.blk.below HK6.out HH.out.blk.lt).cell 0).trans (show (#[.map (some b1),.map (some b2),.map (some b3)]:Array Value)[0]? = some (.map (some b1)) from rfl);have hlk2:=(HH.out.m1.keep (Below.keep_ HK6.out zl) (fun q=>q)).look_ok (s:=p) Tryz.underlying166 (zaU w6) (by unfold maxLen;omega);obtain ⟨D,d,hget,_⟩:=HH.out.p1.get p;rw [hget,HH.out.p1.1 p] at hlk2;generalize getF s.f p=g at *;clear hget e1 hlk HH
  go_wp2_with (refine zO rfl rfl (vs:=za g D d) rfl rfl (Blk.new _ _ _) rfl zaw (zaD _ _ _) ?_;intro w7 hx7 hk7 hz7;have HK7:=zz (show Below w6.heap.size w6 w7 from (Keep.ofNew hk7).all);clear hx7 hk7 hz7)
  go_ret2
  exact ⟨by rw [HE.out];rfl,HK6.out.trans (HK7.out.mono HK6.out.size)⟩
end
section
open Go.RowKit Go.Maps
theorem MG.keepG {w w':World} {z mb so st cb:Nat} {A:Option Addr} {c n:Nat} {f:Mc} {s:MSt} {G:List Nat} (h:MG w z mb so st cb A c n f s) (hk:Kept z [] G w w') (hg:∀g∈G,z≤g∧g≠mb∧g≠cb∧∀a,A=some a→a.block≠g) (hu:zbH w G 5):MG w' z mb so st cb A c n f s:=by
 obtain ⟨ds,h1,h2,h3⟩:=h.things
 refine ⟨hk.blk h.blk (fun q=>(hg _ q).2.1 rfl) (by simp),Nat.le_trans h.zs hk.size,h.zm,h.zc,⟨ds,h1,h2.same1 fun a ha=>hk.block _ (h2.blkA a ha).2.1 fun q=>?_,fun x hx=>(h3 x hx).frm hk h.zs (fun g hg'=>(hg g hg').1) (by simp) hu⟩,h.map.keep hk fun q=>?_,h.cl⟩
 · rcases q with q|⟨_,e,he,_⟩
   · exact (hg _ q).2.2.2 a ha rfl
   · cases he
 · rcases q with q|⟨_,e,he,_⟩
   · exact (hg _ q).2.2.1 rfl
   · cases he
section
variable {w w':World} {z mb so st cb N:Nat} {A:Option Addr} {s:MSt}
theorem MGA.keepG {G:List Nat} (h:MGA w z mb so st cb N A s) (hk:Kept z [] G w w') (hg:∀g∈G,z≤g∧g≠mb∧g≠cb∧∀a,A=some a→a.block≠g) (hu:zbH w G 5):MGA w' z mb so st cb N A s:=by
 obtain ⟨c,n,f,h1,h2⟩:=h;exact ⟨c,n,f,h1,h2.keepG hk hg hu⟩
theorem MGA.clash (hm:MGA w z mb so st cb N A s) (p:Pth) (why:Nat) (hp:p.length≤1000000) (hw:why≤1000) (hn:N≤1000000) :Calls Tryz.prog 111 #[.pointer (some ⟨mb,0,none⟩),strC p,.int .i64 (why:Nat)] w fun e w'=>e = .returned (.tuple #[])∧MGA w' z mb so st cb (N+1) A (s.clash p why)∧Kept z [] [mb,cb] w w':=by
 obtain ⟨c,n,f,h1,h2⟩:=hm;refine (zle z mb so st cb A c n f s p why w h2 hp hw (by omega)).mono ?_;rintro e w' ⟨h3,⟨n',f',h6,h4⟩,h5⟩;exact ⟨h3,⟨c,n',f',by omega,h4⟩,h5⟩
theorem MGA.more {N':Nat} (h:MGA w z mb so st cb N A s) (hn:N≤N'):MGA w z mb so st cb N' A s:=by
 obtain ⟨c,n,f,h1,h2⟩:=h;exact ⟨c,n,f,Nat.le_trans h1 hn,h2⟩
theorem MGA.noRow (h:MGA w z mb so st cb N A s) {e:TypeId} (he:e≠165):zbH w [mb,cb] e:=by
 obtain ⟨c,n,f,h1,h2⟩:=h;exact h2.noRow he
end
structure BoS (w0 w:World) (z mb so st cb N:Nat) (A:Option Addr) (s:MSt) (q:Nat) (b x y o:FT):Prop where
 m:MGA w z mb so st cb N A s
 bb:Blk w q 70 (za b.1 b.2.1 b.2.2)
 bx:Blk w (q+1) 70 (za x.1 x.2.1 x.2.2)
 by_:Blk w (q+2) 70 (za y.1 y.2.1 y.2.2)
 bo:Blk w (q+3) 70 (za o.1 o.2.1 o.2.2)
 db:zo w z b
 dx:zo w z x
 dy:zo w z y
 do_:zo w z o
 lq:z≤q∧mb<q∧cb<q∧z≤mb∧z≤cb∧∀a,A=some a→a.block<q
 k:Frm z mb cb w0 w
section
variable {w0 w w':World} {z mb so st cb N:Nat} {A:Option Addr} {s:MSt} {q:Nat} {b x y o:FT}
theorem BoS.more {N':Nat} (h:BoS w0 w z mb so st cb N A s q b x y o) (hn:N≤N'):BoS w0 w z mb so st cb N' A s q b x y o:=⟨h.m.more hn,h.bb,h.bx,h.by_,h.bo,h.db,h.dx,h.dy,h.do_,h.lq,h.k⟩
theorem BoS.zs (h:BoS w0 w z mb so st cb N A s q b x y o):z≤w.heap.size:=h.m.e.zs
theorem BoS.out (h:BoS w0 w z mb so st cb N A s q b x y o) (h0:w0.heap.size≤q) {p:Addr} (hp:p.block=q+3) {u:Value} {o':FT} (hb:Blk (w.setCell p u) (q+3) 70 (za o'.1 o'.2.1 o'.2.2)) (hd:zo w z o'):BoS w0 (w.setCell p u) z mb so st cb N A s q b x y o':=by
 have hk:Kept z [] [q+3] w (w.setCell p u):=(Kept.refl _ _ _ _).setCell (.inl (by simp [hp])) u;have hu:zbH w [q+3] 5:=by
  intro g hg cs fz hc;rw [List.mem_singleton] at hg;subst hg;have:=h.bo;unfold Blk at this;rw [this] at hc;injection hc with hc;injection hc with _ hc;exact absurd hc (by decide)
 have hg:∀g∈[q+3],z≤g:=by intro g hg;rw [List.mem_singleton] at hg;subst hg;have:=h.lq.1;omega
 have dd:∀x,zo w z x→zo (w.setCell p u) z x:=fun x hx=>hx.frm hk h.zs hg (by simp) hu
 refine ⟨h.m.keepG hk (fun g hg'=>?_) hu,hk.blk h.bb (by simp) (by simp),hk.blk h.bx (by simp) (by simp),hk.blk h.by_ (by simp) (by simp),hb,dd _ h.db,dd _ h.dx,dd _ h.dy,dd _ hd,h.lq,?_⟩
 · rw [List.mem_singleton] at hg';subst hg';obtain ⟨l1,l2,l3,l4,l5,l6⟩:=h.lq;exact ⟨by omega,by omega,by omega,fun a ha=>by have:=l6 a ha;omega⟩
 · exact Kept.setCell h.k (.inr (by rw [hp];omega)) u
theorem BoS.err (h:BoS w0 w z mb so st cb N A s q b x y o):w.cell? ⟨mb,4,none⟩=some (.int .i64 (s.e:Nat))∧w.frozen? ⟨mb,4,none⟩=false:=by
 obtain ⟨c,n,f,h1,h2⟩:=h.m;exact ⟨(h2.blk.cell 4).trans rfl,h2.blk.frozen 4⟩
theorem BoS.clash {s':MSt} {N':Nat} (h:BoS w0 w z mb so st cb N A s q b x y o) (hm:MGA w' z mb so st cb N' A s') (hk:Kept z [] [mb,cb] w w'):BoS w0 w' z mb so st cb N' A s' q b x y o:=by
 obtain ⟨l1,l2,l3,l4,l5,l6⟩:=h.lq;have dd:∀x,zo w z x→zo w' z x:=fun x hx=>hx.frm hk h.zs (by intro g hg;simp only [List.mem_cons,List.not_mem_nil,or_false] at hg;rcases hg with rfl|rfl <;> assumption) (by simp) (h.m.noRow (by decide));have hn:∀i,q≤i→i∉[mb,cb]:=fun i hi=>by simp only [List.mem_cons,List.not_mem_nil,or_false];omega
 exact ⟨hm,hk.blk h.bb (hn _ (by omega)) (by simp),hk.blk h.bx (hn _ (by omega)) (by simp),hk.blk h.by_ (hn _ (by omega)) (by simp),hk.blk h.bo (hn _ (by omega)) (by simp),dd _ h.db,dd _ h.dx,dd _ h.dy,dd _ h.do_,h.lq,h.k.trans (Frm.ofC hk)⟩
theorem BoS.keepB (h:BoS w0 w z mb so st cb N A s q b x y o) (hb:Below w.heap.size w w'):BoS w0 w' z mb so st cb N A s q b x y o :=
 ⟨h.m.keepB hb,h.bb.below hb h.bb.lt,h.bx.below hb h.bx.lt,h.by_.below hb h.by_.lt,h.bo.below hb h.bo.lt,h.db.keepB hb h.zs,h.dx.keepB hb h.zs,h.dy.keepB hb h.zs,h.do_.keepB hb h.zs,h.lq,h.k.trans (Frm.ofBelow hb h.zs)⟩
theorem BoS.setErr {e:Nat} (h:BoS w0 w z mb so st cb N A s q b x y o):BoS w0 (w.setCell ⟨mb,4,none⟩ (.int .i64 (e:Nat))) z mb so st cb N A { s with e:=e } q b x y o:=by
 obtain ⟨l1,l2,l3,l4,l5,l6⟩:=h.lq;have hk:Kept z [] [mb,cb] w (w.setCell ⟨mb,4,none⟩ (.int .i64 (e:Nat))):=(Kept.refl _ _ _ _).setCell (p:=⟨mb,4,none⟩) (.inl (by simp)) _;have hk0:Kept z [] [mb] w (w.setCell ⟨mb,4,none⟩ (.int .i64 (e:Nat))):=(Kept.refl _ _ _ _).setCell (p:=⟨mb,4,none⟩) (.inl (by simp)) _;refine h.clash (s':={ s with e:=e }) (N':=N) ?_ hk;obtain ⟨c,n,f,h1,h2⟩:=h.m;have hr:zbH w [mb] 5∧zbH w [mb] 70:=by
  constructor <;>
  · intro g hg cs fz hc;rw [List.mem_singleton] at hg;subst hg;have:=h2.blk;unfold Blk at this;rw [this] at hc;injection hc with hc;injection hc with _ hc;exact absurd hc (by decide)
 refine ⟨c,n,f,h1,by have:=h2.blk.set_ 4 (.int .i64 (e:Nat));simpa [mgC] using this,by simp [World.setCell];exact h2.zs,h2.zm,h2.zc,h2.things.frm hk0 h2.zs (by intro g hg;rw [List.mem_singleton] at hg;subst hg;exact h2.zm) (by simp) hr.1 (by simp) hr.2,h2.map.setCell (p:=⟨mb,4,none⟩) (fun e=>?_) _,h2.cl⟩;have e:cb=mb:=e;obtain ⟨D,⟨es,clock,q1,_⟩,_⟩:=h2.map;have hb:=h2.blk;unfold Blk at hb;rw [←e,q1] at hb;cases hb
end
theorem BoS.dataErr {w0 w:World} {z mb so st cb N:Nat} {A:Option Addr} {s:MSt} {q:Nat} {b x y o d:FT} {e:Nat} (h:BoS w0 w z mb so st cb N A s q b x y o) (hd:zo w z d):zo (w.setCell ⟨mb,4,none⟩ (.int .i64 (e:Nat))) z d:=by
 obtain ⟨l1,l2,l3,l4,l5,l6⟩:=h.lq;have hk:Kept z [] [mb,cb] w (w.setCell ⟨mb,4,none⟩ (.int .i64 (e:Nat))):=(Kept.refl _ _ _ _).setCell (p:=⟨mb,4,none⟩) (.inl (by simp)) _;exact hd.frm hk h.zs (by intro g hg;simp only [List.mem_cons,List.not_mem_nil,or_false] at hg;rcases hg with rfl|rfl <;> assumption) (by simp) (h.m.noRow (by decide))
theorem zhE {w:World} {z:Nat} {x y:FT} (hz:z≤w.heap.size) (hx:zo w z x) (hy:zo w z y):Calls Tryz.prog 150 #[.slice x.2.1 x.1.d.length x.2.2,.slice y.2.1 y.1.d.length y.2.2] w (fun e w'=>e = .returned (.bool (decide (x.1.d=y.1.d)))∧w=w'):=by
 obtain ⟨D1,d1,e1,_,_,r1⟩:=hx.reads hz;obtain ⟨D2,d2,e2,_,_,r2⟩:=hy.reads hz;injection e1 with e1 _ e3;injection e2 with e2 _ e4;subst D1 D2 d1 d2;exact (zdT r1 r2).mono fun _ _ h=>⟨h.1,h.2.symm⟩
end
end Go.Proofs.YtmkmbbjgepcioaaGreatDoor
