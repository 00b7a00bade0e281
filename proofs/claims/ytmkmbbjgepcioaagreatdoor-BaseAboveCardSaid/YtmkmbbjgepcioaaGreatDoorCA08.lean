/- Plain: what the merger gathers, put together file by file; where neither side has pairs. No statement of the seat is proved here. -/
import Derived.Test.YtmkmbbjgepcioaaGreatDoorCA07
import Derived.Test.YtmkmbbjgepcioaaGreatDoorCA06
import Derived.Test.YtmkmbbjgepcioaaGreatDoorCA05
import Derived.Lib.SplitLaws
namespace Go.Proofs.YtmkmbbjgepcioaaGreatDoor
section
theorem zis {d:Pth}:∀{b cur:Pth},d∈zaN cur b↔∃x y,b=x++47::y∧d=cur++x
 | [],cur=>by simp [zaN]
 | c::b,cur=>by
  have ih:=zis (d:=d) (b:=b) (cur:=cur++[c]);unfold zaN
  split
  · rename_i h
    subst h;rw [List.mem_cons,ih];constructor
    · rintro (rfl|⟨x,y,h1,h2⟩)
      · exact ⟨[],b,rfl,by simp⟩
      · exact ⟨47::x,y,by rw [h1];rfl,by rw [h2];simp⟩
    · rintro ⟨x,y,h1,h2⟩
      cases x with
      | nil=>exact .inl (by simpa using h2)
      | cons a x =>
       simp only [List.cons_append,List.cons.injEq] at h1;exact .inr ⟨x,y,h1.2,by rw [h2,←h1.1];simp⟩
  · rename_i hc
    rw [ih];constructor
    · rintro ⟨x,y,h1,h2⟩;exact ⟨c::x,y,by rw [h1];rfl,by rw [h2];simp⟩
    · rintro ⟨x,y,h1,h2⟩
      cases x with
      | nil=>simp at h1;exact absurd h1.1 hc
      | cons a x =>
       simp only [List.cons_append,List.cons.injEq] at h1;exact ⟨x,y,h1.2,by rw [h2,←h1.1];simp⟩
theorem zjK {d p:Pth}:d∈zl p↔∃q,p=d++47::q:=by
 unfold zl;rw [zis];constructor
 · rintro ⟨x,y,h1,h2⟩;exact ⟨y,by rw [h1,h2];rfl⟩
 · rintro ⟨q,h⟩;exact ⟨d,q,h,rfl⟩
theorem zmT (a:Pth) (x:UInt8) (q:Pth):a<a++x::q:=by
 induction a with
 | nil=>exact List.nil_lt_cons ..
 | cons c a ih=>rw [List.cons_append,List.cons_lt_cons_iff];exact .inr ⟨rfl,ih⟩
theorem zjR {d p:Pth} (h:d∈zl p):d<p:=by
 obtain ⟨q,rfl⟩:=zjK.1 h;exact zmT d 47 q
theorem zq9 {done:List FileD} {p:Pth} (hr:z8 (done.map (·.p))) (h:zbk done p=false):∀g∈done,g.p<p:=by
 unfold zbk at h
 rcases List.eq_nil_or_concat done with rfl|⟨l,x,rfl⟩
 · intro g hg;cases hg
 · rw [List.concat_eq_append] at *;rw [List.getLast?_append] at h;simp only [List.getLast?_singleton,Option.some_or,decide_eq_false_iff_not] at h;have hx:x.p<p:=List.not_le.1 h;unfold z8 at hr;rw [List.map_append,List.pairwise_append] at hr;intro g hg
   rcases List.mem_append.1 hg with q|q
   · exact zdF (hr.2.2 g.p (List.mem_map.2 ⟨g,q,rfl⟩) x.p (by simp)) hx
   · rw [List.mem_singleton.1 q];exact hx
theorem zqR {done:List FileD} {p:Pth} (h:∀g∈done,g.p<p):zbk done p=false:=by
 unfold zbk
 split
 · rename_i g hg
   rw [decide_eq_false_iff_not];exact List.not_le.2 (h g (List.mem_of_getLast? hg))
 · rfl
structure TreeOk (l:List FileD):Prop where
 file:∀f∈l,zL f=0
 rise:z8 (l.map (·.p))
 apart:∀f∈l,∀g∈l,g.p∉zl f.p
theorem zkT:∀(l done:List FileD),z8 (done.map (·.p))→(zaH done l=0↔(∀f∈l,zL f=0)∧z8 ((done++l).map (·.p))∧∀f∈l,∀g∈done++l,g.p∉zl f.p)
 | [],done,hr=>by
  rw [List.append_nil]
  simp [zaH,hr]
 | f::l,done,hr=>by
  unfold zaH;by_cases h1:zL f=0
  · rw [if_neg (fun q=>q h1)];by_cases h2:zbk done f.p=true
    · rw [if_pos h2];refine ⟨fun q=>absurd q (by decide),fun q=>?_⟩;exfalso;have:zbk done f.p=false:=zqR fun g hg=>by
       have:=q.2.1;unfold z8 at this;rw [List.map_append,List.pairwise_append] at this;exact this.2.2 g.p (List.mem_map.2 ⟨g,hg,rfl⟩) f.p (by simp)
      rw [this] at h2;cases h2
    · rw [if_neg h2];have h2:=Bool.eq_false_iff.2 h2;have hlt:=zq9 hr h2;have hr2:z8 ((done++[f]).map (·.p)):=by
       unfold z8;rw [List.map_append,List.pairwise_append];refine ⟨hr,by simp,fun a ha b hb=>?_⟩;obtain ⟨g,hg,rfl⟩:=List.mem_map.1 ha;simp at hb;rw [hb];exact hlt g hg
      by_cases h3:(zl f.p).any (fun d=>done.any (fun g=>g.p==d))=true
      · rw [if_pos h3];refine ⟨fun q=>absurd q (by decide),fun q=>?_⟩;exfalso;simp only [List.any_eq_true,beq_iff_eq] at h3;obtain ⟨d,hd,g,hg,e⟩:=h3;exact q.2.2 f (List.mem_cons_self ..) g (List.mem_append_left _ hg) (by rw [e];exact hd)
      · rw [if_neg h3];rw [zkT l (done++[f]) hr2];simp only [List.append_assoc,List.cons_append,List.nil_append]
        constructor
        · rintro ⟨q1,q2,q3⟩
          refine ⟨fun g hg=>?_,q2,fun g hg g' hg'=>?_⟩
          · rcases List.mem_cons.1 hg with rfl|hg
            · exact h1
            · exact q1 g hg
          · rcases List.mem_cons.1 hg with rfl|hg
            · intro hd
              rcases List.mem_append.1 hg' with r|r
              · exact h3 (by simp only [List.any_eq_true,beq_iff_eq];exact ⟨_,hd,g',r,rfl⟩)
              · have hlt2:=zjR hd
                rcases List.mem_cons.1 r with r|r
                · rw [r] at hlt2;exact List.lt_irrefl _ hlt2
                · unfold z8 at q2;rw [List.map_append,List.pairwise_append] at q2;have:=q2.2.1;rw [List.map_cons,List.pairwise_cons] at this;exact zbw hlt2 (this.1 g'.p (List.mem_map.2 ⟨g',r,rfl⟩))
            · exact q3 g hg g' hg'
        · rintro ⟨q1,q2,q3⟩;exact ⟨fun g hg=>q1 g (List.mem_cons_of_mem _ hg),q2,fun g hg=>q3 g (List.mem_cons_of_mem _ hg)⟩
  · rw [if_pos h1];refine ⟨fun q=>absurd q h1,fun q=>absurd (q.1 f (List.mem_cons_self ..)) h1⟩
theorem zia {l:List FileD}:zaH [] l=0↔TreeOk l:=by
 rw [zkT l [] List.Pairwise.nil];simp only [List.nil_append]
 exact ⟨fun h=>⟨h.1,h.2.1,h.2.2⟩,fun h=>⟨h.file,h.rise,h.apart⟩⟩
theorem zV {l:List FileD} (h:zf l=0):TreeOk l∧l.length≤1000∧zbr l=false:=by
 unfold zf at h
 split at h
 · cases h
 · split at h
   · rename_i q;exact absurd h q
   · rename_i q1 q2
     split at h
     · cases h
     · rename_i q3
       exact ⟨zia.1 (Decidable.not_not.1 q2),by omega,Bool.eq_false_iff.2 q3⟩
theorem zsm {l:List FileD} (h:TreeOk l) (hl:l.length≤1000) (hc:zbr l=false):zf l=0:=by
 unfold zf;rw [if_neg (by omega),if_neg (fun q=>q (zia.2 h)),hc,if_neg (by decide)]
theorem zcy {f:FileD} (h:zL f=0):(f.k=1∨f.k=2∨f.k=3)∧f.d.length≤65536∧(nmP f.p).length≤8∧∀s∈nmP f.p,zF s=true:=by
 unfold zL at h
 split at h
 · cases h
 · rename_i q
   split at h
   · cases h
   · rename_i q2
     split at h
     · cases h
     · rename_i q3
       rw [not_or] at q2;refine ⟨by omega,by omega,by omega,fun s hs=>?_⟩;have:=q2.2;simp only [List.any_eq_true,Bool.not_eq_true',not_exists,not_and,Bool.not_eq_false] at this;exact this s hs
theorem TreeOk.kinds {l:List FileD} (h:TreeOk l):zbF l:=fun f hf=>(zcy (h.file f hf)).1
theorem TreeOk.apt {l:List FileD} (h:TreeOk l):Apt l:=zc7 h.rise
end
section
open Go.RowKit
theorem zn0 {c:UInt8} {l:List UInt8} (h:c∈l):∃p q:List UInt8,l=p++c::q∧c∉p∧Lib.indexByte l c=(p.length:Int):=by
 have h1:=Lib.indexByte_ge l c
 rcases Int.lt_or_le (Lib.indexByte l c) 0 with q|q
 · obtain ⟨j,hj,hx⟩:=List.mem_iff_getElem.1 h;exact absurd (by rw [List.getElem?_eq_getElem hj,hx]) (Lib.indexByte_none (l:=l) (c:=c) (by omega) j)
 · obtain ⟨o,ho⟩:∃o:Nat,Lib.indexByte l c=(o:Int):=⟨(Lib.indexByte l c).toNat,by omega⟩
   obtain ⟨h2,h3⟩:=Lib.indexByte_some ho;have hlt:=(List.getElem?_eq_some_iff.1 h2).1
   refine ⟨l.take o,l.drop (o+1),?_,fun hm=>?_,by rw [ho,List.length_take,Nat.min_eq_left (by omega)]⟩
   · have:l.drop o=c::l.drop (o+1):=List.drop_eq_getElem?_toList_append.trans (by rw [h2];rfl);rw [←this,List.take_append_drop]
   · obtain ⟨j,hj,hx⟩:=List.mem_iff_getElem.1 hm;rw [List.length_take] at hj;refine h3 j (by omega) ?_;rw [List.getElem_take] at hx;rw [List.getElem?_eq_getElem (by omega),hx]
theorem zhY {q:Pth}:∀{p cur:Pth},(47:UInt8)∉p→zT cur (p++47::q)=(cur++p)::zT [] q
 | [],cur,_=>by simp [zT]
 | x::p,cur,h=>by
  have hx:x≠47:=fun e=>h (by simp [e]);have:=zhY (q:=q) (p:=p) (cur:=cur++[x]) (fun hm=>h (by simp [hm]));simp [zT,hx,this]
theorem zjO:∀{p cur:Pth},(47:UInt8)∉p→zT cur p=[cur++p]
 | [],cur,_=>by simp [zT]
 | x::p,cur,h=>by
  have hx:x≠47:=fun e=>h (by simp [e]);have:=zjO (p:=p) (cur:=cur++[x]) (fun hm=>h (by simp [hm]));simp [zT,hx,this]
theorem ziq:∀(n:Nat) (s:Pth),s.length≤n→Lib.splitK [47] 0 (s.count 47) s=nmP s
 | n,s,hn=>by
  by_cases hm:(47:UInt8)∈s
  · obtain ⟨p,q,rfl,hp,hi⟩:=zn0 hm;have hc:(p++47::q).count 47=q.count 47+1:=by
     rw [List.count_append,List.count_eq_zero_of_not_mem hp,List.count_cons_self];omega
    rw [hc,Lib.splitK,Lib.index_one,hi,if_neg (by simp)];unfold nmP;rw [zhY hp];have e1:(p++47::q).take (((p.length:Int)).toNat+0)=[]++p:=by simp
    have e2:(p++47::q).drop (((p.length:Int)).toNat+[(47:UInt8)].length)=q:=by
     rw [Int.toNat_natCast,List.drop_append,List.drop_eq_nil_of_le (by simp)];simp
    rw [e1,e2]
    congr 1
    cases n with
    | zero=>simp at hn
    | succ n=>exact ziq n q (by simp at hn;omega)
  · rw [List.count_eq_zero_of_not_mem hm,Lib.splitK];unfold nmP;rw [zjO hm];rfl
end
section
theorem zhM {a:List FileD}:zJ a a=[]:=by
 unfold zJ;rw [List.filterMap_eq_nil_iff];intro p _;unfold zaz;rw [if_neg (by simp)]
theorem znd {base l:List FileD} {ps:List PairD} (h:PairsOf base l ps) {x:PairD} (hx:x∈ps):ps.find? (fun y=>y.old==x.old)=some x:=by
 have hn:=h.olds;clear h
 induction ps with
 | nil=>cases hx
 | cons a ps ih =>
  rw [List.map_cons,List.nodup_cons] at hn;rw [List.find?_cons]
  rcases List.mem_cons.1 hx with rfl|hx
  · simp
  · have hne:(a.old==x.old)=false:=beq_eq_false_iff_ne.2 fun e=>hn.1 (List.mem_map.2 ⟨x,hx,e.symm⟩);rw [hne];exact ih hx hn.2
theorem zcR (l:List FileD) (ps:List PairD) (p:Pth):(∃x∈ps,x.old=p∧SideD.goes ⟨l,ps⟩ p=(x.new,true))∨((∀x∈ps,x.old≠p)∧SideD.goes ⟨l,ps⟩ p=(p,hasF l p)):=by
 unfold SideD.goes
 cases hq:ps.find? (fun x=>x.old==p) with
 | some x =>
  have hx:=List.mem_of_find?_eq_some hq;have he:x.old=p:=by simpa using List.find?_some hq
  exact .inl ⟨x,hx,he,rfl⟩
 | none =>
  rw [List.find?_eq_none] at hq;exact .inr ⟨fun x hx e=>hq x hx (by simpa using e),rfl⟩
theorem zc8 {base l:List FileD} {ps:List PairD} (h:PairsOf base l ps) {p:Pth} (hg:(SideD.goes ⟨l,ps⟩ p).2=true):hasF l (SideD.goes ⟨l,ps⟩ p).1=true:=by
 rcases zcR l ps p with ⟨x,hx,_,e⟩|⟨_,e⟩
 · rw [e];exact (h.new x hx).1
 · rw [e] at hg ⊢;exact hg
theorem zq8 {base l:List FileD} {ps:List PairD} (h:PairsOf base l ps) {p q:Pth} (hp:hasF base p=true) (hq:hasF base q=true) (e:(SideD.goes ⟨l,ps⟩ p).1=(SideD.goes ⟨l,ps⟩ q).1):p=q:=by
 rcases zcR l ps p with ⟨x,hx,hx2,e1⟩|⟨_,e1⟩ <;> rcases zcR l ps q with ⟨y,hy,hy2,e2⟩|⟨_,e2⟩
 · rw [e1,e2] at e;simp only at e;obtain ⟨i,hi,rfl⟩:=List.mem_iff_getElem.1 hx;obtain ⟨j,hj,rfl⟩:=List.mem_iff_getElem.1 hy;have:i=j:=(List.getElem_inj (xs:=ps.map (·.new)) (h₀:=by simpa using hi) (h₁:=by simpa using hj) h.news).1 (by simpa using e);subst this;rw [←hx2,←hy2]
 · rw [e1,e2] at e;simp only at e;have:=(h.new x hx).2;rw [e,hq] at this;cases this
 · rw [e1,e2] at e;simp only at e;have:=(h.new y hy).2;rw [←e,hp] at this;cases this
 · rw [e1,e2] at e;exact e
def zcZ (s:SideD) (base:List FileD):List FileD:=base.filterMap fun f=>if (s.goes f.p).2=true then some (getF s.f (s.goes f.p).1) else none
def zcL (s:SideD) (base:List FileD) (ks:List Pth):List FileD:=ks.filterMap fun p=>if s.isNew base p=true then some (getF s.f p) else none
theorem zlk {s:SideD} {base:List FileD} {f:FileD}:f∈zcZ s base↔∃g∈base,(s.goes g.p).2=true∧getF s.f (s.goes g.p).1=f:=by
 unfold zcZ;rw [List.mem_filterMap];constructor
 · rintro ⟨g,hg,h⟩
   split at h
   · exact ⟨g,hg,by assumption,Option.some.inj h⟩
   · cases h
 · rintro ⟨g,hg,h1,h2⟩;exact ⟨g,hg,by rw [if_pos h1,h2]⟩
theorem zht {s:SideD} {base:List FileD} {ks:List Pth} {f:FileD}:f∈zcL s base ks↔∃p∈ks,s.isNew base p=true∧getF s.f p=f:=by
 unfold zcL;rw [List.mem_filterMap];constructor
 · rintro ⟨g,hg,h⟩
   split at h
   · exact ⟨g,hg,by assumption,Option.some.inj h⟩
   · cases h
 · rintro ⟨g,hg,h1,h2⟩;exact ⟨g,hg,by rw [if_pos h1,h2]⟩
theorem zcj {s:SideD} {base:List FileD} {p:Pth}:s.isNew base p=true↔hasF s.f p=true∧hasF base p=false∧∀x∈s.l,x.new≠p:=by
 unfold SideD.isNew;simp only [Bool.and_eq_true,Bool.not_eq_true',List.any_eq_false,beq_iff_eq]
 exact ⟨fun h=>⟨h.1.1,h.1.2,h.2⟩,fun h=>⟨⟨h.1,h.2.1⟩,h.2.2⟩⟩
theorem zf7 {α β:Type} {f:α→Option β}:∀{l:List α},l.Nodup→(∀a∈l,∀b∈l,∀y,f a=some y→f b=some y→a=b)→(l.filterMap f).Nodup
 | [],_,_=>List.nodup_nil
 | a::l,hn,hi=>by
  rw [List.nodup_cons] at hn;rw [List.filterMap_cons];have ih:=zf7 hn.2 fun x hx y hy=>hi x (List.mem_cons_of_mem _ hx) y (List.mem_cons_of_mem _ hy)
  cases hq:f a with
  | none=>exact ih
  | some y =>
   refine List.nodup_cons.2 ⟨fun hm=>?_,ih⟩;obtain ⟨b,hb,h⟩:=List.mem_filterMap.1 hm;have:=hi a (List.mem_cons_self ..) b (List.mem_cons_of_mem _ hb) y hq h;exact hn.1 (this▸hb)
theorem zig {l:List FileD} (h:Apt l):l.Nodup:=List.Pairwise.of_map (·.p) (fun a b q e=>q (by rw [e])) h
theorem zrj {base l:List FileD} {ps:List PairD} (hb:Apt base) (hl:Apt l) (h:PairsOf base l ps) {ks:List Pth} (hks:ks.Nodup) (hk:∀p,hasF l p=true→p∈ks):(zcZ ⟨l,ps⟩ base++zcL ⟨l,ps⟩ base ks).Perm l:=by
 refine (List.perm_ext_iff_of_nodup ?_ (zig hl)).2 fun f=>?_
 · rw [List.nodup_append]
   refine ⟨?_,?_,fun a ha b hb' e=>?_⟩
   · refine zf7 (zig hb) fun f hf g hg y h1 h2=>?_
     split at h1
     · split at h2
       · rename_i q1 q2
         have e1:=zal (zc8 h q1);have e2:=zal (zc8 h q2);have:=zq8 h (zQ.2 ⟨f,hf,rfl⟩) (zQ.2 ⟨g,hg,rfl⟩) (by rw [←e1.2,←e2.2,Option.some.inj h1,Option.some.inj h2]);have e3:=zbf hb hf;rw [this,zbf hb hg] at e3;exact e3.symm
       · cases h2
     · cases h1
   · refine zf7 hks fun p _ q _ y h1 h2=>?_
     split at h1
     · split at h2
       · rename_i q1 q2
         have e1:=zal (zcj.1 q1).1;have e2:=zal (zcj.1 q2).1;rw [←e1.2,←e2.2,Option.some.inj h1,Option.some.inj h2]
       · cases h2
     · cases h1
   · subst e;obtain ⟨g,hg,q1,q2⟩:=zlk.1 ha;obtain ⟨p,_,r1,r2⟩:=zht.1 hb';obtain ⟨r1a,r1b,r1c⟩:=zcj.1 r1;have ep:=(zal r1a).2;have eg:=(zal (zc8 h q1)).2;rw [r2] at ep;rw [q2] at eg
     rcases zcR l ps g.p with ⟨x,hx,_,e⟩|⟨_,e⟩
     · rw [e] at eg;exact r1c x hx (by rw [←ep,eg])
     · rw [e] at eg;simp only at eg;rw [←ep,eg,zQ.2 ⟨g,hg,rfl⟩] at r1b;cases r1b
 · rw [List.mem_append,zlk,zht];constructor
   · rintro (⟨g,hg,q1,q2⟩|⟨p,_,q1,q2⟩)
     · rw [←q2];exact (zal (zc8 h q1)).1
     · rw [←q2];exact (zal (zcj.1 q1).1).1
   · intro hf;have hfl:hasF l f.p=true:=zQ.2 ⟨f,hf,rfl⟩;by_cases hfb:hasF base f.p=true
     · obtain ⟨g,hg,e⟩:=zQ.1 hfb;refine .inl ⟨g,hg,?_⟩
       rcases zcR l ps g.p with ⟨x,hx,hx2,_⟩|⟨_,e2⟩
       · have:=(h.old x hx).2;rw [hx2,e,hfl] at this;cases this
       · rw [e2,e];exact ⟨hfl,zbf hl hf⟩
     · have hfb:=Bool.eq_false_iff.2 hfb;by_cases hx:∃x∈ps,x.new=f.p
       · obtain ⟨x,hx,e⟩:=hx;obtain ⟨g,hg,eg⟩:=zQ.1 (h.old x hx).1;refine .inl ⟨g,hg,?_⟩;have:SideD.goes ⟨l,ps⟩ g.p=(x.new,true):=by
          unfold SideD.goes;rw [eg,znd h hx]
         rw [this,e];exact ⟨rfl,zbf hl hf⟩
       · exact .inr ⟨f.p,hk _ hfl,zcj.2 ⟨hfl,hfb,fun x hx' e=>hx ⟨x,hx',e⟩⟩,zbf hl hf⟩
theorem zi7 (s:MSt) {f:FileD} {p:Pth} (h:f.p=p):s.stay p f={ s with t:=s.t++[f] }:=by
 subst h;rfl
theorem zr2 {s':SideD} {step:MSt→FileD→MSt} (base:List FileD) (h:∀f∈base,∀s,step s f=if (s'.goes f.p).2=true then { s with t:=s.t++[getF s'.f (s'.goes f.p).1] } else s):∀s:MSt,base.foldl step s={ s with t:=s.t++zcZ s' base }:=by
 induction base with
 | nil=>intro s;simp [zcZ]
 | cons f l ih =>
  intro s;rw [List.foldl_cons,h f (List.mem_cons_self ..),ih fun g hg=>h g (List.mem_cons_of_mem _ hg)];unfold zcZ;rw [List.filterMap_cons];by_cases q:(s'.goes f.p).2=true
  · simp [q]
  · simp [q]
theorem zse {s':SideD} {base:List FileD} {step:MSt→Pth→MSt} (ks:List Pth) (h:∀p∈ks,∀s,step s p=if s'.isNew base p=true then { s with t:=s.t++[getF s'.f p] } else s):∀s:MSt,ks.foldl step s={ s with t:=s.t++zcL s' base ks }:=by
 induction ks with
 | nil=>intro s;simp [zcL]
 | cons f l ih =>
  intro s;rw [List.foldl_cons,h f (List.mem_cons_self ..),ih fun g hg=>h g (List.mem_cons_of_mem _ hg)];unfold zcL;rw [List.filterMap_cons];by_cases q:s'.isNew base f=true
  · simp [q]
  · simp [q]
theorem zlr {l:List FileD} (h:Apt l) (c:List ClashD):∀ns:List Nat,ns.foldl zan (l,c)=(l,c)
 | []=>rfl
 | i::ns=>by
  rw [List.foldl_cons];have:zan (l,c) i=(l,c):=by
   unfold zan
   split
   · rfl
   · rename_i f hf
     simp only at hf ⊢;rw [if_neg];intro hq;simp only [List.any_eq_true,beq_iff_eq] at hq;obtain ⟨g,hg,e⟩:=hq;obtain ⟨j,hj,rfl⟩:=List.mem_iff_getElem.1 hg;rw [List.length_take] at hj;rw [List.getElem_take] at e;have hil:=(List.getElem?_eq_some_iff.1 hf);obtain ⟨hi,rfl⟩:=hil;have hn:(l.map (·.p)).Nodup:=h;have:j=i:=(List.getElem_inj (xs:=l.map (·.p)) (h₀:=by simp;omega) (h₁:=by simpa using hi) hn).1 (by simpa using e);omega
  rw [this];exact zlr h c ns
theorem zlI {l:List FileD} {p:Pth} (h:∀f∈l,p∉zl f.p):zba l p=0:=by
 unfold zba;rw [List.countP_eq_zero];intro f hf;simpa using h f hf
theorem zhZ {l:List FileD} (h:∀f∈l,∀g∈l,g.p∉zl f.p) (c:List ClashD):∀ns:List Nat,ns.foldl zaM (l,c)=(l,c)
 | []=>rfl
 | i::ns=>by
  rw [List.foldl_cons];have:zaM (l,c) i=(l,c):=by
   unfold zaM
   split
   · rfl
   · rename_i f hf
     simp only at hf ⊢;rw [if_neg];rw [zlI fun g hg=>h g hg f (List.mem_of_getElem? hf)];omega
  rw [this];exact zhZ h c ns
theorem zhD {l:List FileD} (h:z8 (l.map (·.p))):zbJ (fun a b:FileD=>decide (a.p<b.p)) l:=by
 unfold zbJ;refine List.Pairwise.imp (fun {a b} q=>?_) (List.pairwise_map.1 h);rw [decide_eq_false_iff_not];exact zbw q
theorem zq3 {l m:List FileD} (hp:l.Perm m) (hm:TreeOk m) (c:List ClashD):zak l c=(m,c):=by
 have hl:Apt l:=(hp.map (fun f:FileD=>f.p)).nodup_iff.2 hm.apt;unfold zak;simp only [zlr hl c]
 rw [zfo hp (zhD hm.rise) hl];exact zhZ hm.apart c _
theorem zsG {m:List FileD} (hm:TreeOk m):zW m=m:=zfo (List.Perm.refl _) (zhD hm.rise) hm.apt
theorem zjC {base ours theirs m:List FileD} (hb:zf base=0) (ho:zf ours=0) (ht:zf theirs=0) (hm:zf m=0) (he:(zS base ours theirs).e=0) (hc:(zS base ours theirs).c=[]) (hp:(zS base ours theirs).t.Perm m):zN base ours theirs = .ok (m,[]):=by
 unfold zN;rw [if_neg (by omega),if_neg (by omega),if_neg (by omega)];simp only [he,hc,ne_eq,not_true_eq_false,if_false]
 rw [zq3 hp (zV hm).1];simp only [zsG (zV hm).1,hm,not_true_eq_false,if_false]
 rfl
theorem zky (s:MSt) {p:Pth} {base x y z:FileD} {lines:Int} (hk:zbi base.k x.k y.k=(z.k,true)) (hd:zaI base lines x y=(z.d,true,0)) (hz:z.p=p):s.both p base lines x y={ s with t:=s.t++[z] }:=by
 unfold MSt.both;simp only [hk,hd,if_true]
 subst hz;unfold MSt.stay;simp only
 congr 1
 split
 · rename_i h;rw [h]
 · rfl
theorem zkP (l:List FileD) (p:Pth):SideD.goes ⟨l,[]⟩ p=(p,hasF l p):=rfl
theorem zlb {base ours theirs l:List FileD} {ps:List PairD} (hb:Apt base) (hl:Apt l) (h:PairsOf base l ps) (hu:∀p,hasF l p=true→p∈ours.map (·.p)++theirs.map (·.p)) (h1:∀f∈base,∀s,MSt.file (zX base ours) (zX base theirs) s f=if (SideD.goes ⟨l,ps⟩ f.p).2=true then { s with t:=s.t++[getF l (SideD.goes ⟨l,ps⟩ f.p).1] } else s)
    (h2:∀p s,MSt.fresh1 base (zX base ours) (zX base theirs) s p=if SideD.isNew ⟨l,ps⟩ base p=true then { s with t:=s.t++[getF l p] } else s) :
    (zS base ours theirs).e=0∧(zS base ours theirs).c=[]∧(zS base ours theirs).t.Perm l:=by
 have hp:=zrj hb hl h (ks:=zaA (ours.map (·.p)++theirs.map (·.p))) (zc7 (zbY _)) (fun p hp=>zbD.2 (hu p hp));have e:zS base ours theirs=⟨zcZ ⟨l,ps⟩ base++zcL ⟨l,ps⟩ base (zaA (ours.map (·.p)++theirs.map (·.p))),[],0⟩:=by
  unfold zS;simp only
  rw [zr2 (s':=⟨l,ps⟩) base h1,zse (s':=⟨l,ps⟩) (base:=base) _ (fun p _ s=>h2 p s)];rfl
 rw [e];exact ⟨rfl,rfl,hp⟩
theorem zkW {l:List FileD} {p:Pth} (h:hasF l p=true):p∈l.map (·.p):=by
 obtain ⟨f,h1,h2⟩:=zQ.1 h;exact List.mem_map.2 ⟨f,h1,h2⟩
theorem zli (base:List FileD) (ps:List PairD) (p:Pth):SideD.isNew ⟨base,ps⟩ base p=false:=by
 rw [Bool.eq_false_iff];intro h;obtain ⟨h1,h2,_⟩:=zcj.1 h;rw [h1] at h2;cases h2
theorem zl0 {base side:List FileD} (hb:zf base=0) (hs:zf side=0):zN base side base = .ok (side,[]):=by
 have tb:=(zV hb).1;have ts:=(zV hs).1;have hp:=zdG tb.apt ts.apt tb.kinds ts.kinds;obtain ⟨h1,h2,h3⟩:=zlb (ours:=side) (theirs:=base) tb.apt ts.apt hp (fun p h=>List.mem_append_left _ (zkW h)) (fun f hf s=>by
  have hfb:hasF base f.p=true:=zQ.2 ⟨f,hf,rfl⟩;unfold MSt.file zX;rw [zhM];simp only [show zad []=[] from rfl,zkP,hfb,zbf tb.apt hf]
  cases hq:(SideD.goes ⟨side,zad (zJ base side)⟩ f.p).2 with
  | false =>
   simp only [Bool.false_eq_true,false_and,if_false,and_self,if_true]
   unfold MSt.alone
   rw [if_pos ⟨rfl,rfl,rfl⟩]
  | true =>
   simp only [Bool.true_eq_false,and_false,if_false,if_true,not_true_eq_false,ne_eq]
   refine zky s ?_ ?_ (zal (zc8 hp hq)).2
   · unfold zbi;rw [if_pos (.inl rfl)]
     split
     · rename_i e;rw [e]
     · rfl
   · unfold zaI;rw [if_pos (.inr rfl)]) (fun p s=>by
  unfold MSt.fresh1;have e2:(zX base base).isNew base p=false:=zli base _ p;rw [e2];have e1:(zX base side)=⟨side,zad (zJ base side)⟩:=rfl;rw [e1]
  cases hq:SideD.isNew ⟨side,zad (zJ base side)⟩ base p with
  | false=>simp
  | true =>
   simp only [if_true]
   exact zi7 s (zal (zcj.1 hq).1).2)
 exact zjC hb hs hb hs h1 h2 h3
theorem zij {base side:List FileD} (hb:zf base=0) (hs:zf side=0):zN base base side = .ok (side,[]):=by
 have tb:=(zV hb).1;have ts:=(zV hs).1;have hp:=zdG tb.apt ts.apt tb.kinds ts.kinds;obtain ⟨h1,h2,h3⟩:=zlb (ours:=base) (theirs:=side) tb.apt ts.apt hp (fun p h=>List.mem_append_right _ (zkW h)) (fun f hf s=>by
  have hfb:hasF base f.p=true:=zQ.2 ⟨f,hf,rfl⟩;unfold MSt.file zX;rw [zhM];simp only [show zad []=[] from rfl,zkP,hfb,zbf tb.apt hf]
  cases hq:(SideD.goes ⟨side,zad (zJ base side)⟩ f.p).2 with
  | false =>
   simp only [Bool.false_eq_true,and_self,if_true,if_false]
   unfold MSt.alone
   rw [if_pos ⟨rfl,rfl,rfl⟩]
  | true =>
   have e0:∀(s:MSt) (q:Pth),q=(SideD.goes ⟨side,zad (zJ base side)⟩ f.p).1→s.both q f f.k f (getF side (SideD.goes ⟨side,zad (zJ base side)⟩ f.p).1)={ s with t:=s.t++[getF side (SideD.goes ⟨side,zad (zJ base side)⟩ f.p).1] }:=fun s q e=>by
    refine zky s ?_ ?_ (by rw [e];exact (zal (zc8 hp hq)).2)
    · unfold zbi;rw [if_pos (.inr rfl),if_pos rfl]
    · unfold zaI;by_cases q1:f.d=(getF side (SideD.goes ⟨side,zad (zJ base side)⟩ f.p).1).d
      · rw [if_pos (.inl q1),q1]
      · by_cases q2:(getF side (SideD.goes ⟨side,zad (zJ base side)⟩ f.p).1).d=f.d
        · exact absurd q2.symm q1
        · rw [if_neg (fun q=>q.elim q1 q2),if_pos rfl]
   simp only [Bool.true_eq_false,and_false,if_false,if_true,not_true_eq_false,ne_eq,false_and]
   split
   · rename_i q
     exact e0 s f.p q.symm
   · exact e0 s _ rfl) (fun p s=>by
  unfold MSt.fresh1;have e2:(zX base base).isNew base p=false:=zli base _ p;rw [e2];have e1:(zX base side)=⟨side,zad (zJ base side)⟩:=rfl;rw [e1]
  cases hq:SideD.isNew ⟨side,zad (zJ base side)⟩ base p with
  | false=>simp
  | true =>
   simp only [if_true]
   exact zi7 s (zal (zcj.1 hq).1).2)
 exact zjC hb hb hs hs h1 h2 h3
end
section
def ThOk (l:List FileD):Prop:=∀f∈l,f.p≠[]
def ClOk (l:List ClashD):Prop:=∀x∈l,x.p≠[]∧1≤x.why∧x.why≤6
structure MOk (s:MSt):Prop where
 t:ThOk s.t
 c:ClOk s.c
theorem MOk.stay {s:MSt} (h:MOk s) {p:Pth} (hp:p≠[]) (f:FileD):MOk (s.stay p f):=⟨fun g hg=>by
 rcases List.mem_append.1 hg with q|q
 · exact h.t g q
 · rw [List.mem_singleton.1 q];exact hp,h.c⟩
theorem MOk.clash {s:MSt} (h:MOk s) {p:Pth} (hp:p≠[]) {w:Nat} (h1:1≤w) (h6:w≤6):MOk (s.clash p w):=⟨h.t,fun x hx=>by
 rcases List.mem_append.1 hx with q|q
 · exact h.c x q
 · rw [List.mem_singleton.1 q];exact ⟨hp,h1,h6⟩⟩
theorem MOk.nil_:MOk ⟨[],[],0⟩:=⟨fun _ h=>absurd h (by simp),fun _ h=>absurd h (by simp)⟩
theorem MOk.both {s:MSt} (h:MOk s) {p:Pth} (hp:p≠[]) (b:FileD) (n:Int) (x y:FileD):MOk (s.both p b n x y):=by
 unfold MSt.both;simp only
 refine MOk.stay ?_ hp _;have h1:MOk (if (zbi b.k x.k y.k).2=true then s else s.clash p 3):=by
  split
  · exact h
  · exact h.clash hp (by omega) (by omega)
 split
 · exact ⟨h1.t,h1.c⟩
 · refine MOk.clash (w:=1) ?_ hp (by omega) (by omega);exact ⟨h1.t,h1.c⟩
theorem MOk.alone {s:MSt} (h:MOk s) {p:Pth} (hp:p≠[]) (f x:FileD):MOk (s.alone f p x):=by
 unfold MSt.alone
 split
 · exact h
 · exact (h.stay hp x).clash hp (by omega) (by omega)
theorem zkD {base l:List FileD} {ps:List PairD} (h:PairsOf base l ps) (hl:ThOk l) {p:Pth} (hp:p≠[]):(SideD.goes ⟨l,ps⟩ p).1≠[]:=by
 rcases zcR l ps p with ⟨x,hx,_,e⟩|⟨_,e⟩
 · rw [e];obtain ⟨f,hf,e⟩:=zQ.1 (h.new x hx).1;simp only
   rw [←e];exact hl f hf
 · rw [e];exact hp
theorem zo7 {f:FileD} (h:zL f=0):f.p≠[]:=by
 intro e;have:=(zcy h).2.2.2 [] (by rw [e];simp [nmP,zT]);simp [zF] at this
theorem TreeOk.ne {l:List FileD} (h:TreeOk l):ThOk l:=fun f hf=>zo7 (h.file f hf)
theorem zdW {α β:Type} {f:β→α→β} {P:β→Prop}:∀(l:List α) (b:β),P b→(∀b,P b→∀a∈l,P (f b a))→P (l.foldl f b)
 | [],_,hb,_=>hb
 | a::l,b,hb,h=>zdW l (f b a) (h b hb a (List.mem_cons_self ..)) fun b hb a ha=>h b hb a (List.mem_cons_of_mem _ ha)
theorem zmF {base ours theirs:List FileD} (hb:TreeOk base) (ho:TreeOk ours) (ht:TreeOk theirs):MOk (zS base ours theirs):=by
 have po:=zdG hb.apt ho.apt hb.kinds ho.kinds;have pt:=zdG hb.apt ht.apt hb.kinds ht.kinds;unfold zS;simp only
 refine zdW (P:=MOk) _ _ (zdW (P:=MOk) _ _ MOk.nil_ fun s hs f hf=>?_) fun s hs p hp=>?_
 · have hfp:=hb.ne f hf;have g1:((zX base ours).goes f.p).1≠[]:=zkD po ho.ne hfp;have g2:((zX base theirs).goes f.p).1≠[]:=zkD pt ht.ne hfp;unfold MSt.file;simp only
   split
   · exact hs.alone g1 _ _
   · split
     · exact hs.alone g2 _ _
     · split
       · exact hs
       · split
         · exact ((hs.stay g1 _).stay g2 _).clash hfp (by omega) (by omega)
         · split
           · exact hs.both g1 _ _ _ _
           · exact hs.both g2 _ _ _ _
 · have hpn:p≠[]:=by
    rw [zbD,List.mem_append] at hp
    rcases hp with q|q
    · obtain ⟨f,h1,h2⟩:=List.mem_map.1 q;rw [←h2];exact ho.ne f h1
    · obtain ⟨f,h1,h2⟩:=List.mem_map.1 q;rw [←h2];exact ht.ne f h1
   unfold MSt.fresh1
   split
   · exact hs.both hpn _ _ _ _
   · exact hs.stay hpn _
   · exact hs.stay hpn _
   · exact hs
theorem zkz (l:List FileD) (b:Bool):∀(n:Nat) (p:Pth),zaU l b n p≠[]
 | 0,p=>by simp [zaU]
 | n+1,p=>by
  unfold zaU
  split
  · simp
  · exact zkz l b n _
theorem zpG {l:List FileD} (h:ThOk l) (i:Nat) {p:Pth} (hp:p≠[]):ThOk (zK l i p):=by
 intro f hf;unfold zK at hf;rw [List.mem_iff_getElem?] at hf;obtain ⟨k,hk⟩:=hf;rw [List.getElem?_modify] at hk
 cases hq:l[k]? with
 | none=>rw [hq] at hk;cases hk
 | some g =>
  rw [hq] at hk;have hk:=Option.some.inj hk
  split at hk
  · rw [←hk];exact hp
  · rw [←hk];exact h g (List.mem_of_getElem? hq)
theorem znu {l:List FileD} {c:List ClashD} (hl:ThOk l) (hc:ClOk c):ClOk (zak l c).2:=by
 unfold zak;simp only
 have step:∀(s:List FileD×List ClashD) (f:FileD) (i w:Nat) (b:Bool),(ThOk s.1∧ClOk s.2)→f∈s.1→1≤w→w≤6→ThOk (zK s.1 i (za1 s.1 b f.p))∧ClOk (s.2++[⟨f.p,w⟩]):=fun s f i w b hs hf h1 h6 =>
  ⟨zpG hs.1 i (zkz _ _ _ _),fun x hx=>by
   rcases List.mem_append.1 hx with q|q
   · exact hs.2 x q
   · rw [List.mem_singleton.1 q];exact ⟨hs.1 f hf,h1,h6⟩⟩
 have ha:=zdW (P:=fun s:List FileD×List ClashD=>ThOk s.1∧ClOk s.2) (f:=zan) (List.range l.length) (l,c) ⟨hl,hc⟩ fun s hs i _=>by
  unfold zan
  split
  · exact hs
  · rename_i f hf
    split
    · exact step s f i 5 false hs (List.mem_of_getElem? hf) (by omega) (by omega)
    · exact hs
 exact (zdW (P:=fun s:List FileD×List ClashD=>ThOk s.1∧ClOk s.2) (f:=zaM) (List.range l.length) (zW ((List.range l.length).foldl zan (l,c)).1,((List.range l.length).foldl zan (l,c)).2) ⟨fun f hf=>ha.1 f ((zb2 _).mem_iff.1 hf),ha.2⟩ fun s hs i _=>by
  unfold zaM
  split
  · exact hs
  · rename_i f hf
    split
    · exact step s f i 6 true hs (List.mem_of_getElem? hf) (by omega) (by omega)
    · exact hs).2
theorem zgR {x y:ClashD}:∀{l:List ClashD},y∈insC x l↔y=x∨y∈l
 | []=>by simp [insC]
 | z::l=>by
  unfold insC
  split
  · rename_i h
    subst h;simp
  · split
    · simp
    · simp only [List.mem_cons,zgR (l:=l)]
      constructor
      · rintro (h|h|h) <;> simp [h]
      · rintro (h|h|h) <;> simp [h]
theorem zc6 {x:ClashD}:∀{l:List ClashD},x∈za8 l↔x∈l
 | []=>Iff.rfl
 | y::l=>by
  show x∈insC y (za8 l)↔_;rw [zgR,zc6,List.mem_cons]
theorem zgC {a b:ClashD}:ltC a b=true↔a.p<b.p∨(a.p=b.p∧a.why<b.why):=by
 unfold ltC;simp
theorem zkk {a b c:ClashD} (h:ltC a b=true) (k:ltC b c=true):ltC a c=true:=by
 rw [zgC] at *
 rcases h with h|⟨h1,h2⟩ <;> rcases k with k|⟨k1,k2⟩
 · exact .inl (zdF h k)
 · exact .inl (k1▸h)
 · exact .inl (h1▸k)
 · exact .inr ⟨h1.trans k1,by omega⟩
theorem ziM (a b:ClashD):ltC a b=true∨a=b∨ltC b a=true:=by
 simp only [zgC]
 rcases zbo a.p b.p with h|h|h
 · exact .inl (.inl h)
 · rcases Nat.lt_trichotomy a.why b.why with q|q|q
   · exact .inl (.inr ⟨h,q⟩)
   · refine .inr (.inl ?_);cases a;cases b
     simp only at h q;rw [h,q]
   · exact .inr (.inr (.inr ⟨h.symm,q⟩))
 · exact .inr (.inr (.inl h))
theorem zgm (a:ClashD):ltC a a=false:=by
 rw [Bool.eq_false_iff];intro h;rw [zgC] at h
 rcases h with h|h
 · exact List.lt_irrefl _ h
 · omega
def zb8 (l:List ClashD):Prop:=l.Pairwise fun a b=>ltC a b=true
theorem ziJ (p:ClashD):∀{l:List ClashD},zb8 l→zb8 (insC p l)
 | [],_=>by simp [insC,zb8]
 | q::l,h=>by
  unfold zb8 at h ⊢;rw [List.pairwise_cons] at h;unfold insC
  split
  · exact List.pairwise_cons.2 h
  · rename_i hne
    split
    · rename_i hlt
      rw [List.pairwise_cons,List.pairwise_cons];refine ⟨fun z hz=>?_,h⟩
      rcases List.mem_cons.1 hz with rfl|hz
      · exact hlt
      · exact zkk hlt (h.1 z hz)
    · rename_i hlt
      rw [List.pairwise_cons];refine ⟨fun z hz=>?_,ziJ p h.2⟩
      rcases zgR.1 hz with rfl|hz
      · rcases ziM q z with r|r|r
        · exact r
        · exact absurd r.symm hne
        · exact absurd r hlt
      · exact h.1 z hz
theorem zdU:∀l:List ClashD,zb8 (za8 l)
 | []=>List.Pairwise.nil
 | x::l=>ziJ x (zdU l)
theorem zfF:∀{l m:List ClashD},zb8 l→zb8 m→(∀x,x∈l↔x∈m)→l=m
 | [],[],_,_,_=>rfl
 | [],y::m,_,_,h=>absurd ((h y).2 (List.mem_cons_self ..)) (by simp)
 | x::l,[],_,_,h=>absurd ((h x).1 (List.mem_cons_self ..)) (by simp)
 | x::l,y::m,h1,h2,h=>by
  have a1:=List.pairwise_cons.1 h1;have a2:=List.pairwise_cons.1 h2;have hno:∀a b:ClashD,ltC a b=true→¬ltC b a=true:=fun a b q r=>by
   have:=zkk q r;rw [zgm] at this;cases this
  have hxy:x=y:=by
   rcases List.mem_cons.1 ((h x).1 (List.mem_cons_self ..)) with e|hx
   · exact e
   · rcases List.mem_cons.1 ((h y).2 (List.mem_cons_self ..)) with e|hy
     · exact e.symm
     · exact absurd (a1.1 y hy) (hno _ _ (a2.1 x hx))
  subst hxy;rw [zfF a1.2 a2.2 fun z=>?_];constructor
  · intro hz
    rcases List.mem_cons.1 ((h z).1 (List.mem_cons_of_mem _ hz)) with e|e
    · have:=a1.1 z hz;rw [e,zgm] at this;cases this
    · exact e
  · intro hz
    rcases List.mem_cons.1 ((h z).2 (List.mem_cons_of_mem _ hz)) with e|e
    · have:=a2.1 z hz;rw [e,zgm] at this;cases this
    · exact e
theorem ziN {base ours theirs x:List FileD} {v:List ClashD} (h:zN base ours theirs = .ok (x,v)):zf x=0∧zb8 v∧ClOk v:=by
 unfold zN at h
 split at h
 · cases h
 · rename_i hb
   split at h
   · cases h
   · rename_i ho
     split at h
     · cases h
     · rename_i ht
       simp only at h
       split at h
       · cases h
       · split at h
         · cases h
         · rename_i hx
           injection h with h;injection h with h1 h2;have m:=zmF (zV (Decidable.not_not.1 hb)).1 (zV (Decidable.not_not.1 ho)).1 (zV (Decidable.not_not.1 ht)).1;refine ⟨by rw [←h1];exact Decidable.not_not.1 hx,by rw [←h2];exact zdU _,fun y hy=>?_⟩;rw [←h2,zc6] at hy;exact znu m.t m.c y hy
end
section
def m0:MSt:=⟨[],[],0⟩
end
end Go.Proofs.YtmkmbbjgepcioaaGreatDoor
