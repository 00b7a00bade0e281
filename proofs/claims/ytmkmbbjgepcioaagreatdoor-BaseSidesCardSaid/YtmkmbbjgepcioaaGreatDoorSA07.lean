/- Plain: what the merger gathers, put together file by file; where neither side has pairs. No statement of the seat is proved here. -/
import Derived.Test.YtmkmbbjgepcioaaGreatDoorSA06
import Derived.Test.YtmkmbbjgepcioaaGreatDoorSA05
import Derived.Test.YtmkmbbjgepcioaaGreatDoorSA04
import Derived.Lib.SplitLaws
namespace Go.Proofs.YtmkmbbjgepcioaaGreatDoor
section
theorem zlY {d:Pth}:∀{b cur:Pth},d∈zaZ cur b↔∃x y,b=x++47::y∧d=cur++x
 | [],cur=>by simp [zaZ]
 | c::b,cur=>by
  have ih:=zlY (d:=d) (b:=b) (cur:=cur++[c]);unfold zaZ
  split
  · rename_i h
    subst h;rw [List.mem_cons,ih];constructor
    · rintro (rfl|⟨x,y,h1,h2⟩)
      · exact ⟨[],b,rfl,by simp⟩
      · exact ⟨47::x,y,by rw [h1];rfl,by rw [h2];simp⟩
    · rintro ⟨x,y,h1,h2⟩
      cases x with
      | nil=>exact .inl (by simpa using h2)
      | cons a x =>
       simp only [List.cons_append,List.cons.injEq] at h1;exact .inr ⟨x,y,h1.2,by rw [h2,←h1.1];simp⟩
  · rename_i hc
    rw [ih];constructor
    · rintro ⟨x,y,h1,h2⟩;exact ⟨c::x,y,by rw [h1];rfl,by rw [h2];simp⟩
    · rintro ⟨x,y,h1,h2⟩
      cases x with
      | nil=>simp at h1;exact absurd h1.1 hc
      | cons a x =>
       simp only [List.cons_append,List.cons.injEq] at h1;exact ⟨x,y,h1.2,by rw [h2,←h1.1];simp⟩
theorem ziP {d p:Pth}:d∈zj p↔∃q,p=d++47::q:=by
 unfold zj;rw [zlY];constructor
 · rintro ⟨x,y,h1,h2⟩;exact ⟨y,by rw [h1,h2];rfl⟩
 · rintro ⟨q,h⟩;exact ⟨d,q,h,rfl⟩
theorem zrY (a:Pth) (x:UInt8) (q:Pth):a<a++x::q:=by
 induction a with
 | nil=>exact List.nil_lt_cons ..
 | cons c a ih=>rw [List.cons_append,List.cons_lt_cons_iff];exact .inr ⟨rfl,ih⟩
theorem zkU {d p:Pth} (h:d∈zj p):d<p:=by
 obtain ⟨q,rfl⟩:=ziP.1 h;exact zrY d 47 q
theorem zqh {done:List FileD} {p:Pth} (hr:zae (done.map (·.p))) (h:zbg done p=false):∀g∈done,g.p<p:=by
 unfold zbg at h
 rcases List.eq_nil_or_concat done with rfl|⟨l,x,rfl⟩
 · intro g hg;cases hg
 · rw [List.concat_eq_append] at *;rw [List.getLast?_append] at h;simp only [List.getLast?_singleton,Option.some_or,decide_eq_false_iff_not] at h;have hx:x.p<p:=List.not_le.1 h;unfold zae at hr;rw [List.map_append,List.pairwise_append] at hr;intro g hg
   rcases List.mem_append.1 hg with q|q
   · exact zef (hr.2.2 g.p (List.mem_map.2 ⟨g,q,rfl⟩) x.p (by simp)) hx
   · rw [List.mem_singleton.1 q];exact hx
theorem zrc {done:List FileD} {p:Pth} (h:∀g∈done,g.p<p):zbg done p=false:=by
 unfold zbg
 split
 · rename_i g hg
   rw [decide_eq_false_iff_not];exact List.not_le.2 (h g (List.mem_of_getLast? hg))
 · rfl
structure TreeOk (l:List FileD):Prop where
 file:∀f∈l,zP f=0
 rise:zae (l.map (·.p))
 apart:∀f∈l,∀g∈l,g.p∉zj f.p
theorem zkk:∀(l done:List FileD),zae (done.map (·.p))→(zax done l=0↔(∀f∈l,zP f=0)∧zae ((done++l).map (·.p))∧∀f∈l,∀g∈done++l,g.p∉zj f.p)
 | [],done,hr=>by
  rw [List.append_nil]
  simp [zax,hr]
 | f::l,done,hr=>by
  unfold zax;by_cases h1:zP f=0
  · rw [if_neg (fun q=>q h1)];by_cases h2:zbg done f.p=true
    · rw [if_pos h2];refine ⟨fun q=>absurd q (by decide),fun q=>?_⟩;exfalso;have:zbg done f.p=false:=zrc fun g hg=>by
       have:=q.2.1;unfold zae at this;rw [List.map_append,List.pairwise_append] at this;exact this.2.2 g.p (List.mem_map.2 ⟨g,hg,rfl⟩) f.p (by simp)
      rw [this] at h2;cases h2
    · rw [if_neg h2];have h2:=Bool.eq_false_iff.2 h2;have hlt:=zqh hr h2;have hr2:zae ((done++[f]).map (·.p)):=by
       unfold zae;rw [List.map_append,List.pairwise_append];refine ⟨hr,by simp,fun a ha b hb=>?_⟩;obtain ⟨g,hg,rfl⟩:=List.mem_map.1 ha;simp at hb;rw [hb];exact hlt g hg
      by_cases h3:(zj f.p).any (fun d=>done.any (fun g=>g.p==d))=true
      · rw [if_pos h3];refine ⟨fun q=>absurd q (by decide),fun q=>?_⟩;exfalso;simp only [List.any_eq_true,beq_iff_eq] at h3;obtain ⟨d,hd,g,hg,e⟩:=h3;exact q.2.2 f (List.mem_cons_self ..) g (List.mem_append_left _ hg) (by rw [e];exact hd)
      · rw [if_neg h3];rw [zkk l (done++[f]) hr2];simp only [List.append_assoc,List.cons_append,List.nil_append]
        constructor
        · rintro ⟨q1,q2,q3⟩
          refine ⟨fun g hg=>?_,q2,fun g hg g' hg'=>?_⟩
          · rcases List.mem_cons.1 hg with rfl|hg
            · exact h1
            · exact q1 g hg
          · rcases List.mem_cons.1 hg with rfl|hg
            · intro hd
              rcases List.mem_append.1 hg' with r|r
              · exact h3 (by simp only [List.any_eq_true,beq_iff_eq];exact ⟨_,hd,g',r,rfl⟩)
              · have hlt2:=zkU hd
                rcases List.mem_cons.1 r with r|r
                · rw [r] at hlt2;exact List.lt_irrefl _ hlt2
                · unfold zae at q2;rw [List.map_append,List.pairwise_append] at q2;have:=q2.2.1;rw [List.map_cons,List.pairwise_cons] at this;exact zbz hlt2 (this.1 g'.p (List.mem_map.2 ⟨g',r,rfl⟩))
            · exact q3 g hg g' hg'
        · rintro ⟨q1,q2,q3⟩;exact ⟨fun g hg=>q1 g (List.mem_cons_of_mem _ hg),q2,fun g hg=>q3 g (List.mem_cons_of_mem _ hg)⟩
  · rw [if_pos h1];refine ⟨fun q=>absurd q h1,fun q=>absurd (q.1 f (List.mem_cons_self ..)) h1⟩
theorem zl8 {l:List FileD}:zax [] l=0↔TreeOk l:=by
 rw [zkk l [] List.Pairwise.nil];simp only [List.nil_append]
 exact ⟨fun h=>⟨h.1,h.2.1,h.2.2⟩,fun h=>⟨h.file,h.rise,h.apart⟩⟩
theorem zW {l:List FileD} (h:zg l=0):TreeOk l∧l.length≤1000∧zbx l=false:=by
 unfold zg at h
 split at h
 · cases h
 · split at h
   · rename_i q;exact absurd h q
   · rename_i q1 q2
     split at h
     · cases h
     · rename_i q3
       exact ⟨zl8.1 (Decidable.not_not.1 q2),by omega,Bool.eq_false_iff.2 q3⟩
theorem zrK {l:List FileD} (h:TreeOk l) (hl:l.length≤1000) (hc:zbx l=false):zg l=0:=by
 unfold zg;rw [if_neg (by omega),if_neg (fun q=>q (zl8.2 h)),hc,if_neg (by decide)]
theorem zcK {f:FileD} (h:zP f=0):(f.k=1∨f.k=2∨f.k=3)∧f.d.length≤65536∧(nmP f.p).length≤8∧∀s∈nmP f.p,zI s=true:=by
 unfold zP at h
 split at h
 · cases h
 · rename_i q
   split at h
   · cases h
   · rename_i q2
     split at h
     · cases h
     · rename_i q3
       rw [not_or] at q2;refine ⟨by omega,by omega,by omega,fun s hs=>?_⟩;have:=q2.2;simp only [List.any_eq_true,Bool.not_eq_true',not_exists,not_and,Bool.not_eq_false] at this;exact this s hs
theorem TreeOk.kinds {l:List FileD} (h:TreeOk l):zbK l:=fun f hf=>(zcK (h.file f hf)).1
theorem TreeOk.apt {l:List FileD} (h:TreeOk l):Apt l:=zdS h.rise
end
section
open Go.RowKit
theorem ztr {c:UInt8} {l:List UInt8} (h:c∈l):∃p q:List UInt8,l=p++c::q∧c∉p∧Lib.indexByte l c=(p.length:Int):=by
 have h1:=Lib.indexByte_ge l c
 rcases Int.lt_or_le (Lib.indexByte l c) 0 with q|q
 · obtain ⟨j,hj,hx⟩:=List.mem_iff_getElem.1 h;exact absurd (by rw [List.getElem?_eq_getElem hj,hx]) (Lib.indexByte_none (l:=l) (c:=c) (by omega) j)
 · obtain ⟨o,ho⟩:∃o:Nat,Lib.indexByte l c=(o:Int):=⟨(Lib.indexByte l c).toNat,by omega⟩
   obtain ⟨h2,h3⟩:=Lib.indexByte_some ho;have hlt:=(List.getElem?_eq_some_iff.1 h2).1
   refine ⟨l.take o,l.drop (o+1),?_,fun hm=>?_,by rw [ho,List.length_take,Nat.min_eq_left (by omega)]⟩
   · have:l.drop o=c::l.drop (o+1):=List.drop_eq_getElem?_toList_append.trans (by rw [h2];rfl);rw [←this,List.take_append_drop]
   · obtain ⟨j,hj,hx⟩:=List.mem_iff_getElem.1 hm;rw [List.length_take] at hj;refine h3 j (by omega) ?_;rw [List.getElem_take] at hx;rw [List.getElem?_eq_getElem (by omega),hx]
theorem zjE {q:Pth}:∀{p cur:Pth},(47:UInt8)∉p→z7 cur (p++47::q)=(cur++p)::z7 [] q
 | [],cur,_=>by simp [z7]
 | x::p,cur,h=>by
  have hx:x≠47:=fun e=>h (by simp [e]);have:=zjE (q:=q) (p:=p) (cur:=cur++[x]) (fun hm=>h (by simp [hm]));simp [z7,hx,this]
theorem ziC:∀{p cur:Pth},(47:UInt8)∉p→z7 cur p=[cur++p]
 | [],cur,_=>by simp [z7]
 | x::p,cur,h=>by
  have hx:x≠47:=fun e=>h (by simp [e]);have:=ziC (p:=p) (cur:=cur++[x]) (fun hm=>h (by simp [hm]));simp [z7,hx,this]
theorem zig:∀(n:Nat) (s:Pth),s.length≤n→Lib.splitK [47] 0 (s.count 47) s=nmP s
 | n,s,hn=>by
  by_cases hm:(47:UInt8)∈s
  · obtain ⟨p,q,rfl,hp,hi⟩:=ztr hm;have hc:(p++47::q).count 47=q.count 47+1:=by
     rw [List.count_append,List.count_eq_zero_of_not_mem hp,List.count_cons_self];omega
    rw [hc,Lib.splitK,Lib.index_one,hi,if_neg (by simp)];unfold nmP;rw [zjE hp];have e1:(p++47::q).take (((p.length:Int)).toNat+0)=[]++p:=by simp
    have e2:(p++47::q).drop (((p.length:Int)).toNat+[(47:UInt8)].length)=q:=by
     rw [Int.toNat_natCast,List.drop_append,List.drop_eq_nil_of_le (by simp)];simp
    rw [e1,e2]
    congr 1
    cases n with
    | zero=>simp at hn
    | succ n=>exact zig n q (by simp at hn;omega)
  · rw [List.count_eq_zero_of_not_mem hm,Lib.splitK];unfold nmP;rw [ziC hm];rfl
end
section
theorem zsm {a:List FileD}:zT a a=[]:=by
 unfold zT;rw [List.filterMap_eq_nil_iff];intro p _;unfold zaH;rw [if_neg (by simp)]
theorem zoD {base l:List FileD} {ps:List PairD} (h:PairsOf base l ps) {x:PairD} (hx:x∈ps):ps.find? (fun y=>y.old==x.old)=some x:=by
 have hn:=h.olds;clear h
 induction ps with
 | nil=>cases hx
 | cons a ps ih =>
  rw [List.map_cons,List.nodup_cons] at hn;rw [List.find?_cons]
  rcases List.mem_cons.1 hx with rfl|hx
  · simp
  · have hne:(a.old==x.old)=false:=beq_eq_false_iff_ne.2 fun e=>hn.1 (List.mem_map.2 ⟨x,hx,e.symm⟩);rw [hne];exact ih hx hn.2
theorem zdb (l:List FileD) (ps:List PairD) (p:Pth):(∃x∈ps,x.old=p∧SideD.goes ⟨l,ps⟩ p=(x.new,true))∨((∀x∈ps,x.old≠p)∧SideD.goes ⟨l,ps⟩ p=(p,hasF l p)):=by
 unfold SideD.goes
 cases hq:ps.find? (fun x=>x.old==p) with
 | some x =>
  have hx:=List.mem_of_find?_eq_some hq;have he:x.old=p:=by simpa using List.find?_some hq
  exact .inl ⟨x,hx,he,rfl⟩
 | none =>
  rw [List.find?_eq_none] at hq;exact .inr ⟨fun x hx e=>hq x hx (by simpa using e),rfl⟩
theorem zcZ {base l:List FileD} {ps:List PairD} (h:PairsOf base l ps) {p:Pth} (hg:(SideD.goes ⟨l,ps⟩ p).2=true):hasF l (SideD.goes ⟨l,ps⟩ p).1=true:=by
 rcases zdb l ps p with ⟨x,hx,_,e⟩|⟨_,e⟩
 · rw [e];exact (h.new x hx).1
 · rw [e] at hg ⊢;exact hg
theorem zod {base l:List FileD} {ps:List PairD} (h:PairsOf base l ps) {p q:Pth} (hp:hasF base p=true) (hq:hasF base q=true) (e:(SideD.goes ⟨l,ps⟩ p).1=(SideD.goes ⟨l,ps⟩ q).1):p=q:=by
 rcases zdb l ps p with ⟨x,hx,hx2,e1⟩|⟨_,e1⟩ <;> rcases zdb l ps q with ⟨y,hy,hy2,e2⟩|⟨_,e2⟩
 · rw [e1,e2] at e;simp only at e;obtain ⟨i,hi,rfl⟩:=List.mem_iff_getElem.1 hx;obtain ⟨j,hj,rfl⟩:=List.mem_iff_getElem.1 hy;have:i=j:=(List.getElem_inj (xs:=ps.map (·.new)) (h₀:=by simpa using hi) (h₁:=by simpa using hj) h.news).1 (by simpa using e);subst this;rw [←hx2,←hy2]
 · rw [e1,e2] at e;simp only at e;have:=(h.new x hx).2;rw [e,hq] at this;cases this
 · rw [e1,e2] at e;simp only at e;have:=(h.new y hy).2;rw [←e,hp] at this;cases this
 · rw [e1,e2] at e;exact e
def zcU (s:SideD) (base:List FileD):List FileD:=base.filterMap fun f=>if (s.goes f.p).2=true then some (getF s.f (s.goes f.p).1) else none
def zcS (s:SideD) (base:List FileD) (ks:List Pth):List FileD:=ks.filterMap fun p=>if s.isNew base p=true then some (getF s.f p) else none
theorem zkW {s:SideD} {base:List FileD} {f:FileD}:f∈zcU s base↔∃g∈base,(s.goes g.p).2=true∧getF s.f (s.goes g.p).1=f:=by
 unfold zcU;rw [List.mem_filterMap];constructor
 · rintro ⟨g,hg,h⟩
   split at h
   · exact ⟨g,hg,by assumption,Option.some.inj h⟩
   · cases h
 · rintro ⟨g,hg,h1,h2⟩;exact ⟨g,hg,by rw [if_pos h1,h2]⟩
theorem zjd {s:SideD} {base:List FileD} {ks:List Pth} {f:FileD}:f∈zcS s base ks↔∃p∈ks,s.isNew base p=true∧getF s.f p=f:=by
 unfold zcS;rw [List.mem_filterMap];constructor
 · rintro ⟨g,hg,h⟩
   split at h
   · exact ⟨g,hg,by assumption,Option.some.inj h⟩
   · cases h
 · rintro ⟨g,hg,h1,h2⟩;exact ⟨g,hg,by rw [if_pos h1,h2]⟩
theorem zco {s:SideD} {base:List FileD} {p:Pth}:s.isNew base p=true↔hasF s.f p=true∧hasF base p=false∧∀x∈s.l,x.new≠p:=by
 unfold SideD.isNew;simp only [Bool.and_eq_true,Bool.not_eq_true',List.any_eq_false,beq_iff_eq]
 exact ⟨fun h=>⟨h.1.1,h.1.2,h.2⟩,fun h=>⟨⟨h.1,h.2.1⟩,h.2.2⟩⟩
theorem zgP {α β:Type} {f:α→Option β}:∀{l:List α},l.Nodup→(∀a∈l,∀b∈l,∀y,f a=some y→f b=some y→a=b)→(l.filterMap f).Nodup
 | [],_,_=>List.nodup_nil
 | a::l,hn,hi=>by
  rw [List.nodup_cons] at hn;rw [List.filterMap_cons];have ih:=zgP hn.2 fun x hx y hy=>hi x (List.mem_cons_of_mem _ hx) y (List.mem_cons_of_mem _ hy)
  cases hq:f a with
  | none=>exact ih
  | some y =>
   refine List.nodup_cons.2 ⟨fun hm=>?_,ih⟩;obtain ⟨b,hb,h⟩:=List.mem_filterMap.1 hm;have:=hi a (List.mem_cons_self ..) b (List.mem_cons_of_mem _ hb) y hq h;exact hn.1 (this▸hb)
theorem zjq {l:List FileD} (h:Apt l):l.Nodup:=List.Pairwise.of_map (·.p) (fun a b q e=>q (by rw [e])) h
theorem zrT {base l:List FileD} {ps:List PairD} (hb:Apt base) (hl:Apt l) (h:PairsOf base l ps) {ks:List Pth} (hks:ks.Nodup) (hk:∀p,hasF l p=true→p∈ks):(zcU ⟨l,ps⟩ base++zcS ⟨l,ps⟩ base ks).Perm l:=by
 refine (List.perm_ext_iff_of_nodup ?_ (zjq hl)).2 fun f=>?_
 · rw [List.nodup_append]
   refine ⟨?_,?_,fun a ha b hb' e=>?_⟩
   · refine zgP (zjq hb) fun f hf g hg y h1 h2=>?_
     split at h1
     · split at h2
       · rename_i q1 q2
         have e1:=zav (zcZ h q1);have e2:=zav (zcZ h q2);have:=zod h (zaa.2 ⟨f,hf,rfl⟩) (zaa.2 ⟨g,hg,rfl⟩) (by rw [←e1.2,←e2.2,Option.some.inj h1,Option.some.inj h2]);have e3:=zbs hb hf;rw [this,zbs hb hg] at e3;exact e3.symm
       · cases h2
     · cases h1
   · refine zgP hks fun p _ q _ y h1 h2=>?_
     split at h1
     · split at h2
       · rename_i q1 q2
         have e1:=zav (zco.1 q1).1;have e2:=zav (zco.1 q2).1;rw [←e1.2,←e2.2,Option.some.inj h1,Option.some.inj h2]
       · cases h2
     · cases h1
   · subst e;obtain ⟨g,hg,q1,q2⟩:=zkW.1 ha;obtain ⟨p,_,r1,r2⟩:=zjd.1 hb';obtain ⟨r1a,r1b,r1c⟩:=zco.1 r1;have ep:=(zav r1a).2;have eg:=(zav (zcZ h q1)).2;rw [r2] at ep;rw [q2] at eg
     rcases zdb l ps g.p with ⟨x,hx,_,e⟩|⟨_,e⟩
     · rw [e] at eg;exact r1c x hx (by rw [←ep,eg])
     · rw [e] at eg;simp only at eg;rw [←ep,eg,zaa.2 ⟨g,hg,rfl⟩] at r1b;cases r1b
 · rw [List.mem_append,zkW,zjd];constructor
   · rintro (⟨g,hg,q1,q2⟩|⟨p,_,q1,q2⟩)
     · rw [←q2];exact (zav (zcZ h q1)).1
     · rw [←q2];exact (zav (zco.1 q1).1).1
   · intro hf;have hfl:hasF l f.p=true:=zaa.2 ⟨f,hf,rfl⟩;by_cases hfb:hasF base f.p=true
     · obtain ⟨g,hg,e⟩:=zaa.1 hfb;refine .inl ⟨g,hg,?_⟩
       rcases zdb l ps g.p with ⟨x,hx,hx2,_⟩|⟨_,e2⟩
       · have:=(h.old x hx).2;rw [hx2,e,hfl] at this;cases this
       · rw [e2,e];exact ⟨hfl,zbs hl hf⟩
     · have hfb:=Bool.eq_false_iff.2 hfb;by_cases hx:∃x∈ps,x.new=f.p
       · obtain ⟨x,hx,e⟩:=hx;obtain ⟨g,hg,eg⟩:=zaa.1 (h.old x hx).1;refine .inl ⟨g,hg,?_⟩;have:SideD.goes ⟨l,ps⟩ g.p=(x.new,true):=by
          unfold SideD.goes;rw [eg,zoD h hx]
         rw [this,e];exact ⟨rfl,zbs hl hf⟩
       · exact .inr ⟨f.p,hk _ hfl,zco.2 ⟨hfl,hfb,fun x hx' e=>hx ⟨x,hx',e⟩⟩,zbs hl hf⟩
theorem zrm (s:MSt) {f:FileD} {p:Pth} (h:f.p=p):s.stay p f={ s with t:=s.t++[f] }:=by
 subst h;rfl
theorem zro {s':SideD} {step:MSt→FileD→MSt} (base:List FileD) (h:∀f∈base,∀s,step s f=if (s'.goes f.p).2=true then { s with t:=s.t++[getF s'.f (s'.goes f.p).1] } else s):∀s:MSt,base.foldl step s={ s with t:=s.t++zcU s' base }:=by
 induction base with
 | nil=>intro s;simp [zcU]
 | cons f l ih =>
  intro s;rw [List.foldl_cons,h f (List.mem_cons_self ..),ih fun g hg=>h g (List.mem_cons_of_mem _ hg)];unfold zcU;rw [List.filterMap_cons];by_cases q:(s'.goes f.p).2=true
  · simp [q]
  · simp [q]
theorem zmK {s':SideD} {base:List FileD} {step:MSt→Pth→MSt} (ks:List Pth) (h:∀p∈ks,∀s,step s p=if s'.isNew base p=true then { s with t:=s.t++[getF s'.f p] } else s):∀s:MSt,ks.foldl step s={ s with t:=s.t++zcS s' base ks }:=by
 induction ks with
 | nil=>intro s;simp [zcS]
 | cons f l ih =>
  intro s;rw [List.foldl_cons,h f (List.mem_cons_self ..),ih fun g hg=>h g (List.mem_cons_of_mem _ hg)];unfold zcS;rw [List.filterMap_cons];by_cases q:s'.isNew base f=true
  · simp [q]
  · simp [q]
theorem zjR {l:List FileD} (h:Apt l) (c:List ClashD):∀ns:List Nat,ns.foldl zQ (l,c)=(l,c)
 | []=>rfl
 | i::ns=>by
  rw [List.foldl_cons];have:zQ (l,c) i=(l,c):=by
   unfold zQ
   split
   · rfl
   · rename_i f hf
     simp only at hf ⊢;rw [if_neg];intro hq;simp only [List.any_eq_true,beq_iff_eq] at hq;obtain ⟨g,hg,e⟩:=hq;obtain ⟨j,hj,rfl⟩:=List.mem_iff_getElem.1 hg;rw [List.length_take] at hj;rw [List.getElem_take] at e;have hil:=(List.getElem?_eq_some_iff.1 hf);obtain ⟨hi,rfl⟩:=hil;have hn:(l.map (·.p)).Nodup:=h;have:j=i:=(List.getElem_inj (xs:=l.map (·.p)) (h₀:=by simp;omega) (h₁:=by simpa using hi) hn).1 (by simpa using e);omega
  rw [this];exact zjR h c ns
theorem zsX {l:List FileD} {p:Pth} (h:∀f∈l,p∉zj f.p):za8 l p=0:=by
 unfold za8;rw [List.countP_eq_zero];intro f hf;simpa using h f hf
theorem zi1 {l:List FileD} (h:∀f∈l,∀g∈l,g.p∉zj f.p) (c:List ClashD):∀ns:List Nat,ns.foldl zah (l,c)=(l,c)
 | []=>rfl
 | i::ns=>by
  rw [List.foldl_cons];have:zah (l,c) i=(l,c):=by
   unfold zah
   split
   · rfl
   · rename_i f hf
     simp only at hf ⊢;rw [if_neg];rw [zsX fun g hg=>h g hg f (List.mem_of_getElem? hf)];omega
  rw [this];exact zi1 h c ns
theorem ziw {l:List FileD} (h:zae (l.map (·.p))):zbC (fun a b:FileD=>decide (a.p<b.p)) l:=by
 unfold zbC;refine List.Pairwise.imp (fun {a b} q=>?_) (List.pairwise_map.1 h);rw [decide_eq_false_iff_not];exact zbz q
theorem zoy {l m:List FileD} (hp:l.Perm m) (hm:TreeOk m) (c:List ClashD):zR l c=(m,c):=by
 have hl:Apt l:=(hp.map (fun f:FileD=>f.p)).nodup_iff.2 hm.apt;unfold zR;simp only [zjR hl c]
 rw [zhm hp (ziw hm.rise) hl];exact zi1 hm.apart c _
theorem zmj {m:List FileD} (hm:TreeOk m):zS m=m:=zhm (List.Perm.refl _) (ziw hm.rise) hm.apt
theorem znN {base ours theirs m:List FileD} (hb:zg base=0) (ho:zg ours=0) (ht:zg theirs=0) (hm:zg m=0) (he:(zk base ours theirs).e=0) (hc:(zk base ours theirs).c=[]) (hp:(zk base ours theirs).t.Perm m):zG base ours theirs = .ok (m,[]):=by
 unfold zG;rw [if_neg (by omega),if_neg (by omega),if_neg (by omega)];simp only [he,hc,ne_eq,not_true_eq_false,if_false]
 rw [zoy hp (zW hm).1];simp only [zmj (zW hm).1,hm,not_true_eq_false,if_false]
 rfl
theorem zso (s:MSt) {p:Pth} {base x y z:FileD} {lines:Int} (hk:zaj base.k x.k y.k=(z.k,true)) (hd:zZ base lines x y=(z.d,true,0)) (hz:z.p=p):s.both p base lines x y={ s with t:=s.t++[z] }:=by
 unfold MSt.both;simp only [hk,hd,if_true]
 subst hz;unfold MSt.stay;simp only
 congr 1
 split
 · rename_i h;rw [h]
 · rfl
theorem zqw (l:List FileD) (p:Pth):SideD.goes ⟨l,[]⟩ p=(p,hasF l p):=rfl
theorem zrt {base ours theirs l:List FileD} {ps:List PairD} (hb:Apt base) (hl:Apt l) (h:PairsOf base l ps) (hu:∀p,hasF l p=true→p∈ours.map (·.p)++theirs.map (·.p)) (h1:∀f∈base,∀s,MSt.file (zU base ours) (zU base theirs) s f=if (SideD.goes ⟨l,ps⟩ f.p).2=true then { s with t:=s.t++[getF l (SideD.goes ⟨l,ps⟩ f.p).1] } else s)
    (h2:∀p s,MSt.fresh1 base (zU base ours) (zU base theirs) s p=if SideD.isNew ⟨l,ps⟩ base p=true then { s with t:=s.t++[getF l p] } else s) :
    (zk base ours theirs).e=0∧(zk base ours theirs).c=[]∧(zk base ours theirs).t.Perm l:=by
 have hp:=zrT hb hl h (ks:=zat (ours.map (·.p)++theirs.map (·.p))) (zdS (zbI _)) (fun p hp=>zbm.2 (hu p hp));have e:zk base ours theirs=⟨zcU ⟨l,ps⟩ base++zcS ⟨l,ps⟩ base (zat (ours.map (·.p)++theirs.map (·.p))),[],0⟩:=by
  unfold zk;simp only
  rw [zro (s':=⟨l,ps⟩) base h1,zmK (s':=⟨l,ps⟩) (base:=base) _ (fun p _ s=>h2 p s)];rfl
 rw [e];exact ⟨rfl,rfl,hp⟩
theorem zpg {l:List FileD} {p:Pth} (h:hasF l p=true):p∈l.map (·.p):=by
 obtain ⟨f,h1,h2⟩:=zaa.1 h;exact List.mem_map.2 ⟨f,h1,h2⟩
theorem zm9 (base:List FileD) (ps:List PairD) (p:Pth):SideD.isNew ⟨base,ps⟩ base p=false:=by
 rw [Bool.eq_false_iff];intro h;obtain ⟨h1,h2,_⟩:=zco.1 h;rw [h1] at h2;cases h2
theorem ztm {base side:List FileD} (hb:zg base=0) (hs:zg side=0):zG base base side = .ok (side,[]):=by
 have tb:=(zW hb).1;have ts:=(zW hs).1;have hp:=zdA tb.apt ts.apt tb.kinds ts.kinds;obtain ⟨h1,h2,h3⟩:=zrt (ours:=base) (theirs:=side) tb.apt ts.apt hp (fun p h=>List.mem_append_right _ (zpg h)) (fun f hf s=>by
  have hfb:hasF base f.p=true:=zaa.2 ⟨f,hf,rfl⟩;unfold MSt.file zU;rw [zsm];simp only [show zay []=[] from rfl,zqw,hfb,zbs tb.apt hf]
  cases hq:(SideD.goes ⟨side,zay (zT base side)⟩ f.p).2 with
  | false =>
   simp only [Bool.false_eq_true,and_self,if_true,if_false]
   unfold MSt.alone
   rw [if_pos ⟨rfl,rfl,rfl⟩]
  | true =>
   have e0:∀(s:MSt) (q:Pth),q=(SideD.goes ⟨side,zay (zT base side)⟩ f.p).1→s.both q f f.k f (getF side (SideD.goes ⟨side,zay (zT base side)⟩ f.p).1)={ s with t:=s.t++[getF side (SideD.goes ⟨side,zay (zT base side)⟩ f.p).1] }:=fun s q e=>by
    refine zso s ?_ ?_ (by rw [e];exact (zav (zcZ hp hq)).2)
    · unfold zaj;rw [if_pos (.inr rfl),if_pos rfl]
    · unfold zZ;by_cases q1:f.d=(getF side (SideD.goes ⟨side,zay (zT base side)⟩ f.p).1).d
      · rw [if_pos (.inl q1),q1]
      · by_cases q2:(getF side (SideD.goes ⟨side,zay (zT base side)⟩ f.p).1).d=f.d
        · exact absurd q2.symm q1
        · rw [if_neg (fun q=>q.elim q1 q2),if_pos rfl]
   simp only [Bool.true_eq_false,and_false,if_false,if_true,not_true_eq_false,ne_eq,false_and]
   split
   · rename_i q
     exact e0 s f.p q.symm
   · exact e0 s _ rfl) (fun p s=>by
  unfold MSt.fresh1;have e2:(zU base base).isNew base p=false:=zm9 base _ p;rw [e2];have e1:(zU base side)=⟨side,zay (zT base side)⟩:=rfl;rw [e1]
  cases hq:SideD.isNew ⟨side,zay (zT base side)⟩ base p with
  | false=>simp
  | true =>
   simp only [if_true]
   exact zrm s (zav (zco.1 hq).1).2)
 exact znN hb hb hs hs h1 h2 h3
end
section
def ThOk (l:List FileD):Prop:=∀f∈l,f.p≠[]
def ClOk (l:List ClashD):Prop:=∀x∈l,x.p≠[]∧1≤x.why∧x.why≤6
structure MOk (s:MSt):Prop where
 t:ThOk s.t
 c:ClOk s.c
theorem MOk.stay {s:MSt} (h:MOk s) {p:Pth} (hp:p≠[]) (f:FileD):MOk (s.stay p f):=⟨fun g hg=>by
 rcases List.mem_append.1 hg with q|q
 · exact h.t g q
 · rw [List.mem_singleton.1 q];exact hp,h.c⟩
theorem MOk.clash {s:MSt} (h:MOk s) {p:Pth} (hp:p≠[]) {w:Nat} (h1:1≤w) (h6:w≤6):MOk (s.clash p w):=⟨h.t,fun x hx=>by
 rcases List.mem_append.1 hx with q|q
 · exact h.c x q
 · rw [List.mem_singleton.1 q];exact ⟨hp,h1,h6⟩⟩
theorem MOk.nil_:MOk ⟨[],[],0⟩:=⟨fun _ h=>absurd h (by simp),fun _ h=>absurd h (by simp)⟩
theorem MOk.both {s:MSt} (h:MOk s) {p:Pth} (hp:p≠[]) (b:FileD) (n:Int) (x y:FileD):MOk (s.both p b n x y):=by
 unfold MSt.both;simp only
 refine MOk.stay ?_ hp _;have h1:MOk (if (zaj b.k x.k y.k).2=true then s else s.clash p 3):=by
  split
  · exact h
  · exact h.clash hp (by omega) (by omega)
 split
 · exact ⟨h1.t,h1.c⟩
 · refine MOk.clash (w:=1) ?_ hp (by omega) (by omega);exact ⟨h1.t,h1.c⟩
theorem MOk.alone {s:MSt} (h:MOk s) {p:Pth} (hp:p≠[]) (f x:FileD):MOk (s.alone f p x):=by
 unfold MSt.alone
 split
 · exact h
 · exact (h.stay hp x).clash hp (by omega) (by omega)
theorem zin {base l:List FileD} {ps:List PairD} (h:PairsOf base l ps) (hl:ThOk l) {p:Pth} (hp:p≠[]):(SideD.goes ⟨l,ps⟩ p).1≠[]:=by
 rcases zdb l ps p with ⟨x,hx,_,e⟩|⟨_,e⟩
 · rw [e];obtain ⟨f,hf,e⟩:=zaa.1 (h.new x hx).1;simp only
   rw [←e];exact hl f hf
 · rw [e];exact hp
theorem zqP {f:FileD} (h:zP f=0):f.p≠[]:=by
 intro e;have:=(zcK h).2.2.2 [] (by rw [e];simp [nmP,z7]);simp [zI] at this
theorem TreeOk.ne {l:List FileD} (h:TreeOk l):ThOk l:=fun f hf=>zqP (h.file f hf)
theorem zeb {α β:Type} {f:β→α→β} {P:β→Prop}:∀(l:List α) (b:β),P b→(∀b,P b→∀a∈l,P (f b a))→P (l.foldl f b)
 | [],_,hb,_=>hb
 | a::l,b,hb,h=>zeb l (f b a) (h b hb a (List.mem_cons_self ..)) fun b hb a ha=>h b hb a (List.mem_cons_of_mem _ ha)
theorem zrS {base ours theirs:List FileD} (hb:TreeOk base) (ho:TreeOk ours) (ht:TreeOk theirs):MOk (zk base ours theirs):=by
 have po:=zdA hb.apt ho.apt hb.kinds ho.kinds;have pt:=zdA hb.apt ht.apt hb.kinds ht.kinds;unfold zk;simp only
 refine zeb (P:=MOk) _ _ (zeb (P:=MOk) _ _ MOk.nil_ fun s hs f hf=>?_) fun s hs p hp=>?_
 · have hfp:=hb.ne f hf;have g1:((zU base ours).goes f.p).1≠[]:=zin po ho.ne hfp;have g2:((zU base theirs).goes f.p).1≠[]:=zin pt ht.ne hfp;unfold MSt.file;simp only
   split
   · exact hs.alone g1 _ _
   · split
     · exact hs.alone g2 _ _
     · split
       · exact hs
       · split
         · exact ((hs.stay g1 _).stay g2 _).clash hfp (by omega) (by omega)
         · split
           · exact hs.both g1 _ _ _ _
           · exact hs.both g2 _ _ _ _
 · have hpn:p≠[]:=by
    rw [zbm,List.mem_append] at hp
    rcases hp with q|q
    · obtain ⟨f,h1,h2⟩:=List.mem_map.1 q;rw [←h2];exact ho.ne f h1
    · obtain ⟨f,h1,h2⟩:=List.mem_map.1 q;rw [←h2];exact ht.ne f h1
   unfold MSt.fresh1
   split
   · exact hs.both hpn _ _ _ _
   · exact hs.stay hpn _
   · exact hs.stay hpn _
   · exact hs
theorem ziF (l:List FileD) (b:Bool):∀(n:Nat) (p:Pth),zaP l b n p≠[]
 | 0,p=>by simp [zaP]
 | n+1,p=>by
  unfold zaP
  split
  · simp
  · exact ziF l b n _
theorem zqM {l:List FileD} (h:ThOk l) (i:Nat) {p:Pth} (hp:p≠[]):ThOk (zA l i p):=by
 intro f hf;unfold zA at hf;rw [List.mem_iff_getElem?] at hf;obtain ⟨k,hk⟩:=hf;rw [List.getElem?_modify] at hk
 cases hq:l[k]? with
 | none=>rw [hq] at hk;cases hk
 | some g =>
  rw [hq] at hk;have hk:=Option.some.inj hk
  split at hk
  · rw [←hk];exact hp
  · rw [←hk];exact h g (List.mem_of_getElem? hq)
theorem zta {l:List FileD} {c:List ClashD} (hl:ThOk l) (hc:ClOk c):ClOk (zR l c).2:=by
 unfold zR;simp only
 have step:∀(s:List FileD×List ClashD) (f:FileD) (i w:Nat) (b:Bool),(ThOk s.1∧ClOk s.2)→f∈s.1→1≤w→w≤6→ThOk (zA s.1 i (zau s.1 b f.p))∧ClOk (s.2++[⟨f.p,w⟩]):=fun s f i w b hs hf h1 h6 =>
  ⟨zqM hs.1 i (ziF _ _ _ _),fun x hx=>by
   rcases List.mem_append.1 hx with q|q
   · exact hs.2 x q
   · rw [List.mem_singleton.1 q];exact ⟨hs.1 f hf,h1,h6⟩⟩
 have ha:=zeb (P:=fun s:List FileD×List ClashD=>ThOk s.1∧ClOk s.2) (f:=zQ) (List.range l.length) (l,c) ⟨hl,hc⟩ fun s hs i _=>by
  unfold zQ
  split
  · exact hs
  · rename_i f hf
    split
    · exact step s f i 5 false hs (List.mem_of_getElem? hf) (by omega) (by omega)
    · exact hs
 exact (zeb (P:=fun s:List FileD×List ClashD=>ThOk s.1∧ClOk s.2) (f:=zah) (List.range l.length) (zS ((List.range l.length).foldl zQ (l,c)).1,((List.range l.length).foldl zQ (l,c)).2) ⟨fun f hf=>ha.1 f ((za3 _).mem_iff.1 hf),ha.2⟩ fun s hs i _=>by
  unfold zah
  split
  · exact hs
  · rename_i f hf
    split
    · exact step s f i 6 true hs (List.mem_of_getElem? hf) (by omega) (by omega)
    · exact hs).2
theorem zgp {x y:ClashD}:∀{l:List ClashD},y∈insC x l↔y=x∨y∈l
 | []=>by simp [insC]
 | z::l=>by
  unfold insC
  split
  · rename_i h
    subst h;simp
  · split
    · simp
    · simp only [List.mem_cons,zgp (l:=l)]
      constructor
      · rintro (h|h|h) <;> simp [h]
      · rintro (h|h|h) <;> simp [h]
theorem zcp {x:ClashD}:∀{l:List ClashD},x∈zaY l↔x∈l
 | []=>Iff.rfl
 | y::l=>by
  show x∈insC y (zaY l)↔_;rw [zgp,zcp,List.mem_cons]
theorem zhx {a b:ClashD}:ltC a b=true↔a.p<b.p∨(a.p=b.p∧a.why<b.why):=by
 unfold ltC;simp
theorem zjn {a b c:ClashD} (h:ltC a b=true) (k:ltC b c=true):ltC a c=true:=by
 rw [zhx] at *
 rcases h with h|⟨h1,h2⟩ <;> rcases k with k|⟨k1,k2⟩
 · exact .inl (zef h k)
 · exact .inl (k1▸h)
 · exact .inl (h1▸k)
 · exact .inr ⟨h1.trans k1,by omega⟩
theorem zjG (a b:ClashD):ltC a b=true∨a=b∨ltC b a=true:=by
 simp only [zhx]
 rcases zbp a.p b.p with h|h|h
 · exact .inl (.inl h)
 · rcases Nat.lt_trichotomy a.why b.why with q|q|q
   · exact .inl (.inr ⟨h,q⟩)
   · refine .inr (.inl ?_);cases a;cases b
     simp only at h q;rw [h,q]
   · exact .inr (.inr (.inr ⟨h.symm,q⟩))
 · exact .inr (.inr (.inl h))
theorem zhb (a:ClashD):ltC a a=false:=by
 rw [Bool.eq_false_iff];intro h;rw [zhx] at h
 rcases h with h|h
 · exact List.lt_irrefl _ h
 · omega
def zct (l:List ClashD):Prop:=l.Pairwise fun a b=>ltC a b=true
theorem ziH (p:ClashD):∀{l:List ClashD},zct l→zct (insC p l)
 | [],_=>by simp [insC,zct]
 | q::l,h=>by
  unfold zct at h ⊢;rw [List.pairwise_cons] at h;unfold insC
  split
  · exact List.pairwise_cons.2 h
  · rename_i hne
    split
    · rename_i hlt
      rw [List.pairwise_cons,List.pairwise_cons];refine ⟨fun z hz=>?_,h⟩
      rcases List.mem_cons.1 hz with rfl|hz
      · exact hlt
      · exact zjn hlt (h.1 z hz)
    · rename_i hlt
      rw [List.pairwise_cons];refine ⟨fun z hz=>?_,ziH p h.2⟩
      rcases zgp.1 hz with rfl|hz
      · rcases zjG q z with r|r|r
        · exact r
        · exact absurd r.symm hne
        · exact absurd r hlt
      · exact h.1 z hz
theorem zcQ:∀l:List ClashD,zct (zaY l)
 | []=>List.Pairwise.nil
 | x::l=>ziH x (zcQ l)
theorem zeM:∀{l m:List ClashD},zct l→zct m→(∀x,x∈l↔x∈m)→l=m
 | [],[],_,_,_=>rfl
 | [],y::m,_,_,h=>absurd ((h y).2 (List.mem_cons_self ..)) (by simp)
 | x::l,[],_,_,h=>absurd ((h x).1 (List.mem_cons_self ..)) (by simp)
 | x::l,y::m,h1,h2,h=>by
  have a1:=List.pairwise_cons.1 h1;have a2:=List.pairwise_cons.1 h2;have hno:∀a b:ClashD,ltC a b=true→¬ltC b a=true:=fun a b q r=>by
   have:=zjn q r;rw [zhb] at this;cases this
  have hxy:x=y:=by
   rcases List.mem_cons.1 ((h x).1 (List.mem_cons_self ..)) with e|hx
   · exact e
   · rcases List.mem_cons.1 ((h y).2 (List.mem_cons_self ..)) with e|hy
     · exact e.symm
     · exact absurd (a1.1 y hy) (hno _ _ (a2.1 x hx))
  subst hxy;rw [zeM a1.2 a2.2 fun z=>?_];constructor
  · intro hz
    rcases List.mem_cons.1 ((h z).1 (List.mem_cons_of_mem _ hz)) with e|e
    · have:=a1.1 z hz;rw [e,zhb] at this;cases this
    · exact e
  · intro hz
    rcases List.mem_cons.1 ((h z).2 (List.mem_cons_of_mem _ hz)) with e|e
    · have:=a2.1 z hz;rw [e,zhb] at this;cases this
    · exact e
theorem zhS {base ours theirs x:List FileD} {v:List ClashD} (h:zG base ours theirs = .ok (x,v)):zg x=0∧zct v∧ClOk v:=by
 unfold zG at h
 split at h
 · cases h
 · rename_i hb
   split at h
   · cases h
   · rename_i ho
     split at h
     · cases h
     · rename_i ht
       simp only at h
       split at h
       · cases h
       · split at h
         · cases h
         · rename_i hx
           injection h with h;injection h with h1 h2;have m:=zrS (zW (Decidable.not_not.1 hb)).1 (zW (Decidable.not_not.1 ho)).1 (zW (Decidable.not_not.1 ht)).1;refine ⟨by rw [←h1];exact Decidable.not_not.1 hx,by rw [←h2];exact zcQ _,fun y hy=>?_⟩;rw [←h2,zcp] at hy;exact zta m.t m.c y hy
end
section
def MSt.app (s d:MSt):MSt:=⟨s.t++d.t,s.c++d.c,if s.e=0 then d.e else s.e⟩
def m0:MSt:=⟨[],[],0⟩
theorem zl6 (s:MSt):s.app m0=s:=by
 obtain ⟨t,c,e⟩:=s;unfold MSt.app m0;simp only [List.append_nil,MSt.mk.injEq,true_and]
 split <;> omega
theorem zob (s:MSt):m0.app s=s:=by
 unfold MSt.app m0;simp
theorem ztO (a b c:MSt):(a.app b).app c=a.app (b.app c):=by
 unfold MSt.app;simp only [List.append_assoc,MSt.mk.injEq,true_and]
 by_cases h:a.e=0 <;> simp [h]
theorem zcR (s d:MSt) (p:Pth) (f:FileD):(s.app d).stay p f=s.app (d.stay p f):=by
 unfold MSt.app MSt.stay;simp
theorem zfE (s d:MSt) (p:Pth) (w:Nat):(s.app d).clash p w=s.app (d.clash p w):=by
 unfold MSt.app MSt.clash;simp
theorem zn5 (s d:MSt) (v:Nat):({ s.app d with e:=if (s.app d).e=0 then v else (s.app d).e }:MSt)=s.app { d with e:=if d.e=0 then v else d.e }:=by
 unfold MSt.app;by_cases h:s.e=0 <;> simp [h]
theorem zfX (s d:MSt) (p:Pth) (b:FileD) (k:Int) (x y:FileD):(s.app d).both p b k x y=s.app (d.both p b k x y):=by
 unfold MSt.both;simp only
 rw [show (if (zaj b.k x.k y.k).2=true then s.app d else (s.app d).clash p 3)=s.app (if (zaj b.k x.k y.k).2=true then d else d.clash p 3) from by split <;> first|rfl|exact zfE _ _ _ _];generalize (if (zaj b.k x.k y.k).2=true then d else d.clash p 3)=d1;rw [zn5];generalize ({ d1 with e:=if d1.e=0 then (zZ b k x y).2.2 else d1.e }:MSt)=d2
 split
 · exact zcR _ _ _ _
 · rw [zfE,zcR]
theorem zkB (s d:MSt) (f:FileD) (p:Pth) (x:FileD):(s.app d).alone f p x=s.app (d.alone f p x):=by
 unfold MSt.alone
 split
 · rfl
 · rw [zcR,zfE]
theorem znd (o t:SideD) (s d:MSt) (f:FileD):MSt.file o t (s.app d) f=s.app (MSt.file o t d f):=by
 unfold MSt.file;simp only
 split
 · exact zkB _ _ _ _ _
 · split
   · exact zkB _ _ _ _ _
   · split
     · rfl
     · split
       · rw [zcR,zcR,zfE]
       · split
         · exact zfX _ _ _ _ _ _ _
         · exact zfX _ _ _ _ _ _ _
theorem ztA (base:List FileD) (o t:SideD) (s d:MSt) (p:Pth):MSt.fresh1 base o t (s.app d) p=s.app (MSt.fresh1 base o t d p):=by
 unfold MSt.fresh1
 split
 · exact zfX _ _ _ _ _ _ _
 · exact zcR _ _ _ _
 · exact zcR _ _ _ _
 · rfl
def sumM:List MSt→MSt
 | []=>m0
 | d::l=>d.app (sumM l)
theorem zgz {α:Type} {step:MSt→α→MSt} (h:∀(s d:MSt) (a:α),step (s.app d) a=s.app (step d a)):∀(l:List α) (s:MSt),l.foldl step s=s.app (sumM (l.map (step m0)))
 | [],s=>(zl6 s).symm
 | a::l,s=>by
  rw [List.foldl_cons,zgz h l,List.map_cons,sumM,←ztO]
  congr 1
  rw [←h,zl6]
def zc9 (o t:SideD) (f:FileD):MSt:=MSt.file o t m0 f
def zc8 (base:List FileD) (o t:SideD) (p:Pth):MSt:=MSt.fresh1 base o t m0 p
theorem zhM (base ours theirs:List FileD):zk base ours theirs=(sumM (base.map (zc9 (zU base ours) (zU base theirs)))).app (sumM ((zat (ours.map (·.p)++theirs.map (·.p))).map (zc8 base (zU base ours) (zU base theirs)))):=by
 unfold zk;simp only
 rw [zgz (fun s d a=>ztA base (zU base ours) (zU base theirs) s d a),zgz (fun s d a=>znd (zU base ours) (zU base theirs) s d a)];rw [show (⟨[],[],0⟩:MSt)=m0 from rfl,zob];rfl
theorem zgV (p:Pth) (b:FileD) (k:Int) (x y:FileD):m0.both p b k x y=⟨[⟨p,(zaj b.k x.k y.k).1,(zZ b k x y).1⟩],(if (zaj b.k x.k y.k).2=true then [] else [⟨p,3⟩])++(if (zZ b k x y).2.1=true then [] else [⟨p,1⟩]),(zZ b k x y).2.2⟩:=by
 unfold MSt.both m0;simp only
 by_cases h1:(zaj b.k x.k y.k).2=true
 · by_cases h2:(zZ b k x y).2.1=true
   · simp [h1,h2,MSt.stay]
   · simp [h1,h2,MSt.stay,MSt.clash]
 · by_cases h2:(zZ b k x y).2.1=true
   · simp [h1,h2,MSt.stay,MSt.clash]
   · simp [h1,h2,MSt.stay,MSt.clash]
end
end Go.Proofs.YtmkmbbjgepcioaaGreatDoor
