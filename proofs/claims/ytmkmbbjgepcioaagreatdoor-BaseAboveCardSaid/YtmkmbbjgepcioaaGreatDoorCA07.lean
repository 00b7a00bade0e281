/- Contracts of maps.Keys and slices.Sorted on maps from texts. No statement of the seat is proved here. -/
import Derived.Test.YtmkmbbjgepcioaaGreatDoorCA06
import Derived.Test.YtmkmbbjgepcioaaGreatDoorCAShelf2
import Derived.Test.YtmkmbbjgepcioaaGreatDoorCA04
namespace Go.Proofs.YtmkmbbjgepcioaaGreatDoor
set_option maxHeartbeats 1000000
section
section
variable {α:Type} {lt:α→α→Bool}
theorem zha (x:α):∀l:List α,(zcJ lt x l).Perm (x::l)
 | []=>List.Perm.refl _
 | y::l=>by
  unfold zcJ
  split
  · exact ((zha x l).cons y).trans (List.Perm.swap x y l)
  · exact List.Perm.refl _
theorem zb7:∀l:List α,(zaB lt l).Perm l
 | []=>List.Perm.refl _
 | x::l=>(zha x (zaB lt l)).trans ((zb7 l).cons x)
theorem zgO (l:List α):(zaB lt l).length=l.length:=(zb7 l).length_eq
theorem zdy {l:List α} {x:α}:x∈zaB lt l↔x∈l:=(zb7 l).mem_iff
structure Ord (lt:α→α→Bool):Prop where
 asym:∀x y,lt x y=true→lt y x=false
 ntr:∀x y z,lt y x=false→lt z y=false→lt z x=false
def zbJ (lt:α→α→Bool) (l:List α):Prop:=l.Pairwise fun a b=>lt b a=false
theorem zlm (H:Ord lt) (x:α):∀l:List α,zbJ lt l→zbJ lt (zcJ lt x l)
 | [],_=>by simp [zcJ,zbJ]
 | y::l,h=>by
  unfold zbJ at h ⊢;rw [List.pairwise_cons] at h;unfold zcJ
  split
  · rename_i hl
    rw [List.pairwise_cons];refine ⟨fun z hz=>?_,zlm H x l h.2⟩
    rcases List.mem_cons.1 ((zha x l).mem_iff.1 hz) with rfl|hz
    · exact H.asym _ _ hl
    · exact h.1 z hz
  · rename_i hl
    rw [Bool.not_eq_true] at hl;rw [List.pairwise_cons,List.pairwise_cons];refine ⟨fun z hz=>?_,h⟩
    rcases List.mem_cons.1 hz with rfl|hz
    · exact hl
    · exact H.ntr x y z hl (h.1 z hz)
theorem zeS (H:Ord lt):∀l:List α,zbJ lt (zaB lt l)
 | []=>List.Pairwise.nil
 | x::l=>zlm H x _ (zeS H l)
theorem zet:∀{l m:List α},l.Perm m→zbJ lt l→zbJ lt m→(∀x∈l,∀y∈l,lt x y=false→lt y x=false→x=y)→l=m
 | [],m,hp,_,_,_=>(List.perm_nil.1 hp.symm).symm
 | x::l,[],hp,_,_,_=>absurd hp.length_eq (by simp)
 | x::l,y::m,hp,h1,h2,hu=>by
  have hxy:x=y:=by
   have hx:x∈y::m:=hp.mem_iff.1 (List.mem_cons_self ..);have hy:y∈x::l:=hp.mem_iff.2 (List.mem_cons_self ..)
   rcases List.mem_cons.1 hx with e|hx
   · exact e
   · rcases List.mem_cons.1 hy with e|hy
     · exact e.symm
     · exact hu x (List.mem_cons_self ..) y (List.mem_cons_of_mem _ hy) ((List.pairwise_cons.1 h2).1 x hx) ((List.pairwise_cons.1 h1).1 y hy)
  subst hxy;rw [zet (List.Perm.cons_inv hp) (List.pairwise_cons.1 h1).2 (List.pairwise_cons.1 h2).2 (fun a ha b hb=>hu a (List.mem_cons_of_mem _ ha) b (List.mem_cons_of_mem _ hb))]
end
theorem zbw {a b:Pth} (h:a<b):¬b<a:=List.lt_asymm h
theorem zbo (a b:Pth):a<b∨a=b∨b<a:=by
 by_cases h1:a<b
 · exact .inl h1
 · by_cases h2:b<a
   · exact .inr (.inr h2)
   · exact .inr (.inl (List.le_antisymm (List.not_lt.1 h2) (List.not_lt.1 h1)))
theorem zdF {a b c:Pth} (h:a<b) (k:b<c):a<c:=List.lt_trans h k
theorem zrz {a b c:Pth} (h:¬b<a) (k:¬c<b):¬c<a:=by
 rcases zbo a b with q|q|q
 · rcases zbo b c with r|r|r
   · exact zbw (zdF q r)
   · subst r;exact zbw q
   · exact absurd r k
 · subst q;exact k
 · exact absurd q h
theorem zcq {α:Type} (f:α→Pth):Ord (fun a b:α=>decide (f a<f b)) where
 asym x y h:=by simp only [decide_eq_true_eq,decide_eq_false_iff_not] at *;exact zbw h
 ntr x y z h k:=by simp only [decide_eq_false_iff_not] at *;exact zrz h k
theorem zeO {a b:Pth} (h:¬a<b) (k:¬b<a):a=b:=by
 rcases zbo a b with q|q|q
 · exact absurd q h
 · exact q
 · exact absurd q k
theorem zb2 (l:List FileD):(zW l).Perm l:=zb7 l
theorem zcS (l:List FileD):(zW l).length=l.length:=zgO l
theorem zfo {l m:List FileD} (hp:l.Perm m) (hs:zbJ (fun a b:FileD=>decide (a.p<b.p)) m) (hd:(l.map (·.p)).Nodup):zW l=m:=by
 refine zet ((zb2 l).trans hp) (zeS (zcq _) l) hs fun x hx y hy h1 h2=>?_;simp only [decide_eq_false_iff_not] at h1 h2;have e:=zeO h1 h2;have hx:=zdy.1 hx;have hy:=zdy.1 hy;obtain ⟨i,hi,rfl⟩:=List.mem_iff_getElem.1 hx;obtain ⟨j,hj,rfl⟩:=List.mem_iff_getElem.1 hy;have:i=j:=by
  have:=(List.getElem_inj (xs:=l.map (·.p)) (h₀:=by simpa using hi) (h₁:=by simpa using hj) hd).1 (by simpa using e);exact this
 subst this;rfl
theorem zes {p x:Pth}:∀{l:List Pth},x∈insK p l↔x=p∨x∈l
 | []=>by simp [insK]
 | q::l=>by
  unfold insK
  split
  · rename_i h
    subst h;simp
  · split
    · simp
    · simp only [List.mem_cons,zes (l:=l)]
      constructor
      · rintro (h|h|h) <;> simp [h]
      · rintro (h|h|h) <;> simp [h]
def z8 (l:List Pth):Prop:=l.Pairwise (· < ·)
theorem zgU (p:Pth):∀{l:List Pth},z8 l→z8 (insK p l)
 | [],_=>by simp [insK,z8]
 | q::l,h=>by
  unfold z8 at h ⊢;rw [List.pairwise_cons] at h;unfold insK
  split
  · exact List.pairwise_cons.2 h
  · rename_i hne
    split
    · rename_i hlt
      rw [List.pairwise_cons,List.pairwise_cons];refine ⟨fun z hz=>?_,h⟩
      rcases List.mem_cons.1 hz with rfl|hz
      · exact hlt
      · exact zdF hlt (h.1 z hz)
    · rename_i hlt
      rw [List.pairwise_cons];refine ⟨fun z hz=>?_,zgU p h.2⟩
      rcases zes.1 hz with rfl|hz
      · rcases zbo q z with r|r|r
        · exact r
        · exact absurd r.symm hne
        · exact absurd r hlt
      · exact h.1 z hz
theorem zbY:∀l:List Pth,z8 (zaA l)
 | []=>List.Pairwise.nil
 | x::l=>zgU x (zbY l)
theorem zbD {x:Pth}:∀{l:List Pth},x∈zaA l↔x∈l
 | []=>Iff.rfl
 | y::l=>by
  show x∈insK y (zaA l)↔_;rw [zes,zbD,List.mem_cons]
theorem zdL:∀{l m:List Pth},z8 l→z8 m→(∀x,x∈l↔x∈m)→l=m
 | [],[],_,_,_=>rfl
 | [],y::m,_,_,h=>absurd ((h y).2 (List.mem_cons_self ..)) (by simp)
 | x::l,[],_,_,h=>absurd ((h x).1 (List.mem_cons_self ..)) (by simp)
 | x::l,y::m,h1,h2,h=>by
  have a1:=List.pairwise_cons.1 h1;have a2:=List.pairwise_cons.1 h2;have hxy:x=y:=by
   rcases List.mem_cons.1 ((h x).1 (List.mem_cons_self ..)) with e|hx
   · exact e
   · rcases List.mem_cons.1 ((h y).2 (List.mem_cons_self ..)) with e|hy
     · exact e.symm
     · exact absurd (a1.1 y hy) (zbw (a2.1 x hx))
  subst hxy;rw [zdL a1.2 a2.2 fun z=>?_];constructor
  · intro hz
    rcases List.mem_cons.1 ((h z).1 (List.mem_cons_of_mem _ hz)) with e|e
    · exact absurd (a1.1 z hz) (by rw [e];exact List.lt_irrefl _)
    · exact e
  · intro hz
    rcases List.mem_cons.1 ((h z).2 (List.mem_cons_of_mem _ hz)) with e|e
    · exact absurd (a2.1 z hz) (by rw [e];exact List.lt_irrefl _)
    · exact e
theorem zc7 {l:List Pth} (h:z8 l):l.Nodup:=h.imp fun q e=>by subst e;exact List.lt_irrefl _ q
end
section
theorem zlf (f:FileD):∀(l:List FileD) (k:Nat) (b:Option (Nat×FileD)) (y:Nat×FileD),zaC f l k b=some y→b=some y∨∃i,y.1=k+i∧l[i]? = some y.2∧f.d=y.2.d
 | [],_,b,y,h => .inl h
 | g::l,k,b,y,h=>by
  unfold zaC at h
  rcases zlf f l (k+1) _ y h with q|⟨i,h1,h2,h3⟩
  · split at q
    · rename_i hc
      obtain rfl:=Option.some.inj q;exact .inr ⟨0,rfl,rfl,hc.1⟩
    · exact .inl q
  · exact .inr ⟨i+1,by omega,by simpa using h2,h3⟩
theorem zjE {f:FileD} {l:List FileD} {y:Nat×FileD} (h:zaC f l 0 none=some y):l[y.1]? = some y.2∧f.d=y.2.d:=by
 rcases zlf f l 0 none y h with q|⟨i,h1,h2,h3⟩
 · cases q
 · rw [Nat.zero_add] at h1;subst h1;exact ⟨h2,h3⟩
theorem ziF {α:Type}:∀{l:List α} {i:Nat} {x:α},l[i]? = some x→(x::l.eraseIdx i).Perm l
 | [],i,x,h=>by simp at h
 | a::l,0,x,h=>by
  simp at h;subst h
  exact List.Perm.refl _
 | a::l,i+1,x,h=>by
  rw [List.eraseIdx_cons_succ];exact (List.Perm.swap a x _).trans ((ziF (by simpa using h)).cons a)
theorem zfe:∀(gone rest:List FileD),((zr gone rest).1.map (·.old)++(zr gone rest).2.1.map (·.p)).Perm (gone.map (·.p))∧((zr gone rest).1.map (·.new)++(zr gone rest).2.2.map (·.p)).Perm (rest.map (·.p))
 | [],rest=>⟨List.Perm.refl _,List.Perm.refl _⟩
 | f::gone,rest=>by
  unfold zr
  cases hb:zaC f rest 0 none with
  | none =>
   obtain ⟨h1,h2⟩:=zfe gone rest;refine ⟨?_,h2⟩;simp only [List.map_cons]
   exact List.perm_middle.trans (h1.cons f.p)
  | some y =>
   obtain ⟨q1,q2⟩:=zjE hb;obtain ⟨h1,h2⟩:=zfe gone (rest.eraseIdx y.1);refine ⟨by simpa using h1.cons f.p,?_⟩;simp only [List.map_cons,List.cons_append]
   exact (h2.cons y.2.p).trans (by simpa using (ziF q1).map (·.p))
theorem zcI:∀(gone rest:List FileD),(zr gone rest).2.1.Sublist gone∧(zr gone rest).2.2.Sublist rest
 | [],rest=>⟨List.Sublist.refl _,List.Sublist.refl _⟩
 | f::gone,rest=>by
  unfold zr
  cases hb:zaC f rest 0 none with
  | none=>exact ⟨(zcI gone rest).1.cons_cons f,(zcI gone rest).2⟩
  | some y=>exact ⟨(zcI gone _).1.cons f,(zcI gone _).2.trans (List.eraseIdx_sublist _ _)⟩
theorem zgh:∀(gone rest:List FileD) (x:PairD),x∈(zr gone rest).1→∃f∈gone,∃g∈rest,x=⟨f.p,g.p,100⟩∧f.d=g.d
 | [],rest,x,h=>by simp [zr] at h
 | f::gone,rest,x,h=>by
  unfold zr at h
  cases hb:zaC f rest 0 none with
  | none =>
   rw [hb] at h;obtain ⟨f',h1,g,h2,h3⟩:=zgh gone rest x h
   exact ⟨f',List.mem_cons_of_mem _ h1,g,h2,h3⟩
  | some y =>
   rw [hb] at h;obtain ⟨q1,q2⟩:=zjE hb
   rcases List.mem_cons.1 h with rfl|h
   · exact ⟨f,List.mem_cons_self ..,y.2,List.mem_of_getElem? q1,rfl,q2⟩
   · obtain ⟨f',h1,g,h2,h3⟩:=zgh gone _ x h;exact ⟨f',List.mem_cons_of_mem _ h1,g,(List.eraseIdx_sublist _ _).mem h2,h3⟩
theorem zdg:∀(l:List LikD) (a b:List Pth) (x:PairD),x∈zac l a b→(∃y∈l,x=⟨y.old,y.new,y.sc⟩)∧x.old∉a∧x.new∉b
 | [],_,_,x,h=>by simp [zac] at h
 | y::l,a,b,x,h=>by
  unfold zac at h
  split at h
  · obtain ⟨⟨z,h1,h2⟩,h3⟩:=zdg l a b x h;exact ⟨⟨z,List.mem_cons_of_mem _ h1,h2⟩,h3⟩
  · rename_i hn
    rw [not_or] at hn
    rcases List.mem_cons.1 h with rfl|h
    · exact ⟨⟨y,List.mem_cons_self ..,rfl⟩,hn⟩
    · obtain ⟨⟨z,h1,h2⟩,h3,h4⟩:=zdg l _ _ x h;exact ⟨⟨z,List.mem_cons_of_mem _ h1,h2⟩,fun q=>h3 (List.mem_cons_of_mem _ q),fun q=>h4 (List.mem_cons_of_mem _ q)⟩
theorem zf1:∀(l:List LikD) (a b:List Pth),((zac l a b).map (·.old)).Nodup∧((zac l a b).map (·.new)).Nodup
 | [],_,_=>by simp [zac]
 | y::l,a,b=>by
  unfold zac
  split
  · exact zf1 l a b
  · obtain ⟨h1,h2⟩:=zf1 l (y.old::a) (y.new::b);simp only [List.map_cons,List.nodup_cons]
    refine ⟨⟨fun q=>?_,h1⟩,⟨fun q=>?_,h2⟩⟩
    · obtain ⟨x,hx,e⟩:=List.mem_map.1 q;exact (zdg l _ _ x hx).2.1 (by rw [e];exact List.mem_cons_self ..)
    · obtain ⟨x,hx,e⟩:=List.mem_map.1 q;exact (zdg l _ _ x hx).2.2 (by rw [e];exact List.mem_cons_self ..)
theorem zfM {gone come:List FileD} {y:LikD} (h:y∈zbl gone come):∃f∈gone,∃g∈come,y=⟨f.p,g.p,zbn f.d g.d,zaG f.p g.p⟩∧50≤zbn f.d g.d:=by
 unfold zbl at h
 split at h
 · obtain ⟨f,hf,h⟩:=List.mem_flatMap.1 h;obtain ⟨g,hg,h⟩:=List.mem_filterMap.1 h
   split at h
   · exact ⟨f,hf,g,hg,(Option.some.inj h).symm,by assumption⟩
   · cases h
 · cases h
theorem zlB {l:List ChangeD} {x:PairD}:x∈zad l↔x∈(zr (zO l) (zP l)).1∨x∈zac (zaB zaK (zbl (zr (zO l) (zP l)).2.1 (zr (zO l) (zP l)).2.2)) [] []:=by
 unfold zad;rw [zdy,List.mem_append]
theorem zfU {l:List ChangeD} {x:PairD} (h:x∈zad l):(∃f∈zO l,f.p=x.old)∧∃g∈zP l,g.p=x.new:=by
 rcases zlB.1 h with h|h
 · obtain ⟨f,h1,g,h2,rfl,_⟩:=zgh _ _ x h;exact ⟨⟨f,h1,rfl⟩,⟨g,h2,rfl⟩⟩
 · obtain ⟨⟨y,hy,rfl⟩,_⟩:=zdg _ _ _ x h;obtain ⟨f,h1,g,h2,rfl,_⟩:=zfM (zdy.1 hy);exact ⟨⟨f,(zcI _ _).1.mem h1,rfl⟩,⟨g,(zcI _ _).2.mem h2,rfl⟩⟩
theorem zfq {l:List ChangeD} (h1:((zO l).map (·.p)).Nodup) (h2:((zP l).map (·.p)).Nodup):((zad l).map (·.old)).Nodup∧((zad l).map (·.new)).Nodup:=by
 obtain ⟨q1,q2⟩:=zfe (zO l) (zP l);have n1:=q1.nodup_iff.2 h1;have n2:=q2.nodup_iff.2 h2;rw [List.nodup_append] at n1 n2;obtain ⟨g1,g2⟩:=zf1 (zaB zaK (zbl (zr (zO l) (zP l)).2.1 (zr (zO l) (zP l)).2.2)) [] [];have hf:∀x∈zac (zaB zaK (zbl (zr (zO l) (zP l)).2.1 (zr (zO l) (zP l)).2.2)) [] [],x.old∈(zr (zO l) (zP l)).2.1.map (·.p)∧x.new∈(zr (zO l) (zP l)).2.2.map (·.p):=fun x hx=>by
  obtain ⟨⟨y,hy,rfl⟩,_⟩:=zdg _ _ _ x hx;obtain ⟨f,h1,g,h2,rfl,_⟩:=zfM (zdy.1 hy);exact ⟨List.mem_map.2 ⟨f,h1,rfl⟩,List.mem_map.2 ⟨g,h2,rfl⟩⟩
 unfold zad;constructor
 · refine ((zb7 _).map _).nodup_iff.2 ?_;rw [List.map_append,List.nodup_append];refine ⟨n1.1,g1,fun a ha b hb=>?_⟩;obtain ⟨x,hx,rfl⟩:=List.mem_map.1 hb;exact n1.2.2 a ha _ (hf x hx).1
 · refine ((zb7 _).map _).nodup_iff.2 ?_;rw [List.map_append,List.nodup_append];refine ⟨n2.1,g2,fun a ha b hb=>?_⟩;obtain ⟨x,hx,rfl⟩:=List.mem_map.1 hb;exact n2.2.2 a ha _ (hf x hx).2
def Apt (l:List FileD):Prop:=(l.map (·.p)).Nodup
theorem zqV {l:List FileD} (h:Apt l) {f:FileD} (hf:f∈l):l.find? (fun g=>g.p==f.p)=some f:=by
 induction l with
 | nil=>cases hf
 | cons a l ih =>
  unfold Apt at h;rw [List.map_cons,List.nodup_cons] at h;rw [List.find?_cons]
  rcases List.mem_cons.1 hf with rfl|hf
  · simp
  · have hne:(a.p==f.p)=false:=beq_eq_false_iff_ne.2 fun e=>h.1 (List.mem_map.2 ⟨f,hf,e.symm⟩);rw [hne];exact ih h.2 hf
theorem zbf {l:List FileD} (h:Apt l) {f:FileD} (hf:f∈l):getF l f.p=f:=by
 unfold getF;rw [zqV h hf];rfl
theorem zQ {l:List FileD} {p:Pth}:hasF l p=true↔∃f∈l,f.p=p:=by
 unfold hasF;rw [List.any_eq_true];simp
theorem zbe {l:List FileD} {p:Pth} (h:hasF l p=false):getF l p=zbE:=by
 unfold getF;have:l.find? (fun f=>f.p==p)=none:=by
  rw [List.find?_eq_none];intro x hx;intro e;have:hasF l p=true:=zQ.2 ⟨x,hx,by simpa using e⟩;rw [h] at this;cases this
 rw [this];rfl
theorem zal {l:List FileD} {p:Pth} (h:hasF l p=true):getF l p∈l∧(getF l p).p=p:=by
 obtain ⟨f,hf,e⟩:=zQ.1 h;unfold getF
 cases hq:l.find? (fun f=>f.p==p) with
 | none =>
  rw [List.find?_eq_none] at hq
  exact absurd (by simpa using e) (hq f hf)
 | some g=>exact ⟨List.mem_of_find?_eq_some hq,by simpa using List.find?_some hq⟩
end
section
def zbF (l:List FileD):Prop:=∀f∈l,f.k=1∨f.k=2∨f.k=3
theorem zdm {a b:List FileD} {c:ChangeD}:c∈zJ a b↔∃p,(hasF a p=true∨hasF b p=true)∧c=⟨getF a p,getF b p⟩∧((getF a p).k≠(getF b p).k∨(getF a p).d≠(getF b p).d):=by
 unfold zJ;rw [List.mem_filterMap];constructor
 · rintro ⟨p,hp,h⟩;rw [zbD,List.mem_append] at hp;refine ⟨p,?_,?_⟩
   · rcases hp with q|q
     · obtain ⟨f,h1,h2⟩:=List.mem_map.1 q;exact .inl (zQ.2 ⟨f,h1,h2⟩)
     · obtain ⟨f,h1,h2⟩:=List.mem_map.1 q;exact .inr (zQ.2 ⟨f,h1,h2⟩)
   · unfold zaz at h
     split at h
     · rename_i q
       exact ⟨(Option.some.inj h).symm,q⟩
     · cases h
 · rintro ⟨p,hp,rfl,h⟩;refine ⟨p,?_,by unfold zaz;rw [if_pos h]⟩;rw [zbD,List.mem_append]
   rcases hp with q|q
   · obtain ⟨f,h1,h2⟩:=zQ.1 q;exact .inl (List.mem_map.2 ⟨f,h1,h2⟩)
   · obtain ⟨f,h1,h2⟩:=zQ.1 q;exact .inr (List.mem_map.2 ⟨f,h1,h2⟩)
theorem zja {l:List FileD} (hk:zbF l) {p:Pth} (h:hasF l p=true):(getF l p).k≠0:=by
 have:=hk _ (zal h).1;omega
theorem zgu {l:List FileD} (hk:zbF l) {p:Pth}:(getF l p).k=0↔hasF l p=false:=by
 constructor
 · intro h
   cases q:hasF l p with
   | false=>rfl
   | true=>exact absurd h (zja hk q)
 · intro h;rw [zbe h];rfl
theorem zqF {a b:List FileD} (ha:Apt a) (hka:zbF a) (hkb:zbF b) {f:FileD}:f∈zO (zJ a b)↔f∈a∧hasF b f.p=false∧zaJ f=true:=by
 unfold zO;rw [List.mem_filterMap];constructor
 · rintro ⟨c,hc,h⟩;obtain ⟨p,hp,rfl,hd⟩:=zdm.1 hc;simp only at h
   split at h
   · rename_i q
     have h:=Option.some.inj h;have hb:=(zgu hkb).1 q.1;have ha':hasF a p=true:=by
      rcases hp with r|r
      · exact r
      · rw [hb] at r;cases r
     obtain ⟨h1,h2⟩:=zal ha';rw [h] at h1 h2;rw [h] at q;exact ⟨h1,by rw [h2];exact hb,q.2⟩
   · cases h
 · rintro ⟨h1,h2,h3⟩;refine ⟨⟨getF a f.p,getF b f.p⟩,zdm.2 ⟨f.p,.inl (zQ.2 ⟨f,h1,rfl⟩),rfl,.inl ?_⟩,?_⟩
   · rw [zbf ha h1,zbe h2];have:=hka f h1;show f.k≠0;omega
   · simp only [zbf ha h1,zbe h2]
     rw [if_pos ⟨rfl,h3⟩]
theorem ziB {f:FileD} (h:zaJ f=true):f.k≠0:=by
 unfold zaJ at h;simp only [Bool.and_eq_true,Bool.or_eq_true,beq_iff_eq] at h;omega
theorem zph {a b:List FileD} (hb:Apt b) (hka:zbF a) (hkb:zbF b) {f:FileD}:f∈zP (zJ a b)↔f∈b∧hasF a f.p=false∧zaJ f=true:=by
 unfold zP;rw [List.mem_filterMap];constructor
 · rintro ⟨c,hc,h⟩;obtain ⟨p,hp,rfl,hd⟩:=zdm.1 hc;simp only at h
   split at h
   · cases h
   · split at h
     · rename_i q
       have h:=Option.some.inj h;have ha':=(zgu hka).1 q.1;have hb':hasF b p=true:=by
        rcases hp with r|r
        · rw [ha'] at r;cases r
        · exact r
       obtain ⟨h1,h2⟩:=zal hb';rw [h] at h1 h2;rw [h] at q;exact ⟨h1,by rw [h2];exact ha',q.2⟩
     · cases h
 · rintro ⟨h1,h2,h3⟩;refine ⟨⟨getF a f.p,getF b f.p⟩,zdm.2 ⟨f.p,.inr (zQ.2 ⟨f,h1,rfl⟩),rfl,.inl ?_⟩,?_⟩
   · rw [zbf hb h1,zbe h2];have:=hkb f h1;show 0≠f.k;omega
   · simp only [zbf hb h1,zbe h2]
     rw [if_neg (fun q=>by have:=ziB h3;exact this q.1),if_pos ⟨rfl,h3⟩]
theorem zfK {α β:Type} (f:α→Option β) (g:β→α) (h:∀x y,f x=some y→g y=x):∀l:List α,((l.filterMap f).map g).Sublist l
 | []=>List.Sublist.refl _
 | x::l=>by
  rw [List.filterMap_cons]
  cases hq:f x with
  | none=>exact (zfK f g h l).cons _
  | some y =>
   rw [List.map_cons,h x y hq];exact (zfK f g h l).cons_cons _
def zcf (c:ChangeD):Pth:=if c.old.k=0 then c.new.p else c.old.p
theorem zgB {a b:List FileD} (hka:zbF a):z8 ((zJ a b).map zcf):=by
 have hsub:((zJ a b).map zcf).Sublist (zaA (a.map (·.p)++b.map (·.p))):=by
  unfold zJ;refine zfK _ _ (fun p c h=>?_) _;unfold zaz at h
  split at h
  · rename_i hd
    obtain rfl:=Option.some.inj h;unfold zcf;simp only
    by_cases q:hasF a p=true
    · rw [if_neg (zja hka q)];exact (zal q).2
    · have q:=Bool.eq_false_iff.2 q;rw [if_pos ((zgu hka).2 q)];by_cases r:hasF b p=true
      · exact (zal r).2
      · have r:=Bool.eq_false_iff.2 r;rw [zbe q,zbe r] at hd;simp at hd
  · cases h
 exact List.Pairwise.sublist hsub (zbY _)
theorem zkn (l:List ChangeD):((zO l).map (·.p)).Sublist (l.map zcf):=by
 induction l with
 | nil=>exact List.Sublist.refl _
 | cons c l ih =>
  unfold zO at ih ⊢;rw [List.filterMap_cons]
  split
  · exact ih.cons _
  · rename_i f hf
    split at hf
    · rename_i q
      obtain rfl:=Option.some.inj hf;rw [List.map_cons,List.map_cons];have:zcf c=c.old.p:=by
       unfold zcf;rw [if_neg (ziB q.2)]
      rw [this];exact ih.cons_cons _
    · cases hf
theorem zjo (l:List ChangeD):((zP l).map (·.p)).Sublist (l.map zcf):=by
 induction l with
 | nil=>exact List.Sublist.refl _
 | cons c l ih =>
  unfold zP at ih ⊢;rw [List.filterMap_cons]
  split
  · exact ih.cons _
  · rename_i f hf
    split at hf
    · cases hf
    · split at hf
      · rename_i q
        obtain rfl:=Option.some.inj hf;rw [List.map_cons,List.map_cons];have:zcf c=c.new.p:=by
         unfold zcf;rw [if_pos q.1]
        rw [this];exact ih.cons_cons _
      · cases hf
structure PairsOf (base l:List FileD) (ps:List PairD):Prop where
 old:∀x∈ps,hasF base x.old=true∧hasF l x.old=false
 new:∀x∈ps,hasF l x.new=true∧hasF base x.new=false
 olds:(ps.map (·.old)).Nodup
 news:(ps.map (·.new)).Nodup
theorem zdG {base l:List FileD} (hb:Apt base) (hl:Apt l) (hkb:zbF base) (hkl:zbF l):PairsOf base l (zad (zJ base l)):=by
 have hr:=zgB (b:=l) hkb;have n1:=(zc7 hr).sublist (zkn (zJ base l));have n2:=(zc7 hr).sublist (zjo (zJ base l));obtain ⟨q1,q2⟩:=zfq n1 n2
 refine ⟨fun x hx=>?_,fun x hx=>?_,q1,q2⟩
 · obtain ⟨⟨f,h1,h2⟩,_⟩:=zfU hx;obtain ⟨r1,r2,_⟩:=(zqF hb hkb hkl).1 h1;rw [←h2];exact ⟨zQ.2 ⟨f,r1,rfl⟩,r2⟩
 · obtain ⟨_,f,h1,h2⟩:=zfU hx;obtain ⟨r1,r2,_⟩:=(zph hl hkb hkl).1 h1;rw [←h2];exact ⟨zQ.2 ⟨f,r1,rfl⟩,r2⟩
end
section
open Go.RowKit Go.Maps Go.Sort Go.Shelf
theorem zop {w:World} {b n:Nat} {D:DataW Value} (h:w.ownsMap Tryz.prog 9 zab b n D):∃E,D = .map E∧∀p∈E,∃s,p.1=keyS s:=by
 obtain ⟨es,clock,_,F,_,rfl⟩:=h;refine ⟨_,rfl,fun p hp=>?_⟩;obtain ⟨v,hv⟩:=fit_keys F p (mem_sorted.1 hp);obtain ⟨s,_,hs⟩:=zfL hv;exact ⟨s,hs⟩
theorem VM.keys {w:World} {b n:Nat} {f:Mp} {D:DataW Value} (h1:w.ownsMap Tryz.prog 9 zab b n D) (h3:DatM D f):(strKeys D).Nodup∧∀s,s∈strKeys D↔(f s).isSome=true:=by
 obtain ⟨E,rfl,hE⟩:=zop h1;obtain ⟨E',e,hp⟩:=h3.1;injection e with e;subst e;constructor
 · unfold strKeys;rw [List.nodup_iff_pairwise_ne,List.pairwise_map];refine List.Pairwise.imp_of_mem (fun {p q} hp' hq' hne e=>?_) hp;obtain ⟨s,hs⟩:=hE p hp';obtain ⟨t,ht⟩:=hE q hq';rw [hs,ht] at hne e;exact hne (by rw [show s=t from e])
 · intro s;rw [←h3.has s];unfold strKeys;rw [List.mem_map,has_eq,List.any_eq_true];constructor
   · rintro ⟨p,hp',e⟩;obtain ⟨t,ht⟩:=hE p hp';refine ⟨p,hp',?_⟩;rw [ht] at e ⊢;rw [zhh,decide_eq_true_eq];exact e
   · rintro ⟨p,hp',e⟩;obtain ⟨t,ht⟩:=hE p hp';refine ⟨p,hp',?_⟩;rw [ht] at e ⊢;rw [zhh,decide_eq_true_eq] at e;exact e
theorem zsh {l:List Pth} (h:l.Nodup):z8 (l.mergeSort fun x y=>decide (x≤y)):=by
 have hs:=List.pairwise_mergeSort (le:=fun x y:Pth=>decide (x≤y)) (fun a b c h1 h2=>by
  simp only [decide_eq_true_eq] at *;exact List.le_trans h1 h2) (fun a b=>by
  simp only [Bool.or_eq_true,decide_eq_true_eq]
  exact List.le_total a b) l
 have hn:(l.mergeSort fun x y=>decide (x≤y)).Nodup:=(List.mergeSort_perm l _).nodup_iff.2 h;refine List.Pairwise.imp₂ (fun a b h1 h2=>?_) hs hn;simp only [decide_eq_true_eq] at h1
 rcases zbo a b with q|q|q
 · exact q
 · exact absurd q h2
 · exact absurd q (List.not_lt.2 h1)
theorem zk5 (m:Nat):AnyZ.SortsIn Tryz.prog Tryz.sortedS_ren Fence.wide m :=
 ⟨fun blk off cap ss W hH hblk hsz=>callsIn_wide.2 (AnyM.slices_Sort_string Tryz.sortS blk off cap ss W hH hblk hsz),fun p cap W=>callsIn_wide.2 (AnyM.slices_Sort_string_none Tryz.sortS p cap W)⟩
theorem zof (mb:Option Nat) (W:World):Calls Tryz.prog 149 #[.map mb] W fun e w'=>e = .returned (.func (.func 193) #[] #[.pointer (some ⟨W.heap.size,0,none⟩)])∧w'=W.alloc (.cells #[.map mb] 270) :=
 callsIn_wide.1 (AnyZ.keys_in Tryz.keysC Fence.wide 5 trivial rfl mb W)
theorem zoH (mb:Option Nat) (W:World):Calls Tryz.prog 115 #[.map mb] W fun e w'=>e = .returned (.func (.func 156) #[] #[.pointer (some ⟨W.heap.size,0,none⟩)])∧w'=W.alloc (.cells #[.map mb] 218) :=
 callsIn_wide.1 (AnyZ.keys_in Tryz.keysI Fence.wide 5 trivial rfl mb W)
def zgo (f:Mp) (B:Nat) (w:World) (e:Ending) (w':World):Prop:=∃(ks:List Pth) (A:Option Addr) (c:Nat),e = .returned (.slice A ks.length c)∧z8 ks∧(∀s,s∈ks↔(f s).isSome=true)∧Own w' B 9 1 A ks.length c (strL ks)∧Below B w w'
theorem zkd {w w':World} {B n b:Nat} {f:Mp} {D:DataW Value} {e:Ending} (h1:w.ownsMap Tryz.prog 9 zab b n D) (h3:DatM D f) {w0:World} (h:∃(v:Value) (ss:List (List UInt8)),e = .returned v∧ss.Perm (strKeys D)∧w'.ownsRow B 9 1 v ss.length ((ss.mergeSort (fun x y=>decide (x≤y))).map encStr)∧(v = .slice none 0 0↔ss=[])∧Below B w0 w'):zgo f B w0 e w':=by
 obtain ⟨v,ss,rfl,hp,hrow,_,hb⟩:=h;obtain ⟨q1,q2⟩:=VM.keys h1 h3;obtain ⟨A,c,rfl⟩:=zb5 hrow;have hlen:(ss.mergeSort fun x y=>decide (x≤y)).length=ss.length:=List.length_mergeSort ss
 refine ⟨ss.mergeSort fun x y=>decide (x≤y),A,c,by rw [hlen],zsh (hp.nodup_iff.2 q1),fun s=>?_,?_,hb⟩
 · rw [←q2,List.mem_mergeSort];exact hp.mem_iff
 · unfold Own;rw [hlen];exact hrow
theorem zlA {w:World} {b n:Nat} {f:Mp} (h:VM w b n f) (hn:n≤100000000):Calls Tryz.prog 114 #[.func (.func 193) #[] #[.pointer (some ⟨w.heap.size,0,none⟩)]] (w.alloc (.cells #[.map (some b)] 270)) (zgo f (w.alloc (.cells #[.map (some b)] 270)).heap.size (w.alloc (.cells #[.map (some b)] 270))):=by
 obtain ⟨D,hown,hsz,hd⟩:=h;have hbl:=hown.lt;have hmax:Maps.size D≤maxLen:=by rw [hsz];unfold maxLen;omega
 have hbytes:Maps.size D*16≤140737488355328:=by rw [hsz];omega
 have hseq:SeqGives Fence.wide 2 Tryz.prog 193 #[.pointer (some ⟨w.heap.size,0,none⟩)] encStr (fun ss=>ss.Perm (strKeys D)) (Maps.size D) (w.alloc (.cells #[.map (some b)] 270)) :=
  AnyZ.keys_gives (ρ:=Tryz.keysC_ren) { Tryz.keysC with } Fence.wide _ trivial rfl (by omega) w.heap.size b n D _ (by simp) (by simp) (by
   obtain ⟨es,clock,hb,Ft,hs,hD⟩:=hown;exact ⟨es,clock,(Below.heap_alloc _ _ b hbl).trans hb,Ft,hs,hD⟩)
 have hcon:=AnyZ.sorted_in Tryz.sortedS Fence.wide 5 trivial trivial trivial trivial rfl (by omega) (zk5 _) (enters_of Tryz.func155 (by kernel_rfl) rfl) 193 #[.pointer (some ⟨w.heap.size,0,none⟩)] trivial (enters_of Tryz.func193 (by kernel_rfl) rfl) _ _ hmax hbytes _ hseq;refine (callsIn_wide.1 hcon).mono fun e w' hq=>?_;exact zkd (w0:=w.alloc (.cells #[.map (some b)] 270)) hown hd hq
theorem zna {w:World} {b n:Nat} {f:Mp} (h:VM w b n f) (hn:n≤100000000):Calls Tryz.prog 114 #[.func (.func 156) #[] #[.pointer (some ⟨w.heap.size,0,none⟩)]] (w.alloc (.cells #[.map (some b)] 218)) (zgo f (w.alloc (.cells #[.map (some b)] 218)).heap.size (w.alloc (.cells #[.map (some b)] 218))):=by
 obtain ⟨D,hown,hsz,hd⟩:=h;have hbl:=hown.lt;have hmax:Maps.size D≤maxLen:=by rw [hsz];unfold maxLen;omega
 have hbytes:Maps.size D*16≤140737488355328:=by rw [hsz];omega
 have hseq:SeqGives Fence.wide 2 Tryz.prog 156 #[.pointer (some ⟨w.heap.size,0,none⟩)] encStr (fun ss=>ss.Perm (strKeys D)) (Maps.size D) (w.alloc (.cells #[.map (some b)] 218)) :=
  AnyZ.keys_gives (ρ:=Tryz.keysI_ren) { Tryz.keysI with } Fence.wide _ trivial rfl (by omega) w.heap.size b n D _ (by simp) (by simp) (by
   obtain ⟨es,clock,hb,Ft,hs,hD⟩:=hown;exact ⟨es,clock,(Below.heap_alloc _ _ b hbl).trans hb,Ft,hs,hD⟩)
 have hcon:=AnyZ.sorted_in Tryz.sortedS Fence.wide 5 trivial trivial trivial trivial rfl (by omega) (zk5 _) (enters_of Tryz.func155 (by kernel_rfl) rfl) 156 #[.pointer (some ⟨w.heap.size,0,none⟩)] trivial (enters_of Tryz.func156 (by kernel_rfl) rfl) _ _ hmax hbytes _ hseq;refine (callsIn_wide.1 hcon).mono fun e w' hq=>?_;exact zkd (w0:=w.alloc (.cells #[.map (some b)] 218)) hown hd hq
end
end Go.Proofs.YtmkmbbjgepcioaaGreatDoor
