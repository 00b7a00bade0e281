/- Contracts of maps.Keys and slices.Sorted on maps from texts. No statement of the seat is proved here. -/
import Derived.Test.YtmkmbbjgepcioaaGreatDoorSA05
import Derived.Test.YtmkmbbjgepcioaaGreatDoorCAShelf2
import Derived.Test.YtmkmbbjgepcioaaGreatDoorSA03
namespace Go.Proofs.YtmkmbbjgepcioaaGreatDoor
set_option maxHeartbeats 1000000
section
section
variable {α:Type} {lt:α→α→Bool}
theorem zhd (x:α):∀l:List α,(zc0 lt x l).Perm (x::l)
 | []=>List.Perm.refl _
 | y::l=>by
  unfold zc0
  split
  · exact ((zhd x l).cons y).trans (List.Perm.swap x y l)
  · exact List.Perm.refl _
theorem zcb:∀l:List α,(zaJ lt l).Perm l
 | []=>List.Perm.refl _
 | x::l=>(zhd x (zaJ lt l)).trans ((zcb l).cons x)
theorem zgX (l:List α):(zaJ lt l).length=l.length:=(zcb l).length_eq
theorem zdw {l:List α} {x:α}:x∈zaJ lt l↔x∈l:=(zcb l).mem_iff
structure Ord (lt:α→α→Bool):Prop where
 asym:∀x y,lt x y=true→lt y x=false
 ntr:∀x y z,lt y x=false→lt z y=false→lt z x=false
def zbC (lt:α→α→Bool) (l:List α):Prop:=l.Pairwise fun a b=>lt b a=false
theorem zjK (H:Ord lt) (x:α):∀l:List α,zbC lt l→zbC lt (zc0 lt x l)
 | [],_=>by simp [zc0,zbC]
 | y::l,h=>by
  unfold zbC at h ⊢;rw [List.pairwise_cons] at h;unfold zc0
  split
  · rename_i hl
    rw [List.pairwise_cons];refine ⟨fun z hz=>?_,zjK H x l h.2⟩
    rcases List.mem_cons.1 ((zhd x l).mem_iff.1 hz) with rfl|hz
    · exact H.asym _ _ hl
    · exact h.1 z hz
  · rename_i hl
    rw [Bool.not_eq_true] at hl;rw [List.pairwise_cons,List.pairwise_cons];refine ⟨fun z hz=>?_,h⟩
    rcases List.mem_cons.1 hz with rfl|hz
    · exact hl
    · exact H.ntr x y z hl (h.1 z hz)
theorem zej (H:Ord lt):∀l:List α,zbC lt (zaJ lt l)
 | []=>List.Pairwise.nil
 | x::l=>zjK H x _ (zej H l)
theorem zfx:∀{l m:List α},l.Perm m→zbC lt l→zbC lt m→(∀x∈l,∀y∈l,lt x y=false→lt y x=false→x=y)→l=m
 | [],m,hp,_,_,_=>(List.perm_nil.1 hp.symm).symm
 | x::l,[],hp,_,_,_=>absurd hp.length_eq (by simp)
 | x::l,y::m,hp,h1,h2,hu=>by
  have hxy:x=y:=by
   have hx:x∈y::m:=hp.mem_iff.1 (List.mem_cons_self ..);have hy:y∈x::l:=hp.mem_iff.2 (List.mem_cons_self ..)
   rcases List.mem_cons.1 hx with e|hx
   · exact e
   · rcases List.mem_cons.1 hy with e|hy
     · exact e.symm
     · exact hu x (List.mem_cons_self ..) y (List.mem_cons_of_mem _ hy) ((List.pairwise_cons.1 h2).1 x hx) ((List.pairwise_cons.1 h1).1 y hy)
  subst hxy;rw [zfx (List.Perm.cons_inv hp) (List.pairwise_cons.1 h1).2 (List.pairwise_cons.1 h2).2 (fun a ha b hb=>hu a (List.mem_cons_of_mem _ ha) b (List.mem_cons_of_mem _ hb))]
end
theorem zbz {a b:Pth} (h:a<b):¬b<a:=List.lt_asymm h
theorem zbp (a b:Pth):a<b∨a=b∨b<a:=by
 by_cases h1:a<b
 · exact .inl h1
 · by_cases h2:b<a
   · exact .inr (.inr h2)
   · exact .inr (.inl (List.le_antisymm (List.not_lt.1 h2) (List.not_lt.1 h1)))
theorem zef {a b c:Pth} (h:a<b) (k:b<c):a<c:=List.lt_trans h k
theorem zp2 {a b c:Pth} (h:¬b<a) (k:¬c<b):¬c<a:=by
 rcases zbp a b with q|q|q
 · rcases zbp b c with r|r|r
   · exact zbz (zef q r)
   · subst r;exact zbz q
   · exact absurd r k
 · subst q;exact k
 · exact absurd q h
theorem zcs {α:Type} (f:α→Pth):Ord (fun a b:α=>decide (f a<f b)) where
 asym x y h:=by simp only [decide_eq_true_eq,decide_eq_false_iff_not] at *;exact zbz h
 ntr x y z h k:=by simp only [decide_eq_false_iff_not] at *;exact zp2 h k
theorem ze9 {a b:Pth} (h:¬a<b) (k:¬b<a):a=b:=by
 rcases zbp a b with q|q|q
 · exact absurd q h
 · exact q
 · exact absurd q k
theorem za3 (l:List FileD):(zS l).Perm l:=zcb l
theorem zde (l:List FileD):(zS l).length=l.length:=zgX l
theorem zhm {l m:List FileD} (hp:l.Perm m) (hs:zbC (fun a b:FileD=>decide (a.p<b.p)) m) (hd:(l.map (·.p)).Nodup):zS l=m:=by
 refine zfx ((za3 l).trans hp) (zej (zcs _) l) hs fun x hx y hy h1 h2=>?_;simp only [decide_eq_false_iff_not] at h1 h2;have e:=ze9 h1 h2;have hx:=zdw.1 hx;have hy:=zdw.1 hy;obtain ⟨i,hi,rfl⟩:=List.mem_iff_getElem.1 hx;obtain ⟨j,hj,rfl⟩:=List.mem_iff_getElem.1 hy;have:i=j:=by
  have:=(List.getElem_inj (xs:=l.map (·.p)) (h₀:=by simpa using hi) (h₁:=by simpa using hj) hd).1 (by simpa using e);exact this
 subst this;rfl
theorem zet {p x:Pth}:∀{l:List Pth},x∈insK p l↔x=p∨x∈l
 | []=>by simp [insK]
 | q::l=>by
  unfold insK
  split
  · rename_i h
    subst h;simp
  · split
    · simp
    · simp only [List.mem_cons,zet (l:=l)]
      constructor
      · rintro (h|h|h) <;> simp [h]
      · rintro (h|h|h) <;> simp [h]
def zae (l:List Pth):Prop:=l.Pairwise (· < ·)
theorem zgC (p:Pth):∀{l:List Pth},zae l→zae (insK p l)
 | [],_=>by simp [insK,zae]
 | q::l,h=>by
  unfold zae at h ⊢;rw [List.pairwise_cons] at h;unfold insK
  split
  · exact List.pairwise_cons.2 h
  · rename_i hne
    split
    · rename_i hlt
      rw [List.pairwise_cons,List.pairwise_cons];refine ⟨fun z hz=>?_,h⟩
      rcases List.mem_cons.1 hz with rfl|hz
      · exact hlt
      · exact zef hlt (h.1 z hz)
    · rename_i hlt
      rw [List.pairwise_cons];refine ⟨fun z hz=>?_,zgC p h.2⟩
      rcases zet.1 hz with rfl|hz
      · rcases zbp q z with r|r|r
        · exact r
        · exact absurd r.symm hne
        · exact absurd r hlt
      · exact h.1 z hz
theorem zbI:∀l:List Pth,zae (zat l)
 | []=>List.Pairwise.nil
 | x::l=>zgC x (zbI l)
theorem zbm {x:Pth}:∀{l:List Pth},x∈zat l↔x∈l
 | []=>Iff.rfl
 | y::l=>by
  show x∈insK y (zat l)↔_;rw [zet,zbm,List.mem_cons]
theorem zda:∀{l m:List Pth},zae l→zae m→(∀x,x∈l↔x∈m)→l=m
 | [],[],_,_,_=>rfl
 | [],y::m,_,_,h=>absurd ((h y).2 (List.mem_cons_self ..)) (by simp)
 | x::l,[],_,_,h=>absurd ((h x).1 (List.mem_cons_self ..)) (by simp)
 | x::l,y::m,h1,h2,h=>by
  have a1:=List.pairwise_cons.1 h1;have a2:=List.pairwise_cons.1 h2;have hxy:x=y:=by
   rcases List.mem_cons.1 ((h x).1 (List.mem_cons_self ..)) with e|hx
   · exact e
   · rcases List.mem_cons.1 ((h y).2 (List.mem_cons_self ..)) with e|hy
     · exact e.symm
     · exact absurd (a1.1 y hy) (zbz (a2.1 x hx))
  subst hxy;rw [zda a1.2 a2.2 fun z=>?_];constructor
  · intro hz
    rcases List.mem_cons.1 ((h z).1 (List.mem_cons_of_mem _ hz)) with e|e
    · exact absurd (a1.1 z hz) (by rw [e];exact List.lt_irrefl _)
    · exact e
  · intro hz
    rcases List.mem_cons.1 ((h z).2 (List.mem_cons_of_mem _ hz)) with e|e
    · exact absurd (a2.1 z hz) (by rw [e];exact List.lt_irrefl _)
    · exact e
theorem zdS {l:List Pth} (h:zae l):l.Nodup:=h.imp fun q e=>by subst e;exact List.lt_irrefl _ q
end
section
theorem zl3 (f:FileD):∀(l:List FileD) (k:Nat) (b:Option (Nat×FileD)) (y:Nat×FileD),zaG f l k b=some y→b=some y∨∃i,y.1=k+i∧l[i]? = some y.2∧f.d=y.2.d
 | [],_,b,y,h => .inl h
 | g::l,k,b,y,h=>by
  unfold zaG at h
  rcases zl3 f l (k+1) _ y h with q|⟨i,h1,h2,h3⟩
  · split at q
    · rename_i hc
      obtain rfl:=Option.some.inj q;exact .inr ⟨0,rfl,rfl,hc.1⟩
    · exact .inl q
  · exact .inr ⟨i+1,by omega,by simpa using h2,h3⟩
theorem zkY {f:FileD} {l:List FileD} {y:Nat×FileD} (h:zaG f l 0 none=some y):l[y.1]? = some y.2∧f.d=y.2.d:=by
 rcases zl3 f l 0 none y h with q|⟨i,h1,h2,h3⟩
 · cases q
 · rw [Nat.zero_add] at h1;subst h1;exact ⟨h2,h3⟩
theorem zly {α:Type}:∀{l:List α} {i:Nat} {x:α},l[i]? = some x→(x::l.eraseIdx i).Perm l
 | [],i,x,h=>by simp at h
 | a::l,0,x,h=>by
  simp at h;subst h
  exact List.Perm.refl _
 | a::l,i+1,x,h=>by
  rw [List.eraseIdx_cons_succ];exact (List.Perm.swap a x _).trans ((zly (by simpa using h)).cons a)
theorem zeR:∀(gone rest:List FileD),((zr gone rest).1.map (·.old)++(zr gone rest).2.1.map (·.p)).Perm (gone.map (·.p))∧((zr gone rest).1.map (·.new)++(zr gone rest).2.2.map (·.p)).Perm (rest.map (·.p))
 | [],rest=>⟨List.Perm.refl _,List.Perm.refl _⟩
 | f::gone,rest=>by
  unfold zr
  cases hb:zaG f rest 0 none with
  | none =>
   obtain ⟨h1,h2⟩:=zeR gone rest;refine ⟨?_,h2⟩;simp only [List.map_cons]
   exact List.perm_middle.trans (h1.cons f.p)
  | some y =>
   obtain ⟨q1,q2⟩:=zkY hb;obtain ⟨h1,h2⟩:=zeR gone (rest.eraseIdx y.1);refine ⟨by simpa using h1.cons f.p,?_⟩;simp only [List.map_cons,List.cons_append]
   exact (h2.cons y.2.p).trans (by simpa using (zly q1).map (·.p))
theorem zcP:∀(gone rest:List FileD),(zr gone rest).2.1.Sublist gone∧(zr gone rest).2.2.Sublist rest
 | [],rest=>⟨List.Sublist.refl _,List.Sublist.refl _⟩
 | f::gone,rest=>by
  unfold zr
  cases hb:zaG f rest 0 none with
  | none=>exact ⟨(zcP gone rest).1.cons_cons f,(zcP gone rest).2⟩
  | some y=>exact ⟨(zcP gone _).1.cons f,(zcP gone _).2.trans (List.eraseIdx_sublist _ _)⟩
theorem zhn:∀(gone rest:List FileD) (x:PairD),x∈(zr gone rest).1→∃f∈gone,∃g∈rest,x=⟨f.p,g.p,100⟩∧f.d=g.d
 | [],rest,x,h=>by simp [zr] at h
 | f::gone,rest,x,h=>by
  unfold zr at h
  cases hb:zaG f rest 0 none with
  | none =>
   rw [hb] at h;obtain ⟨f',h1,g,h2,h3⟩:=zhn gone rest x h
   exact ⟨f',List.mem_cons_of_mem _ h1,g,h2,h3⟩
  | some y =>
   rw [hb] at h;obtain ⟨q1,q2⟩:=zkY hb
   rcases List.mem_cons.1 h with rfl|h
   · exact ⟨f,List.mem_cons_self ..,y.2,List.mem_of_getElem? q1,rfl,q2⟩
   · obtain ⟨f',h1,g,h2,h3⟩:=zhn gone _ x h;exact ⟨f',List.mem_cons_of_mem _ h1,g,(List.eraseIdx_sublist _ _).mem h2,h3⟩
theorem zdJ:∀(l:List LikD) (a b:List Pth) (x:PairD),x∈zal l a b→(∃y∈l,x=⟨y.old,y.new,y.sc⟩)∧x.old∉a∧x.new∉b
 | [],_,_,x,h=>by simp [zal] at h
 | y::l,a,b,x,h=>by
  unfold zal at h
  split at h
  · obtain ⟨⟨z,h1,h2⟩,h3⟩:=zdJ l a b x h;exact ⟨⟨z,List.mem_cons_of_mem _ h1,h2⟩,h3⟩
  · rename_i hn
    rw [not_or] at hn
    rcases List.mem_cons.1 h with rfl|h
    · exact ⟨⟨y,List.mem_cons_self ..,rfl⟩,hn⟩
    · obtain ⟨⟨z,h1,h2⟩,h3,h4⟩:=zdJ l _ _ x h;exact ⟨⟨z,List.mem_cons_of_mem _ h1,h2⟩,fun q=>h3 (List.mem_cons_of_mem _ q),fun q=>h4 (List.mem_cons_of_mem _ q)⟩
theorem zf0:∀(l:List LikD) (a b:List Pth),((zal l a b).map (·.old)).Nodup∧((zal l a b).map (·.new)).Nodup
 | [],_,_=>by simp [zal]
 | y::l,a,b=>by
  unfold zal
  split
  · exact zf0 l a b
  · obtain ⟨h1,h2⟩:=zf0 l (y.old::a) (y.new::b);simp only [List.map_cons,List.nodup_cons]
    refine ⟨⟨fun q=>?_,h1⟩,⟨fun q=>?_,h2⟩⟩
    · obtain ⟨x,hx,e⟩:=List.mem_map.1 q;exact (zdJ l _ _ x hx).2.1 (by rw [e];exact List.mem_cons_self ..)
    · obtain ⟨x,hx,e⟩:=List.mem_map.1 q;exact (zdJ l _ _ x hx).2.2 (by rw [e];exact List.mem_cons_self ..)
theorem zf8 {gone come:List FileD} {y:LikD} (h:y∈zbt gone come):∃f∈gone,∃g∈come,y=⟨f.p,g.p,zbr f.d g.d,zaS f.p g.p⟩∧50≤zbr f.d g.d:=by
 unfold zbt at h
 split at h
 · obtain ⟨f,hf,h⟩:=List.mem_flatMap.1 h;obtain ⟨g,hg,h⟩:=List.mem_filterMap.1 h
   split at h
   · exact ⟨f,hf,g,hg,(Option.some.inj h).symm,by assumption⟩
   · cases h
 · cases h
theorem ztC {l:List ChangeD} {x:PairD}:x∈zay l↔x∈(zr (zY l) (zX l)).1∨x∈zal (zaJ zaT (zbt (zr (zY l) (zX l)).2.1 (zr (zY l) (zX l)).2.2)) [] []:=by
 unfold zay;rw [zdw,List.mem_append]
theorem zhI {l:List ChangeD} {x:PairD} (h:x∈zay l):(∃f∈zY l,f.p=x.old)∧∃g∈zX l,g.p=x.new:=by
 rcases ztC.1 h with h|h
 · obtain ⟨f,h1,g,h2,rfl,_⟩:=zhn _ _ x h;exact ⟨⟨f,h1,rfl⟩,⟨g,h2,rfl⟩⟩
 · obtain ⟨⟨y,hy,rfl⟩,_⟩:=zdJ _ _ _ x h;obtain ⟨f,h1,g,h2,rfl,_⟩:=zf8 (zdw.1 hy);exact ⟨⟨f,(zcP _ _).1.mem h1,rfl⟩,⟨g,(zcP _ _).2.mem h2,rfl⟩⟩
theorem zg9 {l:List ChangeD} (h1:((zY l).map (·.p)).Nodup) (h2:((zX l).map (·.p)).Nodup):((zay l).map (·.old)).Nodup∧((zay l).map (·.new)).Nodup:=by
 obtain ⟨q1,q2⟩:=zeR (zY l) (zX l);have n1:=q1.nodup_iff.2 h1;have n2:=q2.nodup_iff.2 h2;rw [List.nodup_append] at n1 n2;obtain ⟨g1,g2⟩:=zf0 (zaJ zaT (zbt (zr (zY l) (zX l)).2.1 (zr (zY l) (zX l)).2.2)) [] [];have hf:∀x∈zal (zaJ zaT (zbt (zr (zY l) (zX l)).2.1 (zr (zY l) (zX l)).2.2)) [] [],x.old∈(zr (zY l) (zX l)).2.1.map (·.p)∧x.new∈(zr (zY l) (zX l)).2.2.map (·.p):=fun x hx=>by
  obtain ⟨⟨y,hy,rfl⟩,_⟩:=zdJ _ _ _ x hx;obtain ⟨f,h1,g,h2,rfl,_⟩:=zf8 (zdw.1 hy);exact ⟨List.mem_map.2 ⟨f,h1,rfl⟩,List.mem_map.2 ⟨g,h2,rfl⟩⟩
 unfold zay;constructor
 · refine ((zcb _).map _).nodup_iff.2 ?_;rw [List.map_append,List.nodup_append];refine ⟨n1.1,g1,fun a ha b hb=>?_⟩;obtain ⟨x,hx,rfl⟩:=List.mem_map.1 hb;exact n1.2.2 a ha _ (hf x hx).1
 · refine ((zcb _).map _).nodup_iff.2 ?_;rw [List.map_append,List.nodup_append];refine ⟨n2.1,g2,fun a ha b hb=>?_⟩;obtain ⟨x,hx,rfl⟩:=List.mem_map.1 hb;exact n2.2.2 a ha _ (hf x hx).2
def Apt (l:List FileD):Prop:=(l.map (·.p)).Nodup
theorem zmr {l:List FileD} (h:Apt l) {f:FileD} (hf:f∈l):l.find? (fun g=>g.p==f.p)=some f:=by
 induction l with
 | nil=>cases hf
 | cons a l ih =>
  unfold Apt at h;rw [List.map_cons,List.nodup_cons] at h;rw [List.find?_cons]
  rcases List.mem_cons.1 hf with rfl|hf
  · simp
  · have hne:(a.p==f.p)=false:=beq_eq_false_iff_ne.2 fun e=>h.1 (List.mem_map.2 ⟨f,hf,e.symm⟩);rw [hne];exact ih h.2 hf
theorem zbs {l:List FileD} (h:Apt l) {f:FileD} (hf:f∈l):getF l f.p=f:=by
 unfold getF;rw [zmr h hf];rfl
theorem zaa {l:List FileD} {p:Pth}:hasF l p=true↔∃f∈l,f.p=p:=by
 unfold hasF;rw [List.any_eq_true];simp
theorem zbo {l:List FileD} {p:Pth} (h:hasF l p=false):getF l p=zbJ:=by
 unfold getF;have:l.find? (fun f=>f.p==p)=none:=by
  rw [List.find?_eq_none];intro x hx;intro e;have:hasF l p=true:=zaa.2 ⟨x,hx,by simpa using e⟩;rw [h] at this;cases this
 rw [this];rfl
theorem zav {l:List FileD} {p:Pth} (h:hasF l p=true):getF l p∈l∧(getF l p).p=p:=by
 obtain ⟨f,hf,e⟩:=zaa.1 h;unfold getF
 cases hq:l.find? (fun f=>f.p==p) with
 | none =>
  rw [List.find?_eq_none] at hq
  exact absurd (by simpa using e) (hq f hf)
 | some g=>exact ⟨List.mem_of_find?_eq_some hq,by simpa using List.find?_some hq⟩
end
section
def zbK (l:List FileD):Prop:=∀f∈l,f.k=1∨f.k=2∨f.k=3
theorem zdz {a b:List FileD} {c:ChangeD}:c∈zT a b↔∃p,(hasF a p=true∨hasF b p=true)∧c=⟨getF a p,getF b p⟩∧((getF a p).k≠(getF b p).k∨(getF a p).d≠(getF b p).d):=by
 unfold zT;rw [List.mem_filterMap];constructor
 · rintro ⟨p,hp,h⟩;rw [zbm,List.mem_append] at hp;refine ⟨p,?_,?_⟩
   · rcases hp with q|q
     · obtain ⟨f,h1,h2⟩:=List.mem_map.1 q;exact .inl (zaa.2 ⟨f,h1,h2⟩)
     · obtain ⟨f,h1,h2⟩:=List.mem_map.1 q;exact .inr (zaa.2 ⟨f,h1,h2⟩)
   · unfold zaH at h
     split at h
     · rename_i q
       exact ⟨(Option.some.inj h).symm,q⟩
     · cases h
 · rintro ⟨p,hp,rfl,h⟩;refine ⟨p,?_,by unfold zaH;rw [if_pos h]⟩;rw [zbm,List.mem_append]
   rcases hp with q|q
   · obtain ⟨f,h1,h2⟩:=zaa.1 q;exact .inl (List.mem_map.2 ⟨f,h1,h2⟩)
   · obtain ⟨f,h1,h2⟩:=zaa.1 q;exact .inr (List.mem_map.2 ⟨f,h1,h2⟩)
theorem zlh {l:List FileD} (hk:zbK l) {p:Pth} (h:hasF l p=true):(getF l p).k≠0:=by
 have:=hk _ (zav h).1;omega
theorem zhu {l:List FileD} (hk:zbK l) {p:Pth}:(getF l p).k=0↔hasF l p=false:=by
 constructor
 · intro h
   cases q:hasF l p with
   | false=>rfl
   | true=>exact absurd h (zlh hk q)
 · intro h;rw [zbo h];rfl
theorem zmf {a b:List FileD} (ha:Apt a) (hka:zbK a) (hkb:zbK b) {f:FileD}:f∈zY (zT a b)↔f∈a∧hasF b f.p=false∧zaL f=true:=by
 unfold zY;rw [List.mem_filterMap];constructor
 · rintro ⟨c,hc,h⟩;obtain ⟨p,hp,rfl,hd⟩:=zdz.1 hc;simp only at h
   split at h
   · rename_i q
     have h:=Option.some.inj h;have hb:=(zhu hkb).1 q.1;have ha':hasF a p=true:=by
      rcases hp with r|r
      · exact r
      · rw [hb] at r;cases r
     obtain ⟨h1,h2⟩:=zav ha';rw [h] at h1 h2;rw [h] at q;exact ⟨h1,by rw [h2];exact hb,q.2⟩
   · cases h
 · rintro ⟨h1,h2,h3⟩;refine ⟨⟨getF a f.p,getF b f.p⟩,zdz.2 ⟨f.p,.inl (zaa.2 ⟨f,h1,rfl⟩),rfl,.inl ?_⟩,?_⟩
   · rw [zbs ha h1,zbo h2];have:=hka f h1;show f.k≠0;omega
   · simp only [zbs ha h1,zbo h2]
     rw [if_pos ⟨rfl,h3⟩]
theorem zjy {f:FileD} (h:zaL f=true):f.k≠0:=by
 unfold zaL at h;simp only [Bool.and_eq_true,Bool.or_eq_true,beq_iff_eq] at h;omega
theorem zrn {a b:List FileD} (hb:Apt b) (hka:zbK a) (hkb:zbK b) {f:FileD}:f∈zX (zT a b)↔f∈b∧hasF a f.p=false∧zaL f=true:=by
 unfold zX;rw [List.mem_filterMap];constructor
 · rintro ⟨c,hc,h⟩;obtain ⟨p,hp,rfl,hd⟩:=zdz.1 hc;simp only at h
   split at h
   · cases h
   · split at h
     · rename_i q
       have h:=Option.some.inj h;have ha':=(zhu hka).1 q.1;have hb':hasF b p=true:=by
        rcases hp with r|r
        · rw [ha'] at r;cases r
        · exact r
       obtain ⟨h1,h2⟩:=zav hb';rw [h] at h1 h2;rw [h] at q;exact ⟨h1,by rw [h2];exact ha',q.2⟩
     · cases h
 · rintro ⟨h1,h2,h3⟩;refine ⟨⟨getF a f.p,getF b f.p⟩,zdz.2 ⟨f.p,.inr (zaa.2 ⟨f,h1,rfl⟩),rfl,.inl ?_⟩,?_⟩
   · rw [zbs hb h1,zbo h2];have:=hkb f h1;show 0≠f.k;omega
   · simp only [zbs hb h1,zbo h2]
     rw [if_neg (fun q=>by have:=zjy h3;exact this q.1),if_pos ⟨rfl,h3⟩]
theorem zg6 {α β:Type} (f:α→Option β) (g:β→α) (h:∀x y,f x=some y→g y=x):∀l:List α,((l.filterMap f).map g).Sublist l
 | []=>List.Sublist.refl _
 | x::l=>by
  rw [List.filterMap_cons]
  cases hq:f x with
  | none=>exact (zg6 f g h l).cons _
  | some y =>
   rw [List.map_cons,h x y hq];exact (zg6 f g h l).cons_cons _
def zb9 (c:ChangeD):Pth:=if c.old.k=0 then c.new.p else c.old.p
theorem zfU {a b:List FileD} (hka:zbK a):zae ((zT a b).map zb9):=by
 have hsub:((zT a b).map zb9).Sublist (zat (a.map (·.p)++b.map (·.p))):=by
  unfold zT;refine zg6 _ _ (fun p c h=>?_) _;unfold zaH at h
  split at h
  · rename_i hd
    obtain rfl:=Option.some.inj h;unfold zb9;simp only
    by_cases q:hasF a p=true
    · rw [if_neg (zlh hka q)];exact (zav q).2
    · have q:=Bool.eq_false_iff.2 q;rw [if_pos ((zhu hka).2 q)];by_cases r:hasF b p=true
      · exact (zav r).2
      · have r:=Bool.eq_false_iff.2 r;rw [zbo q,zbo r] at hd;simp at hd
  · cases h
 exact List.Pairwise.sublist hsub (zbI _)
theorem zkQ (l:List ChangeD):((zY l).map (·.p)).Sublist (l.map zb9):=by
 induction l with
 | nil=>exact List.Sublist.refl _
 | cons c l ih =>
  unfold zY at ih ⊢;rw [List.filterMap_cons]
  split
  · exact ih.cons _
  · rename_i f hf
    split at hf
    · rename_i q
      obtain rfl:=Option.some.inj hf;rw [List.map_cons,List.map_cons];have:zb9 c=c.old.p:=by
       unfold zb9;rw [if_neg (zjy q.2)]
      rw [this];exact ih.cons_cons _
    · cases hf
theorem zhY (l:List ChangeD):((zX l).map (·.p)).Sublist (l.map zb9):=by
 induction l with
 | nil=>exact List.Sublist.refl _
 | cons c l ih =>
  unfold zX at ih ⊢;rw [List.filterMap_cons]
  split
  · exact ih.cons _
  · rename_i f hf
    split at hf
    · cases hf
    · split at hf
      · rename_i q
        obtain rfl:=Option.some.inj hf;rw [List.map_cons,List.map_cons];have:zb9 c=c.new.p:=by
         unfold zb9;rw [if_pos q.1]
        rw [this];exact ih.cons_cons _
      · cases hf
structure PairsOf (base l:List FileD) (ps:List PairD):Prop where
 old:∀x∈ps,hasF base x.old=true∧hasF l x.old=false
 new:∀x∈ps,hasF l x.new=true∧hasF base x.new=false
 olds:(ps.map (·.old)).Nodup
 news:(ps.map (·.new)).Nodup
theorem zdA {base l:List FileD} (hb:Apt base) (hl:Apt l) (hkb:zbK base) (hkl:zbK l):PairsOf base l (zay (zT base l)):=by
 have hr:=zfU (b:=l) hkb;have n1:=(zdS hr).sublist (zkQ (zT base l));have n2:=(zdS hr).sublist (zhY (zT base l));obtain ⟨q1,q2⟩:=zg9 n1 n2
 refine ⟨fun x hx=>?_,fun x hx=>?_,q1,q2⟩
 · obtain ⟨⟨f,h1,h2⟩,_⟩:=zhI hx;obtain ⟨r1,r2,_⟩:=(zmf hb hkb hkl).1 h1;rw [←h2];exact ⟨zaa.2 ⟨f,r1,rfl⟩,r2⟩
 · obtain ⟨_,f,h1,h2⟩:=zhI hx;obtain ⟨r1,r2,_⟩:=(zrn hl hkb hkl).1 h1;rw [←h2];exact ⟨zaa.2 ⟨f,r1,rfl⟩,r2⟩
end
section
open Go.RowKit Go.Maps Go.Sort Go.Shelf
theorem zo5 {w:World} {b n:Nat} {D:DataW Value} (h:w.ownsMap Tryz.prog 9 zak b n D):∃E,D = .map E∧∀p∈E,∃s,p.1=keyS s:=by
 obtain ⟨es,clock,_,F,_,rfl⟩:=h;refine ⟨_,rfl,fun p hp=>?_⟩;obtain ⟨v,hv⟩:=fit_keys F p (mem_sorted.1 hp);obtain ⟨s,_,hs⟩:=zfG hv;exact ⟨s,hs⟩
theorem VM.keys {w:World} {b n:Nat} {f:Mp} {D:DataW Value} (h1:w.ownsMap Tryz.prog 9 zak b n D) (h3:DatM D f):(strKeys D).Nodup∧∀s,s∈strKeys D↔(f s).isSome=true:=by
 obtain ⟨E,rfl,hE⟩:=zo5 h1;obtain ⟨E',e,hp⟩:=h3.1;injection e with e;subst e;constructor
 · unfold strKeys;rw [List.nodup_iff_pairwise_ne,List.pairwise_map];refine List.Pairwise.imp_of_mem (fun {p q} hp' hq' hne e=>?_) hp;obtain ⟨s,hs⟩:=hE p hp';obtain ⟨t,ht⟩:=hE q hq';rw [hs,ht] at hne e;exact hne (by rw [show s=t from e])
 · intro s;rw [←h3.has s];unfold strKeys;rw [List.mem_map,has_eq,List.any_eq_true];constructor
   · rintro ⟨p,hp',e⟩;obtain ⟨t,ht⟩:=hE p hp';refine ⟨p,hp',?_⟩;rw [ht] at e ⊢;rw [zg0,decide_eq_true_eq];exact e
   · rintro ⟨p,hp',e⟩;obtain ⟨t,ht⟩:=hE p hp';refine ⟨p,hp',?_⟩;rw [ht] at e ⊢;rw [zg0,decide_eq_true_eq] at e;exact e
theorem zsb {l:List Pth} (h:l.Nodup):zae (l.mergeSort fun x y=>decide (x≤y)):=by
 have hs:=List.pairwise_mergeSort (le:=fun x y:Pth=>decide (x≤y)) (fun a b c h1 h2=>by
  simp only [decide_eq_true_eq] at *;exact List.le_trans h1 h2) (fun a b=>by
  simp only [Bool.or_eq_true,decide_eq_true_eq]
  exact List.le_total a b) l
 have hn:(l.mergeSort fun x y=>decide (x≤y)).Nodup:=(List.mergeSort_perm l _).nodup_iff.2 h;refine List.Pairwise.imp₂ (fun a b h1 h2=>?_) hs hn;simp only [decide_eq_true_eq] at h1
 rcases zbp a b with q|q|q
 · exact q
 · exact absurd q h2
 · exact absurd q (List.not_lt.2 h1)
theorem zjY (m:Nat):AnyZ.SortsIn Tryz.prog Tryz.sortedS_ren Fence.wide m :=
 ⟨fun blk off cap ss W hH hblk hsz=>callsIn_wide.2 (AnyM.slices_Sort_string Tryz.sortS blk off cap ss W hH hblk hsz),fun p cap W=>callsIn_wide.2 (AnyM.slices_Sort_string_none Tryz.sortS p cap W)⟩
theorem zs7 (mb:Option Nat) (W:World):Calls Tryz.prog 149 #[.map mb] W fun e w'=>e = .returned (.func (.func 193) #[] #[.pointer (some ⟨W.heap.size,0,none⟩)])∧w'=W.alloc (.cells #[.map mb] 270) :=
 callsIn_wide.1 (AnyZ.keys_in Tryz.keysC Fence.wide 5 trivial rfl mb W)
theorem zsv (mb:Option Nat) (W:World):Calls Tryz.prog 115 #[.map mb] W fun e w'=>e = .returned (.func (.func 156) #[] #[.pointer (some ⟨W.heap.size,0,none⟩)])∧w'=W.alloc (.cells #[.map mb] 218) :=
 callsIn_wide.1 (AnyZ.keys_in Tryz.keysI Fence.wide 5 trivial rfl mb W)
def zgi (f:Mp) (B:Nat) (w:World) (e:Ending) (w':World):Prop:=∃(ks:List Pth) (A:Option Addr) (c:Nat),e = .returned (.slice A ks.length c)∧zae ks∧(∀s,s∈ks↔(f s).isSome=true)∧Own w' B 9 1 A ks.length c (strL ks)∧Below B w w'
theorem zj2 {w w':World} {B n b:Nat} {f:Mp} {D:DataW Value} {e:Ending} (h1:w.ownsMap Tryz.prog 9 zak b n D) (h3:DatM D f) {w0:World} (h:∃(v:Value) (ss:List (List UInt8)),e = .returned v∧ss.Perm (strKeys D)∧w'.ownsRow B 9 1 v ss.length ((ss.mergeSort (fun x y=>decide (x≤y))).map encStr)∧(v = .slice none 0 0↔ss=[])∧Below B w0 w'):zgi f B w0 e w':=by
 obtain ⟨v,ss,rfl,hp,hrow,_,hb⟩:=h;obtain ⟨q1,q2⟩:=VM.keys h1 h3;obtain ⟨A,c,rfl⟩:=zcC hrow;have hlen:(ss.mergeSort fun x y=>decide (x≤y)).length=ss.length:=List.length_mergeSort ss
 refine ⟨ss.mergeSort fun x y=>decide (x≤y),A,c,by rw [hlen],zsb (hp.nodup_iff.2 q1),fun s=>?_,?_,hb⟩
 · rw [←q2,List.mem_mergeSort];exact hp.mem_iff
 · unfold Own;rw [hlen];exact hrow
theorem zoR {w:World} {b n:Nat} {f:Mp} (h:VM w b n f) (hn:n≤100000000):Calls Tryz.prog 114 #[.func (.func 193) #[] #[.pointer (some ⟨w.heap.size,0,none⟩)]] (w.alloc (.cells #[.map (some b)] 270)) (zgi f (w.alloc (.cells #[.map (some b)] 270)).heap.size (w.alloc (.cells #[.map (some b)] 270))):=by
 obtain ⟨D,hown,hsz,hd⟩:=h;have hbl:=hown.lt;have hmax:Maps.size D≤maxLen:=by rw [hsz];unfold maxLen;omega
 have hbytes:Maps.size D*16≤140737488355328:=by rw [hsz];omega
 have hseq:SeqGives Fence.wide 2 Tryz.prog 193 #[.pointer (some ⟨w.heap.size,0,none⟩)] encStr (fun ss=>ss.Perm (strKeys D)) (Maps.size D) (w.alloc (.cells #[.map (some b)] 270)) :=
  AnyZ.keys_gives (ρ:=Tryz.keysC_ren) { Tryz.keysC with } Fence.wide _ trivial rfl (by omega) w.heap.size b n D _ (by simp) (by simp) (by
   obtain ⟨es,clock,hb,Ft,hs,hD⟩:=hown;exact ⟨es,clock,(Below.heap_alloc _ _ b hbl).trans hb,Ft,hs,hD⟩)
 have hcon:=AnyZ.sorted_in Tryz.sortedS Fence.wide 5 trivial trivial trivial trivial rfl (by omega) (zjY _) (enters_of Tryz.func155 (by kernel_rfl) rfl) 193 #[.pointer (some ⟨w.heap.size,0,none⟩)] trivial (enters_of Tryz.func193 (by kernel_rfl) rfl) _ _ hmax hbytes _ hseq;refine (callsIn_wide.1 hcon).mono fun e w' hq=>?_;exact zj2 (w0:=w.alloc (.cells #[.map (some b)] 270)) hown hd hq
theorem zop {w:World} {b n:Nat} {f:Mp} (h:VM w b n f) (hn:n≤100000000):Calls Tryz.prog 114 #[.func (.func 156) #[] #[.pointer (some ⟨w.heap.size,0,none⟩)]] (w.alloc (.cells #[.map (some b)] 218)) (zgi f (w.alloc (.cells #[.map (some b)] 218)).heap.size (w.alloc (.cells #[.map (some b)] 218))):=by
 obtain ⟨D,hown,hsz,hd⟩:=h;have hbl:=hown.lt;have hmax:Maps.size D≤maxLen:=by rw [hsz];unfold maxLen;omega
 have hbytes:Maps.size D*16≤140737488355328:=by rw [hsz];omega
 have hseq:SeqGives Fence.wide 2 Tryz.prog 156 #[.pointer (some ⟨w.heap.size,0,none⟩)] encStr (fun ss=>ss.Perm (strKeys D)) (Maps.size D) (w.alloc (.cells #[.map (some b)] 218)) :=
  AnyZ.keys_gives (ρ:=Tryz.keysI_ren) { Tryz.keysI with } Fence.wide _ trivial rfl (by omega) w.heap.size b n D _ (by simp) (by simp) (by
   obtain ⟨es,clock,hb,Ft,hs,hD⟩:=hown;exact ⟨es,clock,(Below.heap_alloc _ _ b hbl).trans hb,Ft,hs,hD⟩)
 have hcon:=AnyZ.sorted_in Tryz.sortedS Fence.wide 5 trivial trivial trivial trivial rfl (by omega) (zjY _) (enters_of Tryz.func155 (by kernel_rfl) rfl) 156 #[.pointer (some ⟨w.heap.size,0,none⟩)] trivial (enters_of Tryz.func156 (by kernel_rfl) rfl) _ _ hmax hbytes _ hseq;refine (callsIn_wide.1 hcon).mono fun e w' hq=>?_;exact zj2 (w0:=w.alloc (.cells #[.map (some b)] 218)) hown hd hq
end
end Go.Proofs.YtmkmbbjgepcioaaGreatDoor
