/- A map from Ids, each element as it stands. No statement of the seat is proved here. -/
import Derived.Test.YtmkmbbjgepcioaaGreatDoorSA03
import Derived.Test.YtmkmbbjgepcioaaGreatDoorSAcCdc1
import Derived.DeepKeys4
namespace Go.Proofs.YtmkmbbjgepcioaaGreatDoor
open Go.RowKit Go.WideMaps Go.Maps
theorem ziS (g:List Value→Option (List Lit)) (u:Value→Option Lit) (hg:∀v,g [v]=(u v).map fun x=>[x]):∀cs:List Value,((List.range cs.length).mapM fun i=>g ((cs.drop (i*1)).take 1)).map List.flatten=cs.mapM u
 | []=>rfl
 | c::cs=>by
  have ih:=ziS g u hg cs;rw [List.length_cons,List.range_succ_eq_map,List.mapM_cons,List.mapM_map,List.mapM_cons,←ih];have e:((c::cs).drop (0*1)).take 1=[c]:=rfl;rw [e,hg c];show Option.map List.flatten (((u c).map fun x=>[x]).bind (fun b=>(List.mapM ((fun i=>g (((c::cs).drop (i*1)).take 1)) ∘ Nat.succ) (List.range cs.length)).bind fun bs=>some (b::bs)))=_;have e3:((fun i=>g (((c::cs).drop (i*1)).take 1)) ∘ Nat.succ)=fun i=>g ((cs.drop (i*1)).take 1):=by funext i;simp [Function.comp]
  rw [e3]
  cases u c with
  | none=>rfl
  | some x=>cases List.mapM (fun i=>g ((cs.drop (i*1)).take 1)) (List.range cs.length) with
   | none=>rfl
   | some y=>simp
def zby:Value→Option Lit
 | .int q n=>if q = .u8∧(Lit.int .u8 n).wf=true then some (.int .u8 n) else none
 | _=>none
def litB (b:UInt8):Lit := .int .u8 (b.toNat:Int)
theorem zpP (b:UInt8):(litB b).wf=true:=by
 have:=b.toNat_lt;unfold litB Lit.wf;rw [Bool.and_eq_true,decide_eq_true_eq,decide_eq_true_eq];have e1:IntKind.min .u8=0:=rfl;have e2:IntKind.max .u8=255:=rfl;rw [e1,e2];omega
theorem zjm:∀l:List UInt8,(l.map bv).mapM zby=some (l.map litB)
 | []=>rfl
 | b::l=>by
  have e:zby (bv b)=some (litB b):=if_pos ⟨rfl,zpP b⟩;rw [List.map_cons,List.mapM_cons,zjm l,e];rfl
theorem zoZ {v:Value} {x:Lit} (h:zby v=some x):∃b:UInt8,v=bv b∧x=litB b:=by
 cases v with
 | int q n =>
  unfold zby at h;simp only at h
  split at h
  · rename_i hq
    obtain ⟨rfl,hw⟩:=hq;unfold Lit.wf at hw;rw [Bool.and_eq_true,decide_eq_true_eq,decide_eq_true_eq] at hw;have e1:IntKind.min .u8=0:=rfl;have e2:IntKind.max .u8=255:=rfl;rw [e1,e2] at hw;injection h with h;have hn:((UInt8.ofNat n.toNat).toNat:Int)=n:=by rw [UInt8.toNat_ofNat'];omega
    exact ⟨UInt8.ofNat n.toNat,by unfold bv;rw [hn],by unfold litB;rw [hn,h]⟩
  · cases h
 | _=>cases h
theorem zjX:∀{cs:List Value} {ls:List Lit},cs.mapM zby=some ls→∃l:List UInt8,cs=l.map bv∧ls=l.map litB
 | [],ls,h=>by
  rw [List.mapM_nil] at h;injection h with h
  exact ⟨[],rfl,h.symm⟩
 | c::cs,ls,h=>by
  rw [List.mapM_cons] at h
  cases hc:zby c with
  | none=>rw [hc] at h;cases h
  | some x =>
   cases hr:cs.mapM zby with
   | none=>rw [hc,hr] at h;cases h
   | some y =>
    rw [hc,hr] at h;obtain ⟨b,rfl,rfl⟩:=zoZ hc;obtain ⟨l,rfl,rfl⟩:=zjX hr;injection h with h;exact ⟨b::l,rfl,h.symm⟩
section
variable {P:Program} {t e:TypeId}
theorem zrf (hu:P.underlying e=some (.int .u8)) (d:Nat) (v:Value):P.keyLits (d+1) e [v]=(zby v).map fun x=>[x]:=by
 unfold Program.keyLits;simp only [hu]
 unfold zby;cases v <;> first|rfl|(simp only;split <;> rfl)
theorem zjC (hi:P.underlying t=some (.array 32 e)) (hu:P.underlying e=some (.int .u8)) (ct:P.cellsOf t=32) (ce:P.cellsOf e=1) (d:Nat) (cs:List Value):P.keyLits (d+1+1) t cs=if cs.length=32 then cs.mapM zby else none:=by
 conv=>lhs;unfold Program.keyLits
 simp only [hi,ct,ce]
 split
 · rename_i h
   rw [←ziS (P.keyLits (d+1) e) zby (zrf hu d) cs,h]
 · rfl
theorem zrF (hi:P.underlying t=some (.array 32 e)) (hu:P.underlying e=some (.int .u8)) (ct:P.cellsOf t=32) (ce:P.cellsOf e=1) (hk:P.keyType t=true) (hs:∃m,P.types.size=m+1) (l:List UInt8) (hl:l.length=32) :keyOf P t (.agg (l.map bv).toArray)=some (.string (keyBytes (l.map litB))):=by
 obtain ⟨m,hm⟩:=hs;unfold keyOf;simp only [hi]
 rw [if_pos (by rw [hk];unfold Value.formed;simp only [hi,ct];simp [hl]),hm];show Option.map _ (P.keyLits (m+1+1) t (l.map bv))=_;rw [zjC hi hu ct ce,if_pos (by rw [List.length_map,hl]),zjm];rfl
theorem zua (hi:P.underlying t=some (.array 32 e)) (hu:P.underlying e=some (.int .u8)) (ct:P.cellsOf t=32) (ce:P.cellsOf e=1) (hs:∃m,P.types.size=m+1) {v:Value} {kl:Lit} (h:keyOf P t v=some kl):∃l:List UInt8,l.length=32∧v = .agg (l.map bv).toArray∧kl = .string (keyBytes (l.map litB)):=by
 obtain ⟨m,hm⟩:=hs;unfold keyOf at h;simp only [hi] at h
 split at h
 · rename_i hf
   rw [Bool.and_eq_true] at hf;have hf2:=hf.2;unfold Value.formed at hf2;simp only [hi] at hf2
   split at hf2
   · rename_i cs
     rw [hm] at h;have h5:Option.map (fun ls=>Lit.string (keyBytes ls)) (P.keyLits (m+1+1) t cs.toList)=some kl:=h;rw [zjC hi hu ct ce] at h5
     split at h5
     · rename_i hl
       cases hr:cs.toList.mapM zby with
       | none=>rw [hr] at h5;cases h5
       | some y =>
        rw [hr] at h5;obtain ⟨l,e1,rfl⟩:=zjX hr;injection h5 with h5;refine ⟨l,by rw [e1,List.length_map] at hl;exact hl,?_,h5.symm⟩;rw [←e1]
     · cases h5
   · cases hf2
   · cases hf2
 · cases h
end
def keyI (s:Id):Lit := .string (keyBytes (s.1.map litB))
theorem zgd (s:Id):WideAt.IsKeyLit (keyI s):=trivial
theorem zcn:Keyed Tryz.prog 33:=Keyed.of_law (deep_law_laid (by kernel_rfl) (m:=3) (by omega) (of_decide_eq_true (by kernel_rfl)) (by kernel_rfl) (by kernel_rfl))
theorem zkP:Tryz.prog.cellsOf 33=32:=by kernel_rfl
theorem ziA:Tryz.prog.cellsOf 5=1:=by kernel_rfl
theorem zoc:Tryz.prog.keyType 33=true:=by kernel_rfl
theorem zid:∃m,Tryz.prog.types.size=m+1:=by
 have h:(0:Nat)<Tryz.prog.types.size:=of_decide_eq_true (by kernel_rfl);exact ⟨Tryz.prog.types.size-1,by omega⟩
theorem zdg (s:Id):keyOf Tryz.prog 33 (idV s)=some (keyI s) :=
 zrF Tryz.underlying33 Tryz.underlying5 zkP ziA zoc zid s.1 s.2
theorem zsW {x y:UInt8} (h:bv x=bv y):x=y:=by
 unfold bv at h;injection h with _ h;exact UInt8.toNat_inj.1 (Int.ofNat.inj h)
theorem zqg {s t:Id} (h:idV s=idV t):s=t:=by
 unfold idV idC at h;injection h with h;have h:=congrArg Array.toList h;simp only [idL] at h;exact Subtype.ext ((List.map_inj_right fun _ _=>zsW).1 h)
theorem zfm {s t:Id} (h:keyI s=keyI t):s=t:=zqg (zcn.inj (zdg s) (h▸zdg t))
theorem zeJ {v:Value} {kl:Lit} (h:keyOf Tryz.prog 33 v=some kl):∃s,v=idV s∧kl=keyI s:=by
 obtain ⟨l,hl,rfl,rfl⟩:=zua Tryz.underlying33 Tryz.underlying5 zkP ziA zid h;exact ⟨⟨l,hl⟩,rfl,rfl⟩
abbrev Mi:=Id→Option Value
def zfi:Mi:=fun _=>none
def iput (f:Mi) (s:Id) (v:Value):Mi:=fun t=>if t=s then some v else f t
def DatI (D:DataW Value) (f:Mi):Prop:=Tidy D∧∀s,(f s=none→has D (keyI s)=false)∧∀v,f s=some v→has D (keyI s)=true∧∀z,D.atKey (keyI s) z = .held v
def VI (w:World) (b n:Nat) (f:Mi):Prop:=∃D,w.ownsMap Tryz.prog 33 zak b n D∧Maps.size D=n∧DatI D f
def VIR (w:World) (b r n:Nat) (f:Mi) (left:Id→Bool) (cnt:Nat):Prop:=∃D L,w.ranges Tryz.prog 33 zak b r n D L cnt∧Maps.size D=n∧DatI D f∧(∀s,L (keyI s)=left s)∧∀kl,L kl=true→∃s,kl=keyI s
section
variable {w w':World} {b n:Nat} {f:Mi}
theorem DatI.has {D:DataW Value} (h:DatI D f) (s:Id):has D (keyI s)=(f s).isSome:=by
 obtain ⟨h1,h2⟩:=h.2 s
 cases hf:f s with
 | none=>rw [h1 hf];rfl
 | some v=>rw [(h2 v hf).1];rfl
theorem DatI.at_ {D:DataW Value} (h:DatI D f) (s:Id) (z:Value):D.atKey (keyI s) (.held z) = .held ((f s).getD z):=by
 obtain ⟨h1,h2⟩:=h.2 s
 cases hf:f s with
 | none=>rw [atKey_of_not_has (h1 hf)];rfl
 | some v=>rw [(h2 v hf).2];rfl
theorem DatI.put {D:DataW Value} (h:DatI D f) (s:Id) (v:Value):DatI (D.put (keyI s) (.held v)) (iput f s v):=by
 refine ⟨h.1.put (zgd s) _,fun t=>?_⟩;unfold iput;by_cases e:t=s
 · subst e;rw [if_pos rfl];refine ⟨fun q=>by simp at q,fun u hu=>?_⟩;have hu:=Option.some.inj hu;subst hu;exact ⟨has_put_same h.1.isMap (zgd t) _,fun z=>atKey_put_same h.1.isMap (zgd t) _ z⟩
 · rw [if_neg e];have hne:keyI t≠keyI s:=fun q=>e (zfm q);obtain ⟨h1,h2⟩:=h.2 t;exact ⟨fun q=>by rw [has_put_other hne];exact h1 q,fun u hu=>⟨by rw [has_put_other hne];exact (h2 u hu).1,fun z=>by rw [atKey_put_other hne];exact (h2 u hu).2 z⟩⟩
theorem VI.made (w:World):VI (w.alloc (.map #[] 0)) w.heap.size 0 zfi :=
 ⟨.map [],World.ownsMap_made _ _ _ _,rfl,tidy_empty,fun s=>⟨fun _=>by simp [has_eq],fun v h=>by cases h⟩⟩
theorem VI.lt (h:VI w b n f):b<w.heap.size:=by
 obtain ⟨D,h1,_⟩:=h;exact h1.lt
theorem VI.block (h:VI w b n f) (hb:w'.heap[b]? = w.heap[b]?):VI w' b n f:=by
 obtain ⟨D,⟨es,clock,q1,q2⟩,h2⟩:=h;exact ⟨D,⟨es,clock,hb.trans q1,q2⟩,h2⟩
theorem VI.keep {S:Nat→Prop} (h:VI w b n f) (hk:Keep S w w') (hb:¬S b):VI w' b n f:=h.block (hk.block b h.lt hb)
theorem VI.alloc (h:VI w b n f) (o:Obj):VI (w.alloc o) b n f:=h.block (Below.heap_alloc w o b h.lt)
theorem VI.setCell (h:VI w b n f) {p:Addr} (hp:b≠p.block) (u:Value):VI (w.setCell p u) b n f:=h.block (Below.heap_setCell w p u b hp)
theorem VI.drewN (h:VI w b n f) (k:Nat):VI (w.drewN k) b n f:=h
theorem VI.look {t e:TypeId} (h:VI w b n f) (ht:Tryz.prog.underlying t=some (.map 33 e)) {z:Value} (hz:(zeroValue e).run Tryz.prog w = .ok z w) {s:Id} :(Instr.lookup t (.map (some b)) (idV s) false).run Tryz.prog w = .ok ((f s).getD z) w:=by
 obtain ⟨D,h1,h2,h3⟩:=h;obtain ⟨v,ps,hrun,hv⟩:=h1.lookup zcn ht hz (zd := .held z) (zp:=[]) rfl (zdg s);rw [h3.at_] at hv;rw [hrun,(zdB hv).1]
theorem VI.look_ok {t e:TypeId} (h:VI w b n f) (ht:Tryz.prog.underlying t=some (.map 33 e)) {z:Value} (hz:(zeroValue e).run Tryz.prog w = .ok z w) {s:Id} :(Instr.lookup t (.map (some b)) (idV s) true).run Tryz.prog w = .ok (.tuple #[(f s).getD z,.bool (f s).isSome]) w:=by
 obtain ⟨D,h1,h2,h3⟩:=h;obtain ⟨v,ps,hrun,hv⟩:=h1.look_ok zcn ht hz (zd := .held z) (zp:=[]) rfl (zdg s);rw [h3.at_] at hv;rw [hrun,(zdB hv).1,h3.has]
theorem VI.len {t e:TypeId} (h:VI w b n f) (ht:Tryz.prog.underlying t=some (.map 33 e)) (ty:TypeId):(Builtin.len_ #[t] ty #[.map (some b)]).run Tryz.prog w = .ok (.int .i64 (n:Nat)) w:=by
 obtain ⟨D,h1,h2,h3⟩:=h;rw [h1.len ht,h2]
theorem zlA {D:DataW Value} {m:Nat} (h:w.ownsMap Tryz.prog 33 zak b m D):w.ownsMap Tryz.prog 33 zak b (Maps.size D) D:=by
 obtain ⟨es,clock,h1,h2,h3,h4⟩:=h;refine ⟨es,clock,h1,h2,?_,h4⟩;subst h4;simp [Maps.size,length_sorted]
theorem VI.store {t e:TypeId} (h:VI w b n f) (ht:Tryz.prog.underlying t=some (.map 33 e)) (hn:n<maxLen) {s:Id} (v:Value) :∃w',(Instr.mapUpdate t (.map (some b)) (idV s) v).run Tryz.prog w = .ok () w'∧VI w' b (if (f s).isSome then n else n+1) (iput f s v)∧Keep (Only b) w w'∧w'.heap.size=w.heap.size:=by
 obtain ⟨D,h1,h2,h3⟩:=h;obtain ⟨w',hrun,q1,q2⟩:=h1.store zcn ht hn (zdg s) (d := .held v) (ps:=[]) rfl;refine ⟨w',hrun,⟨_,?_,?_,h3.put s v⟩,zci q2.grown,?_⟩
 · have hz:Maps.size (D.put (keyI s) (.held v))=if (f s).isSome then n else n+1:=by rw [size_put h3.1,h3.has,h2]
   rw [←hz];exact zlA q1
 · rw [size_put h3.1,h3.has,h2]
 · obtain ⟨es,clock,es',clock',_,rfl⟩:=q2;simp [ChangeMaps.setBlock]
theorem VIR.owns {r:Nat} {left:Id→Bool} {cnt:Nat} (h:VIR w b r n f left cnt):VI w b n f:=by
 obtain ⟨D,L,h1,h2,h3,_⟩:=h;exact ⟨D,h1.owns,h2,h3⟩
theorem VIR.lt {r:Nat} {left:Id→Bool} {cnt:Nat} (h:VIR w b r n f left cnt):r<w.heap.size:=by
 obtain ⟨D,L,h1,_⟩:=h;exact h1.lt
theorem VIR.ne {r:Nat} {left:Id→Bool} {cnt:Nat} (h:VIR w b r n f left cnt):r≠b:=by
 obtain ⟨D,L,h1,_⟩:=h;exact h1.ne
theorem VIR.left_eq {r:Nat} {left:Id→Bool} {cnt:Nat} (h:VIR w b r n f left cnt):w.rangeLeft b r=cnt:=by
 obtain ⟨D,L,h1,_⟩:=h;exact h1.left_eq
theorem VIR.keep {S:Nat→Prop} {r:Nat} {left:Id→Bool} {cnt:Nat} (h:VIR w b r n f left cnt) (hk:Keep S w w') (hb:¬S b) (hr:¬S r):VIR w' b r n f left cnt:=by
 have h4:=h.owns.lt;have h5:=h.lt;obtain ⟨D,L,⟨es,clock,since,seen,c0,q1,q2,q3,q4,q5,q6⟩,h2,h3⟩:=h;exact ⟨D,L,⟨es,clock,since,seen,c0,(hk.block b h4 hb).trans q1,q2,q3,q4,(hk.block r h5 hr).trans q5,q6⟩,h2,h3⟩
theorem VI.range {t e:TypeId} (h:VI w b n f) (ht:Tryz.prog.underlying t=some (.map 33 e)) :∃w',(Instr.range t (.map (some b))).run Tryz.prog w = .ok (.pointer (some ⟨w.heap.size,0,none⟩)) w'∧VIR w' b w.heap.size n f (fun s=>(f s).isSome) n∧Keep zl w w'∧w'.heap.size=w.heap.size+1:=by
 obtain ⟨D,h1,h2,h3⟩:=h;obtain ⟨w',hrun,q1,q2,q3⟩:=h1.range zcn ht;refine ⟨w',hrun,⟨D,_,by rw [←h2];rw [h2] at q1 ⊢;exact q1,h2,h3,fun s=>h3.has s,fun kl hk=>?_⟩,⟨q2.os,q2.tape,q2.output,q2.size,fun k hk _=>q2.block k hk (by simp)⟩,q3⟩;obtain ⟨es,clock,since,seen,c0,_,F,_,_,_,_,_,_,hx,_⟩:=q1;obtain ⟨x,hx1,rfl⟩:=hx kl hk;have hkk:=fit_keys F _ (List.mem_map.2 ⟨x,hx1,rfl⟩);obtain ⟨v,hv⟩:=hkk;obtain ⟨s,_,hs⟩:=zeJ hv;exact ⟨s,hs⟩
end
theorem zg7 (s t:Id):(keyI s).sameKey (keyI t)=decide (s=t):=by
 by_cases h:s=t
 · subst h;simp [keyI,Lit.sameKey]
 · rw [sameKey_ne (fun q=>h (zfm q)),decide_eq_false h]
theorem VIR.next {w:World} {b r n:Nat} {f:Mi} {left:Id→Bool} {cnt:Nat} (h:VIR w b r n f left cnt) (ty:TypeId) :(cnt=0∧(∀s,left s=false)∧(Instr.next (.pointer (some ⟨r,0,none⟩)) false ty).run Tryz.prog w = .ok (.tuple #[.bool false]) w) ∨∃s v w' cnt',left s=true∧f s=some v∧(Instr.next (.pointer (some ⟨r,0,none⟩)) false ty).run Tryz.prog w = .ok (.tuple #[.bool true,idV s,v]) w' ∧VIR w' b r n f (fun x=>left x&&!decide (x=s)) cnt'∧cnt'<cnt∧Keep (Only r) w w'∧w'.heap.size=w.heap.size∧(Instr.entry (.pointer (some ⟨r,0,none⟩))).run Tryz.prog w' = .ok (.tuple #[idV s,v]) w':=by
 obtain ⟨D,L,h1,h2,h3,h4,h5⟩:=h
 rcases h1.next zcn ty with ⟨q1,q2,q3⟩|⟨key,v,kl,y,w',cnt',q1,q2,q3,q4,q5,q6,q7,q8,q9,q10⟩
 · exact .inl ⟨q1,fun s=>by rw [←h4];exact q2 _,q3⟩
 · obtain ⟨s,rfl,rfl⟩:=zeJ q1;have hy:y=(.held v,[]):=(Option.some.inj q3).symm;subst hy;have hh:=has_true_of_atKey q4;rw [h3.has] at hh;obtain ⟨u,hu⟩:=Option.isSome_iff_exists.1 hh;have:=q4 (.held v);rw [((h3.2 s).2 u hu).2] at this;injection this with this;subst this;refine .inr ⟨s,u,w',cnt',by rw [←h4];exact q2,hu,q5,⟨D,_,q6,h2,h3,fun t=>by simp only [h4,zg7],fun kl hk=>h5 kl (by simp only [Bool.and_eq_true] at hk;exact hk.1)⟩,q7,zci q8,q9,q10⟩
end Go.Proofs.YtmkmbbjgepcioaaGreatDoor
