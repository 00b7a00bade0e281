/- Plain: three texts are merged: partners, chunks, what they are written as. No statement of the seat is proved here. -/
import Derived.WalkKit
import Derived.WalkSpells
import Derived.WalkLawsBesides
import Derived.Lib.Hide
import Derived.Deep.AppendLies
import Derived.Deep.Draws
import Derived.Maps.AppendAt
import Derived.Deep.RegionLaw
namespace Go.Proofs.YtmkmbbjgepcioaaGreatDoor
section
open Go.RowKit
def Blk (w:World) (g:Nat) (t:TypeId) (cs:Array Value):Prop:=w.heap[g]? = some (.cells cs t (0,0))
structure Keep (S:Nat→Prop) (w w':World):Prop where
 os:w'.os=w.os
 tape:w'.tape=w.tape
 output:w'.output=w.output
 size:w.heap.size≤w'.heap.size
 block:∀k,k<w.heap.size→¬S k→w'.heap[k]? = w.heap[k]?
def zl:Nat→Prop:=fun _=>False
def Only (g:Nat):Nat→Prop:=fun k=>k=g
section
variable {w w':World} {g:Nat} {t:TypeId} {cs:Array Value}
theorem Blk.lt (h:Blk w g t cs):g<w.heap.size:=by
 rcases Nat.lt_or_ge g w.heap.size with hlt|hge
 · exact hlt
 · unfold Blk at h;rw [Array.getElem?_eq_none hge] at h;cases h
theorem Blk.cell (h:Blk w g t cs) (i:Nat):w.cell? ⟨g,i,none⟩=cs[i]?:=cell_of_row w g i cs t (0,0) h
theorem Blk.frozen (h:Blk w g t cs) (i:Nat):w.frozen? ⟨g,i,none⟩=false:=by
 unfold Blk at h;simp [World.frozen?,h]
theorem Blk.new (w:World) (t:TypeId) (cs:Array Value):Blk (w.alloc (.cells cs t)) w.heap.size t cs:=heap_alloc_new w _
theorem Blk.drew (h:Blk w g t cs):Blk w.drew g t cs:=h
theorem Blk.drewN (h:Blk w g t cs) (n:Nat):Blk (w.drewN n) g t cs:=h
theorem Blk.alloc (h:Blk w g t cs) (o:Obj):Blk (w.alloc o) g t cs:=(Below.heap_alloc w o g h.lt).trans h
theorem Blk.set_ (h:Blk w g t cs) (i:Nat) (u:Value):Blk (w.setCell ⟨g,i,none⟩ u) g t (cs.setIfInBounds i u):=by
 unfold Blk at h ⊢;simp [World.setCell,Array.getElem?_modify,h]
theorem Blk.far (h:Blk w g t cs) {p:Addr} (hp:g≠p.block) (u:Value):Blk (w.setCell p u) g t cs:=(Below.heap_setCell w p u g hp).trans h
theorem Blk.row (h:Blk w g t cs) (cs':Array Value):Blk (w.setRow g cs') g t cs':=setRow_heap w g cs cs' t (0,0) h
theorem Blk.below {B:Nat} (h:Blk w g t cs) (hb:Below B w w') (hg:g<B):Blk w' g t cs:=(hb.block g hg).trans h
theorem Blk.keep {S:Nat→Prop} (h:Blk w g t cs) (hk:Keep S w w') (hg:¬S g):Blk w' g t cs:=(hk.block g h.lt hg).trans h
theorem Blk.ne_ {g':Nat} {t':TypeId} {cs':Array Value} (h:Blk w g t cs) (h':Blk w g' t' cs') (hne:t≠t'):g≠g':=by
 rintro rfl;unfold Blk at h h';rw [h] at h';injection h' with h';injection h' with _ ht;exact hne ht
end
section
variable {S S':Nat→Prop} {a w w' b c:World}
theorem Keep.refl (S:Nat→Prop) (w:World):Keep S w w:=⟨rfl,rfl,rfl,Nat.le_refl _,fun _ _ _=>rfl⟩
theorem Keep.trans (h:Keep S a b) (k:Keep S b c):Keep S a c :=
 ⟨k.os.trans h.os,k.tape.trans h.tape,k.output.trans h.output,Nat.le_trans h.size k.size,fun i hi hn=>(k.block i (Nat.lt_of_lt_of_le hi h.size) hn).trans (h.block i hi hn)⟩
theorem Keep.then_ (h:Keep S a b) (k:Keep S' b c) (hs:∀i,i<a.heap.size→S' i→S i):Keep S a c :=
 ⟨k.os.trans h.os,k.tape.trans h.tape,k.output.trans h.output,Nat.le_trans h.size k.size,fun i hi hn=>(k.block i (Nat.lt_of_lt_of_le hi h.size) (fun q=>hn (hs i hi q))).trans (h.block i hi hn)⟩
theorem Keep.mono (h:Keep S a b) (hs:∀i,i<a.heap.size→S i→S' i):Keep S' a b :=
 ⟨h.os,h.tape,h.output,h.size,fun i hi hn=>h.block i hi (fun q=>hn (hs i hi q))⟩
theorem Keep.drew (h:Keep S a w):Keep S a w.drew:=⟨h.os,h.tape,h.output,h.size,h.block⟩
theorem Keep.drewN (h:Keep S a w) (n:Nat):Keep S a (w.drewN n):=⟨h.os,h.tape,h.output,h.size,h.block⟩
theorem Keep.ofDrewN {n:Nat} (h:Keep S (a.drewN n) w):Keep S a w:=⟨h.os,h.tape,h.output,h.size,h.block⟩
theorem Keep.ofNew {o:Obj} (h:Keep (Only a.heap.size) (a.alloc o) w):Keep S a w :=
 ⟨h.os,h.tape,h.output,Nat.le_trans (by simp) h.size,fun i hi _=>(h.block i (by simp;omega) (by unfold Only;omega)).trans (Below.heap_alloc a o i hi)⟩
theorem Keep.alloc (h:Keep S a w) (o:Obj):Keep S a (w.alloc o) :=
 ⟨h.os,h.tape,h.output,Nat.le_trans h.size (by simp),fun i hi hn=>(Below.heap_alloc w o i (Nat.lt_of_lt_of_le hi h.size)).trans (h.block i hi hn)⟩
theorem Keep.setCell (h:Keep S a w) {p:Addr} (hp:S p.block∨a.heap.size≤p.block) (u:Value):Keep S a (w.setCell p u) :=
 ⟨h.os,h.tape,h.output,by simpa [World.setCell] using h.size,fun i hi hn=>(Below.heap_setCell w p u i (by
  rintro rfl
  rcases hp with hp|hp
  · exact hn hp
  · omega)).trans (h.block i hi hn)⟩
theorem Keep.setRow (h:Keep S a w) {g:Nat} (hp:S g∨a.heap.size≤g) (cs:Array Value):Keep S a (w.setRow g cs) :=
 ⟨h.os,h.tape,h.output,by simpa using h.size,fun i hi hn=>(setRow_other w g i cs (by
  rintro rfl
  rcases hp with hp|hp
  · exact hn hp
  · omega)).trans (h.block i hi hn)⟩
theorem Keep.grown {row:Option Nat} (h:Keep S a w) (hg:w.grownBy w' row) (hr:∀g,row=some g→S g∨a.heap.size≤g):Keep S a w' :=
 ⟨hg.os.trans h.os,hg.tape.trans h.tape,hg.output.trans h.output,Nat.le_trans h.size hg.size,fun i hi hn=>(hg.block i (Nat.lt_of_lt_of_le hi h.size) (by
  intro e
  rcases hr i e.symm with q|q
  · exact hn q
  · omega)).trans (h.block i hi hn)⟩
theorem Keep.below {B:Nat} (h:Keep S a w) (hB:B≤a.heap.size) (hs:∀i,i<B→¬S i):Below B a w :=
 ⟨h.os,h.tape,h.output,h.size,fun i hi=>h.block i (Nat.lt_of_lt_of_le hi hB) (hs i hi)⟩
theorem Keep.all (h:Keep zl a w):Below a.heap.size a w:=h.below (Nat.le_refl _) (fun _ _ q=>q)
theorem Keep.cell (h:Keep S a w) {p:Addr} (hp:p.block<a.heap.size) (hn:¬S p.block):w.cell? p=a.cell? p:=World.cell?_of_block (w:=a) (h.block p.block hp hn)
theorem Below.keep_ (h:Below a.heap.size a w) (S:Nat→Prop):Keep S a w:=⟨h.os,h.tape,h.output,h.size,fun i hi _=>h.block i hi⟩
end
theorem zfD (a:Addr) (n:Nat):(a.add n).block=a.block:=by unfold Addr.add;split <;> rfl
theorem zjc (a:Addr) (i j:Nat):(a.add i).add j=a.add (i+j):=by
 unfold Addr.add;by_cases hi:i=0 <;> by_cases hj:j=0 <;> simp [hi,hj,Nat.add_assoc]
theorem zJ (g off j:Nat):(⟨g,off,none⟩:Addr).add j=⟨g,off+j,none⟩:=by unfold Addr.add;split <;> simp_all
def ze (w:World) (B size:Nat) (A:Option Addr) (n:Nat) (xs:List Value):Prop :=
 xs.length=n*size∧(0<n→∃ad,A=some ad∧ad.block<B∧∀j u,xs[j]? = some u→w.cell? (ad.add j)=some u)
section
variable {w w':World} {B B' size n:Nat} {A:Option Addr} {xs:List Value}
theorem ze.none_:ze w B size A 0 []:=⟨by simp,fun h=>absurd h (by omega)⟩
theorem ze.at_ {k:Nat} (h:ze w B 1 A n xs) (hk:k<n):∃ad u,A=some ad∧ad.block<B∧xs[k]? = some u∧w.cell? (ad.add k)=some u:=by
 obtain ⟨ad,e,hb,hc⟩:=h.2 (by omega);have hl:k<xs.length:=by have:=h.1;omega
 exact ⟨ad,xs[k],e,hb,List.getElem?_eq_getElem hl,hc k _ (List.getElem?_eq_getElem hl)⟩
theorem ze.at0 (h:ze w B size A n xs) (hn:0<n) (hs:0<size):∃g off,A=some ⟨g,off,none⟩∧g<B∧∀j u,xs[j]? = some u→w.cell? ⟨g,off+j,none⟩=some u:=by
 obtain ⟨ad,e,hb,hc⟩:=h.2 hn;have hl:0<xs.length:=by rw [h.1];exact Nat.mul_pos hn hs
 have h0:=hc 0 _ (List.getElem?_eq_getElem hl);obtain ⟨g,off,sp⟩:=ad
 cases sp with
 | none =>
  refine ⟨g,off,e,hb,fun j u hj=>?_⟩;rw [←zJ]
  exact hc j u hj
 | some q =>
  exfalso;simp only [Addr.add,World.cell?] at h0
  split at h0
  · rename_i h5
    simp at h0
  · cases h0
theorem ze.keep (h:ze w B size A n xs) (hk:∀p:Addr,p.block<B→w'.cell? p=w.cell? p):ze w' B size A n xs :=
 ⟨h.1,fun hn=>by
  obtain ⟨ad,e,hb,hc⟩:=h.2 hn;exact ⟨ad,e,hb,fun j u hu=>(hk _ (by rw [zfD];exact hb)).trans (hc j u hu)⟩⟩
theorem ze.more (h:ze w B size A n xs) (hB:B≤B'):ze w B' size A n xs :=
 ⟨h.1,fun hn=>by
  obtain ⟨ad,e,hb,hc⟩:=h.2 hn;exact ⟨ad,e,by omega,hc⟩⟩
theorem ze.below (h:ze w B size A n xs) (hb:Below B w w'):ze w' B size A n xs:=h.keep fun _ hp=>hb.cell hp
theorem ze.kept {S:Nat→Prop} (h:ze w B size A n xs) (hk:Keep S w w') (hB:B≤w.heap.size) (hs:∀i,i<B→¬S i):ze w' B size A n xs:=h.below (hk.below hB hs)
theorem ze.drew (h:ze w B size A n xs):ze w.drew B size A n xs:=h
theorem ze.drewN (h:ze w B size A n xs) (k:Nat):ze (w.drewN k) B size A n xs:=h
theorem ze.alloc (h:ze w B size A n xs) (hB:B≤w.heap.size) (o:Obj):ze (w.alloc o) B size A n xs:=h.keep fun p hp=>World.cell?_alloc_lt w o p (by omega)
theorem ze.setCell (h:ze w B size A n xs) {p:Addr} (hB:B≤p.block) (u:Value):ze (w.setCell p u) B size A n xs :=
 h.keep fun q hq=>World.cell?_setCell_other w p q u (fun e=>by subst e;omega)
theorem ze.cut (h:ze w B size A n xs) {k cap:Nat} (hk:k≤n) (hc:n≤cap) :ze w B size (if cap=k then A else A.map (·.add (k*size))) (n-k) (xs.drop (k*size)):=by
 refine ⟨by rw [List.length_drop,h.1,Nat.sub_mul],fun hn=>?_⟩;obtain ⟨ad,rfl,hb,hcell⟩:=h.2 (by omega);rw [if_neg (by omega)];refine ⟨ad.add (k*size),rfl,by rw [zfD];exact hb,fun j u hu=>?_⟩;rw [zjc];exact hcell _ u (by rw [←hu,List.getElem?_drop])
theorem ze.front (h:ze w B size A n xs) {k:Nat} (hk:k≤n):ze w B size A k (xs.take (k*size)):=by
 refine ⟨by rw [List.length_take,h.1];exact Nat.min_eq_left (Nat.mul_le_mul_right _ hk),fun hn=>?_⟩;obtain ⟨ad,rfl,hb,hcell⟩:=h.2 (by omega);refine ⟨ad,rfl,hb,fun j u hu=>hcell j u ?_⟩;rw [List.getElem?_take] at hu
 split at hu
 · exact hu
 · cases hu
theorem ze.of_own {base:Nat} {e:TypeId} {c:Nat} (h:w.ownsRow base e size (.slice A n c) n xs):ze w w.heap.size size A n xs:=by
 refine ⟨h.1,fun hn=>?_⟩;obtain ⟨g,cap,hv,_,hlt⟩:=h.form hn;have hA:A=some ⟨g,0,none⟩:=by injection hv
 subst hA;exact ⟨_,rfl,hlt,h.cells (g:=g) rfl⟩
end
section
variable {P:Program}
theorem zrg {ty:TypeId} {d:TypeDesc} (hu:P.underlying ty=some d) (hd:(match d with|.struct _|.array _ _=>true|_=>false)=true) (w:World):(isAgg ty).run P w = .ok true w:=by
 unfold isAgg;rw [Sem.run_bind,run_underlying hu w];cases d <;> simp_all
theorem zho (w:World) (a:Addr) {ty:TypeId} {d:TypeDesc} (vs:Array Value) (hu:P.underlying ty=some d) (hd:(match d with|.struct _|.array _ _=>true|_=>false)=true)
    (hi:(P.info? ty).map (·.size)=some vs.size) (hc:∀(j:Nat) v,vs.toList[j]? = some v→w.cell? (a.add j)=some v):(loadVar ty a).run P w = .ok (.agg vs) w:=by
 have hl:=run_loadCells_list (P:=P) w a vs.toList hc
 cases hq:P.info? ty with
 | none=>simp [hq] at hi
 | some i =>
  have hs:i.size=vs.size:=by simpa [hq] using hi
  simp only [Array.length_toList,Array.toArray_toList] at hl;simp [loadVar,Sem.run_bind,zrg hu hd,sizeOf,typeInfo,hq,hs,hl]
theorem zaE (w:World) (a:Addr) {ty:TypeId} {d:TypeDesc} (vs:Array Value) (hu:P.underlying ty=some d) (hd:(match d with|.struct _|.array _ _=>true|_=>false)=true)
    (hi:(P.info? ty).map (·.size)=some vs.size) (hc:∀(j:Nat) v,vs.toList[j]? = some v→w.cell? (a.add j)=some v):(Instr.loadAt ty (.pointer (some a))).run P w = .ok (.agg vs) w:=by
 simp [Instr.loadAt,Instr.sureAddr,zho w a vs hu hd hi hc]
theorem zcd {w:World} {g:Nat} {t ty:TypeId} {cs:Array Value} {d:TypeDesc} (h:Blk w g t cs) (off:Nat) (vs:Array Value) (hu:P.underlying ty=some d) (hd:(match d with|.struct _|.array _ _=>true|_=>false)=true)
    (hi:(P.info? ty).map (·.size)=some vs.size) (hv:vs=cs.extract off (off+vs.size)):(Instr.loadAt ty (.pointer (some ⟨g,off,none⟩))).run P w = .ok (.agg vs) w:=by
 refine zaE w _ vs hu hd hi (fun j v hj=>?_);rw [zJ,h.cell,←hj];simp only [Array.getElem?_toList]
 have hlt:j<vs.size:=by
  rcases Nat.lt_or_ge j vs.size with q|q
  · exact q
  · rw [Array.getElem?_toList,Array.getElem?_eq_none q] at hj;cases hj
 conv=>rhs;rw [hv]
 rw [Array.getElem?_extract];simp;intro q;have:=congrArg Array.size hv;simp at this;omega
def spl (cs:Array Value) (off:Nat) (vs:List Value):Array Value:=(cs.toList.take off++vs++cs.toList.drop (off+vs.length)).toArray
theorem zoT {w:World} {g:Nat} {t:TypeId} {cs:Array Value} (hg:Blk w g t cs):w.setRow g cs=w:=by
 have hlt:g<w.heap.size:=hg.lt;have hv:w.heap[g] = .cells cs t (0,0):=(Array.getElem?_eq_some_iff.1 hg).2;unfold World.setRow
 cases w with
 | mk heap tape drawn os output =>
  congr 1
  apply Array.ext
  · simp
  · intro k h1 h2;simp only [Array.getElem_modify]
    split
    · rename_i hk;subst hk;simp at hv;simp [hv]
    · rfl
theorem zhy (g off:Nat) (t:TypeId):∀(vs:List Value) (i:Nat) (cur:Array Value) (w:World),Blk w g t cur→off+i+vs.length≤cur.size→(∀v∈vs,v.oneCell'=true) →(storeCells ⟨g,off,none⟩ vs i).run P w = .ok () (w.setRow g (spl cur (off+i) vs))
 | [],i,cur,w,hg,hl,_=>by
  simp only [storeCells]
  show Result.ok () w=_
  rw [show spl cur (off+i) []=cur from by simp [spl],zoT hg]
 | v::rest,i,cur,w,hg,hl,h1=>by
  have hi:off+i<cur.size:=by simp at hl;omega
  have hcell:w.cell? ⟨g,off+i,none⟩=some cur[off+i]:=by rw [hg.cell];simp [hi]
  have hfro:=hg.frozen (off+i);have hst:(store ((⟨g,off,none⟩:Addr).add i) v).run P w = .ok () (w.setRow g (cur.setIfInBounds (off+i) v)):=by
   rw [zJ,run_store P w _ v _ (h1 v (by simp)),hcell];simp [hfro,setCell_eq_setRow w g (off+i) cur t (0,0) v hg]
  have ih:=zhy g off t rest (i+1) (cur.setIfInBounds (off+i) v) (w.setRow g (cur.setIfInBounds (off+i) v)) (hg.row _) (by simp at hl ⊢;omega) (fun x hx=>h1 x (by simp [hx]));simp only [storeCells,Sem.run_bind,hst,Result.andThen_ok,ih,setRow_setRow]
  congr 2
  unfold spl
  congr 1
  simp only [Array.toList_setIfInBounds,List.length_cons]
  rw [←Nat.add_assoc,List.take_add_one,List.take_set_of_le (Nat.le_refl _),List.getElem?_set_self (by simpa using hi),List.drop_set_of_lt (by omega)];simp [Nat.add_assoc,Nat.add_comm,Nat.add_left_comm]
theorem zdn {w:World} {g:Nat} {t ty:TypeId} {cs vs:Array Value} (h:Blk w g t cs) (off:Nat) (hi:(P.info? ty).map (·.size)=some vs.size) (hl:off+vs.size≤cs.size) (h1:∀v∈vs.toList,v.oneCell'=true) :(Instr.storeAt ty (.pointer (some ⟨g,off,none⟩)) (.agg vs)).run P w = .ok () (w.setRow g (spl cs off vs.toList)):=by
 have:=zhy (P:=P) g off t vs.toList 0 cs w h (by simpa using hl) h1
 cases hq:P.info? ty with
 | none=>simp [hq] at hi
 | some i =>
  have hs:vs.size=i.size:=by simp [hq] at hi;omega
  simp [Instr.storeAt,Instr.sureAddr,storeVar,sizeOf,typeInfo,hq,Value.cells,hs,this]
theorem zhZ (w:World) {e:TypeId} {k:IntKind} (he:P.underlying e=some (.int k)) (cs:Array Value) (i:Nat) (v:Value) (hv:cs[i]? = some v):(part e cs i).run P w = .ok v w:=by
 simp [part,isAgg,run_underlying he,hv]
theorem zr1 (w:World) (d:Nat) {t e:TypeId} {k:IntKind} {i:TypeInfo} {len:Nat} (ht:P.underlying t=some (.array len e)) (he:P.underlying e=some (.int k)) (hi:P.info? e=some i) (hs:i.size=1) (xs ys:List Int) (hx:xs.length=len) (hy:ys.length=len) :(Op.equalIn (d+2) t (.agg (xs.map (Value.int k)).toArray) (.agg (ys.map (Value.int k)).toArray)).run P w = .ok (xs==ys) w:=by
 rw [show d+2=(d+1)+1 from rfl,Op.equalIn];simp only [Sem.run_bind,run_underlying ht,Result.andThen_ok,sizeOf,typeInfo,run_program,hi,Sem.run_pure,hs,Nat.mul_one,Std.Legacy.Range.forIn_eq_forIn_range',Std.Legacy.Range.size,Nat.sub_zero,Nat.add_sub_cancel,Nat.div_one]
 have H:∀(m j:Nat),j+m=len→(forIn (List.range' j m) ((none,()):Option Bool×Unit) (fun i _=>do
     let a ←part e (xs.map (Value.int k)).toArray i
     let b ←part e (ys.map (Value.int k)).toArray i
     let r ←Op.equalIn (d+1) e a b
     if (!r)=true then pure (ForInStep.done (some false,())) else pure (ForInStep.yield (none,())))).run P w = .ok (if (xs.drop j==ys.drop j)=true then (none,()) else (some false,())) w:=by
  intro m
  induction m with
  | zero =>
   intro j hj;have h1:xs.drop j=[]:=List.drop_eq_nil_of_le (by omega);have h2:ys.drop j=[]:=List.drop_eq_nil_of_le (by omega)
   simp [h1,h2]
  | succ m ih =>
   intro j hj;have ih':=ih (j+1) (by omega);have jx:j<xs.length:=by omega
   have jy:j<ys.length:=by omega
   have px:=zhZ (P:=P) w he (xs.map (Value.int k)).toArray j (.int k xs[j]) (by simp [jx]);have py:=zhZ (P:=P) w he (ys.map (Value.int k)).toArray j (.int k ys[j]) (by simp [jy]);have dx:xs.drop j=xs[j]::xs.drop (j+1):=List.drop_eq_getElem_cons jx;have dy:ys.drop j=ys[j]::ys.drop (j+1):=List.drop_eq_getElem_cons jy;rw [List.range'_succ,List.forIn_cons];simp only [Sem.run_bind,px,py,Result.andThen_ok,run_equalIn_int w d e k k xs[j] ys[j] he]
   by_cases hq:xs[j]=ys[j]
   · have hb:(xs[j]==ys[j])=true:=by simpa using hq
     simp only [hb,Bool.not_true,Bool.false_eq_true,if_false,Sem.run_pure,Result.andThen_ok]
     rw [ih',dx,dy,List.cons_beq_cons,hb,Bool.true_and]
   · have hb:(xs[j]==ys[j])=false:=by simpa using hq
     simp only [hb,Bool.not_false,if_true,Sem.run_pure,Result.andThen_ok]
     rw [dx,dy,List.cons_beq_cons,hb,Bool.false_and,if_neg (by decide)]
 rw [H len 0 (by omega)];simp only [List.drop_zero,Result.andThen_ok]
 by_cases hq:xs=ys
 · subst hq;simp
 · have:(xs==ys)=false:=by simpa using hq
   simp [this]
variable {ops:Array Oper} {rest:List Oper} {o:Oper} {a:Act} {w:World} {Q:Exit→Act→World→Prop}
theorem zad (hgd:o.guard=none) {ty:TypeId} {x:Operand} (ho:o.op = .load ty x) {ad:Addr} {v:Value} (hx:a.eval x = .pointer (some ad)) (hrun:(Instr.loadAt ty (.pointer (some ad))).run P w = .ok v w) (h:wpList P ops Q rest (a.put o.dst v) w):wpList P ops Q (o::rest) a w :=
 wpList_plain hgd fun _ hK=>by
  unfold Oper.wp execOp;simp only [ho,hx,Sem.run_bind,hrun,Result.andThen_ok,Sem.run_pure]
  exact hK _ _ h
theorem zl5 (hgd:o.guard=none) {ty:TypeId} {x y:Operand} (ho:o.op = .store ty x y) {ad:Addr} {v:Value} {w':World} (hx:a.eval x = .pointer (some ad)) (hy:a.eval y=v) (hrun:(Instr.storeAt ty (.pointer (some ad)) v).run P w = .ok () w') (h:wpList P ops Q rest (a.put o.dst undef) w'):wpList P ops Q (o::rest) a w :=
 wpList_plain hgd fun _ hK=>by
  unfold Oper.wp execOp;simp only [ho,hx,hy,Sem.run_bind,hrun,Result.andThen_ok,Sem.run_pure]
  exact hK _ _ h
theorem zdF {cs:Array Value} {vs:Array Value} (h:cs.size=vs.size):spl cs 0 vs.toList=vs:=by
 apply Array.ext';simp [spl];omega
theorem zO (hgd:o.guard=none) {ty:TypeId} {x y:Operand} (ho:o.op = .store ty x y) {q:Nat} {t:TypeId} {cs vs:Array Value} (hx:a.eval x = .pointer (some ⟨q,0,none⟩)) (hy:a.eval y = .agg vs) (hb:Blk w q t cs) (hs:cs.size=vs.size) (hi:(P.info? ty).map (·.size)=some vs.size) (h1:∀v∈vs.toList,v.oneCell'=true) (h:∀w',Blk w' q t vs→Keep (Only q) w w'→w'.heap.size=w.heap.size→wpList P ops Q rest (a.put o.dst undef) w'):wpList P ops Q (o::rest) a w:=by
 refine zl5 hgd ho hx hy (zdn (P:=P) hb 0 hi (by omega) h1) (h _ ?_ ?_ ?_)
 · rw [zdF hs];exact hb.row vs
 · exact Keep.setRow (Keep.refl (Only q) w) (.inl rfl) _
 · simp
theorem znU (hgd:o.guard=none) {t:TypeId} {parts:Array (Nat×Operand)} (ho:o.op = .build t parts) {vs:Array (Nat×Value)} {v:Value} (hp:parts.toList.map (fun p=>(p.1,a.eval p.2))=vs.toList) (hrun:(Instr.build t vs).run P w = .ok v w) (h:wpList P ops Q rest (a.put o.dst v) w):wpList P ops Q (o::rest) a w :=
 wpList_plain hgd fun _ hK=>by
  have hq:(parts.map fun (i,x)=>(i,a.eval x))=vs:=by
   apply Array.ext';rw [←hp,Array.toList_map]
  unfold Oper.wp execOp;simp only [ho,hq,Sem.run_bind,hrun,Result.andThen_ok,Sem.run_pure]
  exact hK _ _ h
theorem zC (hgd:o.guard=none) {t:TypeId} {x:Operand} (ho:o.op = .box t x) {cs:Array Value} (hx:a.eval x = .agg cs) (h:wpList P ops Q rest (a.put o.dst (.pointer (some ⟨w.heap.size,0,none⟩))) (w.alloc (.cells cs t))):wpList P ops Q (o::rest) a w :=
 wpList_plain hgd fun _ hK=>by
  unfold Oper.wp execOp;simp only [ho,hx,Instr.box,newVar,newRow,newObj,Value.cells,Sem.run_bind,Sem.run_pure]
  exact hK _ _ h
theorem zcr (hgd:o.guard=none) {t:TypeId} (ho:o.op = .alloc t) {cs:Array Value} (hz:(zeroValue t).run P w = .ok (.agg cs) w) (h:wpList P ops Q rest (a.put o.dst (.pointer (some ⟨w.heap.size,0,none⟩))) (w.alloc (.cells cs t))):wpList P ops Q (o::rest) a w :=
 wpList_plain hgd fun _ hK=>by
  unfold Oper.wp execOp;simp only [ho,Instr.alloc,newVar,newRow,newObj,Value.cells,Sem.run_bind,Sem.run_pure,hz,Result.andThen_ok]
  exact hK _ _ h
theorem zlJ (hgd:o.guard=none) {op:BinOp} {t t':TypeId} {x y:Operand} (ho:o.op = .binOp op t x y t') {u v r:Value} (hx:a.eval x=u) (hy:a.eval y=v) (hg:(eqGuard op t x y u v).run P w = .ok () w) (hrun:(binOp op t u v).run P w = .ok r w) (h:wpList P ops Q rest (a.put o.dst r) w):wpList P ops Q (o::rest) a w :=
 wpList_plain hgd fun _ hK=>by
  unfold Oper.wp execOp;simp only [ho,hx,hy,Sem.run_bind,hg,hrun,Result.andThen_ok,Sem.run_pure]
  exact hK _ _ h
end
end
section
section
variable {α:Type} [DecidableEq α]
def lcs:List α→List α→Nat
 | [],_=>0
 | _::_,[]=>0
 | x::l,y::m=>if x=y then lcs l m+1 else max (lcs l (y::m)) (lcs (x::l) m)
termination_by l m=>l.length+m.length
theorem zcz (m:List α):lcs [] m=0:=by rw [lcs]
theorem zb8 (l:List α):lcs l []=0:=by cases l <;> rw [lcs]
theorem zdr (x y:α) (l m:List α):lcs (x::l) (y::m)=if x=y then lcs l m+1 else max (lcs l (y::m)) (lcs (x::l) m):=by rw [lcs]
theorem zdq:∀(n:Nat) (l m:List α),l.length+m.length≤n →(∀y,lcs l m≤lcs l (y::m)∧lcs l (y::m)≤lcs l m+1)∧(∀x,lcs l m≤lcs (x::l) m∧lcs (x::l) m≤lcs l m+1)
 | 0,l,m,h=>by
  have h1:l=[]:=List.eq_nil_of_length_eq_zero (by omega);have h2:m=[]:=List.eq_nil_of_length_eq_zero (by omega);subst h1 h2
  exact ⟨fun y=>by rw [zcz,zcz];omega,fun x=>by rw [zb8,zb8];omega⟩
 | n+1,l,m,h=>by
  constructor
  · intro y
    cases l with
    | nil=>rw [zcz,zcz];omega
    | cons x l =>
     have i1:=(zdq n l m (by simp at h;omega)).1 y;have i2:=(zdq n l m (by simp at h;omega)).2 x;rw [zdr]
     split
     · omega
     · have i3:=i1;omega
  · intro x
    cases m with
    | nil=>rw [zb8,zb8];omega
    | cons y m =>
     have i1:=(zdq n l m (by simp at h;omega)).1 y;have i2:=(zdq n l m (by simp at h;omega)).2 x;rw [zdr]
     split
     · omega
     · omega
theorem zo7 (l m:List α) (y:α):lcs l m≤lcs l (y::m)∧lcs l (y::m)≤lcs l m+1:=(zdq _ l m (Nat.le_refl _)).1 y
theorem zjP (l m:List α) (x:α):lcs l m≤lcs (x::l) m∧lcs (x::l) m≤lcs l m+1:=(zdq _ l m (Nat.le_refl _)).2 x
theorem zeC:∀(l m:List α),lcs l m≤l.length
 | [],m=>by rw [zcz];exact Nat.zero_le _
 | x::l,m=>by
  have h1:=zeC l m;have h2:=zjP l m x;rw [List.length_cons];omega
def zt:List α→List α→List Nat
 | [],[]=>[]
 | [],_::m=>2::zt [] m
 | _::l,[]=>1::zt l []
 | x::l,y::m=>if x=y then 0::zt l m else if lcs l (y::m)=lcs (x::l) (y::m) then 1::zt l (y::m) else 2::zt (x::l) m
termination_by l m=>l.length+m.length
end
end
section
section
variable {α β:Type} [DecidableEq α] [DecidableEq β]
theorem zdX (f:α→β):∀(n:Nat) (l m:List α),l.length+m.length≤n→(∀x∈l,∀y∈m,f x=f y→x=y)→lcs (l.map f) (m.map f)=lcs l m
 | 0,l,m,h,_=>by
  have h1:l=[]:=List.eq_nil_of_length_eq_zero (by omega);subst h1
  simp [zcz]
 | n+1,[],m,_,_=>by simp [zcz]
 | n+1,x::l,[],_,_=>by simp [zb8]
 | n+1,x::l,y::m,h,hi=>by
  simp only [List.length_cons] at h;have e1:=zdX f n l m (by omega) (fun a ha b hb=>hi a (by simp [ha]) b (by simp [hb]));have e2:=zdX f n l (y::m) (by simp;omega) (fun a ha b hb=>hi a (by simp [ha]) b hb);have e3:=zdX f n (x::l) m (by simp;omega) (fun a ha b hb=>hi a ha b (by simp [hb]));simp only [List.map_cons] at e2 e3 ⊢;rw [zdr,zdr,e1,e2,e3];by_cases hxy:x=y
  · subst hxy;simp
  · have:f x≠f y:=fun q=>hxy (hi x (by simp) y (by simp) q);simp [hxy,this]
theorem zdP (f:α→β):∀(n:Nat) (l m:List α),l.length+m.length≤n→(∀x∈l,∀y∈m,f x=f y→x=y)→zt (l.map f) (m.map f)=zt l m
 | _,[],[],_,_=>by simp [zt]
 | n,[],y::m,h,hi=>by
  have e:=zdP f (n-1) [] m (by simp at h ⊢;omega) (by simp);simp only [List.map_nil,List.map_cons] at e ⊢
  rw [zt,zt,e]
 | n,x::l,[],h,hi=>by
  have e:=zdP f (n-1) l [] (by simp at h ⊢;omega) (by simp);simp only [List.map_nil,List.map_cons] at e ⊢
  rw [zt,zt,e]
 | n,x::l,y::m,h,hi=>by
  simp only [List.length_cons] at h;have e1:=zdP f (n-1) l m (by omega) (fun a ha b hb=>hi a (by simp [ha]) b (by simp [hb]));have e2:=zdP f (n-1) l (y::m) (by simp;omega) (fun a ha b hb=>hi a (by simp [ha]) b hb);have e3:=zdP f (n-1) (x::l) m (by simp;omega) (fun a ha b hb=>hi a ha b (by simp [hb]));have l2:=zdX f _ l (y::m) (Nat.le_refl _) (fun a ha b hb=>hi a (by simp [ha]) b hb);have l3:=zdX f _ (x::l) (y::m) (Nat.le_refl _) hi;simp only [List.map_cons] at e2 e3 l2 l3 ⊢;rw [zt,zt,e1,e2,e3,l2,l3];by_cases hxy:x=y
  · subst hxy;simp
  · have:f x≠f y:=fun q=>hxy (hi x (by simp) y (by simp) q);simp [hxy,this]
termination_by n=>n
decreasing_by all_goals (simp at h;omega)
end
structure EdD where
 op:Nat
 n:Nat
def addP:List EdD→Nat→List EdD
 | [],op=>[⟨op,1⟩]
 | [e],op=>if e.op=op then [⟨e.op,e.n+1⟩] else [e,⟨op,1⟩]
 | e::f::l,op=>e::addP (f::l) op
theorem zcY (l:List EdD) (e:EdD) (op:Nat):addP (l++[e]) op=if e.op=op then l++[⟨e.op,e.n+1⟩] else l++[e]++[⟨op,1⟩]:=by
 induction l with
 | nil=>simp [addP]
 | cons x l ih =>
  cases l with
  | nil =>
   simp only [List.cons_append,List.nil_append,addP]
   split <;> rfl
  | cons y l =>
   simp only [List.cons_append,addP] at ih ⊢;rw [ih]
   split <;> simp
def zaX (s:List Nat):List EdD:=s.foldl addP []
theorem zk3 (s:List Nat) (op:Nat):zaX (s++[op])=addP (zaX s) op:=by simp [zaX,List.foldl_append]
def zas (l:List EdD):Nat:=(l.map fun e=>if e.op=2 then 0 else e.n).sum
def z6 (l:List EdD):Nat:=(l.map fun e=>if e.op=1 then 0 else e.n).sum
def altern:List EdD→Prop
 | []=>True
 | [e]=>1≤e.n∧e.op≤2
 | e::f::l=>1≤e.n∧e.op≤2∧e.op≠f.op∧altern (f::l)
theorem ze2 (l m:List EdD):zas (l++m)=zas l+zas m:=by simp [zas]
theorem zeT (l m:List EdD):z6 (l++m)=z6 l+z6 m:=by simp [z6]
theorem zt5 (l:List EdD) (op:Nat):zas (addP l op)=zas l+if op=2 then 0 else 1:=by
 rcases List.eq_nil_or_concat l with rfl|⟨l',e,rfl⟩
 · simp [addP,zas]
 · rw [List.concat_eq_append,zcY]
   split
   · rename_i h
     subst h;rw [ze2,ze2];simp only [zas,List.map_cons,List.map_nil,List.sum_cons,List.sum_nil]
     split <;> omega
   · rw [ze2];simp [zas]
theorem zsn (l:List EdD) (op:Nat):z6 (addP l op)=z6 l+if op=1 then 0 else 1:=by
 rcases List.eq_nil_or_concat l with rfl|⟨l',e,rfl⟩
 · simp [addP,z6]
 · rw [List.concat_eq_append,zcY]
   split
   · rename_i h
     subst h;rw [zeT,zeT];simp only [z6,List.map_cons,List.map_nil,List.sum_cons,List.sum_nil]
     split <;> omega
   · rw [zeT];simp [z6]
theorem ziL (l:List EdD) (e f:EdD) (h:altern (l++[e])) (hf:1≤f.n∧f.op≤2):(e.op=f.op→altern (l++[f]))∧(e.op≠f.op→altern (l++[e]++[f])):=by
 induction l with
 | nil =>
  simp only [List.nil_append,altern,List.cons_append] at h ⊢
  exact ⟨fun _=>hf,fun q=>⟨h.1,h.2,q,hf⟩⟩
 | cons x l ih =>
  cases l with
  | nil =>
   simp only [List.nil_append,List.cons_append,altern] at h ih ⊢
   exact ⟨fun q=>⟨h.1,h.2.1,q▸h.2.2.1,hf⟩,fun q=>⟨h.1,h.2.1,h.2.2.1,h.2.2.2.1,h.2.2.2.2,q,hf⟩⟩
  | cons y l =>
   simp only [List.cons_append,altern] at h ih ⊢;have ih:=ih h.2.2.2;exact ⟨fun q=>⟨h.1,h.2.1,h.2.2.1,ih.1 q⟩,fun q=>⟨h.1,h.2.1,h.2.2.1,ih.2 q⟩⟩
theorem zrM (l:List EdD) (op:Nat) (h:altern l) (ho:op≤2):altern (addP l op):=by
 rcases List.eq_nil_or_concat l with rfl|⟨l',e,rfl⟩
 · simp only [addP,altern]
   exact ⟨Nat.le_refl _,ho⟩
 · rw [List.concat_eq_append] at h ⊢;rw [zcY]
   split
   · rename_i q
     exact (ziL l' e ⟨e.op,e.n+1⟩ h ⟨by simp,by rw [q];exact ho⟩).1 rfl
   · rename_i q
     exact (ziL l' e ⟨op,1⟩ h ⟨by simp,ho⟩).2 q
theorem znI (l:List EdD) (op:Nat):(addP l op).length≤l.length+1:=by
 rcases List.eq_nil_or_concat l with rfl|⟨l',e,rfl⟩
 · simp [addP]
 · rw [List.concat_eq_append,zcY]
   split <;> simp
theorem zgy (s:List Nat) (hs:∀x∈s,x≤2):altern (zaX s)∧zas (zaX s)=(s.filter (· ≠ 2)).length∧z6 (zaX s)=(s.filter (· ≠ 1)).length∧(zaX s).length≤s.length:=by
 rcases List.eq_nil_or_concat s with rfl|⟨s',x,rfl⟩
 · exact ⟨trivial,rfl,rfl,Nat.le_refl _⟩
 · rw [List.concat_eq_append] at hs ⊢;have ih:=zgy s' (fun y hy=>hs y (by simp [hy]));have hx:=hs x (by simp);have hl:=znI (zaX s') x;rw [zk3]
   refine ⟨zrM _ _ ih.1 hx,?_,?_,by simp;omega⟩
   · rw [zt5,ih.2.1,List.filter_append,List.length_append];by_cases q:x=2 <;> simp [q]
   · rw [zsn,ih.2.2.1,List.filter_append,List.length_append];by_cases q:x=1 <;> simp [q]
termination_by s.length
decreasing_by subst_vars;simp
section
variable {α:Type} [DecidableEq α]
theorem zc3:∀(n:Nat) (l m:List α),l.length+m.length≤n→(∀x∈zt l m,x≤2)∧((zt l m).filter (· ≠ 2)).length=l.length∧((zt l m).filter (· ≠ 1)).length=m.length∧(zt l m).length≤l.length+m.length
 | _,[],[],_=>by simp [zt]
 | n,[],y::m,h=>by
  have e:=zc3 (n-1) ([]:List α) m (by simp at h ⊢;omega);rw [zt];simp at e h ⊢
  exact ⟨e.1,e.2.1,e.2.2.1,e.2.2.2⟩
 | n,x::l,[],h=>by
  have e:=zc3 (n-1) l ([]:List α) (by simp at h ⊢;omega);rw [zt];simp at e h ⊢
  exact ⟨e.1,e.2.1,e.2.2.1,e.2.2.2⟩
 | n,x::l,y::m,h=>by
  simp only [List.length_cons] at h;have e1:=zc3 (n-1) l m (by omega);have e2:=zc3 (n-1) l (y::m) (by simp;omega);have e3:=zc3 (n-1) (x::l) m (by simp;omega);rw [zt];simp at e1 e2 e3
  split
  · simp;exact ⟨e1.1,e1.2.1,e1.2.2.1,by omega⟩
  · split
    · simp;exact ⟨e2.1,e2.2.1,e2.2.2.1,by omega⟩
    · simp;exact ⟨e3.1,e3.2.1,e3.2.2.1,by omega⟩
termination_by n=>n
decreasing_by all_goals (simp at h;omega)
def zx (a b:List α):List EdD:=zaX (zt a b)
theorem zd7 (a b:List α):altern (zx a b)∧zas (zx a b)=a.length∧z6 (zx a b)=b.length∧(zx a b).length≤a.length+b.length:=by
 have h1:=zc3 _ a b (Nat.le_refl _);have h2:=zgy (zt a b) h1.1;exact ⟨h2.1,h2.2.1.trans h1.2.1,h2.2.2.1.trans h1.2.2.1,Nat.le_trans h2.2.2.2 h1.2.2.2⟩
end
section
variable (a b:List (List UInt8)) (around:Nat)
end
end
section
section
variable {α:Type} [DecidableEq α]
theorem zdy:∀(n:Nat) (l m:List α),l.length+m.length≤n→∀pre suf,zt l m=pre++0::suf→l[(pre.filter (· ≠ 2)).length]? = m[(pre.filter (· ≠ 1)).length]?
 | _,[],[],_,pre,suf,h=>by simp [zt] at h
 | n,[],y::m,hn,pre,suf,h=>by
  rw [zt] at h
  cases pre with
  | nil=>simp at h
  | cons p pre =>
   simp only [List.cons_append,List.cons.injEq] at h;obtain ⟨rfl,h⟩:=h;have e:=zdy (n-1) [] m (by simp at hn ⊢;omega) pre suf h
   simpa using e
 | n,x::l,[],hn,pre,suf,h=>by
  rw [zt] at h
  cases pre with
  | nil=>simp at h
  | cons p pre =>
   simp only [List.cons_append,List.cons.injEq] at h;obtain ⟨rfl,h⟩:=h;have e:=zdy (n-1) l [] (by simp at hn ⊢;omega) pre suf h
   simpa using e
 | n,x::l,y::m,hn,pre,suf,h=>by
  simp only [List.length_cons] at hn;rw [zt] at h
  split at h
  · rename_i hxy
    subst hxy
    cases pre with
    | nil=>simp
    | cons p pre =>
     simp only [List.cons_append,List.cons.injEq] at h;obtain ⟨rfl,h⟩:=h;have e:=zdy (n-1) l m (by omega) pre suf h;simpa using e
  · split at h
    · cases pre with
      | nil=>simp at h
      | cons p pre =>
       simp only [List.cons_append,List.cons.injEq] at h;obtain ⟨rfl,h⟩:=h;have e:=zdy (n-1) l (y::m) (by simp;omega) pre suf h;simpa using e
    · cases pre with
      | nil=>simp at h
      | cons p pre =>
       simp only [List.cons_append,List.cons.injEq] at h;obtain ⟨rfl,h⟩:=h;have e:=zdy (n-1) (x::l) m (by simp;omega) pre suf h;simpa using e
termination_by n=>n
decreasing_by all_goals (simp at hn;omega)
theorem zq2 {x:α} {l m:List α} (h:lcs l m<lcs (x::l) m) (suf:List Nat):zt (x::l) m≠1::suf:=by
 intro q
 cases m with
 | nil=>rw [zb8,zb8] at h;omega
 | cons y m =>
  rw [zt] at q
  split at q
  · simp at q
  · rw [if_neg (by omega)] at q;simp at q
theorem zdu:∀(n:Nat) (l m:List α),l.length+m.length≤n→∀pre suf,zt l m≠pre++2::1::suf
 | _,[],[],_,pre,suf=>by simp [zt]
 | n,[],y::m,hn,pre,suf=>by
  intro h;rw [zt] at h
  cases pre with
  | nil =>
   simp only [List.nil_append,List.cons.injEq,true_and] at h
   cases m with
   | nil=>simp [zt] at h
   | cons z m=>simp [zt] at h
  | cons p pre =>
   simp only [List.cons_append,List.cons.injEq] at h
   exact zdu (n-1) [] m (by simp at hn ⊢;omega) pre suf h.2
 | n,x::l,[],hn,pre,suf=>by
  intro h;rw [zt] at h
  cases pre with
  | nil=>simp at h
  | cons p pre =>
   simp only [List.cons_append,List.cons.injEq] at h
   exact zdu (n-1) l [] (by simp at hn ⊢;omega) pre suf h.2
 | n,x::l,y::m,hn,pre,suf=>by
  intro h;simp only [List.length_cons] at hn;rw [zt] at h
  split at h
  · cases pre with
    | nil=>simp at h
    | cons p pre =>
     simp only [List.cons_append,List.cons.injEq] at h;exact zdu (n-1) l m (by omega) pre suf h.2
  · rename_i hxy
    split at h
    · cases pre with
      | nil=>simp at h
      | cons p pre =>
       simp only [List.cons_append,List.cons.injEq] at h;exact zdu (n-1) l (y::m) (by simp;omega) pre suf h.2
    · rename_i hne
      cases pre with
      | nil =>
       simp only [List.nil_append,List.cons.injEq,true_and] at h;refine zq2 ?_ suf h;have h1:=zjP l (y::m) x;have h2:=zo7 l m y;have h3:=zdr x y l m;rw [if_neg hxy] at h3
       omega
      | cons p pre =>
       simp only [List.cons_append,List.cons.injEq] at h;exact zdu (n-1) (x::l) m (by simp;omega) pre suf h.2
termination_by n=>n
decreasing_by all_goals (simp at hn;omega)
end
def canE:List EdD→Prop
 | []=>True
 | [e]=>1≤e.n∧e.op≤2
 | e::f::l=>1≤e.n∧e.op≤2∧e.op≠f.op∧¬(e.op=2∧f.op=1)∧canE (f::l)
theorem canE.altern:∀{l:List EdD},canE l→altern l
 | [],_=>trivial
 | [_],h=>h
 | _::_::_,h=>⟨h.1,h.2.1,h.2.2.1,canE.altern h.2.2.2.2⟩
theorem canE.head {e:EdD}:∀{l:List EdD},canE (e::l)→1≤e.n∧e.op≤2
 | [],h=>h
 | _::_,h=>⟨h.1,h.2.1⟩
theorem canE.tail {e:EdD}:∀{l:List EdD},canE (e::l)→canE l
 | [],_=>trivial
 | _::_,h=>h.2.2.2.2
theorem canE.next {e:EdD}:∀{l:List EdD},canE (e::l)→∀f,l.head? = some f→e.op≠f.op∧¬(e.op=2∧f.op=1)
 | [],_,_,h=>by cases h
 | g::l,h,f,hf=>by
  injection hf with hf;subst hf;exact ⟨h.2.2.1,h.2.2.2.1⟩
theorem zkp (l:List EdD) (e f:EdD) (h:canE (l++[e])) (hf:1≤f.n∧f.op≤2):(e.op=f.op→canE (l++[f]))∧(e.op≠f.op→¬(e.op=2∧f.op=1)→canE (l++[e]++[f])):=by
 induction l with
 | nil =>
  simp only [List.nil_append,canE,List.cons_append] at h ⊢
  exact ⟨fun _=>hf,fun q q2=>⟨h.1,h.2,q,q2,hf⟩⟩
 | cons x l ih =>
  cases l with
  | nil =>
   simp only [List.nil_append,List.cons_append,canE] at h ih ⊢
   exact ⟨fun q=>⟨h.1,h.2.1,q▸h.2.2.1,q▸h.2.2.2.1,hf⟩,fun q q2=>⟨h.1,h.2.1,h.2.2.1,h.2.2.2.1,h.2.2.2.2.1,h.2.2.2.2.2,q,q2,hf⟩⟩
  | cons y l =>
   simp only [List.cons_append,canE] at h ih ⊢;have ih:=ih h.2.2.2.2;exact ⟨fun q=>⟨h.1,h.2.1,h.2.2.1,h.2.2.2.1,ih.1 q⟩,fun q q2=>⟨h.1,h.2.1,h.2.2.1,h.2.2.2.1,ih.2 q q2⟩⟩
section
variable {α:Type} [DecidableEq α]
def zcy (a b:List α):Nat→Nat→List EdD→Prop
 | _,_,[]=>True
 | i,j,e::l=>(e.op=0→(a.drop i).take e.n=(b.drop j).take e.n)∧zcy a b (i+if e.op=2 then 0 else e.n) (j+if e.op=1 then 0 else e.n) l
omit [DecidableEq α] in
theorem zeq (a b:List α) (e:EdD):∀(l:List EdD) (i j:Nat),zcy a b i j (l++[e])↔zcy a b i j l∧(e.op=0→(a.drop (i+zas l)).take e.n=(b.drop (j+z6 l)).take e.n)
 | [],i,j=>by simp [zcy,zas,z6]
 | f::l,i,j=>by
  have ih:=zeq a b e l (i+if f.op=2 then 0 else f.n) (j+if f.op=1 then 0 else f.n);have e1:zas (f::l)=(if f.op=2 then 0 else f.n)+zas l:=by simp [zas]
  have e2:z6 (f::l)=(if f.op=1 then 0 else f.n)+z6 l:=by simp [z6]
  rw [List.cons_append,zcy,zcy,ih,e1,e2,and_assoc,Nat.add_assoc,Nat.add_assoc]
omit [DecidableEq α] in
theorem zkC (a b:List α) (s:List Nat) (hs:∀x∈s,x≤2) (hf:∀pre suf,s=pre++0::suf→a[(pre.filter (· ≠ 2)).length]? = b[(pre.filter (· ≠ 1)).length]?) (hn:∀pre suf,s≠pre++2::1::suf) :zcy a b 0 0 (zaX s)∧canE (zaX s)∧(zaX s).getLast?.map EdD.op=s.getLast?:=by
 rcases List.eq_nil_or_concat s with rfl|⟨s',x,rfl⟩
 · exact ⟨trivial,trivial,rfl⟩
 · rw [List.concat_eq_append] at hs hf hn ⊢;obtain ⟨i1,i2,i3⟩:=zkC a b s' (fun y hy=>hs y (by simp [hy])) (fun pre suf h=>hf pre (suf++[x]) (by rw [h];simp)) (fun pre suf h=>hn pre (suf++[x]) (by rw [h];simp));obtain ⟨_,j1,j2,_⟩:=zgy s' (fun y hy=>hs y (by simp [hy]));have hx:=hs x (by simp);have h0:x=0→a[zas (zaX s')]? = b[z6 (zaX s')]?:=fun q=>by
    rw [j1,j2];exact hf s' [] (by rw [q])
   rw [zk3];generalize hS:zaX s'=S at *
   rcases List.eq_nil_or_concat S with rfl|⟨S',e,rfl⟩
   · refine ⟨⟨fun q=>?_,trivial⟩,⟨Nat.le_refl _,hx⟩,by simp [addP]⟩;have q:x=0:=q;have:=h0 q;simp only [zas,z6,List.map_nil,List.sum_nil] at this;simp only [List.drop_zero]
     rw [List.take_add_one,List.take_add_one,this];rfl
   · rw [List.concat_eq_append] at i1 i2 i3 h0 ⊢;rw [zcY];rw [zeq] at i1;have hl:s'.getLast? = some e.op:=by rw [←i3];simp
     split
     · rename_i hop
       refine ⟨(zeq a b _ S' 0 0).2 ⟨i1.1,fun q=>?_⟩,(zkp S' e ⟨e.op,e.n+1⟩ i2 ⟨by simp,by rw [hop];exact hx⟩).1 rfl,by simp [hop]⟩;have q:e.op=0:=q;have h1:=i1.2 q;have h2:=h0 (by omega);rw [ze2,zeT] at h2;simp only [zas,z6,List.map_cons,List.map_nil,List.sum_cons,List.sum_nil,q] at h2;simp only [Nat.zero_add] at h1 ⊢;rw [List.take_add_one,List.take_add_one,h1,List.getElem?_drop,List.getElem?_drop]
       congr 2
     · rename_i hop
       refine ⟨(zeq a b _ _ 0 0).2 ⟨(zeq a b _ _ 0 0).2 i1,fun q=>?_⟩,(zkp S' e ⟨x,1⟩ i2 ⟨by simp,hx⟩).2 hop (fun q=>?_),by simp⟩
       · have q:x=0:=q;have h2:=h0 q;simp only [Nat.zero_add]
         rw [List.take_add_one,List.take_add_one,List.take_zero,List.take_zero,List.getElem?_drop,List.getElem?_drop,Nat.add_zero,Nat.add_zero,h2]
       · obtain ⟨q1,q2⟩:=q;have q2:x=1:=q2
         rcases List.eq_nil_or_concat s' with rfl|⟨s2,z,rfl⟩
         · simp at hl
         · rw [List.concat_eq_append] at hl hn;simp at hl;exact hn s2 [] (by rw [hl,q1,q2];simp)
termination_by s.length
decreasing_by subst_vars;simp
theorem zpU (a b:List α):zcy a b 0 0 (zx a b)∧canE (zx a b):=by
 have h1:=zc3 _ a b (Nat.le_refl _);have h2:=zkC a b (zt a b) h1.1 (fun pre suf h=>zdy _ a b (Nat.le_refl _) pre suf h) (fun pre suf h=>zdu _ a b (Nat.le_refl _) pre suf h);exact ⟨h2.1,h2.2.1⟩
end
end
section
def za0:List UInt8→List UInt8→List (List UInt8)
 | cur,[]=>if cur=[] then [] else [cur]
 | cur,x::b=>if x=10 then (cur++[10])::za0 [] b else za0 (cur++[x]) b
def zf (b:List UInt8):List (List UInt8):=za0 [] b
theorem zlb {q:List UInt8}:∀{p cur:List UInt8},(10:UInt8)∉p→za0 cur (p++10::q)=(cur++p++[10])::za0 [] q
 | [],cur,_=>by simp [za0]
 | x::p,cur,h=>by
  have hx:x≠10:=fun e=>h (by simp [e]);have:=zlb (q:=q) (p:=p) (cur:=cur++[x]) (fun hm=>h (by simp [hm]));simp [za0,hx,this]
theorem zkd:∀{p cur:List UInt8},(10:UInt8)∉p→za0 cur p=if cur++p=[] then [] else [cur++p]
 | [],cur,_=>by simp [za0]
 | x::p,cur,h=>by
  have hx:x≠10:=fun e=>h (by simp [e]);have:=zkd (p:=p) (cur:=cur++[x]) (fun hm=>h (by simp [hm]));simp [za0,hx,this]
theorem zql {p q:List UInt8} (h:(10:UInt8)∉p):zf (p++10::q)=(p++[10])::zf q:=by
 unfold zf;rw [zlb h];simp
theorem zpN {p:List UInt8} (h:(10:UInt8)∉p) (hp:p≠[]):zf p=[p]:=by
 unfold zf;rw [zkd h];simp [hp]
theorem zfW:∀(b cur:List UInt8),(za0 cur b).flatten=cur++b
 | [],cur=>by
  unfold za0
  split
  · rename_i h;simp [h]
  · simp
 | x::b,cur=>by
  unfold za0
  split
  · rename_i h;simp [zfW b [],h]
  · simp [zfW b (cur++[x])]
theorem zcv (b:List UInt8):(zf b).flatten=b:=by simpa [zf] using zfW b []
theorem zhA:∀(b cur:List UInt8),(za0 cur b).length≤cur.length+b.length∧∀x∈za0 cur b,x.length≤cur.length+b.length
 | [],cur=>by
  unfold za0
  split
  · simp
  · rename_i h
    have:=List.length_pos_iff.2 h;simp
    omega
 | x::b,cur=>by
  unfold za0
  split
  · obtain ⟨h1,h2⟩:=zhA b [];simp only [List.length_nil,Nat.zero_add] at h1 h2;refine ⟨by simp;omega,fun y hy=>?_⟩
    rcases List.mem_cons.1 hy with rfl|hy
    · simp
    · have:=h2 y hy;simp;omega
  · obtain ⟨h1,h2⟩:=zhA b (cur++[x]);simp only [List.length_append,List.length_cons,List.length_nil] at h1 h2;exact ⟨by simp;omega,fun y hy=>by have:=h2 y hy;simp;omega⟩
theorem zd8 (b:List UInt8):(zf b).length≤b.length∧∀x∈zf b,x.length≤b.length:=by simpa [zf] using zhA b []
end
section
def zu:List EdD→Nat→List Int
 | [],_=>[]
 | e::l,j=>if e.op=0 then (List.range e.n).map (fun i=>((j+i:Nat):Int))++zu l (j+e.n) else if e.op=2 then zu l (j+e.n) else List.replicate e.n (-1)++zu l j
theorem zcf:∀(l:List EdD) (j:Nat),(zu l j).length=zas l
 | [],_=>rfl
 | e::l,j=>by
  have h:zas (e::l)=(if e.op=2 then 0 else e.n)+zas l:=by simp [zas]
  rw [h,zu]
  split
  · rename_i h0
    rw [if_neg (by omega)];simp [zcf l]
  · split
    · simp [zcf l]
    · simp [zcf l]
theorem zcx:∀(l:List EdD) (j k:Nat) (x:Int),(zu l j)[k]? = some x→x=-1∨((j:Int)≤x∧x<j+z6 l)
 | [],_,k,x,h=>by simp [zu] at h
 | e::l,j,k,x,h=>by
  have hB:z6 (e::l)=(if e.op=1 then 0 else e.n)+z6 l:=by simp [z6]
  rw [hB];rw [zu] at h
  split at h
  · rename_i h0
    rw [if_neg (by omega)];rw [List.getElem?_append] at h
    split at h
    · rename_i hk
      simp only [List.length_map,List.length_range] at hk;rw [List.getElem?_map,List.getElem?_range hk] at h;simp only [Option.map_some,Option.some.injEq] at h;omega
    · rcases zcx l _ _ _ h with q|q
      · exact .inl q
      · omega
  · split at h
    · rename_i h2
      rw [if_neg (by omega)]
      rcases zcx l _ _ _ h with q|q
      · exact .inl q
      · omega
    · rw [List.getElem?_append] at h
      split at h
      · rename_i hk
        rw [List.getElem?_replicate] at h
        split at h
        · exact .inl (Option.some.inj h).symm
        · cases h
      · rcases zcx l _ _ _ h with q|q
        · exact .inl q
        · split <;> omega
theorem zdf:∀(l:List EdD) (j k m:Nat) (x y:Int),(zu l j)[k]? = some x→(zu l j)[m]? = some y→k<m→0≤x→0≤y→x<y
 | [],_,k,m,x,y,h,_,_,_,_=>by simp [zu] at h
 | e::l,j,k,m,x,y,h,h',hkm,hx,hy=>by
  rw [zu] at h h'
  split at h
  · rename_i h0
    rw [if_pos h0] at h';rw [List.getElem?_append] at h h';simp only [List.length_map,List.length_range] at h h'
    split at h
    · rename_i hk
      rw [List.getElem?_map,List.getElem?_range hk] at h;simp only [Option.map_some,Option.some.injEq] at h
      split at h'
      · rename_i hm
        rw [List.getElem?_map,List.getElem?_range hm] at h';simp only [Option.map_some,Option.some.injEq] at h';omega
      · rcases zcx l _ _ _ h' with q|q
        · omega
        · omega
    · rename_i hk
      rw [if_neg (by omega)] at h';exact zdf l _ _ _ x y h h' (by omega) hx hy
  · rename_i h0
    rw [if_neg h0] at h'
    split at h
    · rename_i h2
      rw [if_pos h2] at h';exact zdf l _ _ _ x y h h' hkm hx hy
    · rename_i h2
      rw [if_neg h2] at h';rw [List.getElem?_append] at h h';simp only [List.length_replicate] at h h'
      split at h
      · rename_i hk
        rw [List.getElem?_replicate,if_pos hk] at h;have:=Option.some.inj h;omega
      · rename_i hk
        rw [if_neg (by omega)] at h';exact zdf l _ _ _ x y h h' (by omega) hx hy
structure ChunkD where
 kind:Nat
 b:List (List UInt8)
 o:List (List UInt8)
 t:List (List UInt8)
deriving DecidableEq
def zV (b o t:List (List UInt8)):Nat:=if b=o∧b=t then 0 else if o=t then 3 else if b=t then 1 else if b=o then 2 else 4
def addC (l:List ChunkD) (b o t:List (List UInt8)):List ChunkD :=
 if b.length+o.length+t.length=0 then l else
 match l.getLast? with
 | none=>l++[⟨zV b o t,b,o,t⟩]
 | some p=>if zV b o t=0∧p.kind=0 then l.dropLast++[⟨0,p.b++b,p.o++o,p.t++t⟩] else l++[⟨zV b o t,b,o,t⟩]
structure CurC where
 out:List ChunkD
 f:Nat
 i:Nat
 j:Nat
section
variable (base ours theirs:List (List UInt8))
def seg (l:List (List UInt8)) (i j:Nat):List (List UInt8):=(l.drop i).take (j-i)
def zam (s:CurC) (k:Nat) (x y:Int):CurC :=
 if x<0∨y<0 then s else
 ⟨addC (addC s.out (seg base s.f k) (seg ours s.i x.toNat) (seg theirs s.j y.toNat)) (seg base k (k+1)) (seg ours x.toNat (x.toNat+1)) (seg theirs y.toNat (y.toNat+1)),k+1,x.toNat+1,y.toNat+1⟩
def zaB:List (Int×Int)→Nat→CurC→CurC
 | [],_,s=>s
 | (x,y)::l,k,s=>zaB l (k+1) (zam base ours theirs s k x y)
def zac:List ChunkD :=
 let s:=zaB base ours theirs ((zu (zx base ours) 0).zip (zu (zx base theirs) 0)) 0 ⟨[],0,0,0⟩
 addC s.out (base.drop s.f) (ours.drop s.i) (theirs.drop s.j)
end
def zi (l:List (List UInt8)):List UInt8:=l.flatten
def zD (l:List (List UInt8)):List UInt8:=match (zi l).getLast? with
 | none=>[]
 | some x=>if x=10 then zi l else zi l++[10]
def zaW:List UInt8:=[60,60,60,60,60,60,60]
def zbf:List UInt8:=[124,124,124,124,124,124,124]
def zbn:List UInt8:=[61,61,61,61,61,61,61]
def zch:List UInt8:=[62,62,62,62,62,62,62]
def zbB (c:ChunkD):List UInt8:=match c.kind with
 | 0=>zi c.b
 | 1=>zi c.o
 | 3=>zi c.o
 | 2=>zi c.t
 | _=>zaW++[10]++zD c.o++(zbf++[10]++zD c.b)++(zbn++[10]++zD c.t)++(zch++[10])
def zai (l:List ChunkD):List UInt8:=l.flatMap zbB
def zbL (b o t:List UInt8):Option (List UInt8×Bool) :=
 if (zf b).length≤4000∧(zf o).length≤4000∧(zf t).length≤4000 then
  some (zai (zac (zf b) (zf o) (zf t)),(zac (zf b) (zf o) (zf t)).all (fun c=>c.kind !=4))
 else none
end
end Go.Proofs.YtmkmbbjgepcioaaGreatDoor
