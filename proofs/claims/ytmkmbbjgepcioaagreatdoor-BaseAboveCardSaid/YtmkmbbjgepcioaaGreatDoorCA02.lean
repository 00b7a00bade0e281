/- Plain: three texts are merged: partners, chunks, what they are written as. No statement of the seat is proved here. -/
import Derived.Test.YtmkmbbjgepcioaaGreatDoorCA01
namespace Go.Proofs.YtmkmbbjgepcioaaGreatDoor
section
section
variable {α:Type} [DecidableEq α]
theorem zdf:∀(n:Nat) (l m:List α),l.length+m.length≤n→∀pre suf,zo l m=pre++0::suf→l[(pre.filter (· ≠ 2)).length]? = m[(pre.filter (· ≠ 1)).length]?
 | _,[],[],_,pre,suf,h=>by simp [zo] at h
 | n,[],y::m,hn,pre,suf,h=>by
  rw [zo] at h
  cases pre with
  | nil=>simp at h
  | cons p pre =>
   simp only [List.cons_append,List.cons.injEq] at h;obtain ⟨rfl,h⟩:=h;have e:=zdf (n-1) [] m (by simp at hn ⊢;omega) pre suf h
   simpa using e
 | n,x::l,[],hn,pre,suf,h=>by
  rw [zo] at h
  cases pre with
  | nil=>simp at h
  | cons p pre =>
   simp only [List.cons_append,List.cons.injEq] at h;obtain ⟨rfl,h⟩:=h;have e:=zdf (n-1) l [] (by simp at hn ⊢;omega) pre suf h
   simpa using e
 | n,x::l,y::m,hn,pre,suf,h=>by
  simp only [List.length_cons] at hn;rw [zo] at h
  split at h
  · rename_i hxy
    subst hxy
    cases pre with
    | nil=>simp
    | cons p pre =>
     simp only [List.cons_append,List.cons.injEq] at h;obtain ⟨rfl,h⟩:=h;have e:=zdf (n-1) l m (by omega) pre suf h;simpa using e
  · split at h
    · cases pre with
      | nil=>simp at h
      | cons p pre =>
       simp only [List.cons_append,List.cons.injEq] at h;obtain ⟨rfl,h⟩:=h;have e:=zdf (n-1) l (y::m) (by simp;omega) pre suf h;simpa using e
    · cases pre with
      | nil=>simp at h
      | cons p pre =>
       simp only [List.cons_append,List.cons.injEq] at h;obtain ⟨rfl,h⟩:=h;have e:=zdf (n-1) (x::l) m (by simp;omega) pre suf h;simpa using e
termination_by n=>n
decreasing_by all_goals (simp at hn;omega)
theorem zn5 {x:α} {l m:List α} (h:lcs l m<lcs (x::l) m) (suf:List Nat):zo (x::l) m≠1::suf:=by
 intro q
 cases m with
 | nil=>rw [zbT,zbT] at h;omega
 | cons y m =>
  rw [zo] at q
  split at q
  · simp at q
  · rw [if_neg (by omega)] at q;simp at q
theorem zdz:∀(n:Nat) (l m:List α),l.length+m.length≤n→∀pre suf,zo l m≠pre++2::1::suf
 | _,[],[],_,pre,suf=>by simp [zo]
 | n,[],y::m,hn,pre,suf=>by
  intro h;rw [zo] at h
  cases pre with
  | nil =>
   simp only [List.nil_append,List.cons.injEq,true_and] at h
   cases m with
   | nil=>simp [zo] at h
   | cons z m=>simp [zo] at h
  | cons p pre =>
   simp only [List.cons_append,List.cons.injEq] at h
   exact zdz (n-1) [] m (by simp at hn ⊢;omega) pre suf h.2
 | n,x::l,[],hn,pre,suf=>by
  intro h;rw [zo] at h
  cases pre with
  | nil=>simp at h
  | cons p pre =>
   simp only [List.cons_append,List.cons.injEq] at h
   exact zdz (n-1) l [] (by simp at hn ⊢;omega) pre suf h.2
 | n,x::l,y::m,hn,pre,suf=>by
  intro h;simp only [List.length_cons] at hn;rw [zo] at h
  split at h
  · cases pre with
    | nil=>simp at h
    | cons p pre =>
     simp only [List.cons_append,List.cons.injEq] at h;exact zdz (n-1) l m (by omega) pre suf h.2
  · rename_i hxy
    split at h
    · cases pre with
      | nil=>simp at h
      | cons p pre =>
       simp only [List.cons_append,List.cons.injEq] at h;exact zdz (n-1) l (y::m) (by simp;omega) pre suf h.2
    · rename_i hne
      cases pre with
      | nil =>
       simp only [List.nil_append,List.cons.injEq,true_and] at h;refine zn5 ?_ suf h;have h1:=zk9 l (y::m) x;have h2:=zqb l m y;have h3:=zdp x y l m;rw [if_neg hxy] at h3
       omega
      | cons p pre =>
       simp only [List.cons_append,List.cons.injEq] at h;exact zdz (n-1) (x::l) m (by simp;omega) pre suf h.2
termination_by n=>n
decreasing_by all_goals (simp at hn;omega)
end
def canE:List EdD→Prop
 | []=>True
 | [e]=>1≤e.n∧e.op≤2
 | e::f::l=>1≤e.n∧e.op≤2∧e.op≠f.op∧¬(e.op=2∧f.op=1)∧canE (f::l)
theorem canE.altern:∀{l:List EdD},canE l→altern l
 | [],_=>trivial
 | [_],h=>h
 | _::_::_,h=>⟨h.1,h.2.1,h.2.2.1,canE.altern h.2.2.2.2⟩
theorem canE.head {e:EdD}:∀{l:List EdD},canE (e::l)→1≤e.n∧e.op≤2
 | [],h=>h
 | _::_,h=>⟨h.1,h.2.1⟩
theorem canE.tail {e:EdD}:∀{l:List EdD},canE (e::l)→canE l
 | [],_=>trivial
 | _::_,h=>h.2.2.2.2
theorem canE.next {e:EdD}:∀{l:List EdD},canE (e::l)→∀f,l.head? = some f→e.op≠f.op∧¬(e.op=2∧f.op=1)
 | [],_,_,h=>by cases h
 | g::l,h,f,hf=>by
  injection hf with hf;subst hf;exact ⟨h.2.2.1,h.2.2.2.1⟩
theorem zix (l:List EdD) (e f:EdD) (h:canE (l++[e])) (hf:1≤f.n∧f.op≤2):(e.op=f.op→canE (l++[f]))∧(e.op≠f.op→¬(e.op=2∧f.op=1)→canE (l++[e]++[f])):=by
 induction l with
 | nil =>
  simp only [List.nil_append,canE,List.cons_append] at h ⊢
  exact ⟨fun _=>hf,fun q q2=>⟨h.1,h.2,q,q2,hf⟩⟩
 | cons x l ih =>
  cases l with
  | nil =>
   simp only [List.nil_append,List.cons_append,canE] at h ih ⊢
   exact ⟨fun q=>⟨h.1,h.2.1,q▸h.2.2.1,q▸h.2.2.2.1,hf⟩,fun q q2=>⟨h.1,h.2.1,h.2.2.1,h.2.2.2.1,h.2.2.2.2.1,h.2.2.2.2.2,q,q2,hf⟩⟩
  | cons y l =>
   simp only [List.cons_append,canE] at h ih ⊢;have ih:=ih h.2.2.2.2;exact ⟨fun q=>⟨h.1,h.2.1,h.2.2.1,h.2.2.2.1,ih.1 q⟩,fun q q2=>⟨h.1,h.2.1,h.2.2.1,h.2.2.2.1,ih.2 q q2⟩⟩
section
variable {α:Type} [DecidableEq α]
def zci (a b:List α):Nat→Nat→List EdD→Prop
 | _,_,[]=>True
 | i,j,e::l=>(e.op=0→(a.drop i).take e.n=(b.drop j).take e.n)∧zci a b (i+if e.op=2 then 0 else e.n) (j+if e.op=1 then 0 else e.n) l
omit [DecidableEq α] in
theorem zd1 (a b:List α) (e:EdD):∀(l:List EdD) (i j:Nat),zci a b i j (l++[e])↔zci a b i j l∧(e.op=0→(a.drop (i+zam l)).take e.n=(b.drop (j+zR l)).take e.n)
 | [],i,j=>by simp [zci,zam,zR]
 | f::l,i,j=>by
  have ih:=zd1 a b e l (i+if f.op=2 then 0 else f.n) (j+if f.op=1 then 0 else f.n);have e1:zam (f::l)=(if f.op=2 then 0 else f.n)+zam l:=by simp [zam]
  have e2:zR (f::l)=(if f.op=1 then 0 else f.n)+zR l:=by simp [zR]
  rw [List.cons_append,zci,zci,ih,e1,e2,and_assoc,Nat.add_assoc,Nat.add_assoc]
omit [DecidableEq α] in
theorem zjP (a b:List α) (s:List Nat) (hs:∀x∈s,x≤2) (hf:∀pre suf,s=pre++0::suf→a[(pre.filter (· ≠ 2)).length]? = b[(pre.filter (· ≠ 1)).length]?) (hn:∀pre suf,s≠pre++2::1::suf) :zci a b 0 0 (zaF s)∧canE (zaF s)∧(zaF s).getLast?.map EdD.op=s.getLast?:=by
 rcases List.eq_nil_or_concat s with rfl|⟨s',x,rfl⟩
 · exact ⟨trivial,trivial,rfl⟩
 · rw [List.concat_eq_append] at hs hf hn ⊢;obtain ⟨i1,i2,i3⟩:=zjP a b s' (fun y hy=>hs y (by simp [hy])) (fun pre suf h=>hf pre (suf++[x]) (by rw [h];simp)) (fun pre suf h=>hn pre (suf++[x]) (by rw [h];simp));obtain ⟨_,j1,j2,_⟩:=zgV s' (fun y hy=>hs y (by simp [hy]));have hx:=hs x (by simp);have h0:x=0→a[zam (zaF s')]? = b[zR (zaF s')]?:=fun q=>by
    rw [j1,j2];exact hf s' [] (by rw [q])
   rw [zjV];generalize hS:zaF s'=S at *
   rcases List.eq_nil_or_concat S with rfl|⟨S',e,rfl⟩
   · refine ⟨⟨fun q=>?_,trivial⟩,⟨Nat.le_refl _,hx⟩,by simp [addP]⟩;have q:x=0:=q;have:=h0 q;simp only [zam,zR,List.map_nil,List.sum_nil] at this;simp only [List.drop_zero]
     rw [List.take_add_one,List.take_add_one,this];rfl
   · rw [List.concat_eq_append] at i1 i2 i3 h0 ⊢;rw [zcP];rw [zd1] at i1;have hl:s'.getLast? = some e.op:=by rw [←i3];simp
     split
     · rename_i hop
       refine ⟨(zd1 a b _ S' 0 0).2 ⟨i1.1,fun q=>?_⟩,(zix S' e ⟨e.op,e.n+1⟩ i2 ⟨by simp,by rw [hop];exact hx⟩).1 rfl,by simp [hop]⟩;have q:e.op=0:=q;have h1:=i1.2 q;have h2:=h0 (by omega);rw [zeX,zeu] at h2;simp only [zam,zR,List.map_cons,List.map_nil,List.sum_cons,List.sum_nil,q] at h2;simp only [Nat.zero_add] at h1 ⊢;rw [List.take_add_one,List.take_add_one,h1,List.getElem?_drop,List.getElem?_drop]
       congr 2
     · rename_i hop
       refine ⟨(zd1 a b _ _ 0 0).2 ⟨(zd1 a b _ _ 0 0).2 i1,fun q=>?_⟩,(zix S' e ⟨x,1⟩ i2 ⟨by simp,hx⟩).2 hop (fun q=>?_),by simp⟩
       · have q:x=0:=q;have h2:=h0 q;simp only [Nat.zero_add]
         rw [List.take_add_one,List.take_add_one,List.take_zero,List.take_zero,List.getElem?_drop,List.getElem?_drop,Nat.add_zero,Nat.add_zero,h2]
       · obtain ⟨q1,q2⟩:=q;have q2:x=1:=q2
         rcases List.eq_nil_or_concat s' with rfl|⟨s2,z,rfl⟩
         · simp at hl
         · rw [List.concat_eq_append] at hl hn;simp at hl;exact hn s2 [] (by rw [hl,q1,q2];simp)
termination_by s.length
decreasing_by subst_vars;simp
theorem zmU (a b:List α):zci a b 0 0 (zC a b)∧canE (zC a b):=by
 have h1:=zcQ _ a b (Nat.le_refl _);have h2:=zjP a b (zo a b) h1.1 (fun pre suf h=>zdf _ a b (Nat.le_refl _) pre suf h) (fun pre suf h=>zdz _ a b (Nat.le_refl _) pre suf h);exact ⟨h2.1,h2.2.1⟩
end
end
section
def zaL:List UInt8→List UInt8→List (List UInt8)
 | cur,[]=>if cur=[] then [] else [cur]
 | cur,x::b=>if x=10 then (cur++[10])::zaL [] b else zaL (cur++[x]) b
def zi (b:List UInt8):List (List UInt8):=zaL [] b
theorem zjs {q:List UInt8}:∀{p cur:List UInt8},(10:UInt8)∉p→zaL cur (p++10::q)=(cur++p++[10])::zaL [] q
 | [],cur,_=>by simp [zaL]
 | x::p,cur,h=>by
  have hx:x≠10:=fun e=>h (by simp [e]);have:=zjs (q:=q) (p:=p) (cur:=cur++[x]) (fun hm=>h (by simp [hm]));simp [zaL,hx,this]
theorem zkt:∀{p cur:List UInt8},(10:UInt8)∉p→zaL cur p=if cur++p=[] then [] else [cur++p]
 | [],cur,_=>by simp [zaL]
 | x::p,cur,h=>by
  have hx:x≠10:=fun e=>h (by simp [e]);have:=zkt (p:=p) (cur:=cur++[x]) (fun hm=>h (by simp [hm]));simp [zaL,hx,this]
theorem znr {p q:List UInt8} (h:(10:UInt8)∉p):zi (p++10::q)=(p++[10])::zi q:=by
 unfold zi;rw [zjs h];simp
theorem zsc {p:List UInt8} (h:(10:UInt8)∉p) (hp:p≠[]):zi p=[p]:=by
 unfold zi;rw [zkt h];simp [hp]
theorem zfu:∀(b cur:List UInt8),(zaL cur b).flatten=cur++b
 | [],cur=>by
  unfold zaL
  split
  · rename_i h;simp [h]
  · simp
 | x::b,cur=>by
  unfold zaL
  split
  · rename_i h;simp [zfu b [],h]
  · simp [zfu b (cur++[x])]
theorem zcx (b:List UInt8):(zi b).flatten=b:=by simpa [zi] using zfu b []
theorem zfB:∀(b cur:List UInt8),(zaL cur b).length≤cur.length+b.length∧∀x∈zaL cur b,x.length≤cur.length+b.length
 | [],cur=>by
  unfold zaL
  split
  · simp
  · rename_i h
    have:=List.length_pos_iff.2 h;simp
    omega
 | x::b,cur=>by
  unfold zaL
  split
  · obtain ⟨h1,h2⟩:=zfB b [];simp only [List.length_nil,Nat.zero_add] at h1 h2;refine ⟨by simp;omega,fun y hy=>?_⟩
    rcases List.mem_cons.1 hy with rfl|hy
    · simp
    · have:=h2 y hy;simp;omega
  · obtain ⟨h1,h2⟩:=zfB b (cur++[x]);simp only [List.length_append,List.length_cons,List.length_nil] at h1 h2;exact ⟨by simp;omega,fun y hy=>by have:=h2 y hy;simp;omega⟩
theorem zd4 (b:List UInt8):(zi b).length≤b.length∧∀x∈zi b,x.length≤b.length:=by simpa [zi] using zfB b []
end
section
def zv:List EdD→Nat→List Int
 | [],_=>[]
 | e::l,j=>if e.op=0 then (List.range e.n).map (fun i=>((j+i:Nat):Int))++zv l (j+e.n) else if e.op=2 then zv l (j+e.n) else List.replicate e.n (-1)++zv l j
theorem zb4:∀(l:List EdD) (j:Nat),(zv l j).length=zam l
 | [],_=>rfl
 | e::l,j=>by
  have h:zam (e::l)=(if e.op=2 then 0 else e.n)+zam l:=by simp [zam]
  rw [h,zv]
  split
  · rename_i h0
    rw [if_neg (by omega)];simp [zb4 l]
  · split
    · simp [zb4 l]
    · simp [zb4 l]
theorem zco:∀(l:List EdD) (j k:Nat) (x:Int),(zv l j)[k]? = some x→x=-1∨((j:Int)≤x∧x<j+zR l)
 | [],_,k,x,h=>by simp [zv] at h
 | e::l,j,k,x,h=>by
  have hB:zR (e::l)=(if e.op=1 then 0 else e.n)+zR l:=by simp [zR]
  rw [hB];rw [zv] at h
  split at h
  · rename_i h0
    rw [if_neg (by omega)];rw [List.getElem?_append] at h
    split at h
    · rename_i hk
      simp only [List.length_map,List.length_range] at hk;rw [List.getElem?_map,List.getElem?_range hk] at h;simp only [Option.map_some,Option.some.injEq] at h;omega
    · rcases zco l _ _ _ h with q|q
      · exact .inl q
      · omega
  · split at h
    · rename_i h2
      rw [if_neg (by omega)]
      rcases zco l _ _ _ h with q|q
      · exact .inl q
      · omega
    · rw [List.getElem?_append] at h
      split at h
      · rename_i hk
        rw [List.getElem?_replicate] at h
        split at h
        · exact .inl (Option.some.inj h).symm
        · cases h
      · rcases zco l _ _ _ h with q|q
        · exact .inl q
        · split <;> omega
theorem zcO:∀(l:List EdD) (j k m:Nat) (x y:Int),(zv l j)[k]? = some x→(zv l j)[m]? = some y→k<m→0≤x→0≤y→x<y
 | [],_,k,m,x,y,h,_,_,_,_=>by simp [zv] at h
 | e::l,j,k,m,x,y,h,h',hkm,hx,hy=>by
  rw [zv] at h h'
  split at h
  · rename_i h0
    rw [if_pos h0] at h';rw [List.getElem?_append] at h h';simp only [List.length_map,List.length_range] at h h'
    split at h
    · rename_i hk
      rw [List.getElem?_map,List.getElem?_range hk] at h;simp only [Option.map_some,Option.some.injEq] at h
      split at h'
      · rename_i hm
        rw [List.getElem?_map,List.getElem?_range hm] at h';simp only [Option.map_some,Option.some.injEq] at h';omega
      · rcases zco l _ _ _ h' with q|q
        · omega
        · omega
    · rename_i hk
      rw [if_neg (by omega)] at h';exact zcO l _ _ _ x y h h' (by omega) hx hy
  · rename_i h0
    rw [if_neg h0] at h'
    split at h
    · rename_i h2
      rw [if_pos h2] at h';exact zcO l _ _ _ x y h h' hkm hx hy
    · rename_i h2
      rw [if_neg h2] at h';rw [List.getElem?_append] at h h';simp only [List.length_replicate] at h h'
      split at h
      · rename_i hk
        rw [List.getElem?_replicate,if_pos hk] at h;have:=Option.some.inj h;omega
      · rename_i hk
        rw [if_neg (by omega)] at h';exact zcO l _ _ _ x y h h' (by omega) hx hy
structure ChunkD where
 kind:Nat
 b:List (List UInt8)
 o:List (List UInt8)
 t:List (List UInt8)
deriving DecidableEq
def zaq (b o t:List (List UInt8)):Nat:=if b=o∧b=t then 0 else if o=t then 3 else if b=t then 1 else if b=o then 2 else 4
def addC (l:List ChunkD) (b o t:List (List UInt8)):List ChunkD :=
 if b.length+o.length+t.length=0 then l else
 match l.getLast? with
 | none=>l++[⟨zaq b o t,b,o,t⟩]
 | some p=>if zaq b o t=0∧p.kind=0 then l.dropLast++[⟨0,p.b++b,p.o++o,p.t++t⟩] else l++[⟨zaq b o t,b,o,t⟩]
structure CurC where
 out:List ChunkD
 f:Nat
 i:Nat
 j:Nat
section
variable (base ours theirs:List (List UInt8))
def seg (l:List (List UInt8)) (i j:Nat):List (List UInt8):=(l.drop i).take (j-i)
def zav (s:CurC) (k:Nat) (x y:Int):CurC :=
 if x<0∨y<0 then s else
 ⟨addC (addC s.out (seg base s.f k) (seg ours s.i x.toNat) (seg theirs s.j y.toNat)) (seg base k (k+1)) (seg ours x.toNat (x.toNat+1)) (seg theirs y.toNat (y.toNat+1)),k+1,x.toNat+1,y.toNat+1⟩
def za4:List (Int×Int)→Nat→CurC→CurC
 | [],_,s=>s
 | (x,y)::l,k,s=>za4 l (k+1) (zav base ours theirs s k x y)
def zat:List ChunkD :=
 let s:=za4 base ours theirs ((zv (zC base ours) 0).zip (zv (zC base theirs) 0)) 0 ⟨[],0,0,0⟩
 addC s.out (base.drop s.f) (ours.drop s.i) (theirs.drop s.j)
end
def zh (l:List (List UInt8)):List UInt8:=l.flatten
def zI (l:List (List UInt8)):List UInt8:=match (zh l).getLast? with
 | none=>[]
 | some x=>if x=10 then zh l else zh l++[10]
def za7:List UInt8:=[60,60,60,60,60,60,60]
def zbg:List UInt8:=[124,124,124,124,124,124,124]
def zbG:List UInt8:=[61,61,61,61,61,61,61]
def zcN:List UInt8:=[62,62,62,62,62,62,62]
def zcv (c:ChunkD):List UInt8:=match c.kind with
 | 0=>zh c.b
 | 1=>zh c.o
 | 3=>zh c.o
 | 2=>zh c.t
 | _=>za7++[10]++zI c.o++(zbg++[10]++zI c.b)++(zbG++[10]++zI c.t)++(zcN++[10])
def zag (l:List ChunkD):List UInt8:=l.flatMap zcv
def zcE (b o t:List UInt8):Option (List UInt8×Bool) :=
 if (zi b).length≤4000∧(zi o).length≤4000∧(zi t).length≤4000 then
  some (zag (zat (zi b) (zi o) (zi t)),(zat (zi b) (zi o) (zi t)).all (fun c=>c.kind !=4))
 else none
end
end Go.Proofs.YtmkmbbjgepcioaaGreatDoor
