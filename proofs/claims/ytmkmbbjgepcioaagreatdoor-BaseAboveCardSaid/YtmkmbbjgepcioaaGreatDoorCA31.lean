/- What two commits are merged over: there is such a row (plain). No statement of the seat is proved here. -/
import Derived.Test.YtmkmbbjgepcioaaGreatDoorCA08
import Derived.Test.YtmkmbbjgepcioaaGreatDoorCAZi
import Derived.Test.YtmkmbbjgepcioaaGreatDoorCAEa
import Derived.Test.YtmkmbbjgepcioaaGreatDoorCA24
import Derived.Test.YtmkmbbjgepcioaaGreatDoorCAZk
import Derived.Test.YtmkmbbjgepcioaaGreatDoorCA29
import Derived.Test.YtmkmbbjgepcioaaGreatDoorCAZq
namespace Go.Proofs.YtmkmbbjgepcioaaGreatDoor
section
theorem zfR:∀(b cur:Pth),cur.length+b.length≤((zT cur b).map (fun s=>s.length+1)).sum
 | [],cur=>by simp [zT]
 | x::b,cur=>by
  unfold zT
  split
  · rw [List.map_cons,List.sum_cons,List.length_cons];have:=zfR b [];simp only [List.length_nil] at this;omega
  · have:=zfR b (cur++[x]);rw [List.length_append,List.length_singleton] at this;rw [List.length_cons];omega
theorem zpR {l:List Pth} {L:Nat} (h:∀s∈l,s.length≤L):(l.map (fun s=>s.length+1)).sum≤l.length*(L+1):=by
 induction l with
 | nil=>simp
 | cons x l ih =>
  rw [List.map_cons,List.sum_cons,List.length_cons,Nat.add_mul];have h1:=h x (List.mem_cons_self ..);have h2:=ih fun f hf=>h f (List.mem_cons_of_mem _ hf);omega
theorem zq2 {f:FileD} {L:Nat} (h:zL f=0) (hL:∀s,zF s=true→s.length≤L):f.p.length≤8*(L+1):=by
 obtain ⟨_,_,h3,h4⟩:=zcy h;have h5:=zfR f.p [];have h6:=zpR (l:=nmP f.p) (L:=L) fun s hs=>hL s (h4 s hs);have h7:=Nat.mul_le_mul_right (L+1) h3;unfold nmP at h6 h7;simp only [List.length_nil,Nat.zero_add] at h5;omega
theorem zmP {s:Pth} (h:zF s=true):s.length≤40:=by
 unfold zF at h;simp only [Bool.and_eq_true,decide_eq_true_eq] at h;exact h.2.1
theorem zho {f:FileD} (h:zL f=0):f.p.length≤328:=zq2 h fun _ hs=>zmP hs
theorem zeT {l:List FileD} (h:zf l=0):Fits l:=by
 obtain ⟨h1,h2,_⟩:=zV h;refine ⟨by omega,fun f hf=>?_⟩;have h3:=zho (h1.file f hf);have h4:=(zcy (h1.file f hf)).2.1;exact ⟨by omega,by omega⟩
theorem zhN {base l:List FileD} (hb:zf base=0) (hl:zf l=0):SidesIn base l where
 nb:=(zV hb).2.1
 nl:=(zV hl).2.1
 ab:=(zV hb).1.apt
 al:=(zV hl).1.apt
 fb:=zeT hb
 fl:=zeT hl
 kb:=(zV hb).1.kinds
 kl:=(zV hl).1.kinds
end
section
structure StepD where
 pars:List Int
 paths:List Int
 data:List (List UInt8)
def zeD:StepD:=⟨[],[],[]⟩
def za9 (n:Nat) (p:List Nat) (q:Int):List Nat:=if p.contains (q%n).toNat then p else p++[(q%n).toNat]
def rowP (n:Nat) (l:List Int):List Nat:=if n=0 then [] else (l.take 4).foldl (za9 n) []
def zau (ls:List (List Int)):Rw:=(List.range (min ls.length 40)).map fun n=>rowP n ((ls[n]?).getD [])
theorem zkp {n:Nat} (hn:0<n):∀(l:List Int) (p:List Nat),(∀q∈p,q<n)→∀q∈l.foldl (za9 n) p,q<n
 | [],p,h=>h
 | x::l,p,h=>by
  rw [List.foldl_cons];refine zkp hn l _ ?_;unfold za9
  split
  · exact h
  · intro q hq
    rcases List.mem_append.1 hq with k|k
    · exact h q k
    · rw [List.mem_singleton] at k;subst k;have h1:=Int.emod_nonneg x (show (n:Int)≠0 by omega);have h2:=Int.emod_lt_of_pos x (show (0:Int)<n by omega);omega
theorem zlR {n:Nat} {l:List Int}:∀q∈rowP n l,q<n:=by
 unfold rowP
 split
 · intro q h;cases h
 · exact zkp (by omega) _ _ (fun q h=>by cases h)
theorem zlN (n:Nat) (p:List Nat) (x:Int):(za9 n p x).length≤p.length+1:=by
 unfold za9
 split
 · omega
 · rw [List.length_append];exact Nat.le_refl _
theorem zhk {n:Nat}:∀(l:List Int) (p:List Nat),(l.foldl (za9 n) p).length≤p.length+l.length
 | [],p=>by simp
 | x::l,p=>by
  rw [List.foldl_cons,List.length_cons];have h1:=zhk (n:=n) l (za9 n p x);have h2:=zlN n p x;omega
theorem zqQ (n:Nat) (l:List Int):(rowP n l).length≤4:=by
 unfold rowP
 split
 · simp
 · have:=zhk (n:=n) (l.take 4) [];rw [List.length_take,List.length_nil] at this;omega
theorem zjj (ls:List (List Int)):(zau ls).length=min ls.length 40:=by simp [zau]
theorem ziS (ls:List (List Int)) (n:Nat):par (zau ls) n=if n<min ls.length 40 then rowP n ((ls[n]?).getD []) else []:=by
 unfold par zau;rw [List.getElem?_map]
 split
 · rename_i h
   rw [List.getElem?_range h];rfl
 · rename_i h
   rw [List.getElem?_eq_none (by rw [List.length_range];omega)];rfl
theorem zeR (ls:List (List Int)):WfR (zau ls):=by
 intro n q hq;rw [ziS] at hq
 split at hq
 · exact zlR q hq
 · cases hq
theorem zeo (ls:List (List Int)) (n:Nat):(par (zau ls) n).length≤4:=by
 rw [ziS]
 split
 · exact zqQ _ _
 · simp
def zep:List Pth:=[[97],[98],[100,47,97],[100,47,98],[101,47,102,47,103],[100,50]]
def zcr (n:Int):Pth:=(zep[(n%6).toNat]?).getD []
def zdv (d:List UInt8):List UInt8:=if 0<d.length∧d.length<300 then d else []
def zaY (s:StepD) (k:Nat):FileD:=⟨zcr ((s.paths[k]?).getD 0),1,zdv ((s.data[k]?).getD [])⟩
def zca (l:List FileD) (f:FileD):List FileD:=zbL (l.filter (fun g=>g.p !=f.p)++if 0<f.d.length then [f] else [])
def zmz (s:StepD) (t:List FileD) (k:Nat):List FileD:=zca t (zaY s k)
def zbb (s:StepD) (t:List FileD) (k:Nat):List FileD:=(List.range k).foldl (zmz s) t
def zdO (T:List (List FileD)):List Nat→List FileD
 | []=>[]
 | q::_=>(T[q]?).getD []
def zo9 (R:Rw) (ss:List StepD) (T:List (List FileD)) (n:Nat):List (List FileD):=T++[zbb ((ss[n]?).getD zeD) (zdO T (par R n)) (min ((ss[n]?).getD zeD).paths.length 4)]
def zaT (R:Rw) (ss:List StepD) (n:Nat):List (List FileD):=(List.range n).foldl (zo9 R ss) []
def z7 (t:List FileD):Prop:=GoodT t∧t.length≤40
theorem z7.nil_:z7 []:=⟨GoodT.nil_,by simp⟩
theorem z7.put (l:List FileD) (f:FileD):z7 (zca l f):=zrb _
theorem z7.check {t:List FileD} (h:z7 t):zf t=0:=zpH h.1 (Nat.le_trans h.2 (by decide))
theorem zk0 (s:StepD) (t:List FileD) (k:Nat):zbb s t (k+1)=zca (zbb s t k) (zaY s k):=by
 unfold zbb;rw [List.range_succ,List.foldl_append];rfl
theorem z7.tree (s:StepD) {t:List FileD} (h:z7 t):∀k,z7 (zbb s t k)
 | 0=>h
 | k+1=>by rw [zk0];exact z7.put _ _
theorem z7.base {T:List (List FileD)} (h:∀t∈T,z7 t) (p:List Nat):z7 (zdO T p):=by
 cases p with
 | nil=>exact z7.nil_
 | cons q r =>
  show z7 ((T[q]?).getD [])
  cases e:T[q]? with
  | none=>exact z7.nil_
  | some t=>exact h t (List.mem_of_getElem? e)
theorem zge (R:Rw) (ss:List StepD) (n:Nat):zaT R ss (n+1)=zaT R ss n++[zbb ((ss[n]?).getD zeD) (zdO (zaT R ss n) (par R n)) (min ((ss[n]?).getD zeD).paths.length 4)]:=by
 conv=>lhs;unfold zaT
 rw [List.range_succ,List.foldl_append];rfl
theorem zcX (R:Rw) (ss:List StepD):∀n,(zaT R ss n).length=n
 | 0=>rfl
 | n+1=>by rw [zge,List.length_append,zcX R ss n];rfl
theorem zdk (R:Rw) (ss:List StepD):∀n,∀t∈zaT R ss n,z7 t
 | 0,t,h=>by cases h
 | n+1,t,h=>by
  rw [zge] at h
  rcases List.mem_append.1 h with k|k
  · exact zdk R ss n t k
  · rw [List.mem_singleton] at k;subst k;exact z7.tree _ (z7.base (zdk R ss n) _) _
def idB (n:Nat):List UInt8:=UInt8.ofNat (n*37)::UInt8.ofNat n::UInt8.ofNat (n / 256)::List.replicate 29 0
structure BaseL (R:Rw) (a b:Nat) (l:List Nat):Prop where
 nd:l.Nodup
 low:∀x,x∈l↔Low R a b x
 rise:l.Pairwise fun x y=>idB x<idB y
abbrev zbR:=Except Nat (List FileD)×Nat
abbrev zbd:=Except Nat (List Nat×List FileD)×Nat
def zct (T:Nat→List FileD) (t:List FileD) (c:Nat) (u:List FileD) (k:Nat):zbR :=
 if k=0 then (.error 4,0) else match zN u t (T c) with
  | .error e=>(.error e,k-1)
  | .ok y=>(.ok y.1,k-1)
def zcM (T:Nat→List FileD) (t:List FileD) (c:Nat) (o:zbd):zbR:=match o.1 with
 | .error e=>(.error e,o.2)
 | .ok u=>zct T t c u.2 o.2
def zcB (rec:Nat→Nat→Nat→zbd) (T:Nat→List FileD) (x:Nat) (s:zbR) (c:Nat):zbR:=match s.1 with
 | .error _=>s
 | .ok t=>zcM T t c (rec s.2 x c)
def zcw (l:List Nat) (s:zbR):zbd:=match s.1 with
 | .error e=>(.error e,s.2)
 | .ok t=>(.ok (l,t),s.2)
def zM (L:Nat→Nat→List Nat) (T:Nat→List FileD):Nat→Nat→Nat→Nat→zbd
 | 0,left,_,_=>(.ok ([],[]),left)
 | F+1,left,a,b=>match L a b with
  | []=>(.ok ([],[]),left)
  | x::r=>zcw (x::r) (r.foldl (zcB (zM L T F) T x) (.ok (T x),left))
def zc9 (T:Nat→List FileD) (a b:Nat) (o:zbd):Except Nat (List FileD×List ClashD):=match o.1 with
 | .error e => .error e
 | .ok u=>zN u.2 (T a) (T b)
theorem zit {b o t:List FileD} {n:Nat} (h:zN b o t = .error n):n≠0:=by
 unfold zN at h
 split at h
 · injection h with h;omega
 split at h
 · injection h with h;omega
 split at h
 · injection h with h;omega
 simp only at h
 split at h
 · injection h with h;omega
 split at h
 · injection h with h;omega
 · cases h
def zaj (s:zbR):Prop:=(∀t,s.1 = .ok t→zf t=0)∧∀e,s.1 = .error e→e≠0
def zbK (s:zbd):Prop:=(∀t,s.1 = .ok t→zf t.2=0)∧∀e,s.1 = .error e→e≠0
theorem zaj.ok {t:List FileD} (h:zf t=0) (k:Nat):zaj (.ok t,k):=⟨fun u e=>(by injection e with e;rw [←e];exact h),fun e q=>(by cases q)⟩
theorem zaj.error {n:Nat} (h:n≠0) (k:Nat):zaj (.error n,k):=⟨fun u e=>(by cases e),fun e q=>(by injection q with q;omega)⟩
theorem zaj.merge (T:Nat→List FileD) (t:List FileD) (c:Nat) (u:List FileD) (k:Nat):zaj (zct T t c u k):=by
 unfold zct
 split
 · exact zaj.error (by omega) _
 · cases h:zN u t (T c) with
   | error e=>exact zaj.error (zit h) _
   | ok y =>
    obtain ⟨y1,y2⟩:=y;exact zaj.ok (ziN h).1 _
theorem zaj.next {T:Nat→List FileD} {t:List FileD} {c:Nat} {o:zbd} (h:zbK o):zaj (zcM T t c o):=by
 obtain ⟨o1,o2⟩:=o
 cases o1 with
 | error e=>exact zaj.error (h.2 e rfl) _
 | ok u=>exact zaj.merge T t c u.2 o2
theorem zaj.step {rec:Nat→Nat→Nat→zbd} {T:Nat→List FileD} {x:Nat} {s:zbR} {c:Nat} (h:zaj s) (hr:∀k,zbK (rec k x c)):zaj (zcB rec T x s c):=by
 obtain ⟨s1,s2⟩:=s
 cases s1 with
 | error e=>exact h
 | ok t=>exact zaj.next (hr _)
theorem zaj.fold {rec:Nat→Nat→Nat→zbd} {T:Nat→List FileD} {x:Nat} (hr:∀k c,zbK (rec k x c)):∀(r:List Nat) (s:zbR),zaj s→zaj (r.foldl (zcB rec T x) s)
 | [],s,h=>h
 | c::r,s,h=>by
  rw [List.foldl_cons];exact zaj.fold hr r _ (h.step (fun k=>hr k c))
theorem zbK.end_ {s:zbR} (h:zaj s) (l:List Nat):zbK (zcw l s):=by
 obtain ⟨s1,s2⟩:=s
 cases s1 with
 | error e=>exact ⟨fun u q=>(by cases q),fun n q=>by injection q with q;have:=h.2 e rfl;omega⟩
 | ok t=>exact ⟨fun u q=>by injection q with q;rw [←q];exact h.1 t rfl,fun n q=>(by cases q)⟩
theorem zbK.none_ (k:Nat):zbK (.ok ([],[]),k):=⟨fun u q=>by injection q with q;rw [←q];rfl,fun n q=>(by cases q)⟩
theorem zdP {L:Nat→Nat→List Nat} {T:Nat→List FileD} (hT:∀n,zf (T n)=0):∀F k a b,zbK (zM L T F k a b)
 | 0,k,_,_=>zbK.none_ k
 | F+1,k,a,b=>by
  unfold zM
  cases h:L a b with
  | nil=>exact zbK.none_ k
  | cons x r=>exact zbK.end_ (zaj.fold (fun k c=>zdP hT F k x c) r _ (zaj.ok (hT x) _)) _
theorem Low.le {R:Rw} (hw:WfR R) {a b x:Nat} (h:Low R a b x):x≤a∧x≤b:=⟨h.1.1.le hw,h.1.2.le hw⟩
theorem BaseL.less {R:Rw} (hw:WfR R) {a b x c:Nat} {r:List Nat} (h:BaseL R a b (x::r)) (hc:c∈r):x+c<a+b:=by
 have h1:=((h.low x).1 List.mem_cons_self).le hw;have h2:=((h.low c).1 (List.mem_cons_of_mem _ hc)).le hw;have h3:x≠c:=fun e=>by
  have:=(List.nodup_cons.1 h.nd).1;rw [e] at this;exact this hc
 omega
theorem zft {R:Rw} (hw:WfR R) {n m:Nat} (h:Rch R m n) {l:List Nat} (hl:BaseL R n m l):l=[n]:=by
 have h1:∀x,x∈l↔x=n:=fun x=>(hl.low x).trans (zr8 hw h x)
 cases l with
 | nil=>exact absurd ((h1 n).2 rfl) (by simp)
 | cons y r =>
  have e:=(h1 y).1 List.mem_cons_self;subst e
  cases r with
  | nil=>rfl
  | cons z r =>
   have e:=(h1 z).1 (by simp);subst e;exact absurd hl.nd (by simp)
theorem BaseL.comm {R:Rw} {a b:Nat} {l:List Nat} (h:BaseL R a b l):BaseL R b a l:=⟨h.nd,fun x=>(h.low x).trans ⟨Low.comm,Low.comm⟩,h.rise⟩
theorem BaseL.unique {R:Rw} {a b:Nat}:∀{l m:List Nat},BaseL R a b l→BaseL R a b m→l=m:=by
 have key:∀(l m:List Nat),l.Pairwise (fun x y=>idB x<idB y)→m.Pairwise (fun x y=>idB x<idB y)→(∀x,x∈l↔x∈m)→l=m:=by
  intro l
  induction l with
  | nil =>
   intro m _ _ h
   cases m with
   | nil=>rfl
   | cons y m=>exact absurd ((h y).2 List.mem_cons_self) (by simp)
  | cons x l ih =>
   intro m hl hm h
   cases m with
   | nil=>exact absurd ((h x).1 List.mem_cons_self) (by simp)
   | cons y m =>
    rw [List.pairwise_cons] at hl hm;have e:x=y:=by
     rcases List.mem_cons.1 ((h x).1 List.mem_cons_self) with q|q
     · exact q
     · rcases List.mem_cons.1 ((h y).2 List.mem_cons_self) with q2|q2
       · exact q2.symm
       · exact absurd (List.lt_trans (hl.1 y q2) (hm.1 x q)) (List.lt_irrefl _)
    subst e;rw [ih m hl.2 hm.2 (fun z=>by
     have hz:=h z;rw [List.mem_cons,List.mem_cons] at hz;constructor
     · intro q
       rcases hz.1 (.inr q) with e|q2
       · subst e;exact absurd (hl.1 z q) (List.lt_irrefl _)
       · exact q2
     · intro q
       rcases hz.2 (.inr q) with e|q2
       · subst e;exact absurd (hm.1 z q) (List.lt_irrefl _)
       · exact q2)]
 intro l m h1 h2;exact key l m h1.rise h2.rise (fun x=>(h1.low x).trans (h2.low x).symm)
end
section
open Go.RowKit Go.Maps
theorem FMap.more {w:World} {z z':Nat} {l:List FileD} {f:Mp} (h:FMap w z l f) (hz:z≤z'):FMap w z' l f :=
 ⟨h.1,fun s v e=>by
  obtain ⟨D,d,h1,h2⟩:=h.2 s v e;exact ⟨D,d,h1,h2.more hz⟩⟩
theorem SideM.toX {w:World} {B z mb cb q:Nat} {s:SideD} {b1 b2 b3 n1 n2 n3:Nat} {f1 f2 f3:Mp} (h:SideM w B q s b1 b2 b3 n1 n2 n3 f1 f2 f3) (hz:B≤z) (hm:w.heap.size≤mb) (hc:w.heap.size≤cb):zaf w z mb cb q s:=by
 have key:∀i,i<w.heap.size→i∉[mb,cb]:=fun i hi=>by simp only [List.mem_cons,List.not_mem_nil,or_false];omega
 exact ⟨b1,b2,b3,n1,n2,n3,f1,f2,f3,⟨h.blk,h.m1,h.m2,h.m3,h.p1.more hz,h.p2,h.p3,h.sz⟩,key _ h.blk.lt,key _ h.m1.lt,key _ h.m2.lt,key _ h.m3.lt⟩
def zcF (ds:List FT) (i:Nat) (A:Option Addr) (c:Nat):List FT:=ds.modify i fun x=>(x.1,(A,c))
theorem znS (ds:List FT) (i:Nat) (A:Option Addr) (c:Nat):(zcF ds i A c).map (·.1)=ds.map (·.1):=by
 unfold zcF;apply List.ext_getElem?;intro j;rw [List.getElem?_map,List.getElem?_modify,List.getElem?_map]
 cases ds[j]? with
 | none=>simp
 | some x=>by_cases e:i=j <;> simp [e]
theorem zqT {ds:List FT} {i:Nat} {x:FT} (h:ds[i]? = some x) (A:Option Addr) (c:Nat):(ds.flatMap ftL).set (i*3+2) (.slice A x.1.d.length c)=(zcF ds i A c).flatMap ftL:=by
 obtain ⟨hi,hx⟩:=List.getElem?_eq_some_iff.1 h;have e1:ds=ds.take i++(x::ds.drop (i+1)):=by rw [←hx,List.getElem_cons_drop,List.take_append_drop]
 have e2:zcF ds i A c=ds.take i++((x.1,(A,c))::ds.drop (i+1)):=by
  unfold zcF;rw [List.modify_eq_take_cons_drop hi,hx]
 have l1:((ds.take i).flatMap ftL).length=i*3:=by rw [zdj,List.length_take,Nat.min_eq_left (by omega)]
 rw [e2]
 conv=>lhs;rw [e1]
 rw [List.flatMap_append,List.flatMap_append,List.flatMap_cons,List.flatMap_cons,List.set_append_right _ _ (by omega),l1,Nat.add_sub_cancel_left];rfl
theorem MGA.data {w:World} {z mb so st cb N g i:Nat} {s:MSt} {f:FileD} {A:Option Addr} {c:Nat} (h:MGA w z mb so st cb N (some ⟨g,0,none⟩) s) (hf:s.t[i]? = some f) (hd:zk w z (f,(A,c))) :∃v,w.cell? ⟨g,i*3+2,none⟩=some v∧w.frozen? ⟨g,i*3+2,none⟩=false∧MGA (w.setCell ⟨g,i*3+2,none⟩ (.slice A f.d.length c)) z mb so st cb N (some ⟨g,0,none⟩) s∧Frm z mb cb w (w.setCell ⟨g,i*3+2,none⟩ (.slice A f.d.length c)):=by
 obtain ⟨c1,n,f9,h1,h2⟩:=h;obtain ⟨ds,h3,h4,h5⟩:=h2.things;rw [←h3,List.getElem?_map,Option.map_eq_some_iff] at hf;obtain ⟨x,hx,rfl⟩:=hf;have hi:i<ds.length:=(List.getElem?_eq_some_iff.1 hx).1;have hl:ds.length=s.t.length:=by rw [←h3,List.length_map]
 have ht:=Own.turn h4 (i*3+2) (.slice A x.1.d.length c) (zqT hx A c);have hc:=zgS hx 2 (.slice x.2.1 x.1.d.length x.2.2) rfl;have hk:Kept z [70] [] w (w.setCell ⟨g,i*3+2,none⟩ (.slice A x.1.d.length c)):=ht.2;have hF:Frm z mb cb w (w.setCell ⟨g,i*3+2,none⟩ (.slice A x.1.d.length c)):=Kept.mono hk (Nat.le_refl _) (by simp) (by simp)
 refine ⟨_,(World.ownsRow.cellAt h4 (i*3+2) (by omega)).trans hc,World.ownsRow.frozenAt h4 (i*3+2),⟨c1,n,f9,h1,⟨hk.blk h2.blk (by simp) (by decide),Nat.le_trans h2.zs hk.size,h2.zm,h2.zc,⟨zcF ds i A c,by rw [znS,h3],ht.1,fun y hy=>?_⟩,h2.map.keep hk fun t=>?_,h2.cl⟩⟩,hF⟩
 · obtain ⟨j,hj⟩:=List.mem_iff_getElem?.1 hy;unfold zcF at hj;rw [List.getElem?_modify] at hj
   cases q:ds[j]? with
   | none=>rw [q] at hj;simp at hj
   | some v =>
    rw [q] at hj;by_cases e:i=j
    · subst e;rw [hx] at q;injection q with q;subst q;simp at hj;subst hj;exact hd.mg h2 hF
    · simp [e] at hj;subst hj;exact (h5 v (List.mem_of_getElem? q)).mg h2 hF
 · rcases t with t|⟨_,e,_,cs,fz,hcc⟩
   · cases t
   · obtain ⟨D,⟨es,clock,q1,_⟩,_⟩:=h2.map;rw [q1] at hcc;cases hcc
end
section
structure MLen (L n:Nat) (s:MSt):Prop where
 len:s.t.length≤n
 p:∀f∈s.t,f.p.length≤L
 c:∀x∈s.c,x.p.length≤L∧x.why≤6
 d:∀f∈s.t,f.d.length≤1000000
theorem zor {b o t x:List UInt8} {cl:Bool} (hb:b.length≤100000) (ho:o.length≤100000) (ht:t.length≤100000) (h:zcE b o t=some (x,cl)):x.length≤1000000:=by
 unfold zcE at h
 split at h
 · rename_i hl
   injection h with h;injection h with h _;have h1:=zhi (zat (zi b) (zi o) (zi t));obtain ⟨r1,r2,r3,r4⟩:=ziU hl.1 hl.2.1 hl.2.2;rw [r1,r2,r3,h] at h1;unfold zh at h1;rw [zcx,zcx,zcx] at h1;omega
 · cases h
theorem zrl {base x y:FileD} (k:Int) (hb:base.d.length≤100000) (hx:x.d.length≤100000) (hy:y.d.length≤100000):(zaI base k x y).1.length≤1000000:=by
 unfold zaI
 split
 · simp only;omega
 · split
   · simp only;omega
   · split
     · cases h:zcE base.d x.d y.d with
       | none=>exact Nat.zero_le _
       | some r =>
        obtain ⟨d,cl⟩:=r;exact zor hb hx hy h
     · simp only;omega
section
variable {L n:Nat} {s:MSt}
theorem MLen.nil_ (L:Nat):MLen L 0 ⟨[],[],0⟩:=⟨Nat.le_refl _,fun _ h=>(by cases h),fun _ h=>(by cases h),fun _ h=>(by cases h)⟩
theorem MLen.stay (h:MLen L n s) {p:Pth} (hp:p.length≤L) {f:FileD} (hd:f.d.length≤1000000):MLen L (n+1) (s.stay p f):=⟨by rw [zdH];have:=h.len;omega,fun g hg=>by
 rcases List.mem_append.1 hg with q|q
 · exact h.p g q
 · rw [List.mem_singleton.1 q];exact hp,h.c,fun g hg=>by
 rcases List.mem_append.1 hg with q|q
 · exact h.d g q
 · rw [List.mem_singleton.1 q];exact hd⟩
theorem MLen.clash (h:MLen L n s) {p:Pth} (hp:p.length≤L) {w:Nat} (hw:w≤6):MLen L n (s.clash p w):=⟨h.len,h.p,fun x hx=>by
 rcases List.mem_append.1 hx with q|q
 · exact h.c x q
 · rw [List.mem_singleton.1 q];exact ⟨hp,hw⟩,h.d⟩
theorem MLen.more {n':Nat} (h:MLen L n s) (hn:n≤n'):MLen L n' s:=⟨Nat.le_trans h.len hn,h.p,h.c,h.d⟩
theorem MLen.both (h:MLen L n s) {p:Pth} (hp:p.length≤L) {b:FileD} (k:Int) {x y:FileD} (hb:b.d.length≤100000) (hx:x.d.length≤100000) (hy:y.d.length≤100000):MLen L (n+1) (s.both p b k x y):=by
 unfold MSt.both;simp only
 refine MLen.stay ?_ hp (zrl k hb hx hy);have h1:MLen L n (if (zbi b.k x.k y.k).2=true then s else s.clash p 3):=by
  split
  · exact h
  · exact h.clash hp (by omega)
 split
 · exact ⟨h1.len,h1.p,h1.c,h1.d⟩
 · refine MLen.clash (w:=1) ?_ hp (by omega);exact ⟨h1.len,h1.p,h1.c,h1.d⟩
theorem MLen.alone (h:MLen L n s) {p:Pth} (hp:p.length≤L) (f:FileD) {x:FileD} (hx:x.d.length≤100000):MLen L (n+1) (s.alone f p x):=by
 unfold MSt.alone
 split
 · exact h.more (by omega)
 · exact (h.stay hp (f:=x) (by omega)).clash hp (by omega)
theorem MLen.file (h:MLen L n s) {o t:SideD} {f:FileD} (hf:f.p.length≤L) (ho:(o.goes f.p).1.length≤L) (ht:(t.goes f.p).1.length≤L) (df:f.d.length≤100000) (do_:∀p,(getF o.f p).d.length≤100000) (dt:∀p,(getF t.f p).d.length≤100000):MLen L (n+2) (s.file o t f):=by
 unfold MSt.file;simp only
 split
 · exact (h.alone ho _ (do_ _)).more (by omega)
 · split
   · exact (h.alone ht _ (dt _)).more (by omega)
   · split
     · exact h.more (by omega)
     · split
       · exact ((h.stay ho (Nat.le_trans (do_ _) (by omega))).stay ht (Nat.le_trans (dt _) (by omega))).clash hf (by omega)
       · split
         · exact (h.both ho _ df (do_ _) (dt _)).more (by omega)
         · exact (h.both ht _ df (do_ _) (dt _)).more (by omega)
theorem MLen.fresh1 (h:MLen L n s) {p:Pth} (hp:p.length≤L) (base:List FileD) {o t:SideD} (do_:∀p,(getF o.f p).d.length≤100000) (dt:∀p,(getF t.f p).d.length≤100000):MLen L (n+1) (MSt.fresh1 base o t s p):=by
 unfold MSt.fresh1
 split
 · exact h.both hp _ (by simp [zbE]) (do_ _) (dt _)
 · exact h.stay hp (Nat.le_trans (do_ _) (by omega))
 · exact h.stay hp (Nat.le_trans (dt _) (by omega))
 · exact h.more (by omega)
end
theorem zqj {base l:List FileD} {ps:List PairD} (h:PairsOf base l ps) {L:Nat} (hl:∀f∈l,f.p.length≤L) {p:Pth} (hp:p.length≤L):(SideD.goes ⟨l,ps⟩ p).1.length≤L:=by
 rcases zcR l ps p with ⟨x,hx,_,e⟩|⟨_,e⟩
 · rw [e];obtain ⟨f,hf,e⟩:=zQ.1 (h.new x hx).1;simp only
   rw [←e];exact hl f hf
 · rw [e];exact hp
theorem zdE {l:List FileD} (h:zf l=0):∀f∈l,f.p.length≤328:=fun f hf=>zho ((zV h).1.file f hf)
theorem zcd {l:List FileD} (h:zf l=0) (p:Pth):(getF l p).d.length≤65536:=by
 cases q:hasF l p with
 | true=>exact (zcy ((zV h).1.file _ (zal q).1)).2.1
 | false=>rw [zbe q];exact Nat.zero_le _
theorem ze5 {base l:List FileD} (hb:zf base=0) (hl:zf l=0) {p:Pth} (hp:p.length≤328):((zX base l).goes p).1.length≤328 :=
 zqj (zdG (zV hb).1.apt (zV hl).1.apt (zV hb).1.kinds (zV hl).1.kinds) (zdE hl) hp
theorem ze6 {base ours theirs:List FileD} (hb:zf base=0) (ho:zf ours=0) (ht:zf theirs=0):∀k:Nat,k≤base.length→MLen 328 (2*k) ((base.take k).foldl (MSt.file (zX base ours) (zX base theirs)) ⟨[],[],0⟩)
 | 0,_=>MLen.nil_ _
 | k+1,hk=>by
  rw [List.take_add_one,List.getElem?_eq_getElem (by omega),Option.toList_some,List.foldl_append];have h2:=zdE hb (base[k]'(by omega)) (List.getElem_mem _);exact (ze6 hb ho ht k (by omega)).file h2 (ze5 hb ho h2) (ze5 hb ht h2) (Nat.le_trans (zcy ((zV hb).1.file _ (List.getElem_mem _))).2.1 (by omega)) (fun p=>Nat.le_trans (zcd ho p) (by omega)) (fun p=>Nat.le_trans (zcd ht p) (by omega))
theorem znA {base ours theirs:List FileD} (hb:zf base=0) (ho:zf ours=0) (ht:zf theirs=0):MLen 328 4000 (zS base ours theirs):=by
 have h1:=ze6 hb ho ht base.length (Nat.le_refl _);rw [List.take_length] at h1;unfold zS;simp only
 have key:∀(ks:List Pth) (n:Nat) (s:MSt),(∀p∈ks,p.length≤328)→MLen 328 n s→MLen 328 (n+ks.length) (ks.foldl (MSt.fresh1 base (zX base ours) (zX base theirs)) s):=by
  intro ks
  induction ks with
  | nil=>exact fun n s _ h=>h
  | cons p ks ih =>
   intro n s hp h;rw [List.foldl_cons,List.length_cons];exact (ih _ _ (fun q hq=>hp q (List.mem_cons_of_mem _ hq)) (h.fresh1 (hp p (List.mem_cons_self ..)) _ (fun p=>Nat.le_trans (zcd ho p) (by omega)) (fun p=>Nat.le_trans (zcd ht p) (by omega)))).more (by omega)
 have hk:∀p∈zaA (ours.map (·.p)++theirs.map (·.p)),p.length≤328:=fun p hp=>by
  rw [zbD,List.mem_append,List.mem_map,List.mem_map] at hp
  rcases hp with ⟨f,hf,rfl⟩|⟨f,hf,rfl⟩
  · exact zdE ho f hf
  · exact zdE ht f hf
 have hl:=zc2 (ours.map (·.p)++theirs.map (·.p));rw [List.length_append,List.length_map,List.length_map] at hl;have n1:=(zV hb).2.1;have n2:=(zV ho).2.1;have n3:=(zV ht).2.1;exact (key _ _ _ hk h1).more (by omega)
theorem znn {l:List FileD} {c:List ClashD} {i n L:Nat} (h:ApI n L i l) (hi:i<n):ApI n L (i+1) (zan (l,c) i).1:=by
 have hf:l[i]? = some (l[i]'(by rw [h.len];exact hi)):=List.getElem?_eq_getElem _;rw [zeQ hf]
 split
 · exact h.moved hf false
 · rename_i q
   rw [Bool.not_eq_true] at q;exact h.stay hf q
theorem zhe {n L:Nat}:∀(i:Nat) (l:List FileD) (c:List ClashD),i≤n→ApI n L 0 l→ApI n L i ((List.range i).foldl zan (l,c)).1
 | 0,_,_,_,h=>h
 | i+1,l,c,hi,h=>by
  rw [zcs];have:=zhe i l c (by omega) h;exact znn (c:=((List.range i).foldl zan (l,c)).2) this (by omega)
theorem zrU {l:List FileD} {i:Nat} {f:FileD} (h:Apt l) (hf:l[i]? = some f) (b:Bool):Apt (zK l i (za1 l b f.p)):=by
 have hn:∀g∈l,g.p≠za1 l b f.p:=zkf;unfold Apt at h ⊢;have e:=zgT hf;rw [zfA hf];rw [e] at h;simp only [List.map_append,List.map_cons,List.map_nil] at h ⊢;have hp:(l.take i).map (·.p)++([za1 l b f.p]++(l.drop (i+1)).map (·.p))=(l.take i).map (·.p)++(za1 l b f.p::(l.drop (i+1)).map (·.p)):=rfl;rw [hp];have h':((l.take i).map (·.p)++(f.p::(l.drop (i+1)).map (·.p))).Nodup:=h;rw [(List.perm_middle).nodup_iff,List.nodup_cons] at h' ⊢;refine ⟨fun q=>?_,h'.2⟩
 rcases List.mem_append.1 q with q|q
 · obtain ⟨g,hg,e⟩:=List.mem_map.1 q;exact hn g (List.mem_of_mem_take hg) e
 · obtain ⟨g,hg,e⟩:=List.mem_map.1 q;exact hn g (List.mem_of_mem_drop hg) e
def zbj (L:Nat) (c:List ClashD):Prop:=∀x∈c,x.p.length≤L∧x.why≤6
theorem zbj.more {L L':Nat} {c:List ClashD} (h:zbj L c) (hl:L≤L'):zbj L' c:=fun x hx=>⟨Nat.le_trans (h x hx).1 hl,(h x hx).2⟩
theorem zbj.snoc {L:Nat} {c:List ClashD} (h:zbj L c) {p:Pth} (hp:p.length≤L) {w:Nat} (hw:w≤6):zbj L (c++[⟨p,w⟩]):=fun x hx=>by
 rcases List.mem_append.1 hx with q|q
 · exact h x q
 · rw [List.mem_singleton.1 q];exact ⟨hp,hw⟩
theorem zln {n L:Nat}:∀(i:Nat) (l:List FileD) (c:List ClashD),i≤n→ApI n L 0 l→zbj (L+n) c→zbj (L+n) ((List.range i).foldl zan (l,c)).2
 | 0,_,_,_,_,h=>h
 | i+1,l,c,hi,h,hc=>by
  rw [zcs];have h1:=zhe i l c (by omega) h;have h2:=zln i l c (by omega) h hc;generalize (List.range i).foldl zan (l,c)=r at *;obtain ⟨l',c'⟩:=r;have hf:l'[i]? = some (l'[i]'(by rw [h1.len];exact hi)):=List.getElem?_eq_getElem _;rw [zeQ hf]
  split
  · exact h2.snoc (by have:=h1.long _ (List.mem_of_getElem? hf);omega) (by omega)
  · exact h2
structure AsI (n L:Nat) (l:List FileD):Prop where
 len:l.length=n
 apt:Apt l
 long:∀f∈l,f.p.length≤L
theorem znq {l:List FileD} {c:List ClashD} {i n L:Nat} (h:AsI n L l) (hi:i<n):AsI n (L+1) (zaM (l,c) i).1:=by
 have hf:l[i]? = some (l[i]'(by rw [h.len];exact hi)):=List.getElem?_eq_getElem _;rw [zfc hf]
 split
 · refine ⟨by rw [zd3];exact h.len,zrU h.apt hf true,fun g hg=>?_⟩
   rcases zgJ hg with q|q
   · have:=h.long g q;omega
   · rw [q];exact zee h.long _ _ (h.long _ (List.mem_of_getElem? hf))
 · exact ⟨h.len,h.apt,fun f hf=>by have:=h.long f hf;omega⟩
theorem zfm {n L:Nat}:∀(i:Nat) (l:List FileD) (c:List ClashD),i≤n→AsI n L l→AsI n (L+i) ((List.range i).foldl zaM (l,c)).1
 | 0,_,_,_,h=>h
 | i+1,l,c,hi,h=>by
  rw [zcs];have:=zfm i l c (by omega) h;exact znq (c:=((List.range i).foldl zaM (l,c)).2) this (by omega)
theorem zio {n L:Nat}:∀(i:Nat) (l:List FileD) (c:List ClashD),i≤n→AsI n L l→zbj (L+n) c→zbj (L+n) ((List.range i).foldl zaM (l,c)).2
 | 0,_,_,_,_,h=>h
 | i+1,l,c,hi,h,hc=>by
  rw [zcs];have h1:=zfm i l c (by omega) h;have h2:=zio i l c (by omega) h hc;generalize (List.range i).foldl zaM (l,c)=r at *;obtain ⟨l',c'⟩:=r;have hf:l'[i]? = some (l'[i]'(by rw [h1.len];exact hi)):=List.getElem?_eq_getElem _;rw [zfc hf]
  split
  · exact h2.snoc (by have:=h1.long _ (List.mem_of_getElem? hf);omega) (by omega)
  · exact h2
theorem zmC {l:List FileD} (h:Apt l):Apt (zW l):=by
 unfold Apt at h ⊢;exact ((zb2 l).map (fun f:FileD=>f.p)).nodup_iff.2 h
theorem zmd {l:List FileD} {c:List ClashD} {L:Nat} (h:∀f∈l,f.p.length≤L) (hc:zbj L c):AsI l.length (L+l.length+l.length) (zak l c).1∧zbj (L+l.length+l.length) (zak l c).2:=by
 have h0:ApI l.length L 0 l:=⟨rfl,by simp [Apt],fun f hf=>by have:=h f hf;omega⟩;have h1:=zhe l.length l c (Nat.le_refl _) h0;have h2:Apt ((List.range l.length).foldl zan (l,c)).1:=by
  have:=h1.apt
  rwa [List.take_of_length_le (by rw [h1.len];exact Nat.le_refl _)] at this
 have h3:=zln l.length l c (Nat.le_refl _) h0 (hc.more (by omega));unfold zak;have h4:AsI l.length (L+l.length) (zW ((List.range l.length).foldl zan (l,c)).1):=⟨by rw [zcS];exact h1.len,zmC h2,fun f hf=>h1.long f ((zb2 _).mem_iff.1 hf)⟩
 exact ⟨zfm l.length _ _ (Nat.le_refl _) h4,zio l.length _ _ (Nat.le_refl _) h4 (h3.more (by omega))⟩
theorem zqP {Q:List UInt8→Prop} {l:List FileD} {c:List ClashD} (h:∀f∈l,Q f.d):∀f∈(zak l c).1,Q f.d:=by
 have mv:∀(l:List FileD) (i:Nat) (p:Pth),(∀f∈l,Q f.d)→∀f∈zK l i p,Q f.d:=fun l i p h f hf=>by
  obtain ⟨j,hj⟩:=List.mem_iff_getElem?.1 hf;unfold zK at hj;rw [List.getElem?_modify] at hj
  cases q:l[j]? with
  | none=>rw [q] at hj;simp at hj
  | some x =>
   rw [q] at hj;have hx:=h x (List.mem_of_getElem? q);by_cases e:i=j
   · simp [e] at hj;subst hj;exact hx
   · simp [e] at hj;subst hj;exact hx
 have a1:∀(ns:List Nat) (r:List FileD×List ClashD),(∀f∈r.1,Q f.d)→∀f∈(ns.foldl zan r).1,Q f.d:=fun ns=>by
  induction ns with
  | nil=>exact fun r h=>h
  | cons n ns ih =>
   intro r h;refine ih _ ?_;unfold zan
   split
   · exact h
   · split
     · exact mv _ _ _ h
     · exact h
 have a2:∀(ns:List Nat) (r:List FileD×List ClashD),(∀f∈r.1,Q f.d)→∀f∈(ns.foldl zaM r).1,Q f.d:=fun ns=>by
  induction ns with
  | nil=>exact fun r h=>h
  | cons n ns ih =>
   intro r h;refine ih _ ?_;unfold zaM
   split
   · exact h
   · split
     · exact mv _ _ _ h
     · exact h
 unfold zak;exact a2 _ _ fun f hf=>a1 _ _ h f ((zb2 _).mem_iff.1 hf)
end
section
def insB (n:Nat):List Nat→List Nat
 | []=>[n]
 | x::l=>if idB n<idB x then n::x::l else x::insB n l
theorem zgg {n x:Nat}:∀{l:List Nat},x∈insB n l↔x=n∨x∈l
 | []=>by simp [insB]
 | y::l=>by
  unfold insB
  split
  · simp
  · simp only [List.mem_cons,zgg (l:=l)]
    constructor
    · rintro (h|h|h) <;> simp [h]
    · rintro (h|h|h) <;> simp [h]
theorem zsH {n m:Nat} (hn:n<256) (hm:m<256) (h:idB n=idB m):n=m:=by
 unfold idB at h;injection h with _ h;injection h with h _;have:=congrArg UInt8.toNat h;simpa [Nat.mod_eq_of_lt hn,Nat.mod_eq_of_lt hm] using this
theorem zmR {n m:Nat} (hn:n<256) (hm:m<256) (hne:n≠m) (h:¬idB n<idB m):idB m<idB n:=by
 have h1:idB m≤idB n:=List.not_lt.1 h
 rcases List.le_iff_lt_or_eq.1 h1 with q|q
 · exact q
 · exact absurd (zsH hm hn q).symm hne
theorem ziG {n:Nat} (hn:n<256):∀{l:List Nat},(∀x∈l,x<256∧x≠n)→l.Pairwise (fun x y=>idB x<idB y)→(insB n l).Pairwise (fun x y=>idB x<idB y)
 | [],_,_=>by simp [insB]
 | y::l,hl,h=>by
  rw [List.pairwise_cons] at h;have hy:=hl y List.mem_cons_self;unfold insB
  split
  · rename_i hlt
    rw [List.pairwise_cons,List.pairwise_cons];refine ⟨fun z hz=>?_,h⟩
    rcases List.mem_cons.1 hz with rfl|hz
    · exact hlt
    · exact List.lt_trans hlt (h.1 z hz)
  · rename_i hlt
    rw [List.pairwise_cons];refine ⟨fun z hz=>?_,ziG hn (fun x hx=>hl x (List.mem_cons_of_mem _ hx)) h.2⟩
    rcases zgg.1 hz with rfl|hz
    · exact zmR hn hy.1 (Ne.symm hy.2) hlt
    · exact h.1 z hz
theorem zkK (P:Nat→Prop):∀N,N≤256→∃l:List Nat,l.Pairwise (fun x y=>idB x<idB y)∧∀x,x∈l↔x<N∧P x
 | 0,_=>⟨[],List.Pairwise.nil,fun x=>by simp⟩
 | N+1,hN=>by
  obtain ⟨l,h1,h2⟩:=zkK P N (by omega);by_cases q:P N
  · refine ⟨insB N l,ziG (by omega) (fun x hx=>?_) h1,fun x=>?_⟩
    · have:=(h2 x).1 hx;omega
    · rw [zgg,h2];constructor
      · rintro (rfl|⟨h,k⟩)
        · exact ⟨by omega,q⟩
        · exact ⟨by omega,k⟩
      · rintro ⟨h,k⟩
        rcases Nat.lt_or_ge x N with r|r
        · exact .inr ⟨r,k⟩
        · exact .inl (by omega)
  · refine ⟨l,h1,fun x=>?_⟩;rw [h2];constructor
    · rintro ⟨h,k⟩;exact ⟨by omega,k⟩
    · rintro ⟨h,k⟩;refine ⟨?_,k⟩
      rcases Nat.lt_or_ge x N with r|r
      · exact r
      · obtain rfl:x=N:=by omega
        exact (q k).elim
theorem ze8 {R:Rw} (hw:WfR R) (a b:Nat) (ha:a<200):∃l,BaseL R a b l:=by
 obtain ⟨l,h1,h2⟩:=zkK (Low R a b) (a+1) (by omega)
 refine ⟨l,h1.imp fun h e=>?_,fun x=>?_,h1⟩
 · subst e;exact List.lt_irrefl _ h
 · rw [h2];exact ⟨fun h=>h.2,fun h=>⟨by have:=(h.le hw).1;omega,h⟩⟩
theorem zhp {R:Rw} (hw:WfR R):∃L:Nat→Nat→List Nat,(∀a b,a<200→BaseL R a b (L a b))∧∀a b,a<200→b<200→L a b=L b a:=by
 refine ⟨fun a b=>if h:a<200 then (ze8 hw a b h).choose else [],?_,?_⟩
 · intro a b h;simp only [dif_pos h]
   exact (ze8 hw a b h).choose_spec
 · intro a b ha hb;simp only [dif_pos ha,dif_pos hb]
   exact BaseL.unique (ze8 hw a b ha).choose_spec (ze8 hw b a hb).choose_spec.comm
end
end Go.Proofs.YtmkmbbjgepcioaaGreatDoor
