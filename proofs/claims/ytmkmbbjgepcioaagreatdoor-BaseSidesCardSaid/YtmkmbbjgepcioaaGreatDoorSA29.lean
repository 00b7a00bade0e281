/- What two commits are merged over: there is such a row (plain). No statement of the seat is proved here. -/
import Derived.Test.YtmkmbbjgepcioaaGreatDoorSAEa
import Derived.Test.YtmkmbbjgepcioaaGreatDoorSA27
import Derived.Test.YtmkmbbjgepcioaaGreatDoorSA28
import Derived.Test.YtmkmbbjgepcioaaGreatDoorSA07
namespace Go.Proofs.YtmkmbbjgepcioaaGreatDoor
section
structure StepD where
 pars:List Int
 paths:List Int
 data:List (List UInt8)
def zeK:StepD:=⟨[],[],[]⟩
def zbe (n:Nat) (p:List Nat) (q:Int):List Nat:=if p.contains (q%n).toNat then p else p++[(q%n).toNat]
def rowP (n:Nat) (l:List Int):List Nat:=if n=0 then [] else (l.take 4).foldl (zbe n) []
def zaQ (ls:List (List Int)):Rw:=(List.range (min ls.length 40)).map fun n=>rowP n ((ls[n]?).getD [])
theorem zlX {n:Nat} (hn:0<n):∀(l:List Int) (p:List Nat),(∀q∈p,q<n)→∀q∈l.foldl (zbe n) p,q<n
 | [],p,h=>h
 | x::l,p,h=>by
  rw [List.foldl_cons];refine zlX hn l _ ?_;unfold zbe
  split
  · exact h
  · intro q hq
    rcases List.mem_append.1 hq with k|k
    · exact h q k
    · rw [List.mem_singleton] at k;subst k;have h1:=Int.emod_nonneg x (show (n:Int)≠0 by omega);have h2:=Int.emod_lt_of_pos x (show (0:Int)<n by omega);omega
theorem ztn {n:Nat} {l:List Int}:∀q∈rowP n l,q<n:=by
 unfold rowP
 split
 · intro q h;cases h
 · exact zlX (by omega) _ _ (fun q h=>by cases h)
theorem ztR (n:Nat) (p:List Nat) (x:Int):(zbe n p x).length≤p.length+1:=by
 unfold zbe
 split
 · omega
 · rw [List.length_append];exact Nat.le_refl _
theorem zgq {n:Nat}:∀(l:List Int) (p:List Nat),(l.foldl (zbe n) p).length≤p.length+l.length
 | [],p=>by simp
 | x::l,p=>by
  rw [List.foldl_cons,List.length_cons];have h1:=zgq (n:=n) l (zbe n p x);have h2:=ztR n p x;omega
theorem zuc (n:Nat) (l:List Int):(rowP n l).length≤4:=by
 unfold rowP
 split
 · simp
 · have:=zgq (n:=n) (l.take 4) [];rw [List.length_take,List.length_nil] at this;omega
theorem zla (ls:List (List Int)):(zaQ ls).length=min ls.length 40:=by simp [zaQ]
theorem zl0 (ls:List (List Int)) (n:Nat):par (zaQ ls) n=if n<min ls.length 40 then rowP n ((ls[n]?).getD []) else []:=by
 unfold par zaQ;rw [List.getElem?_map]
 split
 · rename_i h
   rw [List.getElem?_range h];rfl
 · rename_i h
   rw [List.getElem?_eq_none (by rw [List.length_range];omega)];rfl
theorem zgc (ls:List (List Int)):WfR (zaQ ls):=by
 intro n q hq;rw [zl0] at hq
 split at hq
 · exact ztn q hq
 · cases hq
theorem zhO (ls:List (List Int)) (n:Nat):(par (zaQ ls) n).length≤4:=by
 rw [zl0]
 split
 · exact zuc _ _
 · simp
def zfa:List Pth:=[[97],[98],[100,47,97],[100,47,98],[101,47,102,47,103],[100,50]]
def zcL (n:Int):Pth:=(zfa[(n%6).toNat]?).getD []
def zdR (d:List UInt8):List UInt8:=if 0<d.length∧d.length<300 then d else []
def za6 (s:StepD) (k:Nat):FileD:=⟨zcL ((s.paths[k]?).getD 0),1,zdR ((s.data[k]?).getD [])⟩
def zcu (l:List FileD) (f:FileD):List FileD:=zbW (l.filter (fun g=>g.p !=f.p)++if 0<f.d.length then [f] else [])
def zpB (s:StepD) (t:List FileD) (k:Nat):List FileD:=zcu t (za6 s k)
def zbk (s:StepD) (t:List FileD) (k:Nat):List FileD:=(List.range k).foldl (zpB s) t
def zep (T:List (List FileD)):List Nat→List FileD
 | []=>[]
 | q::_=>(T[q]?).getD []
def zpH (R:Rw) (ss:List StepD) (T:List (List FileD)) (n:Nat):List (List FileD):=T++[zbk ((ss[n]?).getD zeK) (zep T (par R n)) (min ((ss[n]?).getD zeK).paths.length 4)]
def za5 (R:Rw) (ss:List StepD) (n:Nat):List (List FileD):=(List.range n).foldl (zpH R ss) []
def zag (t:List FileD):Prop:=GoodT t∧t.length≤40
theorem zag.nil_:zag []:=⟨GoodT.nil_,by simp⟩
theorem zag.put (l:List FileD) (f:FileD):zag (zcu l f):=ztN _
theorem zag.check {t:List FileD} (h:zag t):zg t=0:=zgJ h.1 (Nat.le_trans h.2 (by decide))
theorem zj1 (s:StepD) (t:List FileD) (k:Nat):zbk s t (k+1)=zcu (zbk s t k) (za6 s k):=by
 unfold zbk;rw [List.range_succ,List.foldl_append];rfl
theorem zag.tree (s:StepD) {t:List FileD} (h:zag t):∀k,zag (zbk s t k)
 | 0=>h
 | k+1=>by rw [zj1];exact zag.put _ _
theorem zag.base {T:List (List FileD)} (h:∀t∈T,zag t) (p:List Nat):zag (zep T p):=by
 cases p with
 | nil=>exact zag.nil_
 | cons q r =>
  show zag ((T[q]?).getD [])
  cases e:T[q]? with
  | none=>exact zag.nil_
  | some t=>exact h t (List.mem_of_getElem? e)
theorem zfQ (R:Rw) (ss:List StepD) (n:Nat):za5 R ss (n+1)=za5 R ss n++[zbk ((ss[n]?).getD zeK) (zep (za5 R ss n) (par R n)) (min ((ss[n]?).getD zeK).paths.length 4)]:=by
 conv=>lhs;unfold za5
 rw [List.range_succ,List.foldl_append];rfl
theorem zfu (R:Rw) (ss:List StepD):∀n,(za5 R ss n).length=n
 | 0=>rfl
 | n+1=>by rw [zfQ,List.length_append,zfu R ss n];rfl
theorem zeg (R:Rw) (ss:List StepD):∀n,∀t∈za5 R ss n,zag t
 | 0,t,h=>by cases h
 | n+1,t,h=>by
  rw [zfQ] at h
  rcases List.mem_append.1 h with k|k
  · exact zeg R ss n t k
  · rw [List.mem_singleton] at k;subst k;exact zag.tree _ (zag.base (zeg R ss n) _) _
def idB (n:Nat):List UInt8:=UInt8.ofNat (n*37)::UInt8.ofNat n::UInt8.ofNat (n / 256)::List.replicate 29 0
structure BaseL (R:Rw) (a b:Nat) (l:List Nat):Prop where
 nd:l.Nodup
 low:∀x,x∈l↔Low R a b x
 rise:l.Pairwise fun x y=>idB x<idB y
abbrev zb2:=Except Nat (List FileD)×Nat
abbrev zbj:=Except Nat (List Nat×List FileD)×Nat
def zcM (T:Nat→List FileD) (t:List FileD) (c:Nat) (u:List FileD) (k:Nat):zb2 :=
 if k=0 then (.error 4,0) else match zG u t (T c) with
  | .error e=>(.error e,k-1)
  | .ok y=>(.ok y.1,k-1)
def zcT (T:Nat→List FileD) (t:List FileD) (c:Nat) (o:zbj):zb2:=match o.1 with
 | .error e=>(.error e,o.2)
 | .ok u=>zcM T t c u.2 o.2
def zcD (rec:Nat→Nat→Nat→zbj) (T:Nat→List FileD) (x:Nat) (s:zb2) (c:Nat):zb2:=match s.1 with
 | .error _=>s
 | .ok t=>zcT T t c (rec s.2 x c)
def zcc (l:List Nat) (s:zb2):zbj:=match s.1 with
 | .error e=>(.error e,s.2)
 | .ok t=>(.ok (l,t),s.2)
def zL (L:Nat→Nat→List Nat) (T:Nat→List FileD):Nat→Nat→Nat→Nat→zbj
 | 0,left,_,_=>(.ok ([],[]),left)
 | F+1,left,a,b=>match L a b with
  | []=>(.ok ([],[]),left)
  | x::r=>zcc (x::r) (r.foldl (zcD (zL L T F) T x) (.ok (T x),left))
def za1 (T:Nat→List FileD) (a b:Nat) (o:zbj):Except Nat (List FileD×List ClashD):=match o.1 with
 | .error e => .error e
 | .ok u=>zG u.2 (T a) (T b)
theorem zje {b o t:List FileD} {n:Nat} (h:zG b o t = .error n):n≠0:=by
 unfold zG at h
 split at h
 · injection h with h;omega
 split at h
 · injection h with h;omega
 split at h
 · injection h with h;omega
 simp only at h
 split at h
 · injection h with h;omega
 split at h
 · injection h with h;omega
 · cases h
def zar (s:zb2):Prop:=(∀t,s.1 = .ok t→zg t=0)∧∀e,s.1 = .error e→e≠0
def zbV (s:zbj):Prop:=(∀t,s.1 = .ok t→zg t.2=0)∧∀e,s.1 = .error e→e≠0
theorem zar.ok {t:List FileD} (h:zg t=0) (k:Nat):zar (.ok t,k):=⟨fun u e=>(by injection e with e;rw [←e];exact h),fun e q=>(by cases q)⟩
theorem zar.error {n:Nat} (h:n≠0) (k:Nat):zar (.error n,k):=⟨fun u e=>(by cases e),fun e q=>(by injection q with q;omega)⟩
theorem zar.merge (T:Nat→List FileD) (t:List FileD) (c:Nat) (u:List FileD) (k:Nat):zar (zcM T t c u k):=by
 unfold zcM
 split
 · exact zar.error (by omega) _
 · cases h:zG u t (T c) with
   | error e=>exact zar.error (zje h) _
   | ok y =>
    obtain ⟨y1,y2⟩:=y;exact zar.ok (zhS h).1 _
theorem zar.next {T:Nat→List FileD} {t:List FileD} {c:Nat} {o:zbj} (h:zbV o):zar (zcT T t c o):=by
 obtain ⟨o1,o2⟩:=o
 cases o1 with
 | error e=>exact zar.error (h.2 e rfl) _
 | ok u=>exact zar.merge T t c u.2 o2
theorem zar.step {rec:Nat→Nat→Nat→zbj} {T:Nat→List FileD} {x:Nat} {s:zb2} {c:Nat} (h:zar s) (hr:∀k,zbV (rec k x c)):zar (zcD rec T x s c):=by
 obtain ⟨s1,s2⟩:=s
 cases s1 with
 | error e=>exact h
 | ok t=>exact zar.next (hr _)
theorem zar.fold {rec:Nat→Nat→Nat→zbj} {T:Nat→List FileD} {x:Nat} (hr:∀k c,zbV (rec k x c)):∀(r:List Nat) (s:zb2),zar s→zar (r.foldl (zcD rec T x) s)
 | [],s,h=>h
 | c::r,s,h=>by
  rw [List.foldl_cons];exact zar.fold hr r _ (h.step (fun k=>hr k c))
theorem zbV.end_ {s:zb2} (h:zar s) (l:List Nat):zbV (zcc l s):=by
 obtain ⟨s1,s2⟩:=s
 cases s1 with
 | error e=>exact ⟨fun u q=>(by cases q),fun n q=>by injection q with q;have:=h.2 e rfl;omega⟩
 | ok t=>exact ⟨fun u q=>by injection q with q;rw [←q];exact h.1 t rfl,fun n q=>(by cases q)⟩
theorem zbV.none_ (k:Nat):zbV (.ok ([],[]),k):=⟨fun u q=>by injection q with q;rw [←q];rfl,fun n q=>(by cases q)⟩
theorem zdp {L:Nat→Nat→List Nat} {T:Nat→List FileD} (hT:∀n,zg (T n)=0):∀F k a b,zbV (zL L T F k a b)
 | 0,k,_,_=>zbV.none_ k
 | F+1,k,a,b=>by
  unfold zL
  cases h:L a b with
  | nil=>exact zbV.none_ k
  | cons x r=>exact zbV.end_ (zar.fold (fun k c=>zdp hT F k x c) r _ (zar.ok (hT x) _)) _
theorem Low.le {R:Rw} (hw:WfR R) {a b x:Nat} (h:Low R a b x):x≤a∧x≤b:=⟨h.1.1.le hw,h.1.2.le hw⟩
theorem BaseL.less {R:Rw} (hw:WfR R) {a b x c:Nat} {r:List Nat} (h:BaseL R a b (x::r)) (hc:c∈r):x+c<a+b:=by
 have h1:=((h.low x).1 List.mem_cons_self).le hw;have h2:=((h.low c).1 (List.mem_cons_of_mem _ hc)).le hw;have h3:x≠c:=fun e=>by
  have:=(List.nodup_cons.1 h.nd).1;rw [e] at this;exact this hc
 omega
theorem zrx {R:Rw} (hw:WfR R) {n m:Nat} (h:Rch R m n) {l:List Nat} (hl:BaseL R n m l):l=[n]:=by
 have h1:∀x,x∈l↔x=n:=fun x=>(hl.low x).trans (zqX hw h x)
 cases l with
 | nil=>exact absurd ((h1 n).2 rfl) (by simp)
 | cons y r =>
  have e:=(h1 y).1 List.mem_cons_self;subst e
  cases r with
  | nil=>rfl
  | cons z r =>
   have e:=(h1 z).1 (by simp);subst e;exact absurd hl.nd (by simp)
theorem BaseL.comm {R:Rw} {a b:Nat} {l:List Nat} (h:BaseL R a b l):BaseL R b a l:=⟨h.nd,fun x=>(h.low x).trans ⟨Low.comm,Low.comm⟩,h.rise⟩
theorem BaseL.unique {R:Rw} {a b:Nat}:∀{l m:List Nat},BaseL R a b l→BaseL R a b m→l=m:=by
 have key:∀(l m:List Nat),l.Pairwise (fun x y=>idB x<idB y)→m.Pairwise (fun x y=>idB x<idB y)→(∀x,x∈l↔x∈m)→l=m:=by
  intro l
  induction l with
  | nil =>
   intro m _ _ h
   cases m with
   | nil=>rfl
   | cons y m=>exact absurd ((h y).2 List.mem_cons_self) (by simp)
  | cons x l ih =>
   intro m hl hm h
   cases m with
   | nil=>exact absurd ((h x).1 List.mem_cons_self) (by simp)
   | cons y m =>
    rw [List.pairwise_cons] at hl hm;have e:x=y:=by
     rcases List.mem_cons.1 ((h x).1 List.mem_cons_self) with q|q
     · exact q
     · rcases List.mem_cons.1 ((h y).2 List.mem_cons_self) with q2|q2
       · exact q2.symm
       · exact absurd (List.lt_trans (hl.1 y q2) (hm.1 x q)) (List.lt_irrefl _)
    subst e;rw [ih m hl.2 hm.2 (fun z=>by
     have hz:=h z;rw [List.mem_cons,List.mem_cons] at hz;constructor
     · intro q
       rcases hz.1 (.inr q) with e|q2
       · subst e;exact absurd (hl.1 z q) (List.lt_irrefl _)
       · exact q2
     · intro q
       rcases hz.2 (.inr q) with e|q2
       · subst e;exact absurd (hm.1 z q) (List.lt_irrefl _)
       · exact q2)]
 intro l m h1 h2;exact key l m h1.rise h2.rise (fun x=>(h1.low x).trans (h2.low x).symm)
end
section
def insB (n:Nat):List Nat→List Nat
 | []=>[n]
 | x::l=>if idB n<idB x then n::x::l else x::insB n l
theorem zhJ {n x:Nat}:∀{l:List Nat},x∈insB n l↔x=n∨x∈l
 | []=>by simp [insB]
 | y::l=>by
  unfold insB
  split
  · simp
  · simp only [List.mem_cons,zhJ (l:=l)]
    constructor
    · rintro (h|h|h) <;> simp [h]
    · rintro (h|h|h) <;> simp [h]
theorem zmW {n m:Nat} (hn:n<256) (hm:m<256) (h:idB n=idB m):n=m:=by
 unfold idB at h;injection h with _ h;injection h with h _;have:=congrArg UInt8.toNat h;simpa [Nat.mod_eq_of_lt hn,Nat.mod_eq_of_lt hm] using this
theorem zol {n m:Nat} (hn:n<256) (hm:m<256) (hne:n≠m) (h:¬idB n<idB m):idB m<idB n:=by
 have h1:idB m≤idB n:=List.not_lt.1 h
 rcases List.le_iff_lt_or_eq.1 h1 with q|q
 · exact q
 · exact absurd (zmW hm hn q).symm hne
theorem zkZ {n:Nat} (hn:n<256):∀{l:List Nat},(∀x∈l,x<256∧x≠n)→l.Pairwise (fun x y=>idB x<idB y)→(insB n l).Pairwise (fun x y=>idB x<idB y)
 | [],_,_=>by simp [insB]
 | y::l,hl,h=>by
  rw [List.pairwise_cons] at h;have hy:=hl y List.mem_cons_self;unfold insB
  split
  · rename_i hlt
    rw [List.pairwise_cons,List.pairwise_cons];refine ⟨fun z hz=>?_,h⟩
    rcases List.mem_cons.1 hz with rfl|hz
    · exact hlt
    · exact List.lt_trans hlt (h.1 z hz)
  · rename_i hlt
    rw [List.pairwise_cons];refine ⟨fun z hz=>?_,zkZ hn (fun x hx=>hl x (List.mem_cons_of_mem _ hx)) h.2⟩
    rcases zhJ.1 hz with rfl|hz
    · exact zol hn hy.1 (Ne.symm hy.2) hlt
    · exact h.1 z hz
theorem zim (P:Nat→Prop):∀N,N≤256→∃l:List Nat,l.Pairwise (fun x y=>idB x<idB y)∧∀x,x∈l↔x<N∧P x
 | 0,_=>⟨[],List.Pairwise.nil,fun x=>by simp⟩
 | N+1,hN=>by
  obtain ⟨l,h1,h2⟩:=zim P N (by omega);by_cases q:P N
  · refine ⟨insB N l,zkZ (by omega) (fun x hx=>?_) h1,fun x=>?_⟩
    · have:=(h2 x).1 hx;omega
    · rw [zhJ,h2];constructor
      · rintro (rfl|⟨h,k⟩)
        · exact ⟨by omega,q⟩
        · exact ⟨by omega,k⟩
      · rintro ⟨h,k⟩
        rcases Nat.lt_or_ge x N with r|r
        · exact .inr ⟨r,k⟩
        · exact .inl (by omega)
  · refine ⟨l,h1,fun x=>?_⟩;rw [h2];constructor
    · rintro ⟨h,k⟩;exact ⟨by omega,k⟩
    · rintro ⟨h,k⟩;refine ⟨?_,k⟩
      rcases Nat.lt_or_ge x N with r|r
      · exact r
      · obtain rfl:x=N:=by omega
        exact (q k).elim
theorem zfe {R:Rw} (hw:WfR R) (a b:Nat) (ha:a<200):∃l,BaseL R a b l:=by
 obtain ⟨l,h1,h2⟩:=zim (Low R a b) (a+1) (by omega)
 refine ⟨l,h1.imp fun h e=>?_,fun x=>?_,h1⟩
 · subst e;exact List.lt_irrefl _ h
 · rw [h2];exact ⟨fun h=>h.2,fun h=>⟨by have:=(h.le hw).1;omega,h⟩⟩
theorem zjL {R:Rw} (hw:WfR R):∃L:Nat→Nat→List Nat,(∀a b,a<200→BaseL R a b (L a b))∧∀a b,a<200→b<200→L a b=L b a:=by
 refine ⟨fun a b=>if h:a<200 then (zfe hw a b h).choose else [],?_,?_⟩
 · intro a b h;simp only [dif_pos h]
   exact (zfe hw a b h).choose_spec
 · intro a b ha hb;simp only [dif_pos ha,dif_pos hb]
   exact BaseL.unique (zfe hw a b ha).choose_spec (zfe hw b a hb).choose_spec.comm
end
end Go.Proofs.YtmkmbbjgepcioaaGreatDoor
