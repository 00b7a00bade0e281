/- Plain: sides changed about over any base that is a tree. No statement of the seat is proved here. -/
import Derived.Test.YtmkmbbjgepcioaaGreatDoorSA27
import Derived.Test.YtmkmbbjgepcioaaGreatDoorSAZq
import Derived.Test.YtmkmbbjgepcioaaGreatDoorSA07
import Derived.Test.YtmkmbbjgepcioaaGreatDoorSA28
namespace Go.Proofs.YtmkmbbjgepcioaaGreatDoor
section
structure MLen (L n:Nat) (s:MSt):Prop where
 len:s.t.length≤n
 p:∀f∈s.t,f.p.length≤L
 c:∀x∈s.c,x.p.length≤L∧x.why≤6
 d:∀f∈s.t,f.d.length≤1000000
theorem zoY {b o t x:List UInt8} {cl:Bool} (hb:b.length≤100000) (ho:o.length≤100000) (ht:t.length≤100000) (h:zbL b o t=some (x,cl)):x.length≤1000000:=by
 unfold zbL at h
 split at h
 · rename_i hl
   injection h with h;injection h with h _;have h1:=zgE (zac (zf b) (zf o) (zf t));obtain ⟨r1,r2,r3,r4⟩:=zji hl.1 hl.2.1 hl.2.2;rw [r1,r2,r3,h] at h1;unfold zi at h1;rw [zcv,zcv,zcv] at h1;omega
 · cases h
theorem zqm {base x y:FileD} (k:Int) (hb:base.d.length≤100000) (hx:x.d.length≤100000) (hy:y.d.length≤100000):(zZ base k x y).1.length≤1000000:=by
 unfold zZ
 split
 · simp only;omega
 · split
   · simp only;omega
   · split
     · cases h:zbL base.d x.d y.d with
       | none=>exact Nat.zero_le _
       | some r =>
        obtain ⟨d,cl⟩:=r;exact zoY hb hx hy h
     · simp only;omega
section
variable {L n:Nat} {s:MSt}
theorem MLen.nil_ (L:Nat):MLen L 0 ⟨[],[],0⟩:=⟨Nat.le_refl _,fun _ h=>(by cases h),fun _ h=>(by cases h),fun _ h=>(by cases h)⟩
theorem MLen.stay (h:MLen L n s) {p:Pth} (hp:p.length≤L) {f:FileD} (hd:f.d.length≤1000000):MLen L (n+1) (s.stay p f):=⟨by rw [zd3];have:=h.len;omega,fun g hg=>by
 rcases List.mem_append.1 hg with q|q
 · exact h.p g q
 · rw [List.mem_singleton.1 q];exact hp,h.c,fun g hg=>by
 rcases List.mem_append.1 hg with q|q
 · exact h.d g q
 · rw [List.mem_singleton.1 q];exact hd⟩
theorem MLen.clash (h:MLen L n s) {p:Pth} (hp:p.length≤L) {w:Nat} (hw:w≤6):MLen L n (s.clash p w):=⟨h.len,h.p,fun x hx=>by
 rcases List.mem_append.1 hx with q|q
 · exact h.c x q
 · rw [List.mem_singleton.1 q];exact ⟨hp,hw⟩,h.d⟩
theorem MLen.more {n':Nat} (h:MLen L n s) (hn:n≤n'):MLen L n' s:=⟨Nat.le_trans h.len hn,h.p,h.c,h.d⟩
theorem MLen.both (h:MLen L n s) {p:Pth} (hp:p.length≤L) {b:FileD} (k:Int) {x y:FileD} (hb:b.d.length≤100000) (hx:x.d.length≤100000) (hy:y.d.length≤100000):MLen L (n+1) (s.both p b k x y):=by
 unfold MSt.both;simp only
 refine MLen.stay ?_ hp (zqm k hb hx hy);have h1:MLen L n (if (zaj b.k x.k y.k).2=true then s else s.clash p 3):=by
  split
  · exact h
  · exact h.clash hp (by omega)
 split
 · exact ⟨h1.len,h1.p,h1.c,h1.d⟩
 · refine MLen.clash (w:=1) ?_ hp (by omega);exact ⟨h1.len,h1.p,h1.c,h1.d⟩
theorem MLen.alone (h:MLen L n s) {p:Pth} (hp:p.length≤L) (f:FileD) {x:FileD} (hx:x.d.length≤100000):MLen L (n+1) (s.alone f p x):=by
 unfold MSt.alone
 split
 · exact h.more (by omega)
 · exact (h.stay hp (f:=x) (by omega)).clash hp (by omega)
theorem MLen.file (h:MLen L n s) {o t:SideD} {f:FileD} (hf:f.p.length≤L) (ho:(o.goes f.p).1.length≤L) (ht:(t.goes f.p).1.length≤L) (df:f.d.length≤100000) (do_:∀p,(getF o.f p).d.length≤100000) (dt:∀p,(getF t.f p).d.length≤100000):MLen L (n+2) (s.file o t f):=by
 unfold MSt.file;simp only
 split
 · exact (h.alone ho _ (do_ _)).more (by omega)
 · split
   · exact (h.alone ht _ (dt _)).more (by omega)
   · split
     · exact h.more (by omega)
     · split
       · exact ((h.stay ho (Nat.le_trans (do_ _) (by omega))).stay ht (Nat.le_trans (dt _) (by omega))).clash hf (by omega)
       · split
         · exact (h.both ho _ df (do_ _) (dt _)).more (by omega)
         · exact (h.both ht _ df (do_ _) (dt _)).more (by omega)
theorem MLen.fresh1 (h:MLen L n s) {p:Pth} (hp:p.length≤L) (base:List FileD) {o t:SideD} (do_:∀p,(getF o.f p).d.length≤100000) (dt:∀p,(getF t.f p).d.length≤100000):MLen L (n+1) (MSt.fresh1 base o t s p):=by
 unfold MSt.fresh1
 split
 · exact h.both hp _ (by simp [zbJ]) (do_ _) (dt _)
 · exact h.stay hp (Nat.le_trans (do_ _) (by omega))
 · exact h.stay hp (Nat.le_trans (dt _) (by omega))
 · exact h.more (by omega)
end
theorem zmv {base l:List FileD} {ps:List PairD} (h:PairsOf base l ps) {L:Nat} (hl:∀f∈l,f.p.length≤L) {p:Pth} (hp:p.length≤L):(SideD.goes ⟨l,ps⟩ p).1.length≤L:=by
 rcases zdb l ps p with ⟨x,hx,_,e⟩|⟨_,e⟩
 · rw [e];obtain ⟨f,hf,e⟩:=zaa.1 (h.new x hx).1;simp only
   rw [←e];exact hl f hf
 · rw [e];exact hp
theorem zeh {l:List FileD} (h:zg l=0):∀f∈l,f.p.length≤328:=fun f hf=>zj0 ((zW h).1.file f hf)
theorem zck {l:List FileD} (h:zg l=0) (p:Pth):(getF l p).d.length≤65536:=by
 cases q:hasF l p with
 | true=>exact (zcK ((zW h).1.file _ (zav q).1)).2.1
 | false=>rw [zbo q];exact Nat.zero_le _
theorem zfB {base l:List FileD} (hb:zg base=0) (hl:zg l=0) {p:Pth} (hp:p.length≤328):((zU base l).goes p).1.length≤328 :=
 zmv (zdA (zW hb).1.apt (zW hl).1.apt (zW hb).1.kinds (zW hl).1.kinds) (zeh hl) hp
theorem zeZ {base ours theirs:List FileD} (hb:zg base=0) (ho:zg ours=0) (ht:zg theirs=0):∀k:Nat,k≤base.length→MLen 328 (2*k) ((base.take k).foldl (MSt.file (zU base ours) (zU base theirs)) ⟨[],[],0⟩)
 | 0,_=>MLen.nil_ _
 | k+1,hk=>by
  rw [List.take_add_one,List.getElem?_eq_getElem (by omega),Option.toList_some,List.foldl_append];have h2:=zeh hb (base[k]'(by omega)) (List.getElem_mem _);exact (zeZ hb ho ht k (by omega)).file h2 (zfB hb ho h2) (zfB hb ht h2) (Nat.le_trans (zcK ((zW hb).1.file _ (List.getElem_mem _))).2.1 (by omega)) (fun p=>Nat.le_trans (zck ho p) (by omega)) (fun p=>Nat.le_trans (zck ht p) (by omega))
theorem zpp {base ours theirs:List FileD} (hb:zg base=0) (ho:zg ours=0) (ht:zg theirs=0):MLen 328 4000 (zk base ours theirs):=by
 have h1:=zeZ hb ho ht base.length (Nat.le_refl _);rw [List.take_length] at h1;unfold zk;simp only
 have key:∀(ks:List Pth) (n:Nat) (s:MSt),(∀p∈ks,p.length≤328)→MLen 328 n s→MLen 328 (n+ks.length) (ks.foldl (MSt.fresh1 base (zU base ours) (zU base theirs)) s):=by
  intro ks
  induction ks with
  | nil=>exact fun n s _ h=>h
  | cons p ks ih =>
   intro n s hp h;rw [List.foldl_cons,List.length_cons];exact (ih _ _ (fun q hq=>hp q (List.mem_cons_of_mem _ hq)) (h.fresh1 (hp p (List.mem_cons_self ..)) _ (fun p=>Nat.le_trans (zck ho p) (by omega)) (fun p=>Nat.le_trans (zck ht p) (by omega)))).more (by omega)
 have hk:∀p∈zat (ours.map (·.p)++theirs.map (·.p)),p.length≤328:=fun p hp=>by
  rw [zbm,List.mem_append,List.mem_map,List.mem_map] at hp
  rcases hp with ⟨f,hf,rfl⟩|⟨f,hf,rfl⟩
  · exact zeh ho f hf
  · exact zeh ht f hf
 have hl:=zc1 (ours.map (·.p)++theirs.map (·.p));rw [List.length_append,List.length_map,List.length_map] at hl;have n1:=(zW hb).2.1;have n2:=(zW ho).2.1;have n3:=(zW ht).2.1;exact (key _ _ _ hk h1).more (by omega)
theorem zpT {l:List FileD} {c:List ClashD} {i n L:Nat} (h:ApI n L i l) (hi:i<n):ApI n L (i+1) (zQ (l,c) i).1:=by
 have hf:l[i]? = some (l[i]'(by rw [h.len];exact hi)):=List.getElem?_eq_getElem _;rw [zd2 hf]
 split
 · exact h.moved hf false
 · rename_i q
   rw [Bool.not_eq_true] at q;exact h.stay hf q
theorem zdW {n L:Nat}:∀(i:Nat) (l:List FileD) (c:List ClashD),i≤n→ApI n L 0 l→ApI n L i ((List.range i).foldl zQ (l,c)).1
 | 0,_,_,_,h=>h
 | i+1,l,c,hi,h=>by
  rw [zcq];have:=zdW i l c (by omega) h;exact zpT (c:=((List.range i).foldl zQ (l,c)).2) this (by omega)
theorem zpC {l:List FileD} {i:Nat} {f:FileD} (h:Apt l) (hf:l[i]? = some f) (b:Bool):Apt (zA l i (zau l b f.p)):=by
 have hn:∀g∈l,g.p≠zau l b f.p:=zkh;unfold Apt at h ⊢;have e:=ze0 hf;rw [zey hf];rw [e] at h;simp only [List.map_append,List.map_cons,List.map_nil] at h ⊢;have hp:(l.take i).map (·.p)++([zau l b f.p]++(l.drop (i+1)).map (·.p))=(l.take i).map (·.p)++(zau l b f.p::(l.drop (i+1)).map (·.p)):=rfl;rw [hp];have h':((l.take i).map (·.p)++(f.p::(l.drop (i+1)).map (·.p))).Nodup:=h;rw [(List.perm_middle).nodup_iff,List.nodup_cons] at h' ⊢;refine ⟨fun q=>?_,h'.2⟩
 rcases List.mem_append.1 q with q|q
 · obtain ⟨g,hg,e⟩:=List.mem_map.1 q;exact hn g (List.mem_of_mem_take hg) e
 · obtain ⟨g,hg,e⟩:=List.mem_map.1 q;exact hn g (List.mem_of_mem_drop hg) e
def zbu (L:Nat) (c:List ClashD):Prop:=∀x∈c,x.p.length≤L∧x.why≤6
theorem zbu.more {L L':Nat} {c:List ClashD} (h:zbu L c) (hl:L≤L'):zbu L' c:=fun x hx=>⟨Nat.le_trans (h x hx).1 hl,(h x hx).2⟩
theorem zbu.snoc {L:Nat} {c:List ClashD} (h:zbu L c) {p:Pth} (hp:p.length≤L) {w:Nat} (hw:w≤6):zbu L (c++[⟨p,w⟩]):=fun x hx=>by
 rcases List.mem_append.1 hx with q|q
 · exact h x q
 · rw [List.mem_singleton.1 q];exact ⟨hp,hw⟩
theorem zi9 {n L:Nat}:∀(i:Nat) (l:List FileD) (c:List ClashD),i≤n→ApI n L 0 l→zbu (L+n) c→zbu (L+n) ((List.range i).foldl zQ (l,c)).2
 | 0,_,_,_,_,h=>h
 | i+1,l,c,hi,h,hc=>by
  rw [zcq];have h1:=zdW i l c (by omega) h;have h2:=zi9 i l c (by omega) h hc;generalize (List.range i).foldl zQ (l,c)=r at *;obtain ⟨l',c'⟩:=r;have hf:l'[i]? = some (l'[i]'(by rw [h1.len];exact hi)):=List.getElem?_eq_getElem _;rw [zd2 hf]
  split
  · exact h2.snoc (by have:=h1.long _ (List.mem_of_getElem? hf);omega) (by omega)
  · exact h2
structure AsI (n L:Nat) (l:List FileD):Prop where
 len:l.length=n
 apt:Apt l
 long:∀f∈l,f.p.length≤L
theorem zsa {l:List FileD} {c:List ClashD} {i n L:Nat} (h:AsI n L l) (hi:i<n):AsI n (L+1) (zah (l,c) i).1:=by
 have hf:l[i]? = some (l[i]'(by rw [h.len];exact hi)):=List.getElem?_eq_getElem _;rw [zdo hf]
 split
 · refine ⟨by rw [zds];exact h.len,zpC h.apt hf true,fun g hg=>?_⟩
   rcases zhh hg with q|q
   · have:=h.long g q;omega
   · rw [q];exact zeG h.long _ _ (h.long _ (List.mem_of_getElem? hf))
 · exact ⟨h.len,h.apt,fun f hf=>by have:=h.long f hf;omega⟩
theorem zgN {n L:Nat}:∀(i:Nat) (l:List FileD) (c:List ClashD),i≤n→AsI n L l→AsI n (L+i) ((List.range i).foldl zah (l,c)).1
 | 0,_,_,_,h=>h
 | i+1,l,c,hi,h=>by
  rw [zcq];have:=zgN i l c (by omega) h;exact zsa (c:=((List.range i).foldl zah (l,c)).2) this (by omega)
theorem zi0 {n L:Nat}:∀(i:Nat) (l:List FileD) (c:List ClashD),i≤n→AsI n L l→zbu (L+n) c→zbu (L+n) ((List.range i).foldl zah (l,c)).2
 | 0,_,_,_,_,h=>h
 | i+1,l,c,hi,h,hc=>by
  rw [zcq];have h1:=zgN i l c (by omega) h;have h2:=zi0 i l c (by omega) h hc;generalize (List.range i).foldl zah (l,c)=r at *;obtain ⟨l',c'⟩:=r;have hf:l'[i]? = some (l'[i]'(by rw [h1.len];exact hi)):=List.getElem?_eq_getElem _;rw [zdo hf]
  split
  · exact h2.snoc (by have:=h1.long _ (List.mem_of_getElem? hf);omega) (by omega)
  · exact h2
theorem zlg {l:List FileD} (h:Apt l):Apt (zS l):=by
 unfold Apt at h ⊢;exact ((za3 l).map (fun f:FileD=>f.p)).nodup_iff.2 h
theorem zs2 {l:List FileD} {c:List ClashD} {L:Nat} (h:∀f∈l,f.p.length≤L) (hc:zbu L c):AsI l.length (L+l.length+l.length) (zR l c).1∧zbu (L+l.length+l.length) (zR l c).2:=by
 have h0:ApI l.length L 0 l:=⟨rfl,by simp [Apt],fun f hf=>by have:=h f hf;omega⟩;have h1:=zdW l.length l c (Nat.le_refl _) h0;have h2:Apt ((List.range l.length).foldl zQ (l,c)).1:=by
  have:=h1.apt
  rwa [List.take_of_length_le (by rw [h1.len];exact Nat.le_refl _)] at this
 have h3:=zi9 l.length l c (Nat.le_refl _) h0 (hc.more (by omega));unfold zR;have h4:AsI l.length (L+l.length) (zS ((List.range l.length).foldl zQ (l,c)).1):=⟨by rw [zde];exact h1.len,zlg h2,fun f hf=>h1.long f ((za3 _).mem_iff.1 hf)⟩
 exact ⟨zgN l.length _ _ (Nat.le_refl _) h4,zi0 l.length _ _ (Nat.le_refl _) h4 (h3.more (by omega))⟩
theorem znn {Q:List UInt8→Prop} {l:List FileD} {c:List ClashD} (h:∀f∈l,Q f.d):∀f∈(zR l c).1,Q f.d:=by
 have mv:∀(l:List FileD) (i:Nat) (p:Pth),(∀f∈l,Q f.d)→∀f∈zA l i p,Q f.d:=fun l i p h f hf=>by
  obtain ⟨j,hj⟩:=List.mem_iff_getElem?.1 hf;unfold zA at hj;rw [List.getElem?_modify] at hj
  cases q:l[j]? with
  | none=>rw [q] at hj;simp at hj
  | some x =>
   rw [q] at hj;have hx:=h x (List.mem_of_getElem? q);by_cases e:i=j
   · simp [e] at hj;subst hj;exact hx
   · simp [e] at hj;subst hj;exact hx
 have a1:∀(ns:List Nat) (r:List FileD×List ClashD),(∀f∈r.1,Q f.d)→∀f∈(ns.foldl zQ r).1,Q f.d:=fun ns=>by
  induction ns with
  | nil=>exact fun r h=>h
  | cons n ns ih =>
   intro r h;refine ih _ ?_;unfold zQ
   split
   · exact h
   · split
     · exact mv _ _ _ h
     · exact h
 have a2:∀(ns:List Nat) (r:List FileD×List ClashD),(∀f∈r.1,Q f.d)→∀f∈(ns.foldl zah r).1,Q f.d:=fun ns=>by
  induction ns with
  | nil=>exact fun r h=>h
  | cons n ns ih =>
   intro r h;refine ih _ ?_;unfold zah
   split
   · exact h
   · split
     · exact mv _ _ _ h
     · exact h
 unfold zR;exact a2 _ _ fun f hf=>a1 _ _ h f ((za3 _).mem_iff.1 hf)
end
section
theorem zjb (l:List FileD) (p:Pth):zaz l false p=true↔p∉l.map (·.p):=by
 unfold zaz atN;simp only [Bool.not_false,Bool.true_or,Bool.and_true,beq_iff_eq]
 rw [List.countP_eq_zero];simp only [beq_iff_eq,List.mem_map,not_exists,not_and]
theorem zik {l:List FileD} (h:Apt l):zae ((zS l).map (·.p)):=by
 have h1:=zej (zcs (fun f:FileD=>f.p)) l;have h2:=zlg h;unfold zbC at h1;unfold zae;unfold Apt at h2;rw [List.pairwise_map];rw [List.nodup_iff_pairwise_ne,List.pairwise_map] at h2;refine List.Pairwise.imp₂ (fun a b q1 q2=>?_) h1 h2;simp only [decide_eq_false_iff_not] at q1
 rcases zbp a.p b.p with q|q|q
 · exact q
 · exact absurd q q2
 · exact absurd q q1
end
section
def til (p:Pth) (m:Nat):Pth:=p++List.replicate (m+1) 126
theorem zfl (p:Pth) (m k:Nat):til (til p m) k=til p (m+1+k):=by
 unfold til;rw [List.append_assoc,List.replicate_append_replicate];rfl
theorem zeV (l:List FileD) (b:Bool):∀(n:Nat) (p:Pth),∃m,zaP l b n p=til p m∧∀j<m,zaz l b (til p j)=false
 | 0,p=>⟨0,rfl,fun _ h=>by omega⟩
 | n+1,p=>by
  rw [zaP];by_cases h:zaz l b (p++[126])=true
  · rw [if_pos h];exact ⟨0,rfl,fun _ h=>by omega⟩
  · rw [if_neg h];obtain ⟨m,h1,h2⟩:=zeV l b n (p++[126]);refine ⟨0+1+m,by rw [h1];exact zfl p 0 m,fun j hj=>?_⟩
    rcases j with _|j
    · exact Bool.not_eq_true _▸h
    · have:=h2 j (by omega);rw [show til (p++[126]) j=til p (0+1+j) from zfl p 0 j] at this;rw [show j+1=0+1+j from by omega];exact this
theorem znO {l l':List FileD} {b:Bool} (h:∀p,zaz l b p=zaz l' b p) (p:Pth):zau l b p=zau l' b p:=by
 obtain ⟨m,h1,h2⟩:=zeV l b (l.map (fun f=>f.p.length)).sum p;obtain ⟨m',h1',h2'⟩:=zeV l' b (l'.map (fun f=>f.p.length)).sum p;have f1:=zeU l b p;have f2:=zeU l' b p;unfold zau at f1 f2 ⊢;rw [h1] at f1 ⊢;rw [h1'] at f2 ⊢
 rcases Nat.lt_trichotomy m m' with q|q|q
 · have:=h2' m q;rw [←h,f1] at this;cases this
 · rw [q]
 · have:=h2 m' q;rw [h,f2] at this;cases this
def SEq (a b:List Pth):Prop:=∀p,p∈a↔p∈b
def IsN (ps:List Pth) (q v:Pth):Prop:=∃m,v=til q m∧v∉ps∧∀j<m,til q j∈ps
theorem IsN.unique {ps:List Pth} {q v v':Pth} (h:IsN ps q v) (h':IsN ps q v'):v=v':=by
 obtain ⟨m,rfl,h1,h2⟩:=h;obtain ⟨m',rfl,h1',h2'⟩:=h'
 rcases Nat.lt_trichotomy m m' with r|r|r
 · exact absurd (h2' m r) h1
 · rw [r]
 · exact absurd (h2 m' r) h1'
theorem zkt (l:List FileD) (q:Pth):IsN (l.map (·.p)) q (zau l false q):=by
 obtain ⟨m,h1,h2⟩:=zeV l false (l.map (fun f=>f.p.length)).sum q;refine ⟨m,h1,(zjb l _).1 (zeU l false q),fun j hj=>?_⟩;have h3:=h2 j hj
 rcases Classical.em (til q j∈l.map (·.p)) with r|r
 · exact r
 · rw [(zjb l _).2 r] at h3;cases h3
def toF (ps:List Pth):List FileD:=ps.map fun p=>⟨p,0,[]⟩
theorem zpx (ps:List Pth):(toF ps).map (·.p)=ps:=by unfold toF;rw [List.map_map];exact List.map_id' ps
def nxt (ps:List Pth) (q:Pth):Pth:=zau (toF ps) false q
theorem zbX (ps:List Pth) (q:Pth):IsN ps q (nxt ps q):=by
 have:=zkt (toF ps) q
 rwa [zpx] at this
theorem IsN.of {ps ps':List Pth} {q v:Pth} (h:IsN ps q v) (e:SEq ps ps'):IsN ps' q v:=by
 obtain ⟨m,h1,h2,h3⟩:=h;exact ⟨m,h1,fun r=>h2 ((e v).2 r),fun j hj=>(e _).1 (h3 j hj)⟩
def zaA (ps:List Pth) (q:Pth):List Pth:=nxt ps q::ps
theorem zss {ps ps':List Pth} (e:SEq ps ps') (q:Pth):SEq (zaA ps q) (zaA ps' q):=by
 have:nxt ps q=nxt ps' q:=((zbX ps q).of e).unique (zbX ps' q);intro p;unfold zaA;rw [this,List.mem_cons,List.mem_cons,e p]
theorem IsN.past {ps:List Pth} {q v:Pth} (h:IsN ps q v) (u:Pth) (hu:IsN (v::ps) v u):IsN (v::ps) q u:=by
 obtain ⟨m,rfl,h1,h2⟩:=h;obtain ⟨k,rfl,h3,h4⟩:=hu;refine ⟨m+1+k,zfl q m k,h3,fun j hj=>?_⟩
 rcases Nat.lt_trichotomy j m with r|r|r
 · exact List.mem_cons_of_mem _ (h2 j r)
 · rw [r];exact List.mem_cons_self ..
 · have:=h4 (j-m-1) (by omega);rw [zfl] at this
   rwa [show m+1+(j-m-1)=j from by omega] at this
theorem zn6 (ps:List Pth) (a b:Pth):SEq (zaA (zaA ps a) b) (zaA (zaA ps b) a):=by
 have ha:=zbX ps a;have hb:=zbX ps b;have ea:zaA ps a=nxt ps a::ps:=rfl;have eb:zaA ps b=nxt ps b::ps:=rfl;by_cases h:nxt ps a=nxt ps b
 · have h1:nxt (zaA ps a) b=nxt (zaA ps a) (nxt ps a):=by
    refine (zbX _ b).unique ?_;rw [ea,h];exact hb.past _ (zbX _ _)
   have h2:nxt (zaA ps b) a=nxt (zaA ps b) (nxt ps b):=by
    refine (zbX _ a).unique ?_;rw [eb,←h];exact ha.past _ (zbX _ _)
   intro p;unfold zaA at h1 h2 ⊢;rw [h1,h2,h]
 · have h1:nxt (zaA ps a) b=nxt ps b:=by
    refine (zbX _ b).unique ?_;obtain ⟨m,e,q1,q2⟩:=hb;exact ⟨m,e,fun q=>by
     rcases List.mem_cons.1 q with q|q
     · exact h q.symm
     · exact q1 q,fun j hj=>List.mem_cons_of_mem _ (q2 j hj)⟩
   have h2:nxt (zaA ps b) a=nxt ps a:=by
    refine (zbX _ a).unique ?_;obtain ⟨m,e,q1,q2⟩:=ha;exact ⟨m,e,fun q=>by
     rcases List.mem_cons.1 q with q|q
     · exact h q
     · exact q1 q,fun j hj=>List.mem_cons_of_mem _ (q2 j hj)⟩
   intro p;show p∈nxt (zaA ps a) b::nxt ps a::ps↔p∈nxt (zaA ps b) a::nxt ps b::ps;rw [h1,h2];simp only [List.mem_cons]
   constructor
   · rintro (q|q|q)
     · exact .inr (.inl q)
     · exact .inl q
     · exact .inr (.inr q)
   · rintro (q|q|q)
     · exact .inr (.inl q)
     · exact .inl q
     · exact .inr (.inr q)
def zcH (ps es:List Pth):List Pth:=es.foldl zaA ps
theorem zgt:∀(es:List Pth) {ps ps':List Pth},SEq ps ps'→SEq (zcH ps es) (zcH ps' es)
 | [],_,_,h=>h
 | q::es,_,_,h=>zgt es (zss h q)
theorem zsC {es es':List Pth} (h:es.Perm es'):∀ps,SEq (zcH ps es) (zcH ps es'):=by
 induction h with
 | nil=>exact fun _ _=>Iff.rfl
 | cons x _ ih=>exact fun ps=>ih (zaA ps x)
 | swap x y l=>exact fun ps=>zgt l (zn6 ps y x)
 | trans _ _ h1 h2=>exact fun ps p=>(h1 ps p).trans (h2 ps p)
def zaR:List Pth→List Pth→List Pth
 | _,[]=>[]
 | seen,p::ps=>if p∈seen then p::zaR seen ps else zaR (p::seen) ps
theorem zhU (q:Pth):∀(ps seen:List Pth),zaR seen (ps++[q])=zaR seen ps++if q∈seen∨q∈ps then [q] else []
 | [],seen=>by
  simp only [List.nil_append,zaR,List.not_mem_nil,or_false]
 | p::ps,seen=>by
  rw [List.cons_append,zaR,zaR]
  split
  · rename_i h
    rw [zhU q ps seen,List.cons_append]
    congr 2
    have:(q∈seen∨q∈ps)↔(q∈seen∨q∈p::ps):=by
     rw [List.mem_cons];constructor
     · rintro (r|r)
       · exact .inl r
       · exact .inr (.inr r)
     · rintro (r|r|r)
       · exact .inl r
       · exact .inl (r▸h)
       · exact .inr r
    simp only [this]
  · rw [zhU q ps (p::seen)]
    congr 1
    have:(q∈p::seen∨q∈ps)↔(q∈seen∨q∈p::ps):=by
     rw [List.mem_cons,List.mem_cons];constructor
     · rintro ((r|r)|r)
       · exact .inr (.inl r)
       · exact .inl r
       · exact .inr (.inr r)
     · rintro (r|r|r)
       · exact .inl (.inr r)
       · exact .inl (.inl r)
       · exact .inr r
    simp only [this]
theorem ze6 (q:Pth):∀(ps seen:List Pth),(zaR seen ps).count q=ps.count q-if q∈seen then 0 else 1
 | [],seen=>by simp [zaR]
 | p::ps,seen=>by
  rw [zaR];by_cases h:p∈seen
  · rw [if_pos h,List.count_cons,List.count_cons,ze6 q ps seen];by_cases e:p=q
    · subst e;simp [h]
    · simp [e]
  · rw [if_neg h,ze6 q ps (p::seen),List.count_cons];by_cases e:p=q
    · subst e;simp [h]
    · have e':¬q=p:=fun r=>e r.symm;simp [e,e']
theorem zoL {ps ps':List Pth} (h:ps.Perm ps'):(zaR [] ps).Perm (zaR [] ps'):=by
 rw [List.perm_iff_count];intro q;rw [ze6,ze6,h.count_eq]
structure PkI (l0:List FileD) (c0:List ClashD) (i:Nat) (l:List FileD) (c:List ClashD):Prop where
 len:l.length=l0.length
 drop:l.drop i=l0.drop i
 j1:∀p∈(l0.take i).map (·.p),p∈(l.take i).map (·.p)
 j2:∀g∈l.take i,g.p∈(l0.take i).map (·.p)∨g.p∉(l0.drop i).map (·.p)
 occ:SEq (l.map (·.p)) (zcH (l0.map (·.p)) (zaR [] ((l0.map (·.p)).take i)))
 cl:c=c0++(zaR [] ((l0.map (·.p)).take i)).map fun q=>⟨q,5⟩
theorem PkI.start (l:List FileD) (c:List ClashD):PkI l c 0 l c where
 len:=rfl
 drop:=rfl
 j1:=by simp
 j2:=by simp
 occ:=fun _=>Iff.rfl
 cl:=by simp [zaR]
theorem zoV (l:List FileD) (i:Nat) (p:Pth):(zA l i p).drop (i+1)=l.drop (i+1):=by
 unfold zA;apply List.ext_getElem?;intro j;rw [List.getElem?_drop,List.getElem?_drop,List.getElem?_modify];have:i≠i+1+j:=by omega
 simp [this]
theorem zll {l:List FileD} {i:Nat} (p:Pth):(zA l i p).map (·.p)=(l.map (·.p)).set i p:=by
 unfold zA;apply List.ext_getElem?;intro j;rw [List.getElem?_map,List.getElem?_modify,List.getElem?_set,List.getElem?_map,List.length_map];by_cases e:i=j
 · subst e
   cases h:l[i]? with
   | none =>
    have:¬i<l.length:=fun q=>by rw [List.getElem?_eq_getElem q] at h;cases h
    simp [this]
   | some x =>
    have:i<l.length:=(List.getElem?_eq_some_iff.1 h).1;simp [this]
 · simp [e]
theorem PkI.step {l0 l:List FileD} {c0 c:List ClashD} {i:Nat} (h:PkI l0 c0 i l c) (hi:i<l0.length):PkI l0 c0 (i+1) (zQ (l,c) i).1 (zQ (l,c) i).2:=by
 have hl:i<l.length:=by rw [h.len];exact hi
 obtain ⟨f,hf⟩:∃f,l[i]? = some f:=⟨_,List.getElem?_eq_getElem hl⟩;have hf0:l0[i]? = some f:=by
  have:=congrArg (·[0]?) h.drop;simp only [List.getElem?_drop,Nat.add_zero] at this;rw [←this,hf]
 have ht0:(l0.map (·.p)).take (i+1)=(l0.map (·.p)).take i++[f.p]:=by
  rw [List.take_add_one,List.getElem?_map,hf0];rfl
 have ht1:(l0.take (i+1)).map (·.p)=(l0.take i).map (·.p)++[f.p]:=by
  rw [List.take_add_one,hf0,List.map_append];rfl
 have hfd:f.p∈(l0.drop i).map (·.p):=List.mem_map.2 ⟨f,List.mem_of_getElem? (i:=0) (by rw [List.getElem?_drop,Nat.add_zero];exact hf0),rfl⟩;have hsub:∀p∈(l0.drop (i+1)).map (·.p),p∈(l0.drop i).map (·.p):=fun p hp=>by
  obtain ⟨g,hg,rfl⟩:=List.mem_map.1 hp;refine List.mem_map.2 ⟨g,?_,rfl⟩;rw [show i+1=i+1 from rfl,←List.drop_drop] at hg;exact List.mem_of_mem_drop hg
 have hcond:(l.take i).any (fun g=>g.p==f.p)=true↔f.p∈(l0.map (·.p)).take i:=by
  rw [←List.map_take,List.any_eq_true];constructor
  · rintro ⟨g,hg,e⟩;have e:g.p=f.p:=by simpa using e
    rcases h.j2 g hg with q|q
    · rw [←e];exact q
    · rw [e] at q;exact absurd hfd q
  · intro hp;obtain ⟨g,hg,e⟩:=List.mem_map.1 (h.j1 _ hp);exact ⟨g,hg,by simpa using e⟩
 have hx:zaR [] ((l0.map (·.p)).take (i+1))=zaR [] ((l0.map (·.p)).take i)++if f.p∈(l0.map (·.p)).take i then [f.p] else []:=by
  rw [ht0,zhU];simp only [List.not_mem_nil,false_or]
 rw [zd2 hf]
 by_cases hc:(l.take i).any (fun g=>g.p==f.p)=true
 · have hc':=hcond.1 hc;rw [if_pos hc];rw [if_pos hc'] at hx;have hin:f.p∈(l.take i).map (·.p):=h.j1 _ (by rw [List.map_take];exact hc');have hv:=zkt l f.p
   refine ⟨by rw [zds];exact h.len,?_,fun p hp=>?_,fun g hg=>?_,?_,?_⟩
   · rw [zoV];have:=congrArg (List.drop 1) h.drop
     rwa [List.drop_drop,List.drop_drop] at this
   · rw [List.take_add_one,zex,List.map_append,List.mem_append];rw [ht1,List.mem_append,List.mem_singleton] at hp
     rcases hp with hp|rfl
     · exact .inl (h.j1 p hp)
     · exact .inl hin
   · rw [List.take_add_one,zex,zc6 hf] at hg;rw [ht1]
     rcases List.mem_append.1 hg with q|q
     · rcases h.j2 g q with r|r
       · exact .inl (List.mem_append.2 (.inl r))
       · exact .inr fun s=>r (hsub _ s)
     · simp only [Option.toList_some,List.mem_singleton] at q;subst q;refine .inr fun s=>?_;obtain ⟨m,_,h2,_⟩:=hv;refine h2 ?_;have s':=hsub _ s;rw [←h.drop] at s';obtain ⟨g,hg,e⟩:=List.mem_map.1 s';exact List.mem_map.2 ⟨g,List.mem_of_mem_drop hg,e⟩
   · rw [hx];unfold zcH;rw [List.foldl_append];show SEq _ (zaA (zcH (l0.map (·.p)) (zaR [] ((l0.map (·.p)).take i))) f.p);have e1:zau l false f.p=nxt (zcH (l0.map (·.p)) (zaR [] ((l0.map (·.p)).take i))) f.p:=(hv.of h.occ).unique (zbX _ _);intro p;unfold zaA;rw [←e1,List.mem_cons,←h.occ p];have hsp:=ze0 hf;have hm:=zey hf (zau l false f.p);rw [hm]
     conv=>rhs;rhs;rw [hsp]
     simp only [List.map_append,List.map_cons,List.map_nil,List.mem_append,List.mem_cons,List.not_mem_nil,or_false]
     constructor
     · rintro (q|q|q)
       · exact .inr (.inl q)
       · exact .inl q
       · exact .inr (.inr (.inr q))
     · rintro (q|q|q|q)
       · exact .inr (.inl q)
       · exact .inl q
       · exact .inl (q▸hin)
       · exact .inr (.inr q)
   · rw [hx,h.cl];simp
 · have hc':¬f.p∈(l0.map (·.p)).take i:=fun q=>hc (hcond.2 q);rw [if_neg hc];rw [if_neg hc',List.append_nil] at hx
   refine ⟨h.len,?_,fun p hp=>?_,fun g hg=>?_,by rw [hx];exact h.occ,by rw [hx];exact h.cl⟩
   · have:=congrArg (List.drop 1) h.drop
     rwa [List.drop_drop,List.drop_drop] at this
   · rw [List.take_add_one,hf,List.map_append,List.mem_append];rw [ht1,List.mem_append,List.mem_singleton] at hp
     rcases hp with hp|rfl
     · exact .inl (h.j1 p hp)
     · exact .inr (by simp)
   · rw [List.take_add_one,hf] at hg;rw [ht1]
     rcases List.mem_append.1 hg with q|q
     · rcases h.j2 g q with r|r
       · exact .inl (List.mem_append.2 (.inl r))
       · exact .inr fun s=>r (hsub _ s)
     · simp only [Option.toList_some,List.mem_singleton] at q;subst q;exact .inl (List.mem_append.2 (.inr (List.mem_singleton.2 rfl)))
theorem PkI.range (l0:List FileD) (c0:List ClashD):∀(i:Nat),i≤l0.length→PkI l0 c0 i ((List.range i).foldl zQ (l0,c0)).1 ((List.range i).foldl zQ (l0,c0)).2
 | 0,_=>PkI.start _ _
 | i+1,hi=>by
  rw [zcq];exact (PkI.range l0 c0 i (by omega)).step (by omega)
theorem zmG {l l':List FileD} {c:List ClashD} (h:(l'.map (·.p)).Perm (l.map (·.p))) :(((List.range l'.length).foldl zQ (l',c)).1.map (·.p)).Perm (((List.range l.length).foldl zQ (l,c)).1.map (·.p))∧(∀x,x∈((List.range l'.length).foldl zQ (l',c)).2↔x∈((List.range l.length).foldl zQ (l,c)).2)∧(∀x∈c,x∈((List.range l.length).foldl zQ (l,c)).2):=by
 have h1:=PkI.range l c l.length (Nat.le_refl _);have h2:=PkI.range l' c l'.length (Nat.le_refl _);have big:∀m:List FileD,∃L,∀f∈m,f.p.length≤L:=fun m=>by
  induction m with
  | nil=>exact ⟨0,fun _ h=>by cases h⟩
  | cons y m ih =>
   obtain ⟨L,hL⟩:=ih;refine ⟨max L y.p.length,fun f hf=>?_⟩
   rcases List.mem_cons.1 hf with rfl|q
   · omega
   · have:=hL f q;omega
 have apt:∀m:List FileD,∀c:List ClashD,Apt ((List.range m.length).foldl zQ (m,c)).1:=fun m c=>by
  obtain ⟨L,hL⟩:=big m;have h0:ApI m.length L 0 m:=⟨rfl,by simp [Apt],fun f hf=>by have:=hL f hf;omega⟩;have h1:=zdW m.length m c (Nat.le_refl _) h0;have:=h1.apt
  rwa [List.take_of_length_le (by rw [h1.len];exact Nat.le_refl _)] at this
 have n1:=apt l c;have n2:=apt l' c;have e1:((l.map (·.p)).take l.length)=l.map (·.p):=by rw [List.take_of_length_le];simp
 have e2:((l'.map (·.p)).take l'.length)=l'.map (·.p):=by rw [List.take_of_length_le];simp
 have o1:=h1.occ;have o2:=h2.occ;have c1:=h1.cl;have c2:=h2.cl;rw [e1] at o1 c1;rw [e2] at o2 c2;have hx:=zoL h
 refine ⟨?_,fun x=>?_,fun x hx=>?_⟩
 · refine (List.perm_ext_iff_of_nodup n2 n1).2 fun p=>?_;rw [o2 p,o1 p];exact (zsC hx _ p).trans (zgt _ (fun p=>h.mem_iff) p)
 · rw [c2,c1,List.mem_append,List.mem_append,(hx.map _).mem_iff]
 · rw [c1];exact List.mem_append.2 (.inl hx)
theorem zjD {l l':List FileD} (h:(l'.map (·.p)).Perm (l.map (·.p))) (ha:Apt l):(zS l').map (·.p)=(zS l).map (·.p):=by
 have ha':Apt l':=h.nodup_iff.2 ha;refine zda (zik ha') (zik ha) fun p=>?_;rw [((za3 l').map (·.p)).mem_iff,((za3 l).map (·.p)).mem_iff];exact h.mem_iff
theorem zeD (l:List FileD) (q:Pth):za8 l q=(l.map (·.p)).countP fun p=>(zj p).contains q:=by
 unfold za8;rw [List.countP_map];rfl
theorem zkw (l:List FileD) (q:Pth):atN l q=(l.map (·.p)).countP fun p=>p==q:=by
 unfold atN;rw [List.countP_map];rfl
theorem zqD {l l':List FileD} (h:l'.map (·.p)=l.map (·.p)) (b:Bool) (p:Pth):zaz l' b p=zaz l b p:=by
 unfold zaz;rw [zkw,zkw,zeD,zeD,h]
structure PC (r r':List FileD×List ClashD):Prop where
 p:r'.1.map (·.p)=r.1.map (·.p)
 c:∀x,x∈r'.2↔x∈r.2
theorem PC.step {r r':List FileD×List ClashD} (h:PC r r') (i:Nat):PC (zah r i) (zah r' i)∧∀x∈r.2,x∈(zah r i).2:=by
 obtain ⟨l,c⟩:=r;obtain ⟨l',c'⟩:=r';have hp:l'.map (·.p)=l.map (·.p):=h.p;have hc:∀x,x∈c'↔x∈c:=h.c;have hi:=congrArg (·[i]?) hp;simp only [List.getElem?_map] at hi
 cases hf:l[i]? with
 | none =>
  rw [hf,Option.map_none,Option.map_eq_none_iff] at hi;unfold zah;simp only [hf,hi]
  exact ⟨h,fun _ hx=>hx⟩
 | some f =>
  rw [hf,Option.map_some,Option.map_eq_some_iff] at hi;obtain ⟨f',hf',e⟩:=hi;rw [zdo hf,zdo hf',zeD,zeD,hp,e]
  split
  · refine ⟨⟨?_,fun x=>?_⟩,fun x hx=>List.mem_append.2 (.inl hx)⟩
    · show (zA l' i _).map (·.p)=(zA l i _).map (·.p);rw [zll,zll,hp,znO (fun p=>zqD hp true p)]
    · show x∈c'++_↔x∈c++_;rw [List.mem_append,List.mem_append,hc]
  · exact ⟨h,fun _ hx=>hx⟩
theorem PC.fold:∀(ns:List Nat) {r r':List FileD×List ClashD},PC r r'→PC (ns.foldl zah r) (ns.foldl zah r')∧∀x∈r.2,x∈(ns.foldl zah r).2
 | [],_,_,h=>⟨h,fun _ hx=>hx⟩
 | n::ns,_,_,h=>by
  obtain ⟨h1,h2⟩:=h.step n;obtain ⟨h3,h4⟩:=PC.fold ns h1;exact ⟨h3,fun x hx=>h4 x (h2 x hx)⟩
theorem zoz {l l':List FileD} {c:List ClashD} (h:(l'.map (·.p)).Perm (l.map (·.p))):PC (zR l c) (zR l' c)∧∀x∈c,x∈(zR l c).2:=by
 obtain ⟨h1,h2,h3⟩:=zmG (c:=c) h;have hn:l'.length=l.length:=by simpa using h.length_eq
 unfold zR;simp only
 have apt:Apt ((List.range l.length).foldl zQ (l,c)).1:=by
  have big:∃L,∀f∈l,f.p.length≤L:=⟨(l.map (fun f=>f.p.length)).sum,fun f hf=>zi4 hf⟩;obtain ⟨L,hL⟩:=big;have h0:ApI l.length L 0 l:=⟨rfl,by simp [Apt],fun f hf=>by have:=hL f hf;omega⟩;have h1:=zdW l.length l c (Nat.le_refl _) h0;have:=h1.apt
  rwa [List.take_of_length_le (by rw [h1.len];exact Nat.le_refl _)] at this
 have hpc:PC (zS ((List.range l.length).foldl zQ (l,c)).1,((List.range l.length).foldl zQ (l,c)).2) (zS ((List.range l'.length).foldl zQ (l',c)).1,((List.range l'.length).foldl zQ (l',c)).2):=⟨zjD h1 apt,h2⟩
 obtain ⟨q1,q2⟩:=PC.fold (List.range l.length) hpc;rw [hn] at q1 ⊢;exact ⟨q1,fun x hx=>q2 x (h3 x hx)⟩
theorem zsr {f g:FileD} (hf:FitF f) (hg:FitF g) (h:f.p=g.p):zP f=zP g:=by
 have e1:¬(f.k≠1∧f.k≠2∧f.k≠3):=by have:=hf.1;omega
 have e2:¬(g.k≠1∧g.k≠2∧g.k≠3):=by have:=hg.1;omega
 have e3:¬65536<f.d.length:=by have:=hf.2;omega
 have e4:¬65536<g.d.length:=by have:=hg.2;omega
 unfold zP;rw [h,if_neg e1,if_neg e2,if_neg e3,if_neg e4]
theorem znr {l l':List FileD} (h:l'.map (·.p)=l.map (·.p)) (p:Pth):zbg l' p=zbg l p:=by
 unfold zbg;have:=congrArg List.getLast? h;rw [List.getLast?_map,List.getLast?_map] at this
 cases h1:l'.getLast? with
 | none =>
  cases h2:l.getLast? with
  | none=>rfl
  | some g=>rw [h1,h2] at this;cases this
 | some g' =>
  cases h2:l.getLast? with
  | none=>rw [h1,h2] at this;cases this
  | some g =>
   rw [h1,h2] at this;simp only [Option.map_some,Option.some.injEq] at this;simp only [this]
theorem ziU:∀{l l' d d':List FileD},l'.map (·.p)=l.map (·.p)→d'.map (·.p)=d.map (·.p)→(∀f∈l,FitF f)→(∀f∈l',FitF f)→zax d' l'=zax d l
 | [],[],_,_,_,_,_,_=>rfl
 | [],_::_,_,_,h,_,_,_=>by cases h
 | _::_,[],_,_,h,_,_,_=>by cases h
 | f::l,f'::l',d,d',h,hd,h1,h2=>by
  rw [List.map_cons,List.map_cons] at h;injection h with h3 h4;have e1:=zsr (h2 f' (List.mem_cons_self ..)) (h1 f (List.mem_cons_self ..)) h3;have e2:(zj f'.p).any (fun x=>d'.any (fun g=>g.p==x))=(zj f.p).any (fun x=>d.any (fun g=>g.p==x)):=by
   rw [h3]
   congr 1
   funext x
   have key:∀m:List FileD,m.any (fun g=>g.p==x)=(m.map (·.p)).any (fun p=>p==x):=fun m=>by rw [List.any_map];rfl
   rw [key,key,hd]
  rw [zax,zax,e1,e2,znr hd,h3,ziU (d:=d++[f]) (d':=d'++[f']) h4 (by rw [List.map_append,List.map_append,hd];simp [h3]) (fun g hg=>h1 g (List.mem_cons_of_mem _ hg)) (fun g hg=>h2 g (List.mem_cons_of_mem _ hg))]
theorem zsh {l l':List FileD} (h:l'.map (·.p)=l.map (·.p)):z8 l'=z8 l:=by
 have key:∀m:List FileD,z8 m=(m.map (·.p)).flatMap fun p=>(zj p++[p]).map fun d=>(parN d,zap d):=fun m=>by
  unfold z8;rw [List.flatMap_map]
 rw [key,key,h]
theorem zqE {l l':List FileD} (h:l'.map (·.p)=l.map (·.p)) (h1:∀f∈l,FitF f) (h2:∀f∈l',FitF f):zg l'=zg l:=by
 have hn:l'.length=l.length:=by simpa using congrArg List.length h
 unfold zg;rw [hn,ziU (d:=[]) (d':=[]) h rfl h1 h2];unfold zbx;rw [zsh h]
theorem ztv {l:List FileD} {c:List ClashD} (h:∀f∈l,FitF f):∀f∈(zR l c).1,FitF f:=by
 have mv:∀(l:List FileD) (i:Nat) (p:Pth),(∀f∈l,FitF f)→∀f∈zA l i p,FitF f:=fun l i p h f hf=>by
  obtain ⟨j,hj⟩:=List.mem_iff_getElem?.1 hf;unfold zA at hj;rw [List.getElem?_modify] at hj
  cases q:l[j]? with
  | none=>rw [q] at hj;simp at hj
  | some x =>
   rw [q] at hj;have hx:=h x (List.mem_of_getElem? q);by_cases e:i=j
   · simp [e] at hj;subst hj;exact hx
   · simp [e] at hj;subst hj;exact hx
 have a1:∀(ns:List Nat) (r:List FileD×List ClashD),(∀f∈r.1,FitF f)→∀f∈(ns.foldl zQ r).1,FitF f:=fun ns=>by
  induction ns with
  | nil=>exact fun r h=>h
  | cons n ns ih =>
   intro r h;refine ih _ ?_;unfold zQ
   split
   · exact h
   · split
     · exact mv _ _ _ h
     · exact h
 have a2:∀(ns:List Nat) (r:List FileD×List ClashD),(∀f∈r.1,FitF f)→∀f∈(ns.foldl zah r).1,FitF f:=fun ns=>by
  induction ns with
  | nil=>exact fun r h=>h
  | cons n ns ih =>
   intro r h;refine ih _ ?_;unfold zah
   split
   · exact h
   · split
     · exact mv _ _ _ h
     · exact h
 unfold zR;exact a2 _ _ fun f hf=>a1 _ _ h f ((za3 _).mem_iff.1 hf)
end
section
def zao (d:MSt):Prop:=∀f∈d.t,FitF f
theorem zao.app_iff {d s:MSt}:zao (d.app s)↔zao d∧zao s:=by
 constructor
 · intro h;exact ⟨fun f hf=>h f (show f∈d.t++s.t from List.mem_append.2 (.inl hf)),fun f hf=>h f (show f∈d.t++s.t from List.mem_append.2 (.inr hf))⟩
 · rintro ⟨h,k⟩ f hf
   rcases List.mem_append.1 (show f∈d.t++s.t from hf) with q|q
   · exact h f q
   · exact k f q
theorem zao.sum_sw {α:Type} {f g:α→MSt}:∀{l:List α},(∀a∈l,zao (f a)→zao (g a))→zao (sumM (l.map f))→zao (sumM (l.map g))
 | [],_,_=>fun _ h=>(by cases h)
 | a::l,h,k=>by
  have k:=zao.app_iff.1 (show zao ((f a).app (sumM (l.map f))) from k);exact zao.app_iff.2 ⟨h a List.mem_cons_self k.1,zao.sum_sw (fun b hb=>h b (List.mem_cons_of_mem _ hb)) k.2⟩
theorem zrJ {b:FileD} {k:Int} {x y:FileD} (hx:x.d.length≤2000) (hy:y.d.length≤2000) (h:(zZ b k x y).1.length≤65536):(zZ b k y x).1.length≤65536:=by
 unfold zZ at h ⊢;have e:(zM k&&zM y.k&&zM x.k)=(zM k&&zM x.k&&zM y.k):=by rw [Bool.and_assoc,Bool.and_comm (zM y.k),←Bool.and_assoc]
 rw [e];by_cases h1:y.d=x.d∨x.d=b.d
 · rw [if_pos h1];simp only
   omega
 · rw [if_neg h1];by_cases h2:y.d=b.d
   · rw [if_pos h2];simp only
     omega
   · rw [if_neg h2];have h3:¬(x.d=y.d∨y.d=b.d):=fun q=>q.elim (fun q=>h1 (.inl q.symm)) h2;rw [if_neg h3,if_neg (fun q=>h1 (.inr q))] at h;by_cases h4:(zM k&&zM x.k&&zM y.k)=true
     · rw [if_pos h4] at h ⊢
       rcases zjr b.d x.d y.d with ⟨q1,q2⟩|⟨u,v,c,q1,q2,q3,q4⟩
       · rw [q1];simp
       · rw [q1] at h;rw [q2];simp only at h ⊢;omega
     · rw [if_neg h4];simp only
       omega
theorem zew {p:Pth} {b:FileD} {k:Int} {x y:FileD} (hx:SmF x) (hy:SmF y) (h:zao (m0.both p b k x y)):zao (m0.both p b k y x):=by
 rw [zgV] at h ⊢;have h:=(h _ (List.mem_singleton.2 rfl)).2;intro f hf;rw [List.mem_singleton.1 hf];refine ⟨?_,zrJ hx.2 hy.2 h⟩;simp only
 unfold zaj
 split
 · split
   · exact hx.1
   · exact hy.1
 · exact hy.1
theorem ztt {base o t:List FileD} {ps qs:List PairD} (ho:PairsOf base o ps) (ht:PairsOf base t qs) (so:∀f∈o,SmF f) (st:∀f∈t,SmF f) {f:FileD} (h:zao (zc9 ⟨o,ps⟩ ⟨t,qs⟩ f)):zao (zc9 ⟨t,qs⟩ ⟨o,ps⟩ f):=by
 unfold zc9 MSt.file at h ⊢;simp only at h ⊢;have g1:(SideD.goes ⟨o,ps⟩ f.p).2=true→SmF (getF o (SideD.goes ⟨o,ps⟩ f.p).1):=fun h=>SmF.get so (zcZ ho h);have g2:(SideD.goes ⟨t,qs⟩ f.p).2=true→SmF (getF t (SideD.goes ⟨t,qs⟩ f.p).1):=fun h=>SmF.get st (zcZ ht h);generalize getF o (SideD.goes ⟨o,ps⟩ f.p).1=x at *;generalize getF t (SideD.goes ⟨t,qs⟩ f.p).1=y at *;generalize SideD.goes ⟨o,ps⟩ f.p=a at *;generalize SideD.goes ⟨t,qs⟩ f.p=b at *;obtain ⟨po,mo⟩:=a;obtain ⟨pt,mt⟩:=b;simp only at h g1 g2 ⊢;cases mo <;> cases mt
 · simp;exact fun _ h=>(by cases h)
 · simp;exact (ziM (g2 rfl)).1
 · simp;exact (ziM (g1 rfl)).1
 · simp only [Bool.true_eq_false,and_false,if_false] at h ⊢;by_cases h1:po=pt
   · subst h1;simp only [ne_eq,not_true_eq_false,false_and,if_false] at h ⊢
     split at h <;> split <;> exact zew (g1 rfl) (g2 rfl) h
   · have h1':¬pt=po:=fun e=>h1 e.symm;by_cases h2:po=f.p
     · subst h2;simp only [ne_eq,not_true_eq_false,false_and,and_false,if_false,h1,h1',if_true] at h ⊢;exact zew (g1 rfl) (g2 rfl) h
     · by_cases h3:pt=f.p
       · subst h3;simp only [ne_eq,not_true_eq_false,false_and,and_false,if_false,h1,h1',if_true] at h ⊢;exact zew (g1 rfl) (g2 rfl) h
       · rw [if_pos ⟨h1',h3,h2⟩];intro g hg;have:g∈[{ y with p:=pt },{ x with p:=po }]:=hg;simp only [List.mem_cons,List.not_mem_nil,or_false] at this
         rcases this with rfl|rfl
         · exact zhz (g2 rfl) _
         · exact zhz (g1 rfl) _
theorem zmF {base:List FileD} {o t:SideD} (so:∀f∈o.f,SmF f) (st:∀f∈t.f,SmF f) (p:Pth) (h:zao (zc8 base o t p)):zao (zc8 base t o p):=by
 unfold zc8 MSt.fresh1 at h ⊢;have g1:o.isNew base p=true→SmF (getF o.f p):=fun h=>SmF.get so (zco.1 h).1;have g2:t.isNew base p=true→SmF (getF t.f p):=fun h=>SmF.get st (zco.1 h).1;cases h1:o.isNew base p <;> cases h2:t.isNew base p <;> rw [h1,h2] at h
 · exact h
 · exact h
 · exact h
 · exact zew (g1 h1) (g2 h2) h
theorem zs9 {base ours theirs:List FileD} (hb:TreeOk base) (ho:GoodT ours) (ht:GoodT theirs) (h:zao (zk base ours theirs)):zao (zk base theirs ours):=by
 rw [zhM] at h ⊢;rw [zib (theirs.map (·.p))];have h:=zao.app_iff.1 h
 refine zao.app_iff.2 ⟨zao.sum_sw (fun f hf=>?_) h.1,zao.sum_sw (fun p _=>?_) h.2⟩
 · exact ztt (zdA hb.apt ho.tree.apt hb.kinds ho.tree.kinds) (zdA hb.apt ht.tree.apt hb.kinds ht.tree.kinds) (zfd ho) (zfd ht)
 · exact zmF (zfd ho) (zfd ht) p
theorem zmO {l:List FileD} {c:List ClashD}:((zR l c).1.map (fun f=>(f.k,f.d))).Perm (l.map fun f=>(f.k,f.d)):=by
 have mv:∀(l:List FileD) (i:Nat) (p:Pth),(zA l i p).map (fun f=>(f.k,f.d))=l.map fun f=>(f.k,f.d):=fun l i p=>by
  apply List.ext_getElem?;intro j;unfold zA;rw [List.getElem?_map,List.getElem?_map,List.getElem?_modify]
  cases l[j]? with
  | none=>simp
  | some x=>by_cases e:i=j <;> simp [e]
 have a1:∀(ns:List Nat) (r:List FileD×List ClashD),(ns.foldl zQ r).1.map (fun f=>(f.k,f.d))=r.1.map fun f=>(f.k,f.d):=fun ns=>by
  induction ns with
  | nil=>exact fun r=>rfl
  | cons n ns ih =>
   intro r;rw [List.foldl_cons,ih];unfold zQ
   split
   · rfl
   · split
     · exact mv _ _ _
     · rfl
 have a2:∀(ns:List Nat) (r:List FileD×List ClashD),(ns.foldl zah r).1.map (fun f=>(f.k,f.d))=r.1.map fun f=>(f.k,f.d):=fun ns=>by
  induction ns with
  | nil=>exact fun r=>rfl
  | cons n ns ih =>
   intro r;rw [List.foldl_cons,ih];unfold zah
   split
   · rfl
   · split
     · exact mv _ _ _
     · rfl
 unfold zR;rw [a2];refine ((za3 _).map _).trans ?_;rw [a1]
theorem zsE {l:List FileD} {c:List ClashD} (h:∀f∈(zR l c).1,FitF f):∀f∈l,FitF f:=by
 intro f hf;have:=(zmO (l:=l) (c:=c)).mem_iff.2 (List.mem_map.2 ⟨f,hf,rfl⟩);obtain ⟨g,hg,e⟩:=List.mem_map.1 this;injection e with e1 e2;have:=h g hg;unfold FitF at this ⊢;rw [←e1,←e2];exact this
theorem FitF.of {f:FileD} (h:zP f=0):FitF f:=by
 unfold zP at h
 split at h
 · omega
 · split at h
   · omega
   · split at h
     · omega
     · exact ⟨by omega,by omega⟩
theorem zjB {base ours theirs:List FileD} (cb:zg base=0) (ho:GoodT ours) (ht:GoodT theirs) (lo:ours.length≤64) (lt:theirs.length≤64) {x:List FileD} {v:List ClashD} (h:zG base ours theirs = .ok (x,v)) :∃y,zG base theirs ours = .ok (y,v)∧(v=[]→x=y):=by
 have hb:=(zW cb).1;have co:=zgJ ho lo;have ct:=zgJ ht lt;have hs:=zrL base ours theirs;obtain ⟨q1,q2⟩:=zoz (l:=(zk base ours theirs).t) (l':=(zk base theirs ours).t) (c:=(zk base ours theirs).c) hs.paths;unfold zG at h;rw [if_neg (by omega),if_neg (by omega),if_neg (by omega)] at h;simp only at h;by_cases he:(zk base ours theirs).e=0
 · rw [if_neg (by omega)] at h;by_cases hc:zg (zS (zR (zk base ours theirs).t (zk base ours theirs).c).1)=0
   · rw [if_neg (by omega)] at h;injection h with h;injection h with e1 e2;have g1:∀f∈(zR (zk base ours theirs).t (zk base ours theirs).c).1,FitF f:=fun f hf=>FitF.of ((zW hc).1.file f ((za3 _).mem_iff.2 hf));have f1:zao (zk base ours theirs):=zsE g1;have f2:=zs9 hb ho ht f1;have g2:=ztv (c:=(zk base ours theirs).c) f2;have apt:Apt (zR (zk base ours theirs).t (zk base ours theirs).c).1:=by
      have h0:=(zW hc).1.apt;exact ((za3 _).map _).nodup_iff.1 h0
     have hp:=zjD (l:=(zR (zk base ours theirs).t (zk base ours theirs).c).1) (l':=(zR (zk base theirs ours).t (zk base ours theirs).c).1) (by rw [q1.p]) apt;have hck:=zqE hp (fun f hf=>g1 f ((za3 _).mem_iff.1 hf)) (fun f hf=>g2 f ((za3 _).mem_iff.1 hf));have hcl:zaY (zR (zk base theirs ours).t (zk base ours theirs).c).2=zaY (zR (zk base ours theirs).t (zk base ours theirs).c).2:=zeM (zcQ _) (zcQ _) fun x=>by
      rw [zcp,zcp];exact q1.c x
     refine ⟨zS (zR (zk base theirs ours).t (zk base ours theirs).c).1,?_,fun hv=>?_⟩
     · unfold zG;rw [if_neg (by omega),if_neg (by omega),if_neg (by omega)];simp only
       rw [hs.e,hs.c,hck,hcl,if_neg (by omega),if_neg (by omega),e2]
     · have hc0:(zk base ours theirs).c=[]:=by
        rw [List.eq_nil_iff_forall_not_mem];intro x hx;have:=zcp.2 (q2 x hx);rw [e2,hv] at this;cases this
       rw [←e1,hs.same hc0]
   · rw [if_pos (by omega)] at h;cases h
 · rw [if_pos (by omega)] at h;cases h
theorem zpm {base ours theirs:List FileD} (cb:zg base=0) (ho:GoodT ours) (ht:GoodT theirs) (lo:ours.length≤64) (lt:theirs.length≤64) :(∃e e',zG base ours theirs = .error e∧zG base theirs ours = .error e')∨∃x y v,zG base ours theirs = .ok (x,v)∧zG base theirs ours = .ok (y,v)∧(v=[]→x=y):=by
 cases h:zG base ours theirs with
 | ok r =>
  obtain ⟨x,v⟩:=r;obtain ⟨y,h1,h2⟩:=zjB cb ho ht lo lt h
  exact .inr ⟨x,y,v,rfl,h1,h2⟩
 | error e =>
  cases k:zG base theirs ours with
  | ok r =>
   obtain ⟨x,v⟩:=r;obtain ⟨y,h1,h2⟩:=zjB cb ht ho lt lo k;rw [h] at h1
   cases h1
  | error e'=>exact .inl ⟨e,e',rfl,rfl⟩
end
end Go.Proofs.YtmkmbbjgepcioaaGreatDoor
