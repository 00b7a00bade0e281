/- Contract of merge3.add. No statement of the seat is proved here. -/
import Derived.Test.YtmkmbbjgepcioaaGreatDoorSAHq
import Derived.Test.YtmkmbbjgepcioaaGreatDoorSA04
namespace Go.Proofs.YtmkmbbjgepcioaaGreatDoor
set_option maxHeartbeats 4000000
set_option maxRecDepth 100000
section
open Go.RowKit
def SRow (w:World) (lo hi:Nat) (v:Value) (l:List (List UInt8)):Prop:=∃A c,v = .slice A l.length c∧Own w lo 9 1 A l.length c (strL l)∧∀k,v.ownBlock=some k→k<hi
def zB (hi:Nat) (w w':World):Prop:=w.heap.size≤w'.heap.size∧∀k cs,k<hi→w.heap[k]? = some (.cells cs 9 (0,0))→w'.heap[k]? = some (.cells cs 9 (0,0))
section
variable {w w' w2:World} {lo hi:Nat} {v:Value} {l:List (List UInt8)}
theorem zB.refl (hi:Nat) (w:World):zB hi w w:=⟨Nat.le_refl _,fun _ _ _ h=>h⟩
theorem zB.trans (h:zB hi w w') (k:zB hi w' w2):zB hi w w2:=⟨Nat.le_trans h.1 k.1,fun i cs hi h0=>k.2 i cs hi (h.2 i cs hi h0)⟩
theorem zB.mono {hi':Nat} (h:zB hi w w') (hh:hi'≤hi):zB hi' w w':=⟨h.1,fun i cs hi h0=>h.2 i cs (by omega) h0⟩
theorem zB.drewN (hi:Nat) (w:World) (n:Nat):zB hi w (w.drewN n):=⟨Nat.le_refl _,fun _ _ _ h=>h⟩
theorem zB.drew (hi:Nat) (w:World):zB hi w w.drew:=⟨Nat.le_refl _,fun _ _ _ h=>h⟩
theorem zB.ofBelow {B:Nat} (h:Below B w w') (hh:hi≤B):zB hi w w':=⟨h.size,fun k cs hk h0=>(h.block k (by omega)).trans h0⟩
theorem zB.ofKept {z:Nat} {e:TypeId} (h:Kept z [e] [] w w') (he:9≠e):zB hi w w':=⟨h.size,fun k cs _ h0=>h.blk (g:=k) (cs:=cs) h0 (by simp) (by simpa using he)⟩
theorem zB.far {p:Addr} {t:TypeId} {cs:Array Value} (hb:Blk w p.block t cs) (ht:9≠t) (u:Value):zB hi w (w.setCell p u):=by
 refine ⟨by simp [World.setCell],fun k cs' _ h0=>?_⟩;have h1:Blk w k 9 cs':=h0;exact h1.far (h1.ne_ hb ht) u
theorem zB.grown {g:Nat} (h:w.grownBy w' (some g)) (hg:hi≤g):zB hi w w':=⟨h.size,fun k cs hk h0=>by
 have hlt:k<w.heap.size:=(show Blk w k 9 cs from h0).lt;exact (h.block k hlt (fun e=>by injection e;omega)).trans h0⟩
theorem SRow.keep (h:SRow w lo hi v l) (hk:zB hi w w'):SRow w' lo hi v l:=by
 obtain ⟨A,c,rfl,h1,h2⟩:=h;refine ⟨A,c,rfl,⟨h1.1,?_⟩,h2⟩
 rcases h1.2 with q|⟨g,cap,cur,e,hb,hc,hr⟩
 · exact .inl q
 · refine .inr ⟨g,cap,cur,e,hb,hk.2 g cur (h2 g (by rw [e];rfl)) hc,hr⟩
theorem SRow.more {hi':Nat} (h:SRow w lo hi v l) (hh:hi≤hi'):SRow w lo hi' v l:=by
 obtain ⟨A,c,rfl,h1,h2⟩:=h;exact ⟨A,c,rfl,h1,fun k hk=>Nat.lt_of_lt_of_le (h2 k hk) hh⟩
theorem SRow.low {lo':Nat} (h:SRow w lo hi v l) (hh:lo'≤lo):SRow w lo' hi v l:=by
 obtain ⟨A,c,rfl,h1,h2⟩:=h;exact ⟨A,c,rfl,h1.mono hh,h2⟩
theorem SRow.of_own {A:Option Addr} {c:Nat} (h:Own w lo 9 1 A l.length c (strL l)) (hh:w.heap.size≤hi):SRow w lo hi (.slice A l.length c) l :=
 ⟨A,c,rfl,h,fun k hk=>Nat.lt_of_lt_of_le (h.blockAt k hk).2.1 hh⟩
theorem SRow.reads (h:SRow w lo hi v l):∃A c,v = .slice A l.length c∧ze w w.heap.size 1 A l.length (strL l)∧l.length≤c:=by
 obtain ⟨A,c,rfl,h1,_⟩:=h;exact ⟨A,c,rfl,h1.reads,h1.cap_le.1⟩
theorem SRow.adr (h:SRow w lo hi v l) (hl:l≠[]):∃g c,v = .slice (some ⟨g,0,none⟩) l.length c∧lo≤g∧g<hi∧Own w lo 9 1 (some ⟨g,0,none⟩) l.length c (strL l):=by
 obtain ⟨A,c,rfl,h1,h2⟩:=h;obtain ⟨g,rfl,hg⟩:=h1.adrn (List.length_pos_iff.2 hl);exact ⟨g,c,rfl,hg,h2 g rfl,h1⟩
end
theorem zrs {P:Program} {w:World} {t e ty:TypeId} {size bytes:Nat} (H:Elem P t e size bytes) {base g:Nat} {n c:Nat} {xs:List Value} (hown:Own w base e size (some ⟨g,0,none⟩) n c xs) {B:Nat} {S:Option Addr} {m d:Nat} {news:List Value} (hr:ze w B size S m news) (h1:∀u∈news,u.oneCell'=true) (hn:0<n) (h63:n+m≤maxLen) (hbytes:(n+m)*bytes≤140737488355328) (hbase:base≤w.heap.size) :∃g' c' w',(Builtin.append_ #[t,t] ty #[.slice (some ⟨g,0,none⟩) n c,.slice S m d]).run P w = .ok (.slice (some ⟨g',0,none⟩) (n+m) c') w'∧Own w' base e size (some ⟨g',0,none⟩) (n+m) c' (xs++news)∧w.grownBy w' (some g)∧(g'=g∨g'=w.heap.size):=by
 obtain ⟨ht,⟨i,z,hi,hz,hsize,hby,hzs⟩,hpos⟩:=H
 rcases S with _|ad
 · have hm:m=0:=by
    rcases Nat.eq_zero_or_pos m with h0|h0
    · exact h0
    · obtain ⟨ad,h,_⟩:=hr.2 h0;cases h
   subst hm;have hn:news=[]:=List.eq_nil_of_length_eq_zero (by simpa using hr.1);subst hn;exact ⟨g,c,w,zgT w base t ty e i size ht hi _ n xs hown d,by simpa using hown,⟨rfl,rfl,rfl,Nat.le_refl _,fun _ _ _=>rfl⟩,.inl rfl⟩
 · have hcells:∀j u,news[j]? = some u→w.cell? (ad.add j)=some u:=by
    intro j u hu
    rcases Nat.eq_zero_or_pos m with h0|h0
    · subst h0;have hn:news=[]:=List.eq_nil_of_length_eq_zero (by simpa using hr.1);subst hn;simp at hu
    · obtain ⟨ad',h,_,hc⟩:=hr.2 h0;injection h with h;subst h;exact hc j u hu
   obtain ⟨v',w',hrun,h2,h3,_,h5⟩:=run_append_own_at (P:=P) w base t ty e i z size bytes ht hi hz hsize hby hzs hpos _ n xs hown ad m d news hr.1 hcells h1 h63 hbytes hbase;obtain ⟨A',c',rfl⟩:=zcC h2;obtain ⟨g',rfl,_⟩:=Own.adrn h2 (by omega);refine ⟨g',c',w',hrun,h2,h3,?_⟩
   rcases h5 with h5|h5
   · exact .inl (Option.some.inj h5)
   · exact .inr (Option.some.inj h5)
theorem zgA {P:Program} {ops:Array Oper} {o:Oper} {a:Act} {w:World} {K:Act→World→Prop} {Q:Exit→Act→World→Prop} {E:Prop} (hgd:o.guard=none) {s x:Operand} {t e:TypeId} {size bytes:Nat} (H:Elem P t e size bytes) (ho:o.op = .call { callee := .builtin .append,args:=#[s,x],argTypes:=#[t,t] }) {base g:Nat} {n c:Nat} {xs:List Value} (hs:a.eval s = .slice (some ⟨g,0,none⟩) n c) (hown:Own w base e size (some ⟨g,0,none⟩) n c xs) {B:Nat} {S:Option Addr} {m d:Nat} {news:List Value} (hx:a.eval x = .slice S m d) (hr:ze w B size S m news) (h1:∀u∈news,u.oneCell'=true) (hn:0<n) (h63:n+m≤maxLen) (hbytes:(n+m)*bytes≤140737488355328) (hbase:base≤w.heap.size) (h:∀g' c' w',Own w' base e size (some ⟨g',0,none⟩) (n+m) c' (xs++news)→w.grownBy w' (some g)→(g'=g∨g'=w.heap.size)→K (a.put o.dst (.slice (some ⟨g',0,none⟩) (n+m) c')) w'):if Region.wanted o (yielded ops a.tmps)=true then Oper.wp P o a w K Q else E:=by
 have hw:Region.wanted o (yielded ops a.tmps)=true:=by simp [Region.wanted,hgd]
 rw [if_pos hw];obtain ⟨g',c',w',hrun,h2,h3,h4⟩:=zrs (ty:=o.type) (d:=d) H hown hr h1 hn h63 hbytes hbase;exact zcA ho hs hx hrun (h g' c' w' h2 h3 h4)
abbrev Val3:Type:=Value×Value×Value
def ckV (x:ChunkD) (v:Val3):List Value:=[.int .i64 (x.kind:Int),v.1,v.2.1,v.2.2]
def ckLs (l:List ChunkD) (tv:List Val3):List Value:=(l.zip tv).flatMap fun y=>ckV y.1 y.2
def zbd (w:World) (lo hi:Nat) (x:ChunkD) (v:Val3):Prop:=SRow w lo hi v.1 x.b∧SRow w lo hi v.2.1 x.o∧SRow w lo hi v.2.2 x.t
theorem zbd.keep {w w':World} {lo hi:Nat} {x:ChunkD} {v:Val3} (h:zbd w lo hi x v) (hk:zB hi w w'):zbd w' lo hi x v:=⟨h.1.keep hk,h.2.1.keep hk,h.2.2.keep hk⟩
theorem zbd.more {w:World} {lo hi hi':Nat} {x:ChunkD} {v:Val3} (h:zbd w lo hi x v) (hh:hi≤hi'):zbd w lo hi' x v:=⟨h.1.more hh,h.2.1.more hh,h.2.2.more hh⟩
theorem zbd.low {w:World} {lo lo' hi:Nat} {x:ChunkD} {v:Val3} (h:zbd w lo hi x v) (hh:lo'≤lo):zbd w lo' hi x v:=⟨h.1.low hh,h.2.1.low hh,h.2.2.low hh⟩
structure CkI (w:World) (z:Nat) (A:Option Addr) (cp:Nat) (ini:List ChunkD) (tvi:List Val3) (x:ChunkD) (v:Val3) (p:Nat):Prop where
 len:tvi.length=ini.length
 own:Own w z 255 4 A (ini.length+1) cp (ckLs ini tvi++ckV x v)
 lo:z≤p
 hi:p≤w.heap.size
 old:∀(k:Nat) y u,ini[k]? = some y→tvi[k]? = some u→zbd w z p y u
 last:zbd w p w.heap.size x v
 apart:x.kind=0→x.b≠[]∧x.o≠[]∧x.t≠[]∧v.1.ownBlock≠v.2.1.ownBlock∧v.1.ownBlock≠v.2.2.ownBlock∧v.2.1.ownBlock≠v.2.2.ownBlock
def CkL (w:World) (z:Nat) (A:Option Addr) (cp:Nat) (l:List ChunkD):Prop:=(l=[]∧A=none∧cp=0)∨∃ini tvi x v p,l=ini++[x]∧CkI w z A cp ini tvi x v p
theorem zs8 {l:List ChunkD} {tv:List Val3} (h:tv.length=l.length) (x:ChunkD) (v:Val3):ckLs (l++[x]) (tv++[v])=ckLs l tv++ckV x v:=by
 unfold ckLs;rw [List.zip_append h.symm];simp
theorem zcN {l:List ChunkD} {tv:List Val3} (h:tv.length=l.length):(ckLs l tv).length=l.length*4:=by
 unfold ckLs;rw [zcj (C:=4) (fun x=>rfl),List.length_zip,h,Nat.min_self]
theorem CkL.own {w:World} {z:Nat} {A:Option Addr} {cp:Nat} {l:List ChunkD} (h:CkL w z A cp l):∃tv,tv.length=l.length∧Own w z 255 4 A l.length cp (ckLs l tv)∧∀(k:Nat) y u,l[k]? = some y→tv[k]? = some u→zbd w z w.heap.size y u:=by
 rcases h with ⟨rfl,rfl,rfl⟩|⟨ini,tvi,x,v,p,rfl,h⟩
 · exact ⟨[],rfl,Own.nil _ _ _ _,fun _ _ _ h=>by cases h⟩
 · refine ⟨tvi++[v],by simp [h.len],by rw [zs8 h.len,List.length_append];exact h.own,fun k y u hy hu=>?_⟩
   rcases Nat.lt_or_ge k ini.length with q|q
   · rw [List.getElem?_append_left q] at hy;rw [List.getElem?_append_left (by rw [h.len];exact q)] at hu;exact (h.old k y u hy hu).more h.hi
   · rw [List.getElem?_append_right q] at hy;rw [List.getElem?_append_right (by rw [h.len];exact q)] at hu;have hk:k-ini.length=0:=by
      rcases Nat.eq_zero_or_pos (k-ini.length) with e|e
      · exact e
      · rw [List.getElem?_eq_none (by simp;omega)] at hy;cases hy
     rw [hk] at hy;rw [h.len,hk] at hu;simp at hy hu;subst hy hu;exact h.last.low h.lo
theorem zoN {α:Type} {l:List α} {j:Nat} {x:α} (h:l.Nodup) (hx:x∉l):(l.set j x).Nodup:=by
 induction l generalizing j with
 | nil=>simp
 | cons a l ih =>
  rw [List.nodup_cons] at h;simp only [List.mem_cons,not_or] at hx
  cases j with
  | zero=>rw [List.set_cons_zero,List.nodup_cons];exact ⟨hx.2,h.2⟩
  | succ j =>
   rw [List.set_cons_succ,List.nodup_cons];refine ⟨fun hm=>?_,ih h.2 hx.2⟩
   rcases List.mem_or_eq_of_mem_set hm with q|q
   · exact h.1 q
   · exact hx.1 q.symm
theorem zlP {α:Type}:∀{l:List α} {i j:Nat} {x:α},l.Nodup→l[i]? = some x→l[j]? = some x→i=j
 | [],_,_,_,_,h,_=>by simp at h
 | a::l,0,0,_,_,_,_=>rfl
 | a::l,0,j+1,x,h,h1,h2=>by
  simp at h1 h2;subst h1
  exact absurd (List.mem_of_getElem? h2) (List.nodup_cons.1 h).1
 | a::l,i+1,0,x,h,h1,h2=>by
  simp at h1 h2;subst h2
  exact absurd (List.mem_of_getElem? h1) (List.nodup_cons.1 h).1
 | a::l,i+1,j+1,x,h,h1,h2=>by
  simp at h1 h2;rw [zlP (List.nodup_cons.1 h).2 h1 h2]
abbrev Row3:Type:=Nat×Nat×List (List UInt8)
def rv (r:Row3):Value := .slice (some ⟨r.1,0,none⟩) r.2.2.length r.2.1
structure GR (w:World) (z p g cp:Nat) (ini:List ChunkD) (tvi:List Val3) (rs:List Row3):Prop where
 len:tvi.length=ini.length
 own:Own w z 255 4 (some ⟨g,0,none⟩) (ini.length+1) cp (ckLs ini tvi++(.int .i64 0::rs.map rv))
 old:∀(k:Nat) y u,ini[k]? = some y→tvi[k]? = some u→zbd w z p y u
 rows:∀r∈rs,Own w p 9 1 (some ⟨r.1,0,none⟩) r.2.2.length r.2.1 (strL r.2.2)
 apart:(rs.map (·.1)).Nodup
 hi:p≤w.heap.size
theorem GR.cell {w:World} {z p g cp:Nat} {ini:List ChunkD} {tvi:List Val3} {rs:List Row3} (h:GR w z p g cp ini tvi rs) {j:Nat} {r:Row3} (hj:rs[j]? = some r):w.cell? ⟨g,ini.length*4+(j+1),none⟩=some (rv r):=by
 obtain ⟨g',off,e,_,hc⟩:=h.own.reads.at0 (by omega) (by omega);injection e with e;injection e with e1 e2;subst e1 e2;have:=hc (ini.length*4+(j+1)) (rv r) (by
  rw [List.getElem?_append_right (by rw [zcN h.len];omega),zcN h.len,show ini.length*4+(j+1)-ini.length*4=j+1 by omega,List.getElem?_cons_succ,List.getElem?_map,hj];rfl)
 rwa [Nat.zero_add] at this
theorem GR.keep {w w':World} {z p g cp:Nat} {ini:List ChunkD} {tvi:List Val3} {rs:List Row3} (h:GR w z p g cp ini tvi rs) (hk:Below w.heap.size w w'):GR w' z p g cp ini tvi rs:=by
 refine ⟨h.len,h.own.kept (b':=0) (E:=[]) (G:=[]) (Kept.ofBelow hk) (by simp) (by simp),fun k y u e1 e2=>(h.old k y u e1 e2).keep (zB.ofBelow hk h.hi),fun r hr=>(h.rows r hr).kept (b':=0) (E:=[]) (G:=[]) (Kept.ofBelow hk) (by simp) (by simp),h.apart,Nat.le_trans h.hi hk.size⟩
theorem GR.step {w w5:World} {z p g cp:Nat} {ini:List ChunkD} {tvi:List Val3} {rs:List Row3} (h:GR w z p g cp ini tvi rs) (hzp:z≤p) {j:Nat} {r:Row3} (hj:rs[j]? = some r) {news:List (List UInt8)} {g5 c5:Nat} (o5:Own w5 p 9 1 (some ⟨g5,0,none⟩) (r.2.2.length+news.length) c5 (strL r.2.2++strL news)) (gr:w.grownBy w5 (some r.1)) (lo:g5=r.1∨g5=w.heap.size) :w5.cell? ⟨g,ini.length*4+(j+1),none⟩=some (rv r)∧w5.frozen? ⟨g,ini.length*4+(j+1),none⟩=false∧Hid (GR (w5.setCell ⟨g,ini.length*4+(j+1),none⟩ (.slice (some ⟨g5,0,none⟩) (r.2.2.length+news.length) c5)) z p g cp ini tvi (rs.set j (g5,c5,r.2.2++news))) ∧Hid (Below z w (w5.setCell ⟨g,ini.length*4+(j+1),none⟩ (.slice (some ⟨g5,0,none⟩) (r.2.2.length+news.length) c5)))∧Hid (∀B v l,SRow w B w.heap.size v l→r.1<B→SRow (w5.setCell ⟨g,ini.length*4+(j+1),none⟩ (.slice (some ⟨g5,0,none⟩) (r.2.2.length+news.length) c5)) B w.heap.size v l) ∧Hid (∀q t cs,Blk w q t cs→q≠r.1→q≠g→Blk (w5.setCell ⟨g,ini.length*4+(j+1),none⟩ (.slice (some ⟨g5,0,none⟩) (r.2.2.length+news.length) c5)) q t cs):=by
 have hr:=List.mem_of_getElem? hj;obtain ⟨b1,b2,cs1,b3⟩:=(h.rows r hr).blockAt r.1 rfl;obtain ⟨a1,a2,cs,a3⟩:=h.own.blockAt g rfl;have hne:g≠r.1:=by
  intro e;rw [e,b3] at a3;injection a3 with a3;injection a3 with _ e;exact absurd e (by decide)
 have hb5:Blk w5 g 255 cs:=(gr.block g a2 (fun e=>hne (Option.some.inj e))).trans a3;have hb0:Blk w g 255 cs:=a3;have hcell:=h.cell hj;have s5:zB p w w5:=zB.grown gr b1;have s6:∀u,zB p w5 (w5.setCell ⟨g,ini.length*4+(j+1),none⟩ u):=fun u=>zB.far (p:=⟨g,ini.length*4+(j+1),none⟩) hb5 (by decide) u;have own5:Own w5 z 255 4 (some ⟨g,0,none⟩) (ini.length+1) cp (ckLs ini tvi++(.int .i64 0::rs.map rv)):=h.own.kept (Kept.of_grown (G:=[]) (E:=[9]) (h.rows r hr) gr (by simp)) (by decide) (by simp);have hjl:j<rs.length:=(List.getElem?_eq_some_iff.1 hj).1
 refine ⟨?_,hb5.frozen _,zz ⟨h.len,?_,fun k y u e1 e2=>((h.old k y u e1 e2).keep s5).keep (s6 _),fun r' hr'=>?_,?_,?_⟩,zz ?_,zz fun B v l hs hB=>?_,zz fun q t cs' hq q1 q2=>?_⟩
 · rw [hb5.cell,←hb0.cell];exact hcell
 · refine (own5.turn (ini.length*4+(j+1)) _ ?_).1;rw [List.set_append_right _ _ (by rw [zcN h.len];omega),zcN h.len,show ini.length*4+(j+1)-ini.length*4=j+1 by omega,List.set_cons_succ,List.map_set];simp only [rv,List.length_append]
 · rcases List.mem_or_eq_of_mem_set hr' with q|q
   · by_cases e:r'.1=r.1
     · 
       obtain ⟨i,hi,hri⟩:=List.mem_iff_getElem.1 hr';rw [List.length_set] at hi;rw [List.getElem_set] at hri
       split at hri
       · subst hri;have:=o5.setCell (p:=⟨g,ini.length*4+(j+1),none⟩) hb5 (by decide) (.slice (some ⟨g5,0,none⟩) (r.2.2.length+news.length) c5);simpa [strL] using this
       · rename_i hij
         exfalso;have e1:(rs.map (·.1))[i]? = some r'.1:=by rw [List.getElem?_map,List.getElem?_eq_getElem hi,hri];rfl
         have e2:(rs.map (·.1))[j]? = some r.1:=by rw [List.getElem?_map,hj];rfl
         exact hij (zlP h.apart (e▸e2) e1)
     · have h1:=h.rows r' q;have h2:Own w5 p 9 1 (some ⟨r'.1,0,none⟩) r'.2.2.length r'.2.1 (strL r'.2.2):=World.ownsRow.kept h1 gr (.inr (fun q=>e (Option.some.inj q)));exact h2.setCell (p:=⟨g,ini.length*4+(j+1),none⟩) hb5 (by decide) _
   · subst q;have:=o5.setCell (p:=⟨g,ini.length*4+(j+1),none⟩) hb5 (by decide) (.slice (some ⟨g5,0,none⟩) (r.2.2.length+news.length) c5);simpa [strL] using this
 · rw [List.map_set]
   rcases lo with rfl|rfl
   · have:(rs.map (·.1)).set j r.1=rs.map (·.1):=by
      apply List.ext_getElem?;intro i;rw [List.getElem?_set]
      split
      · rename_i e
        subst e;rw [if_pos (by simpa using hjl),List.getElem?_map,hj];rfl
      · rfl
     rw [this];exact h.apart
   · refine zoN h.apart fun hm=>?_;obtain ⟨r',hr',e⟩:=List.mem_map.1 hm;have:=((h.rows r' hr').blockAt r'.1 rfl).2.1;omega
 · have:=gr.size;simp [World.setCell];exact Nat.le_trans h.hi this
 · exact Below.setCell (p:=⟨g,ini.length*4+(j+1),none⟩) ((Below.refl z w).grown gr (by omega) (fun k e=>by injection e;omega)) a1 _
 · have k1:zB w.heap.size w5 (w5.setCell ⟨g,ini.length*4+(j+1),none⟩ (.slice (some ⟨g5,0,none⟩) (r.2.2.length+news.length) c5)):=zB.far (p:=⟨g,ini.length*4+(j+1),none⟩) hb5 (by decide) _;obtain ⟨A,c,rfl,q1,q2⟩:=hs;refine SRow.keep ⟨A,c,rfl,World.ownsRow.kept q1 gr ?_,q2⟩ k1
   rcases hown:(Value.slice A l.length c).ownBlock with _|k
   · exact .inl rfl
   · have:=(q1.blockAt k hown).1;exact .inr (fun e=>by injection e;omega)
 · exact Blk.far (p:=⟨g,ini.length*4+(j+1),none⟩) ((gr.block q hq.lt (fun e=>by injection e with e;exact q1 e)).trans hq) q2 _
theorem GR.close {w:World} {z p g cp g1 g2 g3 e1 e2 e3:Nat} {ini:List ChunkD} {tvi:List Val3} {l1 l2 l3:List (List UInt8)} (h:GR w z p g cp ini tvi [(g1,e1,l1),(g2,e2,l2),(g3,e3,l3)]) (hz:z≤p) (n1:l1≠[]) (n2:l2≠[]) (n3:l3≠[]):CkL w z (some ⟨g,0,none⟩) cp (ini++[⟨0,l1,l2,l3⟩]):=by
 have r1:=h.rows (g1,e1,l1) (by simp);have r2:=h.rows (g2,e2,l2) (by simp);have r3:=h.rows (g3,e3,l3) (by simp);have ha:=h.apart;simp only [List.map_cons,List.map_nil,List.nodup_cons,List.mem_cons,List.not_mem_nil,or_false,not_or,not_false_eq_true,List.nodup_nil,and_true] at ha
 refine .inr ⟨ini,tvi,_,(rv (g1,e1,l1),rv (g2,e2,l2),rv (g3,e3,l3)),p,rfl,h.len,h.own,hz,h.hi,h.old,⟨SRow.of_own r1 (Nat.le_refl _),SRow.of_own r2 (Nat.le_refl _),SRow.of_own r3 (Nat.le_refl _)⟩,fun _=>⟨n1,n2,n3,fun e=>?_,fun e=>?_,fun e=>?_⟩⟩
 · exact ha.1.1 (Option.some.inj e)
 · exact ha.1.2 (Option.some.inj e)
 · exact ha.2 (Option.some.inj e)
theorem GR.drew {w:World} {z p g cp:Nat} {ini:List ChunkD} {tvi:List Val3} {rs:List Row3} (h:GR w z p g cp ini tvi rs):GR w.drew z p g cp ini tvi rs:=h.keep (Below.refl _ _).drew
end
section
open Go.RowKit
theorem zdK:Elem Tryz.prog 251 255 4 80:=by
 refine ⟨Tryz.underlying251,?_,by decide⟩;obtain ⟨i,hi,h1,h2,h3⟩:=info_parts (show (Tryz.prog.info? 255).map (fun i=>(i.zero,i.size,i.bytes))=some (some (.agg #[.int .i64 0,.slice none 0 0,.slice none 0 0,.slice none 0 0]),4,80) by kernel_rfl);exact ⟨i,_,hi,h1,h2,h3,rfl⟩
theorem zbQ:(Tryz.prog.info? 255).map (·.size)=some 4:=by kernel_rfl
theorem zg8 (w:World):(zeroValue 255).run Tryz.prog w = .ok (.agg #[.int .i64 0,.slice none 0 0,.slice none 0 0,.slice none 0 0]) w:=by kernel_rfl
def ckC (k:Nat) (B1 B2 B3:Option Addr) (n1 n2 n3 d1 d2 d3:Nat):Array Value:=#[.int .i64 (k:Int),.slice B1 n1 d1,.slice B2 n2 d2,.slice B3 n3 d3]
theorem zbP (k:Nat) (B1 B2 B3:Option Addr) (n1 n2 n3 d1 d2 d3:Nat):∀v∈(ckC k B1 B2 B3 n1 n2 n3 d1 d2 d3).toList,v.oneCell'=true:=by
 intro v hv;simp only [ckC,List.mem_cons,List.not_mem_nil,or_false] at hv;rcases hv with rfl|rfl|rfl|rfl <;> rfl
theorem zeY {w:World} {g k n1 n2 n3 d1 d2 d3:Nat} {B1 B2 B3:Option Addr} (h:Blk w g 255 (ckC k B1 B2 B3 n1 n2 n3 d1 d2 d3)):(Instr.loadAt 255 (.pointer (some ⟨g,0,none⟩))).run Tryz.prog w = .ok (.agg (ckC k B1 B2 B3 n1 n2 n3 d1 d2 d3)) w :=
 zcd (P:=Tryz.prog) h 0 (ckC k B1 B2 B3 n1 n2 n3 d1 d2 d3) Tryz.underlying255 rfl zbQ (by simp [ckC])
theorem CkL.push {w:World} {z p:Nat} {A:Option Addr} {cp:Nat} {l:List ChunkD} {tv:List Val3} {x:ChunkD} {v:Val3} (hlen:tv.length=l.length) (ho:Own w z 255 4 A (l.length+1) cp (ckLs l tv++ckV x v)) (h1:z≤p) (h2:p≤w.heap.size) (hold:∀(k:Nat) y u,l[k]? = some y→tv[k]? = some u→zbd w z p y u) (hlast:zbd w p w.heap.size x v) (hap:x.kind=0→x.b≠[]∧x.o≠[]∧x.t≠[]∧v.1.ownBlock≠v.2.1.ownBlock∧v.1.ownBlock≠v.2.2.ownBlock∧v.2.1.ownBlock≠v.2.2.ownBlock):CkL w z A cp (l++[x]) :=
 .inr ⟨l,tv,x,v,p,rfl,hlen,ho,h1,h2,hold,hlast,hap⟩
theorem znL {b o t:List (List UInt8)} (h:zV b o t=0):b=o∧b=t:=by
 unfold zV at h
 split at h
 · assumption
 · split at h
   · cases h
   · split at h
     · cases h
     · split at h <;> cases h
theorem zgH {w1 w2:World} {lo1:Nat} {e:TypeId} {size n m c d:Nat} {A C:Option Addr} {xs ys:List Value} (h1:Own w1 lo1 e size A n c xs) (h2:Own w2 w1.heap.size e size C m d ys) (hn:0<n):(Value.slice A n c).ownBlock≠(Value.slice C m d).ownBlock:=by
 obtain ⟨g,rfl,hg⟩:=h1.adrn hn;have hlt:=(h1.blockAt g rfl).2.1;intro e;have:=(h2.blockAt g e.symm).1;omega
theorem zd1 {b o t:List (List UInt8)} (h:¬b.length+o.length+t.length=0):addC [] b o t=[]++[⟨zV b o t,b,o,t⟩]:=by
 unfold addC;rw [if_neg h];rfl
theorem zeo {ini:List ChunkD} {x:ChunkD} {b o t:List (List UInt8)} (h:¬b.length+o.length+t.length=0) (hk:zV b o t≠0∨x.kind≠0):addC (ini++[x]) b o t=ini++[x]++[⟨zV b o t,b,o,t⟩]:=by
 unfold addC;rw [if_neg h];simp only [List.getLast?_append,List.getLast?_singleton,Option.some_or]
 rw [if_neg (by omega)]
theorem zec {ini:List ChunkD} {x:ChunkD} {b o t:List (List UInt8)} (h:¬b.length+o.length+t.length=0) (hk:zV b o t=0) (hx:x.kind=0):addC (ini++[x]) b o t=ini++[⟨0,x.b++b,x.o++o,x.t++t⟩]:=by
 unfold addC;rw [if_neg h];simp only [List.getLast?_append,List.getLast?_singleton,Option.some_or]
 rw [if_pos ⟨hk,hx⟩];simp
def zcE (l:List ChunkD) (b o t:List (List UInt8)) (z:Nat) (w:World) (r:Ending) (w':World):Prop:=∃A' cp',r = .returned (.slice A' (addC l b o t).length cp')∧CkL w' z A' cp' (addC l b o t)∧Below z w w'
theorem zfN (l:List ChunkD) (b o t:List (List UInt8)) (A A1 A2 A3:Option Addr) (cp c1 c2 c3 z:Nat) (w:World) (hz:z≤w.heap.size) (hl:CkL w z A cp l) (h1:ze w z 1 A1 b.length (strL b)) (h2:ze w z 1 A2 o.length (strL o)) (h3:ze w z 1 A3 t.length (strL t)) (hb:b.length≤10000) (ho:o.length≤10000) (ht:t.length≤10000) (hll:l.length≤100000) (hls:∀x∈l,x.b.length≤100000∧x.o.length≤100000∧x.t.length≤100000) :Calls Tryz.prog 240 #[.slice A l.length cp,.slice A1 b.length c1,.slice A2 o.length c2,.slice A3 t.length c3] w (zcE l b o t z w):=by
 have HP:=zz (show zcE l b o t z w=fun r w'=>∃A' cp',r = .returned (.slice A' (addC l b o t).length cp')∧CkL w' z A' cp' (addC l b o t)∧Below z w w' from rfl);rw [HP.out];clear HP;have HK:=zz (zqT b o t A1 A2 A3 c1 c2 c3 z w h1 h2 h3 (by omega) (by omega) (by omega));have HC1:=zz (fun W (k:Below w.heap.size w W)=>zfR b A1 c1 z W (h1.below (k.mono hz)) (by omega));have HC2:=zz (fun W (k:Below w.heap.size w W)=>zfR o A2 c2 z W (h2.below (k.mono hz)) (by omega));have HC3:=zz (fun W (k:Below w.heap.size w W)=>zfR t A3 c3 z W (h3.below (k.mono hz)) (by omega));have HLS:=zz hls;have HL:=zz hl;clear h1 h2 h3 hls hl;by_cases h0:b.length+o.length+t.length=0
 · have hadd:addC l b o t=l:=by unfold addC;rw [if_pos h0]
   rw [hadd];have e0:(((b.length:Int)+(o.length:Int)+(t.length:Int))==0)=true:=beq_iff_eq.2 (by omega);go_enter Tryz.func240,Tryz.ntmps240
   go_wp2_with fail
   go_ret
   exact ⟨_,_,rfl,HL.out,Below.refl _ _⟩
 · have e0:(((b.length:Int)+(o.length:Int)+(t.length:Int))==0)=false:=beq_eq_false_iff_ne.2 (by omega);have HADD0:=zz (show l=[]→addC l b o t=l++[⟨zV b o t,b,o,t⟩] from fun q=>by subst q;exact zd1 h0);have HADD1:=zz (show ∀ini x,l=ini++[x]→(zV b o t≠0∨x.kind≠0)→addC l b o t=l++[⟨zV b o t,b,o,t⟩] from fun ini x q h=>by subst q;exact zeo h0 h);have HADD2:=zz (show ∀ini x,l=ini++[x]→zV b o t=0→x.kind=0→addC l b o t=ini++[⟨0,x.b++b,x.o++o,x.t++t⟩] from fun ini x q h h'=>by subst q;exact zec h0 h h');have HNE:=zz h0;clear h0;have HKZ:=zz (znL (b:=b) (o:=o) (t:=t));generalize addC l b o t=R at *;generalize zV b o t=kk at *;go_enter Tryz.func240,Tryz.ntmps240
   go_wp2_with (go_at_call 275;refine HK.out.mono ?_)
   rintro _ w0 ⟨rfl,n0,e00⟩;have k0:Below w.heap.size w w0:=by rw [e00];exact ((Keep.refl zl w).drewN n0).all
   have hz0:w0.heap.size=w.heap.size:=by rw [e00];rfl
   clear e00
   go_wp2_with (go_at_call 276;refine (HC1.out _ k0).mono ?_)
   rintro _ w1 ⟨B1,d1,rfl,o1,j1⟩;have k1:Below w.heap.size w w1:=k0.trans (j1.mono (by omega));have hz1:=j1.size
   go_wp2_with (go_at_call 276;refine (HC2.out _ k1).mono ?_)
   rintro _ w2 ⟨B2,d2,rfl,o2,j2⟩;have k2:Below w.heap.size w w2:=k1.trans (j2.mono (by omega));have hz2:=j2.size
   go_wp2_with (go_at_call 276;refine (HC3.out _ k2).mono ?_)
   rintro _ w3 ⟨B3,d3,rfl,o3,j3⟩;have k3:Below w.heap.size w w3:=k2.trans (j3.mono (by omega));have hz3:=j3.size;have HNEW:=zz (show zbd w3 w.heap.size w3.heap.size ⟨kk,b,o,t⟩ (.slice B1 b.length d1,.slice B2 o.length d2,.slice B3 t.length d3)∧(kk=0→b≠[]∧o≠[]∧t≠[]∧(Value.slice B1 b.length d1).ownBlock≠(Value.slice B2 o.length d2).ownBlock∧(Value.slice B1 b.length d1).ownBlock≠(Value.slice B3 t.length d3).ownBlock∧(Value.slice B2 o.length d2).ownBlock≠(Value.slice B3 t.length d3).ownBlock) from by
    have r1:SRow w1 w.heap.size w1.heap.size (.slice B1 b.length d1) b:=SRow.of_own (o1.mono (by omega)) (Nat.le_refl _);have r2:SRow w2 w.heap.size w2.heap.size (.slice B2 o.length d2) o:=SRow.of_own (o2.mono (by omega)) (Nat.le_refl _);have r3:SRow w3 w.heap.size w3.heap.size (.slice B3 t.length d3) t:=SRow.of_own (o3.mono (by omega)) (Nat.le_refl _);have s2:zB w1.heap.size w1 w2:=zB.ofBelow j2 (Nat.le_refl _);have s3:zB w2.heap.size w2 w3:=zB.ofBelow j3 (Nat.le_refl _);refine ⟨⟨((r1.keep s2).more hz2).keep s3 |>.more hz3,(r2.keep s3).more hz3,r3⟩,fun q=>?_⟩;obtain ⟨q1,q2⟩:=HKZ.out q;subst q1 q2;have hb0:b≠[]:=fun e=>HNE.out (by rw [e];rfl);have hp:=List.length_pos_iff.2 hb0;exact ⟨hb0,hb0,hb0,zgH o1 o2 hp,zgH o1 (o3.mono hz2) hp,zgH o2 o3 hp⟩)
   clear o1 o2 o3;have K3:=zz k3;have hz03:w.heap.size≤w3.heap.size:=by omega
   clear k0 k1 k2 k3 j1 j2 j3 HC1 HC2 HC3 HK
   rcases HL.out with ⟨hl0,hA,hcp⟩|⟨ini,tvi,x,v,p,hlx,hck⟩
   · subst hl0 hA hcp;have HR:=zz (HADD0.out rfl);clear HADD0 HADD1 HADD2 HL HLS;simp only [List.length_nil]
     go_wp2_with (first|(refine zO rfl rfl (vs:=ckC kk B1 B2 B3 b.length o.length t.length d1 d2 d3) rfl rfl (Blk.new _ _ _) rfl zbQ (zbP _ _ _ _ _ _ _ _ _ _) ?_;intro w4 hx4 hk4 hz4;have HX4:=zz hx4;have HQ4:=zz (zeY hx4);have HK4:=zz (Keep.ofNew (S:=zl) hk4);have hz4c:=HK4.out.size;have f0:=hx4.cell 0;simp [ckC] at f0;clear hx4 hk4 hz4)|(with_reducible refine zad rfl rfl rfl HQ4.out ?_)|(refine zbi rfl zdK rfl zg8 rfl rfl (by omega) rfl ?_)|(at_builtin;refine zH rfl zdK rfl rfl (n:=0) (xs:=[]) (Own.nil _ z _ _) rfl (ze.of_blk (n:=1) (size:=4) (xs:=ckV ⟨kk,b,o,t⟩ (.slice B1 b.length d1,.slice B2 o.length d2,.slice B3 t.length d3)) (heap_alloc_new _ _) rfl rfl) (zbP _ _ _ _ _ _ _ _ _ _) (by unfold maxLen;omega) (by omega) (by simp;omega) ?_;intro A5 c5 w5 o5 k5;have O5:=zz o5;have HK5:=zz (((Kept.refl _ _ _ _).alloc _).trans k5);clear o5 k5))
     go_ret
     refine ⟨A5,c5,by rw [HR.out];rfl,?_,(K3.out.trans (HK4.out.all.mono hz03)).mono hz |>.trans (HK5.out.below (Nat.le_refl _) (by omega) (by simp))⟩;rw [HR.out];have s4:zB w3.heap.size w3 w5:=(zB.ofBelow HK4.out.all (Nat.le_refl _)).trans (zB.ofKept HK5.out (by decide));have hz5:=HK5.out.size;refine CkL.push (tv:=[]) (p:=w.heap.size) rfl O5.out hz (by omega) (fun k y u e1 e2=>?_) ((HNEW.out.1.keep s4).more (by omega)) HNEW.out.2;cases e1
   · subst hlx;have hlen:(ini++[x]).length=ini.length+1:=by simp
     have hsz:=hck.own.len;obtain ⟨g,hA,hg⟩:=hck.own.adrn (by omega);subst hA;have eN:(((ini.length:Int)+1)==0)=false:=beq_eq_false_iff_ne.2 (by omega);have hw1:IntKind.i64.wrap ((ini.length:Int)+1-1)=(ini.length:Int):=by rw [IntWalk.i64_in _ (by omega)];omega
     have hw2:(ini.length:Int)<(ini.length:Int)+1:=by omega
     rw [hlen];have HCK:=zz hck;have HTV:=zz (HL.out.own);clear hck hsz;by_cases hkk:kk=0
     · by_cases hxk:x.kind=0
       · have HR:=zz (HADD2.out ini x rfl hkk hxk);subst hkk;obtain ⟨xk,xb,xo,xt⟩:=x;simp only at hxk HR;subst hxk;obtain ⟨v1,v2,v3⟩:=v;obtain ⟨x1,x2,x3⟩:=HLS.out _ (List.mem_append_right ini (List.mem_singleton.2 rfl));obtain ⟨y1,y2,y3⟩:=HCK.out.last;obtain ⟨n1,n2,n3,a1,a2,a3⟩:=HCK.out.apart rfl;obtain ⟨g1,e1,hv1,_,h1,ow1⟩:=y1.adr n1;obtain ⟨g2,e2,hv2,_,h2,ow2⟩:=y2.adr n2;obtain ⟨g3,e3,hv3,_,h3,ow3⟩:=y3.adr n3;simp only at hv1 hv2 hv3 x1 x2 x3 n1 n2 n3 a1 a2 a3 ow1 ow2 ow3;subst hv1 hv2 hv3;have HG0:=zz (show GR w z p g cp ini tvi [(g1,e1,xb),(g2,e2,xo),(g3,e3,xt)] from ⟨HCK.out.len,HCK.out.own,HCK.out.old,fun r hr=>by
          simp only [List.mem_cons,List.not_mem_nil,or_false] at hr
          rcases hr with rfl|rfl|rfl
          · exact ow1
          · exact ow2
          · exact ow3,by
          simp only [List.map_cons,List.map_nil,List.nodup_cons,List.mem_cons,List.not_mem_nil,or_false,not_or,not_false_eq_true,List.nodup_nil,and_true]
          refine ⟨⟨fun q=>a1 (by rw [q];rfl),fun q=>a2 (by rw [q];rfl)⟩,fun q=>a3 (by rw [q];rfl)⟩,HCK.out.hi⟩)
         have HG3:=zz (HG0.out.keep K3.out);have m1:=List.length_pos_iff.2 n1;have m2:=List.length_pos_iff.2 n2;have m3:=List.length_pos_iff.2 n3;have HLT:=zz (show ∀r∈[(g1,e1,xb),(g2,e2,xo),(g3,e3,xt)],r.1<w.heap.size from fun r hr=>by
          simp only [List.mem_cons,List.not_mem_nil,or_false] at hr
          rcases hr with rfl|rfl|rfl
          · exact h1
          · exact h2
          · exact h3)
         have HZP:=zz HCK.out.lo;have HAP:=zz HCK.out.hi;clear a1 a2 a3 ow1 ow2 ow3 y1 y2 y3 h1 h2 h3 n1 n2 n3;have HCX:=zz (show ∀W,Keep zl w3 W→W.cell? ⟨g,ini.length*4,none⟩=some (.int .i64 0) from fun W k=>by
          have h1:w.cell? ⟨g,ini.length*4,none⟩=some (.int .i64 0):=by
           have hc:=HG0.out.own.reads.at0 (by omega) (by omega);obtain ⟨g',off,e,_,hc⟩:=hc;injection e with e;injection e with e1 e2;subst e1 e2;have:=hc (ini.length*4) (.int .i64 0) (by rw [List.getElem?_append_right (by rw [zcN HG0.out.len];exact Nat.le_refl _),zcN HG0.out.len,Nat.sub_self];rfl)
           rwa [Nat.zero_add] at this
          have hlt:g<w.heap.size:=(HG0.out.own.blockAt g rfl).2.1;rw [(k.cell (p:=⟨g,ini.length*4,none⟩) (by simp only;omega) (fun h=>h)),K3.out.cell (p:=⟨g,ini.length*4,none⟩) hlt];exact h1)
         go_wp2_with (first|(refine zO rfl rfl (vs:=ckC 0 B1 B2 B3 b.length o.length t.length d1 d2 d3) rfl rfl (Blk.new _ _ _) rfl zbQ (zbP _ _ _ _ _ _ _ _ _ _) ?_;intro w4 hx4 hk4 hz4;have HX4:=zz hx4;have HQ4:=zz (zeY hx4);have HK4:=zz (Keep.ofNew (S:=zl) hk4);have hz4c:=HK4.out.size;have f0:=hx4.cell 0;have f1:=hx4.cell 1;have f2:=hx4.cell 2;have f3:=hx4.cell 3;simp [ckC] at f0 f1 f2 f3;have HG4:=zz (HG3.out.keep HK4.out.all);have gc0:=HCX.out _ HK4.out;have gc1:=HG4.out.cell (j:=0) rfl;unfold rv at gc1;simp only [Nat.reduceAdd] at gc1;clear hx4 hk4 hz4))
         have HZ4:=zz (show w.heap.size≤w4.heap.size∧w3.heap.size<w4.heap.size∧p≤w4.heap.size from ⟨by omega,by simpa using HX4.out.lt,by have:=HAP.out;omega⟩);have HSR4:=zz (show SRow w4 w.heap.size w4.heap.size (.slice B1 b.length d1) b∧SRow w4 w.heap.size w4.heap.size (.slice B2 o.length d2) o∧SRow w4 w.heap.size w4.heap.size (.slice B3 t.length d3) t from by
          have s4:zB w3.heap.size w3 w4:=zB.ofBelow HK4.out.all (Nat.le_refl _);have:=(HNEW.out.1.keep s4).more (hi':=w4.heap.size) (by omega);exact ⟨this.1,this.2.1,this.2.2⟩)
         have HB4:=zz (show Below z w w4 from (K3.out.trans (HK4.out.all.mono hz03)).mono hz);have hsm1:xb.length+b.length≤maxLen:=by unfold maxLen;omega
         have hsm2:(xb.length+b.length)*16≤140737488355328:=by omega
         have hsm3:xo.length+o.length≤maxLen:=by unfold maxLen;omega
         have hsm4:(xo.length+o.length)*16≤140737488355328:=by omega
         have hsm5:xt.length+t.length≤maxLen:=by unfold maxLen;omega
         have hsm6:(xt.length+t.length)*16≤140737488355328:=by omega
         have HLT1:=zz (show g1<w.heap.size∧g2<w.heap.size∧g3<w.heap.size from ⟨HLT.out (g1,e1,xb) (by simp),HLT.out (g2,e2,xo) (by simp),HLT.out (g3,e3,xt) (by simp)⟩);have HGQ:=zz (show g<w.heap.size from (HG0.out.own.blockAt g rfl).2.1);have hq1:Hid (ze w4 w4.heap.size 1 B1 b.length (strL b)):=zz (by obtain ⟨A,c,e,h,_⟩:=HSR4.out.1.reads;injection e with e1 e2 e3;subst e1;exact h);have hown1:=zz (show Own w4 p 9 1 (some ⟨g1,0,none⟩) xb.length e1 (strL xb) from HG4.out.rows (g1,e1,xb) (by simp));clear hz1 hz2 hz3 hz4c HK4 HG3 HG0 HCX HNEW hw1 hw2 eN HTV HL HADD0 HADD1 HADD2 HCK HLS HLT
         go_region_law (first|(refine zgA (by rfl) zbG (by rfl) (by rfl) (n:=xb.length) (xs:=strL xb) (by exact hown1.out) (by rfl) hq1.out (zb5 b) m1 hsm1 hsm2 HZ4.out.2.2 ?_;intro gn0 cn0 wn0 o5 gr lo;obtain ⟨y1,y2,y3,y4,y5,y6⟩:=HG4.out.step HZP.out (j:=0) rfl o5 ⟨gr.os,gr.tape,gr.output,gr.size,gr.block⟩ lo;unfold rv at y1;simp only [Nat.reduceAdd,List.set_cons_zero] at y1 y2 y3 y4 y5 y6;clear gr lo o5))
         all_goals
          have HZN:=zz (show w4.heap.size≤(wn0.setCell ⟨g,ini.length*4+1,none⟩ (.slice (some ⟨gn0,0,none⟩) (xb.length+b.length) cn0)).heap.size∧p≤(wn0.setCell ⟨g,ini.length*4+1,none⟩ (.slice (some ⟨gn0,0,none⟩) (xb.length+b.length) cn0)).heap.size from ⟨y4.out.size,Nat.le_trans HZ4.out.2.2 y4.out.size⟩);have HBA0:=zz (HB4.out.trans y4.out);have HXA0:=zz (y6.out _ _ _ HX4.out (by have:=HLT1.out;omega) (by have:=HGQ.out;omega));have HSRA0:=zz (show SRow (wn0.setCell ⟨g,ini.length*4+1,none⟩ (.slice (some ⟨gn0,0,none⟩) (xb.length+b.length) cn0)) w.heap.size (wn0.setCell ⟨g,ini.length*4+1,none⟩ (.slice (some ⟨gn0,0,none⟩) (xb.length+b.length) cn0)).heap.size (.slice B2 o.length d2) o∧SRow (wn0.setCell ⟨g,ini.length*4+1,none⟩ (.slice (some ⟨gn0,0,none⟩) (xb.length+b.length) cn0)) w.heap.size (wn0.setCell ⟨g,ini.length*4+1,none⟩ (.slice (some ⟨gn0,0,none⟩) (xb.length+b.length) cn0)).heap.size (.slice B3 t.length d3) t from ⟨(y5.out _ _ _ HSR4.out.2.1 HLT1.out.1).more HZN.out.1,(y5.out _ _ _ HSR4.out.2.2 HLT1.out.1).more HZN.out.1⟩);have HGA0:=zz y3.out;clear y1 y2 y3 y4 y5 y6;clear hq1 hown1 gc0 gc1 f0 f1 f2 f3 HSR4;generalize (wn0.setCell ⟨g,ini.length*4+1,none⟩ (.slice (some ⟨gn0,0,none⟩) (xb.length+b.length) cn0))=wA0 at *;have HZA0:=zz HZN.out.2;clear HZN;have hq2:Hid (ze wA0 wA0.heap.size 1 B2 o.length (strL o)):=zz (by obtain ⟨A,c,e,h,_⟩:=HSRA0.out.1.reads;injection e with e1 e2 e3;subst e1;exact h);have hown2:=zz (show Own wA0 p 9 1 (some ⟨g2,0,none⟩) xo.length e2 (strL xo) from HGA0.out.rows (g2,e2,xo) (by simp));have gc2:=HGA0.out.cell (j:=1) rfl;unfold rv at gc2;simp only [Nat.reduceAdd] at gc2;have f2:=HXA0.out.cell 2;simp [ckC] at f2
          go_wp2_with fail
          go_region_law (first|(refine zgA (by rfl) zbG (by rfl) (by rfl) (n:=xo.length) (xs:=strL xo) (by exact hown2.out) (by rfl) hq2.out (zb5 o) m2 hsm3 hsm4 HZA0.out ?_;intro gn1 cn1 wn1 o5 gr lo;obtain ⟨y1,y2,y3,y4,y5,y6⟩:=HGA0.out.step HZP.out (j:=1) rfl o5 ⟨gr.os,gr.tape,gr.output,gr.size,gr.block⟩ lo;unfold rv at y1;simp only [Nat.reduceAdd,List.set_cons_zero,List.set_cons_succ] at y1 y2 y3 y4 y5 y6;clear gr lo o5))
          all_goals
           have HZN:=zz (show wA0.heap.size≤(wn1.setCell ⟨g,ini.length*4+2,none⟩ (.slice (some ⟨gn1,0,none⟩) (xo.length+o.length) cn1)).heap.size∧p≤(wn1.setCell ⟨g,ini.length*4+2,none⟩ (.slice (some ⟨gn1,0,none⟩) (xo.length+o.length) cn1)).heap.size from ⟨y4.out.size,Nat.le_trans HZA0.out y4.out.size⟩);have HBA1:=zz (HBA0.out.trans y4.out);have HXA1:=zz (y6.out _ _ _ HXA0.out (by have:=HLT1.out;omega) (by have:=HGQ.out;omega));have HSRA1:=zz (show SRow (wn1.setCell ⟨g,ini.length*4+2,none⟩ (.slice (some ⟨gn1,0,none⟩) (xo.length+o.length) cn1)) w.heap.size (wn1.setCell ⟨g,ini.length*4+2,none⟩ (.slice (some ⟨gn1,0,none⟩) (xo.length+o.length) cn1)).heap.size (.slice B3 t.length d3) t from (y5.out _ _ _ HSRA0.out.2 HLT1.out.2.1).more HZN.out.1);have HGA1:=zz y3.out;clear y1 y2 y3 y4 y5 y6;clear hq2 hown2 gc2 f2;generalize (wn1.setCell ⟨g,ini.length*4+2,none⟩ (.slice (some ⟨gn1,0,none⟩) (xo.length+o.length) cn1))=wA1 at *;have HZA1:=zz HZN.out.2;clear HZN;have hq3:Hid (ze wA1 wA1.heap.size 1 B3 t.length (strL t)):=zz (by obtain ⟨A,c,e,h,_⟩:=HSRA1.out.reads;injection e with e1 e2 e3;subst e1;exact h);have hown3:=zz (show Own wA1 p 9 1 (some ⟨g3,0,none⟩) xt.length e3 (strL xt) from HGA1.out.rows (g3,e3,xt) (by simp));have gc3:=HGA1.out.cell (j:=2) rfl;unfold rv at gc3;simp only [Nat.reduceAdd] at gc3;have f3:=HXA1.out.cell 3;simp [ckC] at f3
           go_wp2_with fail
           go_region_law (first|(refine zgA (by rfl) zbG (by rfl) (by rfl) (n:=xt.length) (xs:=strL xt) (by exact hown3.out) (by rfl) hq3.out (zb5 t) m3 hsm5 hsm6 HZA1.out ?_;intro gn2 cn2 wn2 o5 gr lo;obtain ⟨y1,y2,y3,y4,y5,y6⟩:=HGA1.out.step HZP.out (j:=2) rfl o5 ⟨gr.os,gr.tape,gr.output,gr.size,gr.block⟩ lo;unfold rv at y1;simp only [Nat.reduceAdd,List.set_cons_zero,List.set_cons_succ] at y1 y2 y3 y4 y5 y6;clear gr lo o5))
           all_goals
            have HZN:=zz (show wA1.heap.size≤(wn2.setCell ⟨g,ini.length*4+3,none⟩ (.slice (some ⟨gn2,0,none⟩) (xt.length+t.length) cn2)).heap.size∧p≤(wn2.setCell ⟨g,ini.length*4+3,none⟩ (.slice (some ⟨gn2,0,none⟩) (xt.length+t.length) cn2)).heap.size from ⟨y4.out.size,Nat.le_trans HZA1.out y4.out.size⟩);have HBA2:=zz (HBA1.out.trans y4.out);have HGA2:=zz y3.out;clear y1 y2 y3 y4 y5 y6;generalize (wn2.setCell ⟨g,ini.length*4+3,none⟩ (.slice (some ⟨gn2,0,none⟩) (xt.length+t.length) cn2))=wA2 at *
            go_wp2_with fail
            go_ret
            have hne:∀{l m:List (List UInt8)},0<l.length→l++m≠[]:=fun h e=>by rw [List.append_eq_nil_iff] at e;rw [e.1] at h;exact absurd h (by decide)
            refine ⟨some ⟨g,0,none⟩,cp,by rw [HR.out];simp,?_,?_⟩
            · rw [HR.out]
              first|exact HGA2.out.close HZP.out (hne m1) (hne m2) (hne m3)|exact HGA2.out.drew.close HZP.out (hne m1) (hne m2) (hne m3)
            · first|exact HBA2.out|exact HBA2.out.drew
       · have HR:=zz (HADD1.out ini x rfl (.inr hxk));have eX:((x.kind:Int)==0)=false:=beq_eq_false_iff_ne.2 (by omega);subst hkk;have HCX:=zz (show ∀W,Keep zl w3 W→W.cell? ⟨g,ini.length*4,none⟩=some (.int .i64 (x.kind:Int)) from fun W k=>by
          have h1:w.cell? ⟨g,ini.length*4,none⟩=some (.int .i64 (x.kind:Int)):=by
           have hc:=HCK.out.own.reads.at0 (by omega) (by omega);obtain ⟨g',off,e,_,hc⟩:=hc;injection e with e;injection e with e1 e2;subst e1 e2;have:=hc (ini.length*4) (.int .i64 (x.kind:Int)) (by rw [List.getElem?_append_right (by rw [zcN HCK.out.len];exact Nat.le_refl _),zcN HCK.out.len,Nat.sub_self];rfl)
           rwa [Nat.zero_add] at this
          have hlt:g<w.heap.size:=(HCK.out.own.blockAt g rfl).2.1;rw [(k.cell (p:=⟨g,ini.length*4,none⟩) (by simp only;omega) (fun h=>h)),K3.out.cell (p:=⟨g,ini.length*4,none⟩) hlt];exact h1)
         obtain ⟨tv,htv,hown,hrows⟩:=HTV.out;rw [hlen] at hown htv;have HO3:=zz (hown.kept (b':=0) (E:=[]) (G:=[]) (Kept.ofBelow K3.out) (by simp) (by simp));have HROWS:=zz hrows;clear hown hrows
         go_wp2_with (first|(refine zO rfl rfl (vs:=ckC 0 B1 B2 B3 b.length o.length t.length d1 d2 d3) rfl rfl (Blk.new _ _ _) rfl zbQ (zbP _ _ _ _ _ _ _ _ _ _) ?_;intro w4 hx4 hk4 hz4;have HX4:=zz hx4;have HQ4:=zz (zeY hx4);have HK4:=zz (Keep.ofNew (S:=zl) hk4);have hz4c:=HK4.out.size;have f0:=hx4.cell 0;simp [ckC] at f0;have g0:=HCX.out _ HK4.out;clear hx4 hk4 hz4)|(with_reducible refine zad rfl rfl rfl HQ4.out ?_)|(refine zbi rfl zdK rfl zg8 rfl rfl (by omega) rfl ?_)|(at_builtin;refine zH rfl zdK rfl rfl (n:=ini.length+1) (xs:=ckLs (ini++[x]) tv) ((HO3.out.kept (b':=0) (E:=[]) (G:=[]) (Kept.ofKeep HK4.out (fun _ _ h=>absurd h (fun h=>h))) (by simp) (by simp)).alloc _) rfl (ze.of_blk (n:=1) (size:=4) (xs:=ckV ⟨0,b,o,t⟩ (.slice B1 b.length d1,.slice B2 o.length d2,.slice B3 t.length d3)) (heap_alloc_new _ _) rfl rfl) (zbP _ _ _ _ _ _ _ _ _ _) (by unfold maxLen;omega) (by omega) (by simp;omega) ?_;intro A5 c5 w5 o5 k5;have O5:=zz o5;have HK5:=zz (((Kept.refl _ _ _ _).alloc _).trans k5);clear o5 k5))
         go_ret
         refine ⟨A5,c5,by rw [HR.out];simp,?_,(K3.out.trans (HK4.out.all.mono hz03)).mono hz |>.trans (HK5.out.below (Nat.le_refl _) (by omega) (by simp))⟩;rw [HR.out];have s4:zB w3.heap.size w3 w5:=(zB.ofBelow HK4.out.all (Nat.le_refl _)).trans (zB.ofKept HK5.out (by decide));have hz5:=HK5.out.size;refine CkL.push (tv:=tv) (p:=w.heap.size) (by rw [htv,hlen]) (by rw [hlen];exact O5.out) hz (by omega) (fun k y u e1 e2=>?_) ((HNEW.out.1.keep s4).more (by omega)) (fun _=>HNEW.out.2 trivial);exact (HROWS.out k y u e1 e2).keep ((zB.ofBelow (K3.out) (Nat.le_refl _)).trans (s4.mono (by omega)))
     · have HR:=zz (HADD1.out ini x rfl (.inl hkk));have eK:((kk:Int)==0)=false:=beq_eq_false_iff_ne.2 (by omega);obtain ⟨tv,htv,hown,hrows⟩:=HTV.out;rw [hlen] at hown htv;have HO3:=zz (hown.kept (b':=0) (E:=[]) (G:=[]) (Kept.ofBelow K3.out) (by simp) (by simp));have HROWS:=zz hrows;clear hown hrows
       go_wp2_with (first|(refine zO rfl rfl (vs:=ckC kk B1 B2 B3 b.length o.length t.length d1 d2 d3) rfl rfl (Blk.new _ _ _) rfl zbQ (zbP _ _ _ _ _ _ _ _ _ _) ?_;intro w4 hx4 hk4 hz4;have HX4:=zz hx4;have HQ4:=zz (zeY hx4);have HK4:=zz (Keep.ofNew (S:=zl) hk4);have hz4c:=HK4.out.size;have f0:=hx4.cell 0;simp [ckC] at f0;clear hx4 hk4 hz4)|(with_reducible refine zad rfl rfl rfl HQ4.out ?_)|(refine zbi rfl zdK rfl zg8 rfl rfl (by omega) rfl ?_)|(at_builtin;refine zH rfl zdK rfl rfl (n:=ini.length+1) (xs:=ckLs (ini++[x]) tv) ((HO3.out.kept (b':=0) (E:=[]) (G:=[]) (Kept.ofKeep HK4.out (fun _ _ h=>absurd h (fun h=>h))) (by simp) (by simp)).alloc _) rfl (ze.of_blk (n:=1) (size:=4) (xs:=ckV ⟨kk,b,o,t⟩ (.slice B1 b.length d1,.slice B2 o.length d2,.slice B3 t.length d3)) (heap_alloc_new _ _) rfl rfl) (zbP _ _ _ _ _ _ _ _ _ _) (by unfold maxLen;omega) (by omega) (by simp;omega) ?_;intro A5 c5 w5 o5 k5;have O5:=zz o5;have HK5:=zz (((Kept.refl _ _ _ _).alloc _).trans k5);clear o5 k5))
       go_ret
       refine ⟨A5,c5,by rw [HR.out];simp,?_,(K3.out.trans (HK4.out.all.mono hz03)).mono hz |>.trans (HK5.out.below (Nat.le_refl _) (by omega) (by simp))⟩;rw [HR.out];have s4:zB w3.heap.size w3 w5:=(zB.ofBelow HK4.out.all (Nat.le_refl _)).trans (zB.ofKept HK5.out (by decide));have hz5:=HK5.out.size;refine CkL.push (tv:=tv) (p:=w.heap.size) (by rw [htv,hlen]) (by rw [hlen];exact O5.out) hz (by omega) (fun k y u e1 e2=>?_) ((HNEW.out.1.keep s4).more (by omega)) HNEW.out.2;exact (HROWS.out k y u e1 e2).keep ((zB.ofBelow (K3.out) (Nat.le_refl _)).trans (s4.mono (by omega)))
end
end Go.Proofs.YtmkmbbjgepcioaaGreatDoor
