/- Contract of law 18's sameIds at equal rows. No statement of the seat is proved here. -/
import Derived.Test.YtmkmbbjgepcioaaGreatDoorSAHq
import Derived.Test.YtmkmbbjgepcioaaGreatDoorSA42
import Derived.Test.YtmkmbbjgepcioaaGreatDoorSA46
namespace Go.Proofs.YtmkmbbjgepcioaaGreatDoor
set_option maxHeartbeats 4000000
set_option maxRecDepth 100000
section
open Go.RowKit
structure WrkI (R:Rw) (rs:List (Option Addr×Nat)) (T:List (List FileD)) (ts:List (Option Addr×Nat)) (AP AT:Option Addr) (cP cT N s g B left:Nat) (q:Int) (w:World):Prop where
 src:Blk w s 67 #[.slice AP N cP,.int .i64 q,.slice AT N cT]
 wrk:Blk w g 78 (wrkC s left)
 rows:RwI w B AP R rs
 trees:TrI w w.heap.size AT T ts
 var:VarM w
 err:ErrT w
def SG (s g:Nat):Nat→Prop:=fun k=>k=s∨k=g
def zee (o:zbj) (e:Ending) (w':World):Prop:=match o.1 with
 | .error n=>n≠0∧e = .returned (.tuple #[.slice none 0 0,.slice none 0 0,errV n])
 | .ok u=>∃A c A' c',e = .returned (.tuple #[.slice A u.1.length c,.slice A' u.2.length c',.nilIface])∧ze w' w'.heap.size 32 A u.1.length ((u.1.map idN).flatMap idL)∧FI w' w'.heap.size A' u.2
theorem zfO {w:World} {s:Nat} {a c:Value} {q:Int} (h:Blk w s 67 #[a,.int .i64 q,c]) (ha:∃A n m,a = .slice A n m) (hc:∃A n m,c = .slice A n m):zaM w s:=zaM.of h (by
 obtain ⟨A,n,m,rfl⟩:=ha;obtain ⟨A',n',m',rfl⟩:=hc;intro v hv;simp at hv
 rcases hv with rfl|rfl|rfl
 · exact ⟨fun s e=>(by cases e),fun n e=>(by cases e)⟩
 · exact ⟨fun s e=>(by cases e),fun n e=>(by cases e)⟩
 · exact ⟨fun s e=>(by cases e),fun n e=>(by cases e)⟩)
theorem zka {w w':World} {AT:Option Addr} {T:List (List FileD)} {ts:List (Option Addr×Nat)} {S:Nat→Prop} (h:TrI w w.heap.size AT T ts) (hk:Keep S w w') (hno:∀k,S k→zaM w k) (hc:∀k i A n c,S k→w.cell? ⟨k,i,none⟩=some (.slice A n c)→w'.cell? ⟨k,i,none⟩=some (.slice A n c)):TrI w' w'.heap.size AT T ts:=by
 refine TrI.more (B:=w.heap.size) ⟨h.len,⟨h.row.1,fun hn=>?_⟩,fun i t r h1 h2=>(h.each i t r h1 h2).far (Nat.le_refl _) hk hno⟩ hk.size;obtain ⟨g,o,e,hg,hcl⟩:=h.row.at0 hn (by omega);refine ⟨_,e,hg,fun j u hj=>?_⟩;have h1:=hcl j u hj;rw [zJ];obtain ⟨x,_,hx⟩:=List.mem_map.1 (List.mem_of_getElem? hj);unfold slT at hx;subst hx;by_cases hS:S g
 · exact hc _ _ _ _ _ hS h1
 · exact (hk.cell (p:=⟨g,o+j,none⟩) hg hS).trans h1
theorem zi8 {w w':World} {s k i m d:Nat} {a c:Value} {q q':Int} {A:Option Addr} (h:Blk w s 67 #[a,.int .i64 q,c]) (h':Blk w' s 67 #[a,.int .i64 q',c]) (hk:k=s) (hc:w.cell? ⟨k,i,none⟩=some (.slice A m d)):w'.cell? ⟨k,i,none⟩=some (.slice A m d):=by
 subst hk;rw [h.cell] at hc;rw [h'.cell]
 match i with
 | 0=>exact hc
 | 1=>cases hc
 | 2=>exact hc
 | i+3=>cases hc
theorem ztw {w w':World} {g k i m d s left:Nat} {A:Option Addr} (h:Blk w g 78 (wrkC s left)) (hk:k=g) (hc:w.cell? ⟨k,i,none⟩=some (.slice A m d)):w'.cell? ⟨k,i,none⟩=some (.slice A m d):=by
 subst hk;rw [h.cell] at hc
 match i with
 | 0=>cases hc
 | 1=>cases hc
 | i+2=>cases hc
section
variable {R:Rw} {rs:List (Option Addr×Nat)} {T:List (List FileD)} {ts:List (Option Addr×Nat)} {AP AT:Option Addr} {cP cT N s g B left left':Nat} {q q':Int} {w w':World}
theorem WrkI.no (h:WrkI R rs T ts AP AT cP cT N s g B left q w):∀k,SG s g k→zaM w k:=fun k hk=>by
 rcases hk with rfl|rfl
 · exact zfO h.src ⟨_,_,_,rfl⟩ ⟨_,_,_,rfl⟩
 · exact zhV h.wrk
theorem WrkI.below (h:WrkI R rs T ts AP AT cP cT N s g B left q w) (hb:Below w.heap.size w w') (hB:B≤s):WrkI R rs T ts AP AT cP cT N s g B left q w':=by
 have hs:=h.src.lt;refine ⟨h.src.below hb hs,h.wrk.below hb h.wrk.lt,h.rows.below (hb.mono (by omega)),(h.trees.below hb).more hb.size,h.var.below hb h.var.pos,?_⟩;have:=h.err;unfold ErrT at this ⊢;exact (hb.cell (p:=⟨0,0,none⟩) (World.block_lt_of_cell? w _ this)).trans this
theorem WrkI.step {S:Nat→Prop} (h:WrkI R rs T ts AP AT cP cT N s g B left q w) (hk:Keep S w w') (hS:∀k,S k→SG s g k) (h2:2≤B) (hBs:B≤s) (hBg:B≤g) (hs:Blk w' s 67 #[.slice AP N cP,.int .i64 q',.slice AT N cT]) (hg:Blk w' g 78 (wrkC s left')):WrkI R rs T ts AP AT cP cT N s g B left' q' w':=by
 have hb:Below B w w':=hk.below (by have:=h.src.lt;omega) (fun i hi q=>by
  rcases hS i q with rfl|rfl <;> omega)
 refine ⟨hs,hg,h.rows.below hb,zka h.trees hk (fun k q=>h.no k (hS k q)) (fun k i A n c q hc=>(hS k q).elim (fun e=>zi8 h.src hs e hc) (fun e=>ztw h.wrk e hc)),h.var.below hb (by omega),?_⟩;have:=h.err;unfold ErrT at this ⊢;exact (hb.cell (p:=⟨0,0,none⟩) (by show 0<B;omega)).trans this
end
theorem zdU {w w':World} {B n:Nat} {A:Option Addr} {ls:List Nat} {S:Nat→Prop} (h:ze w B 32 A n ((ls.map idN).flatMap idL)) (hB:B≤w.heap.size) (hk:Keep S w w') (hS:∀k,S k→zaM w k):ze w' B 32 A n ((ls.map idN).flatMap idL):=by
 cases ls with
 | nil=>exact ⟨h.1,fun hn=>by have:=h.1;simp at this;omega⟩
 | cons x ls=>exact h.far hB hk (by omega) (v:=bv (UInt8.ofNat (x*37))) (fun _=>rfl) (fun k i q=>(hS k q i).2 _)
theorem zsJ (T:Nat→List FileD) (t:List FileD) (c:Nat) (u:List FileD) (k:Nat):(zcM T t c u k).2≤k:=by
 unfold zcM
 split
 · omega
 · split
   · simp only;omega
   · simp only;omega
theorem zpn {T:Nat→List FileD} {t:List FileD} {c:Nat} (o:zbj):(zcT T t c o).2≤o.2:=by
 obtain ⟨o1,o2⟩:=o
 cases o1 with
 | error e=>exact Nat.le_refl _
 | ok u=>exact zsJ T t c u.2 o2
theorem zj4 {rec:Nat→Nat→Nat→zbj} {T:Nat→List FileD} {x:Nat} (hr:∀k c,(rec k x c).2≤k):∀(r:List Nat) (s:zb2),(r.foldl (zcD rec T x) s).2≤s.2
 | [],s=>Nat.le_refl _
 | c::r,s=>by
  rw [List.foldl_cons];refine Nat.le_trans (zj4 hr r _) ?_;obtain ⟨s1,s2⟩:=s
  cases s1 with
  | error e=>exact Nat.le_refl _
  | ok t=>exact Nat.le_trans (zpn _) (hr _ _)
theorem zrZ (l:List Nat) (s:zb2):(zcc l s).2=s.2:=by
 obtain ⟨s1,s2⟩:=s;cases s1 <;> rfl
theorem ziQ {L:Nat→Nat→List Nat} {T:Nat→List FileD}:∀F k a b,(zL L T F k a b).2≤k
 | 0,k,_,_=>Nat.le_refl _
 | F+1,k,a,b=>by
  unfold zL
  cases h:L a b with
  | nil=>exact Nat.le_refl _
  | cons x r =>
   simp only
   rw [zrZ];exact zj4 (fun k c=>ziQ F k x c) r _
theorem zhs {rec:Nat→Nat→Nat→zbj} {T:Nat→List FileD} {x n k:Nat}:∀(r:List Nat),r.foldl (zcD rec T x) (.error n,k)=(.error n,k)
 | []=>rfl
 | c::r=>by
  rw [List.foldl_cons];exact zhs r
theorem ztP (T:Nat→List FileD) (t:List FileD) (c:Nat) (u:List FileD) (k:Nat):zcM T t c u k=match (if k=0 then .error 4 else zG u t (T c)) with
    | .error e=>(.error e,k-1)
    | .ok y=>(.ok y.1,k-1):=by
 unfold zcM;by_cases h:k=0
 · subst h;rfl
 · rw [if_neg h,if_neg h];cases zG u t (T c) <;> rfl
theorem ziq {α β:Type} {f:β→α→β} {r:List α} {i:Nat} {c:α} (h:r[i]? = some c) (b:β):r.foldl f b=(r.drop (i+1)).foldl f (f ((r.take i).foldl f b) c):=by
 have hl:=(List.getElem?_eq_some_iff.1 h).1;have e:r=r.take i++c::r.drop (i+1):=by
  rw [←(List.getElem?_eq_some_iff.1 h).2,←List.drop_eq_getElem_cons hl,List.take_append_drop]
 conv=>lhs;rw [e]
 rw [List.foldl_append,List.foldl_cons]
theorem zpJ {α β:Type} {f:β→α→β} {r:List α} {i:Nat} {c:α} (h:r[i]? = some c) (b:β):(r.take (i+1)).foldl f b=f ((r.take i).foldl f b) c:=by
 rw [List.take_add_one,h,List.foldl_append];rfl
def zdL (R:Rw) (rs:List (Option Addr×Nat)) (T:List (List FileD)) (ts:List (Option Addr×Nat)) (AP AT:Option Addr) (cP cT N s g B:Nat) (o:zbj) (w:World) (e:Ending) (w':World):Prop:=∃q',zee o e w'∧WrkI R rs T ts AP AT cP cT N s g B o.2 q' w'∧Keep (SG s g) w w'
attribute [local go_sem ↓] zbM
theorem zi3 (R:Rw) (hw:WfR R) (rs:List (Option Addr×Nat)) (T:List (List FileD)) (ts:List (Option Addr×Nat)) (AP AT:Option Addr) (cP cT N s g B:Nat) (hN:R.length=N) (hTN:T.length=N) (hN2:N≤16) (hp4:∀x,(par R x).length≤4) (h2B:2≤B) (hBs:B≤s) (hBg:B≤g) (hgs:g≠s) (L:Nat→Nat→List Nat) (hL:∀a b,a<N→b<N→BaseL R a b (L a b)) (Tf:Nat→List FileD) (hTf:∀n,n<N→T[n]? = some (Tf n)) (hfine:∀n,zag (Tf n)) :∀(F a b left:Nat) (q:Int) (w:World),a<N→b<N→a+b<F→left≤100→WrkI R rs T ts AP AT cP cT N s g B left q w→Calls Tryz.prog 24 #[.pointer (some ⟨g,0,none⟩),idV (idN a),idV (idN b)] w (zdL R rs T ts AP AT cP cT N s g B (zL L Tf F left a b) w)
 | 0,a,b,left,q,w,_,_,h,_,_=>absurd h (by omega)
 | F+1,a,b,left,q,w,ha,hb,hF,hleft,hwk=>by
  have IH:=zz (zi3 R hw rs T ts AP AT cP cT N s g B hN hTN hN2 hp4 h2B hBs hBg hgs L hL Tf hTf hfine F);obtain ⟨P,hP⟩:∃P,zdL R rs T ts AP AT cP cT N s g B (zL L Tf (F+1) left a b) w=P:=⟨_,rfl⟩;rw [hP];have HP:=zz hP;clear hP;obtain ⟨z,hz⟩:∃z,w.heap.size=z:=⟨_,rfl⟩;have hsw:s<z:=by have:=hwk.src.lt;omega
  have hgw:g<z:=by have:=hwk.wrk.lt;omega
  have h0:Below z w ((w.alloc (.cells (idC (idN a)) 33)).alloc (.cells (idC (idN b)) 33)):=((Below.refl z w).alloc (by omega) _).alloc (by simp;omega) _;have hA:=(Blk.new w 33 (idC (idN a))).alloc (.cells (idC (idN b)) 33);have hBb:=Blk.new (w.alloc (.cells (idC (idN a)) 33)) 33 (idC (idN b));rw [show (w.alloc (.cells (idC (idN a)) 33)).heap.size=z+1 from by rw [←hz];simp] at hBb;rw [hz] at hA;have HA0:=zz hA;have HB0:=zz hBb;have HW0:=zz (hwk.below (by rw [hz];exact h0) hBs);have HK0:=zz (show Keep (SG s g) w ((w.alloc (.cells (idC (idN a)) 33)).alloc (.cells (idC (idN b)) 33)) from Below.keep_ (by rw [hz];exact h0) _);have hz0:((w.alloc (.cells (idC (idN a)) 33)).alloc (.cells (idC (idN b)) 33)).heap.size=z+2:=by rw [←hz];simp
  clear hA hBb h0 hwk;go_enter Tryz.func24,Tryz.ntmps24
  go_upto_region 1 with (first|(refine zC rfl rfl (cs:=idC (idN a)) rfl ?_)|(refine zC rfl rfl (cs:=idC (idN b)) rfl ?_))
  generalize (w.alloc (.cells (idC (idN a)) 33)).alloc (.cells (idC (idN b)) 33)=w0 at *;have d1:=LdId.blk HA0.out;have d2:=LdId.blk HB0.out;have HBA:=zz (zrN R hw rs AP cP (.slice AT N cT) q a b N s g B hN hN2 ha hb hp4 w0 hBs ((HW0.out.wrk.cell 0).trans rfl) hgs HW0.out.src HW0.out.rows);go_upto_region 2 with (go_at_call 36;(with_reducible refine HBA.out.mono ?_);rintro _ w2 ⟨A,c,q2,ls,rfl,hbl,ho2,hk2,hs2⟩;have HBL:=zz hbl;have HO2:=zz ho2;have HK2:=zz hk2;have HS2:=zz hs2;clear hbl ho2 hk2 hs2)
  have hLe:L a b=ls:=(hL a b ha hb).unique HBL.out;have HW2:=zz (HW0.out.step HK2.out (fun k hk => .inl hk) h2B hBs hBg HS2.out (HW0.out.wrk.keep HK2.out hgs));have HKW2:=zz (HK0.out.trans (Keep.mono HK2.out (fun i _ h => .inl h)));have hz2:z+2≤w2.heap.size:=by have:=HK2.out.size;omega
  clear HBA HA0 HB0 HW0 HK0 HS2 HK2 d1 d2
  cases ls with
  | nil =>
   have HO:=zz (show zL L Tf (F+1) left a b=(.ok ([],[]),left) from by unfold zL;rw [hLe]);clear hLe
   go_wp2_with fail
   go_ret3
   rw [←HP.out];unfold zdL;rw [HO.out]
   exact ⟨q2,⟨none,0,none,0,rfl,ze.none_,FI.nil_ _ _ _⟩,HW2.out,HKW2.out⟩
  | cons x r =>
   have HO:=zz (show zL L Tf (F+1) left a b=zcc (x::r) (r.foldl (zcD (zL L Tf F) Tf x) (.ok (Tf x),left)) from by unfold zL;rw [hLe]);clear hLe;obtain ⟨n,hn⟩:∃n,r.length=n:=⟨_,rfl⟩;have hne:((n:Int)+1==0)=false:=beq_eq_false_iff_ne.2 (by omega);have hxN:x<N:=by
    have:=((HBL.out.low x).1 List.mem_cons_self).le hw;omega
   have HRN:=zz (show ∀c∈r,c<N∧x+c<F from fun c hc=>by
    have h1:=((HBL.out.low c).1 (List.mem_cons_of_mem _ hc)).le hw;have h2:=HBL.out.less hw hc;omega)
   have hn16:n≤16:=by
    have:=zc5 N (x::r) HBL.out.nd (fun y hy=>by have:=((HBL.out.low y).1 hy).le hw;omega);simp at this;omega
   have ho:=HO2.out;rw [List.length_cons,hn] at ho;have hcap:=ho.cap_le;have hrd:=ho.reads;obtain ⟨gA,oA,hAe,hgA,hcA⟩:=hrd.at0 (by omega) (by omega);have hAb:=ho.blockAt;subst hAe;have hoA:oA=0:=by
    rcases ho.2 with ⟨h,_⟩|⟨g',cap,cur,h,_⟩
    · cases h
    · injection h with h _ _;injection h with h;injection h
   subst hoA;have hgA2:z+2≤gA:=by
    have:=(hAb gA (by simp [Value.ownBlock])).1;omega
   have HLR:=zz hrd;have hcx:∀j v,(idL (idN x))[j]? = some v→w2.cell? ⟨gA,0+j,none⟩=some v:=fun j v hj=>hcA j v (by
    rw [List.map_cons,List.flatMap_cons,List.getElem?_append_left (List.getElem?_eq_some_iff.1 hj).1];exact hj)
   have HLX:=zz (show ∀W,(∀j,W.cell? ⟨gA,j,none⟩=w2.cell? ⟨gA,j,none⟩)→(LdId (.pointer (some ⟨gA,0,none⟩))).run Tryz.prog W = .ok (idV (idN x)) W from fun W hW=>zaE W _ (idC (idN x)) Tryz.underlying33 rfl (by rw [zy];exact zaN) (fun j v hj=>by
    rw [zJ,hW];exact hcx j v (by simpa [idC] using hj)))
   have d3:=HLX.out w2.drew (fun j=>rfl);have e3:=HW2.out.wrk.drew.cell 0;simp [wrkC] at e3;have hmt:=zfo s w2.drew;have HTR:=zz (ze5 T ts AT AP cT cP N q2 x s w2.heap.size hTN (by omega) (Tf x) (hTf x hxN) (by have:=(hfine x).2;omega) (fun f hf=>by have:=(hfine x).1.data f hf;omega) w2.drew (Nat.le_refl _) HW2.out.src.drew (HW2.out.trees.below ((Below.refl w2.heap.size w2).drew)));clear ho hrd hAb hcA hcx HO2;have hlen:(x::r).length=n+1:=by rw [List.length_cons,hn]
   rw [hlen];go_upto_region 4 with fail
   go_cut [10,11] (fun s10 s11 wx=>∃A3 c3,s10 = .nilIface∧s11 = .slice A3 (Tf x).length c3∧Hid (FI wx wx.heap.size A3 (Tf x))∧Hid (Below w2.heap.size w2 wx))
   case first =>
    go_region_law (first|(go_simp;go_at_call 315;(with_reducible refine HTR.out.mono ?_);rintro _ w3 ⟨A3,c3,rfl,hf3,hb3⟩;have HF3:=zz hf3;have HB3:=zz ((Below.refl w2.heap.size w2).drew.trans hb3);clear hf3 hb3))
    all_goals
     go_wp2_with fail
     go_meet
     exact ⟨A3,c3,rfl,rfl,HF3,HB3⟩
   case rest =>
    obtain ⟨A3,c3,rfl,rfl,HF3,HB3⟩:=hcut;clear d3 e3 hmt HTR;generalize wc=w3 at *;obtain ⟨hc1,hc2⟩:=hcap;unfold maxLen at hc2;go_upto_region 7 with fail
    go_cut [51,52,53] (fun s51 s52 s53 wx=>∃A7 c7,s51 = .slice A7 n c7∧s52 = .int .i64 n∧s53 = .int .i64 0∧w3=wx∧(0<n→A7=some ⟨gA,32,none⟩))
    case first =>
     rcases Nat.lt_or_ge 1 c with h1|h1
     · obtain ⟨c',rfl⟩:∃c',c=c'+2:=⟨c-2,by omega⟩
       go_wp2_with fail
       go_meet
       exact ⟨_,_,rfl,rfl,rfl,rfl,fun _=>rfl⟩
     · obtain rfl:c=1:=by omega
       obtain rfl:n=0:=by omega
       go_wp2_with fail
       go_meet
       exact ⟨_,_,rfl,rfl,rfl,rfl,fun h=>by omega⟩
    case rest =>
     obtain ⟨A7,c7,rfl,rfl,rfl,rfl,hA7⟩:=hcut;have hz23:=HB3.out.size;have HW3:=zz (HW2.out.below HB3.out hBs);have HKW3:=zz (HKW2.out.thenBelow HB3.out (by have:=HKW2.out.size;omega));have HLR3:=zz (HLR.out.below HB3.out);have HC3:=zz ((hfine x).check);have HFO:=zz (zdp (L:=L) (fun n=>(hfine n).check) F);have HLE:=zz (show r.length=n from hn);clear hlen hn HW2 HKW2 HLR HLX HB3 HBL hne
     go_wp2_with fail
     go_loopg [11,53] n (fun kx s11 s53 wq=>∃(i:Nat) (t:List FileD) (k:Nat) (qi:Int) (A8:Option Addr) (c8:Nat),s53 = .int .i64 i∧s11 = .slice A8 t.length c8∧i≤n∧n-i≤kx∧Hid ((r.take i).foldl (zcD (zL L Tf F) Tf x) (.ok (Tf x),left)=(.ok t,k))∧k≤100∧Hid (zg t=0)∧Hid (FI wq wq.heap.size A8 t)∧Hid (WrkI R rs T ts AP AT cP cT N s g B k qi wq)∧Hid (Keep (SG s g) w wq)∧Hid (ze wq w2.heap.size 32 (some ⟨gA,0,none⟩) (n+1) (((x::r).map idN).flatMap idL))∧w2.heap.size≤wq.heap.size)
     case atStart=>exact ⟨0,Tf x,left,q2,A3,c3,rfl,rfl,Nat.zero_le _,Nat.le_refl _,zz rfl,hleft,HC3,HF3,HW3,HKW3,HLR3,hz23⟩
     case round =>
      clear HF3 HW3 HKW3 HLR3 HC3 hz23;obtain ⟨i,t,k,qi,A8,c8,rfl,rfl,hin,hkx,HFD,hk100,HCT,HFT,HW,HKW,HLR,hzq⟩:=hrel;by_cases hlt:i<n
      · obtain ⟨c9,hc9⟩:∃c9,r[i]? = some c9:=⟨_,List.getElem?_eq_getElem (by rw [HLE.out];exact hlt)⟩;obtain ⟨hcN,hcF⟩:=HRN.out c9 (List.mem_of_getElem? hc9);have hA7':=hA7 (by omega);subst hA7';have hltz:(i:Int)<(n:Int):=by omega
        obtain ⟨gq,oq,eq,_,hcq⟩:=HLR.out.at0 (by omega) (by omega);injection eq with eq;injection eq with eq1 eq2;subst eq1 eq2;have hcx:∀j v,(idL (idN c9))[j]? = some v→wr.cell? ⟨gA,32+i*32+j,none⟩=some v:=fun j v hj=>by
         have:=hcq ((i+1)*32+j) v (zaV za2 ((x::r).map idN) (i+1) j (idN c9) (by rw [List.getElem?_map,List.getElem?_cons_succ,hc9];rfl) v hj);rw [←this]
         congr 2
         omega
        have hcl:∀j v,(idL (idN x))[j]? = some v→wr.cell? ⟨gA,j,none⟩=some v:=fun j v hj=>by
         have:=hcq (0*32+j) v (zaV za2 ((x::r).map idN) 0 j (idN x) rfl v hj);simpa using this
        have hld:(LdId (.pointer (some ⟨gA,32+i*32,none⟩))).run Tryz.prog wr = .ok (idV (idN c9)) wr:=zaE wr _ (idC (idN c9)) Tryz.underlying33 rfl (by rw [zy];exact zaN) (fun j v hj=>by
         rw [zJ];exact hcx j v (by simpa [idC] using hj))
        have HCL:=zz hcl;clear hcq hcx hcl;go_upto_region 10 with (first|(refine zcr rfl rfl (zbF _) ?_)|(refine zO rfl rfl (vs:=idC (idN c9)) rfl rfl (Blk.new _ _ _) (by rw [zy,zy]) (by rw [zy];exact zaN) (zbq _) ?_;intro w5 hb5 hk5 hs5))
        have b5:Below wr.heap.size wr w5:=((Below.refl _ wr).alloc (Nat.le_refl _) _).trans (hk5.below (by simp) (by unfold Only;intro i hi h;omega));have HQ5:=zz hb5;have HW5:=zz (HW.out.below b5 hBs);have HKW5:=zz (HKW.out.thenBelow b5 HKW.out.size);have HFT5:=zz ((HFT.out.below b5).more b5.size);have HLR5:=zz (HLR.out.below (b5.mono hzq));have hz5:w2.heap.size≤w5.heap.size:=Nat.le_trans hzq b5.size
        have d5:(LdId (.pointer (some ⟨gA,0,none⟩))).run Tryz.prog w5.drew = .ok (idV (idN x)) w5.drew:=zaE w5.drew _ (idC (idN x)) Tryz.underlying33 rfl (by rw [zy];exact zaN) (fun j v hj=>by
         rw [zJ,Nat.zero_add];exact (b5.cell (p:=⟨gA,j,none⟩) (by show gA<wr.heap.size;omega)).trans (HCL.out j v (by simpa [idC] using hj)))
        have e5:=LdId.blk HQ5.out.drew;have HOF:=zz (IH.out x c9 k qi w5.drew hxN hcN hcF hk100 (HW5.out.below ((Below.refl _ w5).drew) hBs));have hbx:wr.heap.size<w5.heap.size:=hb5.lt;have HBX:=zz (show ¬SG s g wr.heap.size from by
         have h1:=HW.out.src.lt;have h2:=HW.out.wrk.lt;rintro (h|h) <;> omega)
        clear hb5 hk5 hs5 b5 HW HKW HFT HLR HCL hld;simp only [Act.put,List.setIfInBounds_toArray,List.set]
        obtain ⟨⟨o1,o2⟩,hov⟩:∃o,zL L Tf F k x c9=o:=⟨_,rfl⟩;have HOV:=zz hov;rw [hov] at HOF;have hok:=HFO.out k x c9;rw [hov] at hok;have ho2:o2≤k:=by have:=ziQ (L:=L) (T:=Tf) F k x c9;rw [hov] at this;exact this
        cases o1 with
        | error e1 =>
         have HOF2:=zz (show Calls Tryz.prog 24 #[.pointer (some ⟨g,0,none⟩),idV (idN x),idV (idN c9)] w5.drew fun e w'=>∃q',(e1≠0∧e = .returned (.tuple #[.slice none 0 0,.slice none 0 0,errV e1]))∧WrkI R rs T ts AP AT cP cT N s g B o2 q' w'∧Keep (SG s g) w5.drew w' from HOF.out);have hne:=hok.2 e1 rfl;rw [zbO hne] at HOF2;clear HOF hok hov;go_cut [16] (fun s16 wx=>s16 = .iface 94 (.int .i64 (e1:Nat))∧∃q5,Hid (WrkI R rs T ts AP AT cP cT N s g B o2 q5 wx)∧Hid (Keep (SG s g) w5 wx))
         case first =>
          go_region_law (first|(go_simp;go_at_call 24;(with_reducible refine HOF2.out.mono ?_);rintro _ w6 ⟨q6,⟨_,rfl⟩,hw6,hk6⟩;have HW6:=zz hw6;have HK6:=zz (Keep.ofDrewN (n:=1) hk6);clear hw6 hk6))
          all_goals
           go_wp2_with fail
           go_meet
           exact ⟨rfl,q6,HW6,HK6⟩
         case rest =>
          obtain ⟨rfl,q5,HW6,HK6⟩:=hcut;have HE:=zz (show zL L Tf (F+1) left a b=(.error e1,o2) from by
           rw [HO.out,ziq hc9,HFD.out];show zcc (x::r) (List.foldl _ (zcT Tf t c9 (zL L Tf F k x c9)) _)=_;rw [HOV.out];show zcc (x::r) (List.foldl _ (.error e1,o2) _)=_;rw [zhs];rfl)
          clear d5 e5 HOF2;generalize wc=w6 at *
          go_wp2_with fail
          go_ret3
          rw [←HP.out];unfold zdL;rw [HE.out]
          exact ⟨q5,⟨hne,by rw [zbO hne];rfl⟩,HW6.out,HKW5.out.trans HK6.out⟩
        | ok u =>
         have HOF2:=zz (show Calls Tryz.prog 24 #[.pointer (some ⟨g,0,none⟩),idV (idN x),idV (idN c9)] w5.drew fun e w'=>∃q',(∃A c A' c',e = .returned (.tuple #[.slice A u.1.length c,.slice A' u.2.length c',.nilIface])∧ze w' w'.heap.size 32 A u.1.length ((u.1.map idN).flatMap idL)∧FI w' w'.heap.size A' u.2)∧WrkI R rs T ts AP AT cP cT N s g B o2 q' w'∧Keep (SG s g) w5.drew w' from HOF.out);have HUC:=zz (hok.1 u rfl);clear HOF hok hov;go_cut [15,16] (fun s15 s16 wx=>s16 = .nilIface∧∃A6 c6 q6,s15 = .slice A6 u.2.length c6∧Hid (FI wx wx.heap.size A6 u.2)∧Hid (WrkI R rs T ts AP AT cP cT N s g B o2 q6 wx)∧Hid (Keep (SG s g) w5 wx))
         case first =>
          go_region_law (first|(go_simp;go_at_call 24;(with_reducible refine HOF2.out.mono ?_);rintro _ w6 ⟨q6,⟨A9,c9',A6,c6,rfl,_,hf6⟩,hw6,hk6⟩;have HF6:=zz hf6;have HW6:=zz hw6;have HK6:=zz (Keep.ofDrewN (n:=1) hk6);clear hw6 hk6 hf6))
          all_goals
           go_wp2_with fail
           go_meet
           exact ⟨rfl,A6,c6,q6,rfl,HF6,HW6,HK6⟩
         case rest =>
          obtain ⟨rfl,A6,c6,q6,rfl,HFU,HW6,HK6⟩:=hcut;clear d5 e5 HOF2;generalize wc=w6 at *;have HQ6:=zz (HQ5.out.keep HK6.out HBX.out);have HFT6:=zz ((HFT5.out.far (Nat.le_refl _) HK6.out HW5.out.no).more HK6.out.size);have HLR6:=zz (zdU HLR5.out hz5 HK6.out HW5.out.no);have HKW6:=zz (HKW5.out.trans HK6.out);have hz6:w2.heap.size≤w6.heap.size:=Nat.le_trans hz5 HK6.out.size;have d6:=LdId.blk HQ6.out.drew;have e6:=HW6.out.wrk.drew.cell 0;simp [wrkC] at e6;have hmt:=zfo s w6.drew;have HTR:=zz (ze5 T ts AT AP cT cP N q6 c9 s w6.heap.size hTN (by omega) (Tf c9) (hTf c9 hcN) (by have:=(hfine c9).2;omega) (fun f hf=>by have:=(hfine c9).1.data f hf;omega) w6.drew (Nat.le_refl _) HW6.out.src.drew (HW6.out.trees.below ((Below.refl w6.heap.size w6).drew)));clear HFT5 HLR5 HKW5 HQ5 HK6 HW5;go_upto_region 13 with fail
          go_cut [16,17] (fun s16 s17 wx=>s16 = .nilIface∧∃A7 c7,s17 = .slice A7 (Tf c9).length c7∧Hid (FI wx wx.heap.size A7 (Tf c9))∧Hid (Below w6.heap.size w6 wx))
          case first =>
           go_region_law (first|(go_simp;go_at_call 315;(with_reducible refine HTR.out.mono ?_);rintro _ w7 ⟨A7,c7,rfl,hf7,hb7⟩;have HF7:=zz hf7;have HB7:=zz ((Below.refl w6.heap.size w6).drew.trans hb7);clear hf7 hb7))
           all_goals
            go_wp2_with fail
            go_meet
            exact ⟨rfl,A7,c7,rfl,HF7,HB7⟩
          case rest =>
           obtain ⟨rfl,A7,c7,rfl,HF7,HB7⟩:=hcut;clear d6 e6 hmt HTR HQ6;generalize wc=w7 at *;have HW7:=zz (HW6.out.below HB7.out hBs);have HFT7:=zz ((HFT6.out.below HB7.out).more HB7.out.size);have HFU7:=zz ((HFU.out.below HB7.out).more HB7.out.size);have HKW7:=zz (HKW6.out.thenBelow HB7.out HKW6.out.size);have HLR7:=zz (HLR6.out.below (HB7.out.mono hz6));have hz7:w2.heap.size≤w7.heap.size:=Nat.le_trans hz6 HB7.out.size;have HWM:=zz (ziO u.2 t (Tf c9) A6 A8 A7 c6 c8 c7 s o2 g w7 HW7.out.wrk (by omega) HFU7.out HFT7.out HF7.out HW7.out.var HW7.out.err (zdh HUC.out) (zdh HCT.out) (zdh (hfine c9).check) (by omega));have HNX:=zz (show zcT Tf t c9 (zL L Tf F k x c9)=zcM Tf t c9 u.2 o2 from by rw [HOV.out];rfl);have hme:=ztP Tf t c9 u.2 o2;obtain ⟨m,hm⟩:∃m,(if o2=0 then (Except.error 4:Except Nat (List FileD×List ClashD)) else zG u.2 t (Tf c9))=m:=⟨_,rfl⟩;rw [hm] at hme;have HMM:=zz hm;unfold zev at HWM;rw [hm] at HWM;clear HFT6 HFU HKW6 HLR6 HB7 HW6 hm;go_upto_region 16 with fail
           cases m with
           | error e2 =>
            have HWE:=zz (show Calls Tryz.prog 26 #[.pointer (some ⟨g,0,none⟩),.slice A6 u.2.length c6,.slice A8 t.length c8,.slice A7 (Tf c9).length c7] w7 fun e w'=>Keep (Only g) w7 w'∧Blk w' g 78 (wrkC s (o2-1))∧e2≠0∧∃A c A' c',e = .returned (.tuple #[.slice A 0 c,.slice A' 0 c',.iface 94 (.int .i64 (e2:Nat))]) from by
             refine HWM.out.mono ?_;rintro e w' ⟨h1,h2,⟨n,h3,h4,A,c,A',c',rfl⟩|⟨x,v,A,c,A',c',h3,_⟩⟩
             · injection h3 with h3;subst h3;rw [zbO h4];exact ⟨h1,h2,h4,A,c,A',c',rfl⟩
             · cases h3)
            have HE:=zz (show zL L Tf (F+1) left a b=(.error e2,o2-1) from by
             rw [HO.out,ziq hc9,HFD.out];show zcc (x::r) (List.foldl _ (zcT Tf t c9 (zL L Tf F k x c9)) _)=_;rw [HNX.out,hme];show zcc (x::r) (List.foldl _ (.error e2,o2-1) _)=_;rw [zhs];rfl)
            clear HWM hme
            go_wp2_with (go_at_call 26;(with_reducible refine HWE.out.mono ?_);rintro _ w8 ⟨hk8,hg8,hne8,A,c',A',c'',rfl⟩;have HK8:=zz hk8;have HG8:=zz hg8;have HN8:=zz hne8;clear hk8 hg8 hne8)
            go_ret3
            rw [←HP.out];unfold zdL;rw [HE.out]
            exact ⟨q6,⟨HN8.out,by rw [zbO HN8.out];rfl⟩,HW7.out.step HK8.out (fun k hk => .inr hk) h2B hBs hBg (HW7.out.src.keep HK8.out (fun h=>hgs h.symm)) HG8.out,HKW7.out.trans (Keep.mono HK8.out (fun i _ h => .inr h))⟩
           | ok y =>
            have HWE:=zz (show Calls Tryz.prog 26 #[.pointer (some ⟨g,0,none⟩),.slice A6 u.2.length c6,.slice A8 t.length c8,.slice A7 (Tf c9).length c7] w7 fun e w'=>Keep (Only g) w7 w'∧Blk w' g 78 (wrkC s (o2-1))∧∃A c A' c',e = .returned (.tuple #[.slice A y.1.length c,.slice A' y.2.length c',.nilIface])∧FI w' w'.heap.size A y.1 from by
             refine HWM.out.mono ?_;rintro e w' ⟨h1,h2,⟨n,h3,_⟩|⟨x,v,A,c,A',c',h3,rfl,h5,_⟩⟩
             · cases h3
             · injection h3 with h3;subst h3;exact ⟨h1,h2,A,c,A',c',rfl,h5⟩)
            have HFD9:=zz (show (r.take (i+1)).foldl (zcD (zL L Tf F) Tf x) (.ok (Tf x),left)=(.ok y.1,o2-1) from by
             rw [zpJ hc9,HFD.out];show zcT Tf t c9 (zL L Tf F k x c9)=_;rw [HNX.out,hme])
            have HCY:=zz (show zg y.1=0 from by
             have h:=HMM.out
             split at h
             · cases h
             · obtain ⟨y1,y2⟩:=y;exact (zhS h).1)
            clear HWM hme
            go_wp2_with (go_at_call 26;(with_reducible refine HWE.out.mono ?_);rintro _ w8 ⟨hk8,hg8,A9,c',A',c'',rfl,hf8⟩;have HK8:=zz hk8;have HG8:=zz hg8;have HF8:=zz hf8;clear hk8 hg8 hf8)
            have hSG:∀j,Only g j→SG s g j:=fun j hj => .inr hj;have HW8:=zz (HW7.out.step HK8.out hSG h2B hBs hBg (HW7.out.src.keep HK8.out (fun h=>hgs h.symm)) HG8.out);have HKW8:=zz (HKW7.out.trans (Keep.mono HK8.out (fun i _ h => .inr h)));have HLR8:=zz (zdU HLR7.out hz7 HK8.out (fun j hj=>HW7.out.no j (hSG j hj)));have hz8:w2.heap.size≤w8.heap.size:=Nat.le_trans hz7 HK8.out.size;clear HWE HK8 HG8 HFT7 HFU7 HF7 HKW7 HLR7 HW7 HMM HNX
            go_roundg (n-(i+1))
            case measure=>omega
            case rel=>exact ⟨i+1,y.1,o2-1,q6,A9,c',by go_num,rfl,by omega,Nat.le_refl _,HFD9,by omega,HCY,HF8,HW8,HKW8,HLR8,hz8⟩
      · obtain rfl:i=n:=by omega
        have HE:=zz (show zL L Tf (F+1) left a b=(.ok (x::r,t),k) from by
         rw [HO.out];have:=HFD.out;rw [List.take_of_length_le (by rw [HLE.out];exact Nat.le_refl _)] at this;rw [this];rfl)
        go_wp2_with fail
        go_ret3
        rw [←HP.out];unfold zdL;rw [HE.out];have hll:(x::r).length=i+1:=by rw [List.length_cons,HLE.out]
        exact ⟨qi,⟨some ⟨gA,0,none⟩,c,A8,c8,by rw [hll];rfl,by rw [hll];exact HLR.out.more hzq,HFT.out⟩,HW.out,HKW.out⟩
end
section
open Go.RowKit
structure SrcI (R:Rw) (rs:List (Option Addr×Nat)) (T:List (List FileD)) (ts:List (Option Addr×Nat)) (AP AT:Option Addr) (cP cT N s B:Nat) (q:Int) (w:World):Prop where
 src:Blk w s 67 #[.slice AP N cP,.int .i64 q,.slice AT N cT]
 rows:RwI w B AP R rs
 trees:TrI w w.heap.size AT T ts
 var:VarM w
 err:ErrT w
section
variable {R:Rw} {rs:List (Option Addr×Nat)} {T:List (List FileD)} {ts:List (Option Addr×Nat)} {AP AT:Option Addr} {cP cT N s g B left:Nat} {q q':Int} {w w':World}
theorem SrcI.below (h:SrcI R rs T ts AP AT cP cT N s B q w) (hb:Below w.heap.size w w') (hB:B≤s):SrcI R rs T ts AP AT cP cT N s B q w':=by
 have hs:=h.src.lt;refine ⟨h.src.below hb hs,h.rows.below (hb.mono (by omega)),(h.trees.below hb).more hb.size,h.var.below hb h.var.pos,?_⟩;have:=h.err;unfold ErrT at this ⊢;exact (hb.cell (p:=⟨0,0,none⟩) (World.block_lt_of_cell? w _ this)).trans this
theorem SrcI.step (h:SrcI R rs T ts AP AT cP cT N s B q w) (hk:Keep (Only s) w w') (h2:2≤B) (hBs:B≤s) (hs:Blk w' s 67 #[.slice AP N cP,.int .i64 q',.slice AT N cT]):SrcI R rs T ts AP AT cP cT N s B q' w':=by
 have hb:Below B w w':=hk.below (by have:=h.src.lt;omega) (fun i hi q=>by unfold Only at q;omega);refine ⟨hs,h.rows.below hb,zka h.trees hk (fun k e=>by
  unfold Only at e;subst e;exact zfO h.src ⟨_,_,_,rfl⟩ ⟨_,_,_,rfl⟩) (fun k i A n c e hc=>zi8 h.src hs e hc),h.var.below hb (by omega),?_⟩
 have:=h.err;unfold ErrT at this ⊢;exact (hb.cell (p:=⟨0,0,none⟩) (by show 0<B;omega)).trans this
theorem SrcI.wrk (h:SrcI R rs T ts AP AT cP cT N s B q w) (hg:Blk w g 78 (wrkC s left)):WrkI R rs T ts AP AT cP cT N s g B left q w:=⟨h.src,hg,h.rows,h.trees,h.var,h.err⟩
theorem WrkI.bare (h:WrkI R rs T ts AP AT cP cT N s g B left q w):SrcI R rs T ts AP AT cP cT N s B q w:=⟨h.src,h.rows,h.trees,h.var,h.err⟩
theorem SrcI.no (h:SrcI R rs T ts AP AT cP cT N s B q w):∀k,Only s k→zaM w k:=fun k hk=>by
 unfold Only at hk;subst hk;exact zfO h.src ⟨_,_,_,rfl⟩ ⟨_,_,_,rfl⟩
end
def zeB (R:Rw) (rs:List (Option Addr×Nat)) (T:List (List FileD)) (ts:List (Option Addr×Nat)) (AP AT:Option Addr) (cP cT N s B:Nat) (o:zbj) (w:World) (e:Ending) (w':World):Prop:=∃q',zee o e w'∧SrcI R rs T ts AP AT cP cT N s B q' w'∧Keep (Only s) w w'
theorem zjQ (s:Nat) (k:Int) (W:World):(Instr.build 78 #[(0,.iface 24 (.pointer (some ⟨s,0,none⟩))),(1,.int .i64 k)]).run Tryz.prog W = .ok (.agg #[.iface 24 (.pointer (some ⟨s,0,none⟩)),.int .i64 k]) W:=by kernel_rfl
attribute [local go_sem ↓] zbM
theorem zeO (R:Rw) (hw:WfR R) (rs:List (Option Addr×Nat)) (T:List (List FileD)) (ts:List (Option Addr×Nat)) (AP AT:Option Addr) (cP cT N s B:Nat) (hN:R.length=N) (hTN:T.length=N) (hN2:N≤16) (hp4:∀x,(par R x).length≤4) (h2B:2≤B) (hBs:B≤s) (L:Nat→Nat→List Nat) (hL:∀a b,a<N→b<N→BaseL R a b (L a b)) (Tf:Nat→List FileD) (hTf:∀n,n<N→T[n]? = some (Tf n)) (hfine:∀n,zag (Tf n)) (a b:Nat) (q:Int) (w:World) (ha:a<N) (hb:b<N) (hsi:SrcI R rs T ts AP AT cP cT N s B q w):Calls Tryz.prog 11 #[.iface 24 (.pointer (some ⟨s,0,none⟩)),idV (idN a),idV (idN b)] w (zeB R rs T ts AP AT cP cT N s B (zL L Tf 40 100 a b) w):=by
 obtain ⟨P,hP⟩:∃P,zeB R rs T ts AP AT cP cT N s B (zL L Tf 40 100 a b) w=P:=⟨_,rfl⟩;rw [hP];have HP:=zz hP;clear hP;obtain ⟨z,hz⟩:∃z,w.heap.size=z:=⟨_,rfl⟩;have hsw:s<z:=by have:=hsi.src.lt;omega
 have h0:Below z w (((w.alloc (.cells (idC (idN a)) 33)).alloc (.cells (idC (idN b)) 33)).alloc (.cells (wrkC s 100) 78)):=(((Below.refl z w).alloc (by omega) _).alloc (by simp;omega) _).alloc (by simp;omega) _;have hA:=((Blk.new w 33 (idC (idN a))).alloc (.cells (idC (idN b)) 33)).alloc (.cells (wrkC s 100) 78);have hBb:=(Blk.new (w.alloc (.cells (idC (idN a)) 33)) 33 (idC (idN b))).alloc (.cells (wrkC s 100) 78);have hg:=Blk.new ((w.alloc (.cells (idC (idN a)) 33)).alloc (.cells (idC (idN b)) 33)) 78 (wrkC s 100);rw [show (w.alloc (.cells (idC (idN a)) 33)).heap.size=z+1 from by rw [←hz];simp] at hBb;rw [show ((w.alloc (.cells (idC (idN a)) 33)).alloc (.cells (idC (idN b)) 33)).heap.size=z+1+1 from by rw [←hz];simp] at hg;rw [hz] at hA;have HA0:=zz hA;have HB0:=zz hBb;have HW0:=zz ((hsi.below (by rw [hz];exact h0) hBs).wrk hg);have HK0:=zz (show Below w.heap.size w (((w.alloc (.cells (idC (idN a)) 33)).alloc (.cells (idC (idN b)) 33)).alloc (.cells (wrkC s 100) 78)) from by rw [hz];exact h0);have hbw:=zjQ s 100;have d1:=LdId.blk hA;have d2:=LdId.blk hBb;have hgs:z+1+1≠s:=by omega
 have hof:=zi3 R hw rs T ts AP AT cP cT N s (z+1+1) B hN hTN hN2 hp4 h2B hBs (by omega) hgs L hL Tf hTf hfine 40 a b 100 q _ ha hb (by omega) (Nat.le_refl _) HW0.out;obtain ⟨⟨o1,o2⟩,hov⟩:∃o,zL L Tf 40 100 a b=o:=⟨_,rfl⟩;rw [hov] at hof;have HOV:=zz hov;have hSG:∀i,i<w.heap.size→SG s (z+1+1) i→Only s i:=fun i hi hk=>by
  rcases hk with h|h
  · exact h
  · omega
 have hne:∀e,o1 = .error e→e≠0:=fun e h=>(zdp (L:=L) (fun n=>(hfine n).check) 40 100 a b).2 e (by rw [hov];exact h);have HOF:=zz hof;clear hA hBb h0 hg hov hof
 cases o1 with
 | error n =>
  have HOF2:=zz (show Calls Tryz.prog 24 #[.pointer (some ⟨z+1+1,0,none⟩),idV (idN a),idV (idN b)] _ (fun e w'=>∃q',(n≠0∧e = .returned (.tuple #[.slice none 0 0,.slice none 0 0,errV n]))∧WrkI R rs T ts AP AT cP cT N s (z+1+1) B o2 q' w'∧Keep (SG s (z+1+1)) _ w') from HOF.out);have hn:=hne n rfl;rw [zbO hn] at HOF2;clear HOF hne;go_enter Tryz.func11,Tryz.ntmps11
  go_upto_region 1 with (first|(refine zC rfl rfl (cs:=idC (idN a)) rfl ?_)|(refine zC rfl rfl (cs:=idC (idN b)) rfl ?_))
  go_upto_region 2 with (first|(refine zC rfl rfl (cs:=wrkC s 100) rfl ?_)|(go_at_call 24;(with_reducible refine HOF2.out.mono ?_);rintro _ w2 ⟨q2,⟨_,rfl⟩,hw2,hk2⟩;have HW2:=zz hw2;have HK2:=zz hk2;clear hw2 hk2))
  have hpl:=zit (n:Nat) w2 HW2.out.err;rw [zlo,zbO hn] at hpl;have HPL:=zz hpl;clear hpl d1 d2 hbw
  go_wp2_with (go_at_call 25;(with_reducible refine HPL.out.mono ?_);rintro _ w3 ⟨rfl,hb3⟩;have HB3:=zz hb3;clear hb3)
  go_ret3
  rw [←HP.out];unfold zeB;rw [HOV.out]
  exact ⟨q2,⟨hn,by rw [zbO hn];rfl⟩,HW2.out.bare.below HB3.out hBs,((Below.keep_ HK0.out _).then_ HK2.out hSG).thenBelow HB3.out (by have:=HK0.out.size;have:=HK2.out.size;omega)⟩
 | ok u =>
  have HOF2:=zz (show Calls Tryz.prog 24 #[.pointer (some ⟨z+1+1,0,none⟩),idV (idN a),idV (idN b)] _ (fun e w'=>∃q',(∃A c A' c',e = .returned (.tuple #[.slice A u.1.length c,.slice A' u.2.length c',.nilIface])∧ze w' w'.heap.size 32 A u.1.length ((u.1.map idN).flatMap idL)∧FI w' w'.heap.size A' u.2)∧WrkI R rs T ts AP AT cP cT N s (z+1+1) B o2 q' w'∧Keep (SG s (z+1+1)) _ w') from HOF.out);clear HOF hne;go_enter Tryz.func11,Tryz.ntmps11
  go_upto_region 1 with (first|(refine zC rfl rfl (cs:=idC (idN a)) rfl ?_)|(refine zC rfl rfl (cs:=idC (idN b)) rfl ?_))
  go_upto_region 2 with (first|(refine zC rfl rfl (cs:=wrkC s 100) rfl ?_)|(go_at_call 24;(with_reducible refine HOF2.out.mono ?_);rintro _ w2 ⟨q2,⟨A,c,A',c',rfl,hr2,hf2⟩,hw2,hk2⟩;have HW2:=zz hw2;have HK2:=zz hk2;have HF2:=zz (And.intro hr2 hf2);clear hw2 hk2 hr2 hf2))
  have HPL:=zz (zmy w2);clear d1 d2 hbw
  go_wp2_with (go_at_call 25;(with_reducible refine HPL.out.mono ?_);rintro _ w3 ⟨rfl,hb3⟩;have HB3:=zz hb3;clear hb3)
  go_ret3
  rw [←HP.out];unfold zeB;rw [HOV.out];exact ⟨q2,⟨A,c,A',c',rfl,(HF2.out.1.below HB3.out).more HB3.out.size,(HF2.out.2.below HB3.out).more HB3.out.size⟩,HW2.out.bare.below HB3.out hBs,((Below.keep_ HK0.out _).then_ HK2.out hSG).thenBelow HB3.out (by have:=HK0.out.size;have:=HK2.out.size;omega)⟩
def zcg (r:Except Nat (List FileD×List ClashD)) (e:Ending) (w':World):Prop:=match r with
 | .error n=>n≠0∧∃A c A' c',e = .returned (.tuple #[.slice A 0 c,.slice A' 0 c',errV n])
 | .ok y=>∃A c A' c',e = .returned (.tuple #[.slice A y.1.length c,.slice A' y.2.length c',.nilIface])∧FI w' w'.heap.size A y.1∧ze w' w'.heap.size 2 A' y.2.length (y.2.flatMap zN)∧y.2.length≤9223372036854775807
def zlC (R:Rw) (rs:List (Option Addr×Nat)) (T:List (List FileD)) (ts:List (Option Addr×Nat)) (AP AT:Option Addr) (cP cT N s B:Nat) (r:Except Nat (List FileD×List ClashD)) (w:World) (e:Ending) (w':World):Prop:=∃q',zcg r e w'∧SrcI R rs T ts AP AT cP cT N s B q' w'∧Keep (Only s) w w'
attribute [local go_sem ↓] zbM
theorem zhi (R:Rw) (hw:WfR R) (rs:List (Option Addr×Nat)) (T:List (List FileD)) (ts:List (Option Addr×Nat)) (AP AT:Option Addr) (cP cT N s B:Nat) (hN:R.length=N) (hTN:T.length=N) (hN2:N≤16) (hp4:∀x,(par R x).length≤4) (h2B:2≤B) (hBs:B≤s) (L:Nat→Nat→List Nat) (hL:∀a b,a<N→b<N→BaseL R a b (L a b)) (Tf:Nat→List FileD) (hTf:∀n,n<N→T[n]? = some (Tf n)) (hfine:∀n,zag (Tf n)) (a b:Nat) (q:Int) (w:World) (ha:a<N) (hb:b<N) (hsi:SrcI R rs T ts AP AT cP cT N s B q w):Calls Tryz.prog 12 #[.iface 24 (.pointer (some ⟨s,0,none⟩)),idV (idN a),idV (idN b)] w (zlC R rs T ts AP AT cP cT N s B (za1 Tf a b (zL L Tf 40 100 a b)) w):=by
 obtain ⟨P,hP⟩:∃P,zlC R rs T ts AP AT cP cT N s B (za1 Tf a b (zL L Tf 40 100 a b)) w=P:=⟨_,rfl⟩;rw [hP];have HP:=zz hP;clear hP;obtain ⟨z,hz⟩:∃z,w.heap.size=z:=⟨_,rfl⟩;have hsw:s<z:=by have:=hsi.src.lt;omega
 have h0:Below z w (((w.alloc (.cells (idC (idN a)) 33)).alloc (.cells (idC (idN b)) 33)).alloc (.cells (wrkC s 101) 78)):=(((Below.refl z w).alloc (by omega) _).alloc (by simp;omega) _).alloc (by simp;omega) _;have hA:=((Blk.new w 33 (idC (idN a))).alloc (.cells (idC (idN b)) 33)).alloc (.cells (wrkC s 101) 78);have hBb:=(Blk.new (w.alloc (.cells (idC (idN a)) 33)) 33 (idC (idN b))).alloc (.cells (wrkC s 101) 78);have hg:=Blk.new ((w.alloc (.cells (idC (idN a)) 33)).alloc (.cells (idC (idN b)) 33)) 78 (wrkC s 101);rw [show (w.alloc (.cells (idC (idN a)) 33)).heap.size=z+1 from by rw [←hz];simp] at hBb;rw [show ((w.alloc (.cells (idC (idN a)) 33)).alloc (.cells (idC (idN b)) 33)).heap.size=z+1+1 from by rw [←hz];simp] at hg;rw [hz] at hA;have HA0:=zz hA;have HB0:=zz hBb;have HG0:=zz hg;have HW0:=zz (hsi.below (by rw [hz];exact h0) hBs);have HK0:=zz (show Below w.heap.size w (((w.alloc (.cells (idC (idN a)) 33)).alloc (.cells (idC (idN b)) 33)).alloc (.cells (wrkC s 101) 78)) from by rw [hz];exact h0);have hbw:=zjQ s 101;clear hA hBb h0 hg;have hne:∀e,(zL L Tf 40 100 a b).1 = .error e→e≠0:=(zdp (L:=L) (fun n=>(hfine n).check) 40 100 a b).2;have hck:∀u,(zL L Tf 40 100 a b).1 = .ok u→zg u.2=0:=(zdp (L:=L) (fun n=>(hfine n).check) 40 100 a b).1;have HOF0:=zz (fun W h=>zeO R hw rs T ts AP AT cP cT N s B hN hTN hN2 hp4 h2B hBs L hL Tf hTf hfine a b q W ha hb h);go_enter Tryz.func12,Tryz.ntmps12
 go_upto_region 1 with (first|(refine zC rfl rfl (cs:=idC (idN a)) rfl ?_)|(refine zC rfl rfl (cs:=idC (idN b)) rfl ?_))
 go_upto_region 2 with (first|(refine zC rfl rfl (cs:=wrkC s 101) rfl ?_))
 generalize ((w.alloc (.cells (idC (idN a)) 33)).alloc (.cells (idC (idN b)) 33)).alloc (.cells (wrkC s 101) 78)=w1 at *;clear hbw;have d1:=LdId.blk HA0.out;have d2:=LdId.blk HB0.out;have hof:=HOF0.out w1 HW0.out;obtain ⟨⟨o1,o2⟩,hov⟩:∃o,zL L Tf 40 100 a b=o:=⟨_,rfl⟩;rw [hov] at hof hne hck HP;have HOF:=zz hof;clear hof HOF0
 cases o1 with
 | error n =>
  have HOF2:=zz (show Calls Tryz.prog 11 #[.iface 24 (.pointer (some ⟨s,0,none⟩)),idV (idN a),idV (idN b)] w1 (fun e w'=>∃q',(n≠0∧e = .returned (.tuple #[.slice none 0 0,.slice none 0 0,errV n]))∧SrcI R rs T ts AP AT cP cT N s B q' w'∧Keep (Only s) w1 w') from HOF.out);have hn:=hne n rfl;rw [zbO hn] at HOF2;clear HOF hne hck hov
  go_wp2_with (go_at_call 11;(with_reducible refine HOF2.out.mono ?_);rintro _ w2 ⟨q2,⟨_,rfl⟩,hw2,hk2⟩;have HW2:=zz hw2;have HK2:=zz hk2;clear hw2 hk2)
  go_ret3
  rw [←HP.out]
  exact ⟨q2,⟨hn,none,0,none,0,by rw [zbO hn];rfl⟩,HW2.out,(Below.keep_ HK0.out _).trans HK2.out⟩
 | ok u =>
  have HOF2:=zz (show Calls Tryz.prog 11 #[.iface 24 (.pointer (some ⟨s,0,none⟩)),idV (idN a),idV (idN b)] w1 (fun e w'=>∃q',(∃A c A' c',e = .returned (.tuple #[.slice A u.1.length c,.slice A' u.2.length c',.nilIface])∧ze w' w'.heap.size 32 A u.1.length ((u.1.map idN).flatMap idL)∧FI w' w'.heap.size A' u.2)∧SrcI R rs T ts AP AT cP cT N s B q' w'∧Keep (Only s) w1 w') from HOF.out);have HCK:=zz (hck u rfl);clear HOF hne hck hov;go_upto_region 3 with (go_at_call 11;(with_reducible refine HOF2.out.mono ?_);rintro _ w2 ⟨q2,⟨A,c,A',c',rfl,_,hf2⟩,hw2,hk2⟩;have HW2:=zz hw2;have HK2:=zz hk2;have HF2:=zz hf2;clear hw2 hk2 hf2)
  have h1s:=HW0.out.src.lt;have HA2:=zz (HA0.out.keep HK2.out (by unfold Only;omega));have HB2:=zz (HB0.out.keep HK2.out (by unfold Only;omega));have HG2:=zz (HG0.out.keep HK2.out (by unfold Only;omega));have HKW2:=zz ((Below.keep_ HK0.out (Only s)).trans HK2.out);clear HOF2 d1 d2 HA0 HB0 HG0 HW0 HK0 HK2;have d1:=LdId.blk HA2.out;have HTA:=zz (ze5 T ts AT AP cT cP N q2 a s w2.heap.size hTN (by omega) (Tf a) (hTf a ha) (by have:=(hfine a).2;omega) (fun f hf=>by have:=(hfine a).1.data f hf;omega) w2 (Nat.le_refl _) HW2.out.src HW2.out.trees);have hmt:=zfo s w2;go_upto_region 6 with (go_at_call 315;(with_reducible refine HTA.out.mono ?_);rintro _ w3 ⟨A3,c3,rfl,hf3,hb3⟩;have HF3:=zz hf3;have HB3:=zz hb3;clear hf3 hb3)
  clear d1 hmt HTA;have HW3:=zz (HW2.out.below HB3.out hBs);have HBb3:=zz (HB2.out.below HB3.out HB2.out.lt);have HG3:=zz (HG2.out.below HB3.out HG2.out.lt);have HKW3:=zz (HKW2.out.thenBelow HB3.out HKW2.out.size);have HFU3:=zz ((HF2.out.below HB3.out).more HB3.out.size);have d2:=LdId.blk HBb3.out;have HTB:=zz (ze5 T ts AT AP cT cP N q2 b s w3.heap.size hTN (by omega) (Tf b) (hTf b hb) (by have:=(hfine b).2;omega) (fun f hf=>by have:=(hfine b).1.data f hf;omega) w3 (Nat.le_refl _) HW3.out.src HW3.out.trees);have hmt:=zfo s w3;clear HF2 HW2 HB2 HG2 HKW2;go_upto_region 9 with (go_at_call 315;(with_reducible refine HTB.out.mono ?_);rintro _ w4 ⟨A4,c4,rfl,hf4,hb4⟩;have HF4:=zz hf4;have HB4:=zz hb4;clear hf4 hb4)
  clear d2 hmt HTB;have HW4:=zz (HW3.out.below HB4.out hBs);have HG4:=zz (HG3.out.below HB4.out HG3.out.lt);have HKW4:=zz (HKW3.out.thenBelow HB4.out HKW3.out.size);have HFU4:=zz ((HFU3.out.below HB4.out).more HB4.out.size);have HFA4:=zz ((HF3.out.below HB4.out).more HB4.out.size);have HWM:=zz (ziO u.2 (Tf a) (Tf b) A' A3 A4 c' c3 c4 s 101 (z+1+1) w4 HG4.out (by omega) HFU4.out HFA4.out HF4.out HW4.out.var HW4.out.err (zdh HCK.out) (zdh (hfine a).check) (zdh (hfine b).check) (by omega));unfold zev at HWM;rw [if_neg (by omega)] at HWM;have HPM:=zz (show za1 Tf a b (.ok u,o2)=zG u.2 (Tf a) (Tf b) from rfl);rw [HPM.out] at HP;clear HPM
  cases hm:zG u.2 (Tf a) (Tf b) with
  | error e2 =>
   rw [hm] at HWM HP;have HWE:=zz (show Calls Tryz.prog 26 #[.pointer (some ⟨z+1+1,0,none⟩),.slice A' u.2.length c',.slice A3 (Tf a).length c3,.slice A4 (Tf b).length c4] w4 fun e w'=>Keep (Only (z+1+1)) w4 w'∧Blk w' (z+1+1) 78 (wrkC s 100)∧e2≠0∧∃A c A' c',e = .returned (.tuple #[.slice A 0 c,.slice A' 0 c',.iface 94 (.int .i64 (e2:Nat))]) from by
    refine HWM.out.mono ?_;rintro e w' ⟨h1,h2,⟨n,h3,h4,A,c,A',c',rfl⟩|⟨x,v,A,c,A',c',h3,_⟩⟩
    · injection h3 with h3;subst h3;rw [zbO h4];exact ⟨h1,h2,h4,A,c,A',c',rfl⟩
    · cases h3)
   clear HWM hm
   go_wp2_with (go_at_call 26;(with_reducible refine HWE.out.mono ?_);rintro _ w8 ⟨hk8,hg8,hne8,A5,c5,A6,c6,rfl⟩;have HK8:=zz hk8;have HG8:=zz hg8;have HN8:=zz hne8;clear hk8 hg8 hne8)
   go_ret3
   rw [←HP.out]
   exact ⟨q2,⟨HN8.out,A5,c5,A6,c6,by rw [zbO HN8.out];rfl⟩,(((HW4.out.wrk HG4.out).step HK8.out (fun k hk => .inr hk) h2B hBs (by omega) (HW4.out.src.keep HK8.out (by unfold Only;omega)) HG8.out)).bare,HKW4.out.then_ HK8.out (fun i hi hk=>by unfold Only at hk;omega)⟩
  | ok y =>
   rw [hm] at HWM HP;have HWE:=zz (show Calls Tryz.prog 26 #[.pointer (some ⟨z+1+1,0,none⟩),.slice A' u.2.length c',.slice A3 (Tf a).length c3,.slice A4 (Tf b).length c4] w4 fun e w'=>Keep (Only (z+1+1)) w4 w'∧Blk w' (z+1+1) 78 (wrkC s 100)∧∃A c A' c',e = .returned (.tuple #[.slice A y.1.length c,.slice A' y.2.length c',.nilIface])∧FI w' w'.heap.size A y.1∧ze w' w'.heap.size 2 A' y.2.length (y.2.flatMap zN)∧y.2.length≤9223372036854775807 from by
    refine HWM.out.mono ?_;rintro e w' ⟨h1,h2,⟨n,h3,_⟩|⟨x,v,A,c,A',c',h3,rfl,h5,h6,h7⟩⟩
    · cases h3
    · injection h3 with h3;subst h3;exact ⟨h1,h2,A,c,A',c',rfl,h5,h6,h7⟩)
   clear HWM hm
   go_wp2_with (go_at_call 26;(with_reducible refine HWE.out.mono ?_);rintro _ w8 ⟨hk8,hg8,A5,c5,A6,c6,rfl,hf8,hr8,hv8⟩;have HK8:=zz hk8;have HG8:=zz hg8;have HF8:=zz (And.intro hf8 (And.intro hr8 hv8));clear hk8 hg8 hf8 hr8 hv8)
   go_ret3
   rw [←HP.out];exact ⟨q2,⟨A5,c5,A6,c6,rfl,HF8.out⟩,(((HW4.out.wrk HG4.out).step HK8.out (fun k hk => .inr hk) h2B hBs (by omega) (HW4.out.src.keep HK8.out (by unfold Only;omega)) HG8.out)).bare,HKW4.out.then_ HK8.out (fun i hi hk=>by unfold Only at hk;omega)⟩
end
section
open Go.RowKit
theorem zon (w:World) (i j:Id):(binOp .neq 33 (idV i) (idV j)).run Tryz.prog w = .ok (.bool (!(i==j))) w:=by
 have h:=zdD w i j;unfold idV at h ⊢;rw [run_eql_struct] at h;rw [run_neq_struct];revert h
 cases (Op.equalIn 10000 33 (.agg (idC i)) (.agg (idC j))).run Tryz.prog w with
 | ok b w' =>
  intro h;simp only [Result.andThen] at h ⊢;injection h with h1 h2;injection h1 with h1;subst h1 h2
  rfl
 | halt _ _=>intro h;simp [Result.andThen] at h
theorem zgv {w:World} {g off:Nat} {ls:List Nat} {i x:Nat} (h:∀j u,((ls.map idN).flatMap idL)[j]? = some u→w.cell? ⟨g,off+j,none⟩=some u) (hx:ls[i]? = some x) :(LdId (.pointer (some ⟨g,off+i*32,none⟩))).run Tryz.prog w = .ok (idV (idN x)) w :=
 zaE w _ (idC (idN x)) Tryz.underlying33 rfl (by rw [zy];exact zaN) (fun j v hj=>by
  rw [zJ,Nat.add_assoc];refine h _ _ (zaV (f:=idL) (C:=32) (fun _=>za2 _) (ls.map idN) i j (idN x) (by rw [List.getElem?_map,hx];rfl) v ?_);rw [←hj];simp [idC])
attribute [local go_sem ↓] zbM
theorem zp1 (ls:List Nat) (A C:Option Addr) (c d B:Nat) (w:World) (hB:B≤w.heap.size) (h1:ze w B 32 A ls.length ((ls.map idN).flatMap idL)) (h2:ze w B 32 C ls.length ((ls.map idN).flatMap idL)) (hl:ls.length≤1000) :Calls Tryz.prog 13 #[.slice A ls.length c,.slice C ls.length d] w fun e w'=>e = .returned (.bool true)∧Below w.heap.size w w':=by
 obtain ⟨z,hz⟩:∃z,w.heap.size=z:=⟨_,rfl⟩;rw [hz];rw [hz] at hB;obtain ⟨L,hL⟩:∃L,ls.length=L:=⟨_,rfl⟩;rw [hL] at h1 h2 hl ⊢;have HL:=zz hL;have H1:=zz h1;have H2:=zz h2;have HB:=zz (Below.refl z w);have hz0:z≤w.heap.size:=by omega
 clear h1 h2 hz hL;go_enter Tryz.func13,Tryz.ntmps13
 go_wp2_with fail
 go_loopg [5] L (fun kx s5 wr=>∃(i:Nat),s5 = .int .i64 i∧i≤L∧L-i≤kx∧Hid (Below z w wr)∧z≤wr.heap.size)
 case atStart=>exact ⟨0,rfl,Nat.zero_le _,Nat.le_refl _,HB,hz0⟩
 case round =>
  clear HB hz0;obtain ⟨i,rfl,hiL,hkx,HB,hzr⟩:=hrel;by_cases hlt:i<L
  · obtain ⟨x,hx⟩:∃x,ls[i]? = some x:=⟨_,List.getElem?_eq_getElem (by rw [HL.out];exact hlt)⟩;have hltz:(i:Int)<(L:Int):=by omega
    obtain ⟨g1,o1,rfl,hg1,hc1⟩:=H1.out.at0 (by omega) (by omega);obtain ⟨g2,o2,rfl,hg2,hc2⟩:=H2.out.at0 (by omega) (by omega);have d1:=zgv (w:=wr.drew) (g:=g1) (off:=o1) (fun j u hj=>(HB.out.cell (p:=⟨g1,o1+j,none⟩) (by show g1<z;omega)).trans (hc1 j u hj)) hx;have d2:=zgv (w:=wr.drew) (g:=g2) (off:=o2) (fun j u hj=>(HB.out.cell (p:=⟨g2,o2+j,none⟩) (by show g2<z;omega)).trans (hc2 j u hj)) hx;have E:∀W:World,(binOp .neq 33 (idV (idN x)) (idV (idN x))).run Tryz.prog W = .ok (.bool false) W:=fun W=>by rw [zon];simp
    have G:=fun (a b:Operand) (W:World)=>zfg .neq a b (idN x) (idN x) W;clear hc1 hc2 hx;go_upto_region 6 with fail
    go_cut [25] (fun s25 wx=>s25 = .bool false∧Hid (Below z w wx)∧z≤wx.heap.size)
    case first =>
     go_region_law (fail)
     all_goals
      go_wp2_with fail
      go_meet
      exact ⟨rfl,zz HB.out.drew,hzr⟩
    case rest =>
     obtain ⟨rfl,HB2,hz2⟩:=hcut;clear d1 d2 E G HB
     go_wp2_with fail
     go_roundg (L-(i+1))
     case measure=>omega
     case rel=>exact ⟨i+1,by go_num,by omega,Nat.le_refl _,HB2,hz2⟩
  · obtain rfl:i=L:=by omega
    go_wp2_with fail
    go_ret
    exact ⟨rfl,HB.out⟩
end
end Go.Proofs.YtmkmbbjgepcioaaGreatDoor
