/- Words for treemerge.Merge: sides for the merger, the map of the base's files, a thing's bytes turned in place. No statement of the seat is proved here. -/
import Derived.Test.YtmkmbbjgepcioaaGreatDoorSAHq
import Derived.Test.YtmkmbbjgepcioaaGreatDoorSA07
import Derived.Test.YtmkmbbjgepcioaaGreatDoorSAZi
import Derived.Test.YtmkmbbjgepcioaaGreatDoorSA08
import Derived.Test.YtmkmbbjgepcioaaGreatDoorSA18
import Derived.Test.YtmkmbbjgepcioaaGreatDoorSA20
import Derived.Test.YtmkmbbjgepcioaaGreatDoorSAZk
namespace Go.Proofs.YtmkmbbjgepcioaaGreatDoor
set_option maxHeartbeats 8000000
set_option maxRecDepth 100000
section
theorem zf5:∀(b cur:Pth),cur.length+b.length≤((z7 cur b).map (fun s=>s.length+1)).sum
 | [],cur=>by simp [z7]
 | x::b,cur=>by
  unfold z7
  split
  · rw [List.map_cons,List.sum_cons,List.length_cons];have:=zf5 b [];simp only [List.length_nil] at this;omega
  · have:=zf5 b (cur++[x]);rw [List.length_append,List.length_singleton] at this;rw [List.length_cons];omega
theorem zsf {l:List Pth} {L:Nat} (h:∀s∈l,s.length≤L):(l.map (fun s=>s.length+1)).sum≤l.length*(L+1):=by
 induction l with
 | nil=>simp
 | cons x l ih =>
  rw [List.map_cons,List.sum_cons,List.length_cons,Nat.add_mul];have h1:=h x (List.mem_cons_self ..);have h2:=ih fun f hf=>h f (List.mem_cons_of_mem _ hf);omega
theorem zsk {f:FileD} {L:Nat} (h:zP f=0) (hL:∀s,zI s=true→s.length≤L):f.p.length≤8*(L+1):=by
 obtain ⟨_,_,h3,h4⟩:=zcK h;have h5:=zf5 f.p [];have h6:=zsf (l:=nmP f.p) (L:=L) fun s hs=>hL s (h4 s hs);have h7:=Nat.mul_le_mul_right (L+1) h3;unfold nmP at h6 h7;simp only [List.length_nil,Nat.zero_add] at h5;omega
theorem zst {s:Pth} (h:zI s=true):s.length≤40:=by
 unfold zI at h;simp only [Bool.and_eq_true,decide_eq_true_eq] at h;exact h.2.1
theorem zj0 {f:FileD} (h:zP f=0):f.p.length≤328:=zsk h fun _ hs=>zst hs
theorem zfA {l:List FileD} (h:zg l=0):Fits l:=by
 obtain ⟨h1,h2,_⟩:=zW h;refine ⟨by omega,fun f hf=>?_⟩;have h3:=zj0 (h1.file f hf);have h4:=(zcK (h1.file f hf)).2.1;exact ⟨by omega,by omega⟩
theorem zjO {base l:List FileD} (hb:zg base=0) (hl:zg l=0):SidesIn base l where
 nb:=(zW hb).2.1
 nl:=(zW hl).2.1
 ab:=(zW hb).1.apt
 al:=(zW hl).1.apt
 fb:=zfA hb
 fl:=zfA hl
 kb:=(zW hb).1.kinds
 kl:=(zW hl).1.kinds
end
section
def CntF (f:Mp) (g:Pth→Int):Prop:=∀s,(f s).getD (.int .i64 0) = .int .i64 (g s)
theorem CntF.nil_:CntF zF fun _=>0:=fun _=>rfl
theorem CntF.put {f:Mp} {g:Pth→Int} (h:CntF f g) (s:Pth) (v:Int):CntF (mput f s (.int .i64 v)) fun t=>if t=s then v else g t:=by
 intro t;unfold mput;by_cases e:t=s
 · simp only [if_pos e];rfl
 · simp only [if_neg e];exact h t
theorem CntF.of {f:Mp} {g g':Pth→Int} (h:CntF f g) (e:∀s,g s=g' s):CntF f g':=fun s=>by rw [h,e]
def one (a b:Pth):Int:=if a=b then 1 else 0
def atG (l:List FileD) (s:Pth):Int:=(atN l s:Int)
def beG (l:List FileD) (s:Pth):Int:=(za8 l s:Int)
theorem zfK {p:Pth}:∀(k:Nat),k≤p.length→(zj (p.take k)).Nodup∧∀d∈zj (p.take k),d.length<k
 | 0,_=>by rw [List.take_zero];exact ⟨List.nodup_nil,fun d h=>by cases h⟩
 | k+1,h=>by
  obtain ⟨x,hx⟩:∃x,p[k]? = some x:=⟨_,List.getElem?_eq_getElem (by omega)⟩;obtain ⟨h1,h2⟩:=zfK (p:=p) k (by omega);rw [zhk hx]
  split
  · refine ⟨List.nodup_append.2 ⟨h1,by simp,fun a ha b hb e=>?_⟩,fun d hd=>?_⟩
    · rw [List.mem_singleton] at hb;subst hb e;have:=h2 _ ha;rw [List.length_take] at this;omega
    · rcases List.mem_append.1 hd with q|q
      · have:=h2 d q;omega
      · rw [List.mem_singleton] at q;subst q;rw [List.length_take];omega
  · rw [List.append_nil];exact ⟨h1,fun d hd=>by have:=h2 d hd;omega⟩
theorem zsD (p:Pth):(zj p).Nodup:=by
 have:=(zfK (p:=p) p.length (Nat.le_refl _)).1
 rwa [List.take_length] at this
theorem zkT {p d:Pth} (h:d∈zj p):d.length<p.length:=by
 have:=(zfK (p:=p) p.length (Nat.le_refl _)).2 d;rw [List.take_length] at this;exact this h
theorem zo0 (p s:Pth):(zj p).count s=if (zj p).contains s=true then 1 else 0:=by
 rw [(zsD p).count];by_cases h:s∈zj p
 · rw [if_pos h,if_pos (by simpa using h)]
 · rw [if_neg h,if_neg (by simpa using h)]
theorem zei (a b:List FileD) (s:Pth):atG (a++b) s=atG a s+atG b s:=by
 unfold atG atN;rw [List.countP_append];simp
theorem zem (a b:List FileD) (s:Pth):beG (a++b) s=beG a s+beG b s:=by
 unfold beG za8;rw [List.countP_append];simp
theorem zgY (f:FileD) (s:Pth):atG [f] s=one s f.p:=by
 unfold atG atN one;rw [List.countP_cons,List.countP_nil];by_cases e:f.p=s
 · rw [if_pos (by simpa using e),if_pos e.symm];rfl
 · rw [if_neg (by simpa using e),if_neg (fun q=>e q.symm)];rfl
theorem zfP (f:FileD) (s:Pth):beG [f] s=((zj f.p).count s:Nat):=by
 unfold beG za8;rw [zo0,List.countP_cons,List.countP_nil,Nat.zero_add]
theorem ze0 {l:List FileD} {i:Nat} {f:FileD} (h:l[i]? = some f):l=l.take i++([f]++l.drop (i+1)):=by
 obtain ⟨hi,rfl⟩:=List.getElem?_eq_some_iff.1 h;rw [List.singleton_append,List.getElem_cons_drop,List.take_append_drop]
theorem zey {l:List FileD} {i:Nat} {f:FileD} (h:l[i]? = some f) (p:Pth):zA l i p=l.take i++([{ f with p:=p }]++l.drop (i+1)):=by
 obtain ⟨hi,rfl⟩:=List.getElem?_eq_some_iff.1 h;unfold zA;rw [List.modify_eq_take_cons_drop hi];rfl
theorem zlc {l:List FileD} {i:Nat} {f:FileD} (h:l[i]? = some f) (p s:Pth):atG (zA l i p) s=atG l s-one s f.p+one s p:=by
 rw [zey h,zei,zei,zgY];have:atG l s=atG (l.take i) s+(one s f.p+atG (l.drop (i+1)) s):=by
  rw [←zgY,←zei,←zei,←ze0 h]
 dsimp only
 omega
theorem zlm {l:List FileD} {i:Nat} {f:FileD} (h:l[i]? = some f) (p s:Pth):beG (zA l i p) s=beG l s-((zj f.p).count s:Nat)+((zj p).count s:Nat):=by
 rw [zey h,zem,zem,zfP];have:beG l s=beG (l.take i) s+(((zj f.p).count s:Nat)+beG (l.drop (i+1)) s):=by
  rw [←zfP,←zem,←zem,←ze0 h]
 dsimp only
 omega
theorem zds (l:List FileD) (i:Nat) (p:Pth):(zA l i p).length=l.length:=by unfold zA;rw [List.length_modify]
theorem zi4 {l:List FileD} {f:FileD} (h:f∈l):f.p.length≤(l.map (fun f=>f.p.length)).sum:=by
 induction l with
 | nil=>cases h
 | cons x l ih =>
  rw [List.map_cons,List.sum_cons]
  rcases List.mem_cons.1 h with rfl|h
  · omega
  · have:=ih h;omega
theorem zlN {l:List FileD} {p:Pth} (h:∀f∈l,f.p.length<p.length) (b:Bool):zaz l b p=true:=by
 have h1:atN l p=0:=by
  unfold atN;rw [List.countP_eq_zero];intro f hf e;have:=h f hf;rw [eq_of_beq e] at this;omega
 have h2:za8 l p=0:=by
  unfold za8;rw [List.countP_eq_zero];intro f hf e;have e:p∈zj f.p:=by simpa using e
  have:=h f hf;have:=zkT e;omega
 unfold zaz;rw [h1,h2];simp
theorem zhL {l:List FileD} {b:Bool} {n:Nat} {p:Pth} (hn:(l.map (fun f=>f.p.length)).sum≤n+p.length):(zaz l b (p++[126])=true∧zaP l b n p=p++[126])∨(zaz l b (p++[126])=false∧∃m,n=m+1∧zaP l b n p=zaP l b m (p++[126])):=by
 cases n with
 | zero =>
  left;refine ⟨zlN (fun f hf=>?_) b,rfl⟩;have:=zi4 hf;rw [List.length_append,List.length_singleton]
  omega
 | succ m =>
  rw [zaP]
  cases h:zaz l b (p++[126]) with
  | true=>left;exact ⟨rfl,by rw [if_pos rfl]⟩
  | false=>right;exact ⟨rfl,m,rfl,by simp⟩
theorem zsZ {l:List FileD} {b:Bool} {p:Pth}:zaz l b p=((atG l p==0)&&(!b||(beG l p==0))):=by
 unfold zaz atG beG
 congr 1
 · rw [Bool.eq_iff_iff,beq_iff_eq,beq_iff_eq];omega
 · congr 1
   rw [Bool.eq_iff_iff,beq_iff_eq,beq_iff_eq];omega
end
section
open Go.RowKit Go.Maps
structure PlM (w:World) (q b1 b2 N:Nat) (n1 n2:Nat) (f1 f2:Mp) (g1 g2:Pth→Int):Prop where
 blk:Blk w q 239 #[.map (some b1),.map (some b2)]
 m1:VM w b1 n1 f1
 m2:VM w b2 n2 f2
 c1:CntF f1 g1
 c2:CntF f2 g2
 ne:b1≠b2
 l1:n1≤N
 l2:n2≤N
def PlX (w:World) (q b1 b2 N:Nat) (g1 g2:Pth→Int):Prop:=∃n1 n2 f1 f2,PlM w q b1 b2 N n1 n2 f1 f2 g1 g2
def zfs (g:Pth→Int):Prop:=∀s,-1000000000≤g s∧g s≤1000000000
theorem VM.neBlk {w:World} {b n q:Nat} {f:Mp} {t:TypeId} {cs:Array Value} (h:VM w b n f) (hb:Blk w q t cs):q≠b:=by
 rintro rfl;obtain ⟨D,⟨es,clock,q1,_⟩,_⟩:=h;unfold Blk at hb;rw [q1] at hb;cases hb
def Two (b1 b2:Nat):Nat→Prop:=fun k=>k=b1∨k=b2
def addO (g:Pth→Int) (p:Pth) (by_:Int):Pth→Int:=fun s=>g s+by_*one s p
def addD (g:Pth→Int) (p:Pth) (by_:Int):Pth→Int:=fun s=>g s+by_*((zj p).count s:Nat)
def zkF (q b1 b2 N:Nat) (g1 g2:Pth→Int) (p:Pth) (by_:Int) (w:World) (e:Ending) (w':World):Prop:=e = .returned (.tuple #[])∧PlX w' q b1 b2 (N+p.length+1) (addO g1 p by_) (addD g2 p by_)∧Keep (Two b1 b2) w w'
theorem zd6 (q b1 b2 N:Nat) (g1 g2:Pth→Int) (p:Pth) (by_:Int) (w:World) (h:PlX w q b1 b2 N g1 g2) (hp:p.length≤1000000) (hN:N≤1000000000) (hb:-1≤by_∧by_≤1) (h1:zfs g1) (h2:zfs g2) :Calls Tryz.prog 116 #[.pointer (some ⟨q,0,none⟩),strC p,.int .i64 by_] w (zkF q b1 b2 N g1 g2 p by_ w):=by
 have HP:=zz (show zkF q b1 b2 N g1 g2 p by_ w=fun e w'=>e = .returned (.tuple #[])∧PlX w' q b1 b2 (N+p.length+1) (addO g1 p by_) (addD g2 p by_)∧Keep (Two b1 b2) w w' from rfl);rw [HP.out];clear HP;obtain ⟨n1,n2,f1,f2,hh⟩:=h;have hpm:p.length≤maxLen:=by unfold maxLen;omega
 have e0:=(hh.blk.cell 0).trans (show (#[.map (some b1),.map (some b2)]:Array Value)[0]? = some (.map (some b1)) from rfl);have hlk:=hh.m1.look (s:=p) Tryz.underlying218 (zbw w) hpm;rw [hh.c1 p] at hlk;obtain ⟨w6,hst,hv6,hk6,hz6⟩:=hh.m1.store (s:=p) Tryz.underlying218 (by have:=hh.l1;unfold maxLen;omega) hpm (.int .i64 (g1 p+by_));have hw:IntKind.i64.wrap (g1 p+by_)=g1 p+by_:=IntWalk.i64_in _ (by have:=h1 p;omega);have HV1:=zz hv6;have HC1:=zz (show CntF (mput f1 p (.int .i64 (g1 p+by_))) (addO g1 p by_) from (hh.c1.put p _).of fun s=>by
  unfold addO one;by_cases e:s=p
  · rw [if_pos e,if_pos e,e];omega
  · rw [if_neg e,if_neg e];omega)
 have HB:=zz (hh.blk.keep hk6 (by unfold Only;exact hh.m1.neBlk hh.blk));have HV2:=zz (hh.m2.keep hk6 (by unfold Only;exact fun e=>hh.ne e.symm));have HK:=zz (show Keep (Two b1 b2) w w6 from Keep.mono hk6 fun i _ q => .inl q);have HN:=zz (show (if (f1 p).isSome=true then n1 else n1+1)≤N+p.length+1∧n2≤N∧b1≠b2 from ⟨by have:=hh.l1;split <;> omega,hh.l2,hh.ne⟩);have HC2:=zz hh.c2;have HS2:=zz h2;clear h1 h2 hv6 hk6 hz6 hh;generalize (if (f1 p).isSome=true then n1 else n1+1)=n1' at *;generalize mput f1 p (.int .i64 (g1 p+by_))=f1' at *;unfold strC at hlk hst ⊢;have hsz:(⟨p.toArray⟩:ByteArray).size=p.length:=by simp [ByteArray.size]
 go_enter Tryz.func116,Tryz.ntmps116
 go_wp2_with fail
 clear e0 hlk hst hw
 go_loopw [17] (fun s17 wr=>∃(k n2:Nat) (f2:Mp),s17 = .int .i64 (k:Nat)∧k≤p.length∧n2≤N+k∧Hid (VM wr b2 n2 f2)∧Hid (CntF f2 (addD g2 (p.take k) by_))∧Hid (VM wr b1 n1' f1')∧Hid (Blk wr q 239 #[.map (some b1),.map (some b2)])∧Hid (Keep (Two b1 b2) w wr)) (fun s17 _=>p.length-(intOf s17).toNat)
 case atStart=>exact ⟨0,n2,f2,rfl,Nat.zero_le _,HN.out.2.1,HV2,zz (HC2.out.of fun s=>by simp [addD,zj,zaZ]),HV1,HB,HK⟩
 case round =>
  clear HV1 HB HK HV2 HC2;obtain ⟨k,n2,f2,rfl,hk,hn2,HV2,HC2,HV1,HB,HK⟩:=hrel;by_cases hlt:k<p.length
  · obtain ⟨x,hx⟩:∃x,p[k]? = some x:=⟨_,List.getElem?_eq_getElem hlt⟩;have HT:=zz (zhk hx);have i0:(0:Int)≤(k:Int):=by omega
    have i1:(k:Int)<(p.length:Int):=by omega
    have hx1:p[k]=x:=by
     have:=List.getElem?_eq_getElem hlt;rw [hx] at this;exact (Option.some.inj this).symm
    have hb:((⟨p.toArray⟩:ByteArray)[k]'(by rw [hsz];exact hlt))=x:=hx1;have he:(⟨p.toArray⟩:ByteArray).extract 0 k=⟨(p.take k).toArray⟩:=by
     apply ByteArray.ext;apply Array.ext';simp
    clear hx1 hx;by_cases hx:x=47
    · subst hx;rw [if_pos rfl] at HT;have hpk:(p.take k).length≤maxLen:=by rw [List.length_take];unfold maxLen;omega
      have c0:(zj (p.take k)).count (p.take k)=0:=List.count_eq_zero_of_not_mem fun h=>by have:=zkT h;omega
      have e1:wr.drew.cell? ⟨q,1,none⟩=some (.map (some b2)):=(HB.out.cell 1).trans rfl;have hlk:=(show VM wr.drew b2 n2 f2 from HV2.out).look (s:=p.take k) Tryz.underlying218 (zbw wr.drew) hpk;have hg:addD g2 (p.take k) by_ (p.take k)=g2 (p.take k):=by unfold addD;rw [c0];simp
      rw [HC2.out,hg] at hlk;obtain ⟨w8,hst,hv8,hk8,hz8⟩:=(show VM wr.drew b2 n2 f2 from HV2.out).store (s:=p.take k) Tryz.underlying218 (by unfold maxLen;omega) hpk (.int .i64 (g2 (p.take k)+by_));have hw:IntKind.i64.wrap (g2 (p.take k)+by_)=g2 (p.take k)+by_:=IntWalk.i64_in _ (by have:=HS2.out (p.take k);omega);have HV28:=zz hv8;have HC8:=zz (show CntF (mput f2 (p.take k) (.int .i64 (g2 (p.take k)+by_))) (addD g2 (p.take (k+1)) by_) from (HC2.out.put _ _).of fun s=>by
       unfold addD;rw [HT.out,List.count_append,List.count_singleton];by_cases e:s=p.take k
       · rw [if_pos e,e,c0];simp
       · rw [if_neg e,if_neg (by simpa using fun q=>e q.symm)];simp)
      have HV18:=zz (show VM w8 b1 n1' f1' from (show VM wr.drew b1 n1' f1' from HV1.out).keep hk8 (by unfold Only;exact HN.out.2.2));have HB8:=zz (show Blk w8 q 239 #[.map (some b1),.map (some b2)] from (show Blk wr.drew q _ _ from HB.out).keep hk8 (by unfold Only;exact HV2.out.neBlk HB.out));have HK8:=zz (show Keep (Two b1 b2) w w8 from (Keep.drew HK.out).then_ hk8 fun i _ q => .inr q);unfold strC at hlk hst;clear hv8 hk8 hz8 c0 hg hpk
      go_wp2_with fail
      go_region_law (fail)
      all_goals
       go_wp2_with fail
       go_roundw
       case rel=>exact ⟨k+1,_,_,by go_num,hlt,by split <;> omega,HV28,HC8,HV18,HB8,HK8⟩
       case measure=>simp [intOf];omega
    · have hne:((x.toNat:Int)==47)=false:=beq_eq_false_iff_ne.2 fun e=>hx (by apply UInt8.toNat_inj.1;show x.toNat=47;omega);rw [if_neg hx,List.append_nil] at HT;have HC3:=zz (show CntF f2 (addD g2 (p.take (k+1)) by_) from by unfold addD;rw [HT.out];exact HC2.out)
      go_wp2_with fail
      go_roundw
      case rel=>exact ⟨k+1,n2,f2,by go_num,hlt,by omega,HV2,HC3,HV1,HB,HK⟩
      case measure=>simp [intOf];omega
  · obtain rfl:k=p.length:=by omega
    rw [List.take_length] at HC2
    go_wp2_with fail
    first|go_end0|(first|refine bodyPost_end (results_none rfl _ _ _) rfl ?_|refine bodyPost_ret (results_none rfl _ _ _) rfl ?_)
    exact ⟨rfl,⟨n1',n2,f1',f2,HB.out,HV1.out,HV2.out,HC1.out,HC2.out,HN.out.2.2,HN.out.1,by omega⟩,HK.out⟩
end
section
open Go.RowKit Go.Maps
def zfY:Value→Nat
 | .string b=>b.size
 | _=>0
theorem zmp (l:List FileD) (b:Bool) (p:Pth):zau l b p=zaP l b (l.map (fun f=>f.p.length)).sum p:=rfl
theorem zis (q b1 b2 N:Nat) (l:List FileD) (bel:Bool) (p:Pth) (w:World) (g1 g2:Pth→Int) (h:PlX w q b1 b2 N g1 g2) (hg1:∀s,p.length<s.length→g1 s=atG l s) (hg2:bel=true→∀s,p.length<s.length→g2 s=beG l s) (hp:p.length≤100000000) (hs:(l.map (fun f=>f.p.length)).sum≤1000000000) :Calls Tryz.prog 117 #[.pointer (some ⟨q,0,none⟩),strC p,.bool bel] w fun e w'=>e = .returned (strC (zau l bel p))∧w=w':=by
 rw [zmp];obtain ⟨S,hS⟩:∃S,(l.map (fun f=>f.p.length)).sum=S:=⟨_,rfl⟩;rw [hS] at hs ⊢;obtain ⟨R,hR⟩:∃R,zaP l bel S p=R:=⟨_,rfl⟩;rw [hR];have HS:=zz hS;have HR:=zz hR;obtain ⟨n1,n2,f1,f2,hh⟩:=h;have HH:=zz hh;have e0:=(hh.blk.cell 0).trans (show (#[.map (some b1),.map (some b2)]:Array Value)[0]? = some (.map (some b1)) from rfl);have e1:=(hh.blk.cell 1).trans (show (#[.map (some b1),.map (some b2)]:Array Value)[1]? = some (.map (some b2)) from rfl);have HG1:=zz hg1;have HG2:=zz hg2;clear hh hR hS hg1 hg2;unfold strC;go_enter Tryz.func117,Tryz.ntmps117
 go_wp2_with fail
 go_loopw [1] (fun s1 wr=>∃(n:Nat) (p':Pth),s1 = .string ⟨p'.toArray⟩∧n+p'.length=S+p.length∧p.length≤p'.length∧Hid (zaP l bel n p'=R)∧w=wr) (fun s1 _=>S+p.length-zfY s1)
 case atStart=>exact ⟨S,p,rfl,rfl,Nat.le_refl _,HR,rfl⟩
 case round =>
  obtain ⟨n,p',rfl,hn,hpp,HN,rfl⟩:=hrel;have he:(⟨p'.toArray⟩:ByteArray)++⟨#[126]⟩=⟨(p'++[126]).toArray⟩:=by
   apply ByteArray.ext;apply Array.ext';simp
  have hl2:(p'++[126]).length≤maxLen:=by rw [List.length_append,List.length_singleton];unfold maxLen;omega
  have lk1:=HH.out.m1.look (s:=p'++[126]) Tryz.underlying218 (zbw w) hl2;have lk2:=HH.out.m2.look (s:=p'++[126]) Tryz.underlying218 (zbw w) hl2;have hlt2:p.length<(p'++[126]).length:=by rw [List.length_append,List.length_singleton];omega
  rw [HH.out.c1,HG1.out _ hlt2] at lk1;rw [HH.out.c2] at lk2;have HGB:=zz (fun h=>HG2.out h (p'++[126]) hlt2);clear hlt2;unfold strC at lk1 lk2;have HG:=zz (zhL (l:=l) (b:=bel) (n:=n) (p:=p') (by rw [HS.out];omega));have HF:=zz (zsZ (l:=l) (b:=bel) (p:=p'++[126]));have HLEN:=zz (show (p'++[126]).length=p'.length+1 from by rw [List.length_append,List.length_singleton]);generalize p'++[126]=p2 at *;generalize atG l p2=a at *;generalize beG l p2=b at *;generalize g2 p2=b' at *;have hsz1:(⟨p'.toArray⟩:ByteArray).size=p'.length:=by simp [ByteArray.size]
  have hsz2:(⟨p2.toArray⟩:ByteArray).size=p2.length:=by simp [ByteArray.size]
  clear hl2;have DONE:=zz (show zaz l bel p2=true→p2=R from fun h=>by
   rcases HG.out with ⟨_,g2⟩|⟨g1,_⟩
   · rw [←HN.out,g2]
   · rw [h] at g1;cases g1)
  have MORE:=zz (show zaz l bel p2=false→∃m,m+p2.length=S+p.length∧zaP l bel m p2=R from fun h=>by
   rcases HG.out with ⟨g1,_⟩|⟨_,m,g2,g3⟩
   · rw [h] at g1;cases g1
   · exact ⟨m,by rw [HLEN.out];omega,by rw [←g3];exact HN.out⟩)
  clear HG HN
  cases ha:(a==0) with
  | false =>
   obtain ⟨m,h1,h2⟩:=MORE.out (by rw [HF.out,ha];rfl);have H2:=zz h2;have hm:p2.length=p'.length+1:=HLEN.out;clear DONE MORE HF h2
   go_wp2_with fail
   go_roundw
   case rel=>exact ⟨m,p2,rfl,h1,by omega,H2,by first|trivial|rfl⟩
   case measure=>simp only [zfY,hsz1,hsz2];omega
  | true =>
   cases bel with
   | false =>
    have hd:=DONE.out (by rw [HF.out,ha];rfl);subst hd;clear DONE MORE HF
    go_wp2_with fail
    go_ret
    exact ⟨rfl,rfl⟩
   | true =>
    have hbb:=HGB.out rfl;subst hbb
    cases hb:(b'==0) with
    | false =>
     obtain ⟨m,h1,h2⟩:=MORE.out (by rw [HF.out,ha,hb];rfl);have H2:=zz h2;have hm:p2.length=p'.length+1:=HLEN.out;clear DONE MORE HF h2
     go_wp2_with fail
     go_roundw
     case rel=>exact ⟨m,p2,rfl,h1,by omega,H2,by first|trivial|rfl⟩
     case measure=>simp only [zfY,hsz1,hsz2];omega
    | true =>
     have hd:=DONE.out (by rw [HF.out,ha,hb];rfl);subst hd;clear DONE MORE HF
     go_wp2_with fail
     go_ret
     exact ⟨rfl,rfl⟩
end
section
open Go.RowKit Go.Maps
theorem zeG {l:List FileD} {b:Bool} {L:Nat} (hL:∀f∈l,f.p.length≤L):∀(n:Nat) (p:Pth),p.length≤L→(zaP l b n p).length≤L+1
 | 0,p,hp=>by
  rw [zaP,List.length_append,List.length_singleton]
  omega
 | n+1,p,hp=>by
  rw [zaP]
  split
  · rw [List.length_append,List.length_singleton];omega
  · rename_i h
    refine zeG hL n _ ?_
    rcases Nat.lt_or_ge L (p++[126]).length with q|q
    · exact absurd (zlN (fun f hf=>Nat.lt_of_le_of_lt (hL f hf) q) b) h
    · exact q
theorem zlE {l:List FileD} {b:Bool}:∀(n:Nat) (p:Pth),(l.map (fun f=>f.p.length)).sum≤n+p.length→zaz l b (zaP l b n p)=true
 | 0,p,h=>by
  rcases zhL (b:=b) h with ⟨h1,h2⟩|⟨_,m,e,_⟩
  · rw [h2];exact h1
  · cases e
 | n+1,p,h=>by
  rcases zhL (b:=b) h with ⟨h1,h2⟩|⟨_,m,e,h2⟩
  · rw [h2];exact h1
  · injection e with e;subst e;rw [h2];exact zlE n _ (by rw [List.length_append,List.length_singleton];omega)
theorem zeU (l:List FileD) (b:Bool) (p:Pth):zaz l b (zau l b p)=true:=zlE _ p (by omega)
theorem zkh {l:List FileD} {b:Bool} {p:Pth}:∀f∈l,f.p≠zau l b p:=fun f hf e=>by
 have h:=zeU l b p;unfold zaz at h;rw [Bool.and_eq_true,beq_iff_eq] at h;have h1:=h.1;unfold atN at h1;rw [List.countP_eq_zero] at h1;exact h1 f hf (by simpa using e)
theorem zc6 {l:List FileD} {i:Nat} {f:FileD} (h:l[i]? = some f) (p:Pth):(zA l i p)[i]? = some { f with p:=p }:=by
 unfold zA;rw [List.getElem?_modify,h];simp
theorem zex (l:List FileD) (i:Nat) (p:Pth):(zA l i p).take i=l.take i:=by
 unfold zA;apply List.ext_getElem?;intro j;rw [List.getElem?_take,List.getElem?_take]
 split
 · rw [List.getElem?_modify];have:i≠j:=by omega
   simp [this]
 · rfl
theorem zhh {l:List FileD} {i:Nat} {p:Pth} {g:FileD} (h:g∈zA l i p):g∈l∨g.p=p:=by
 obtain ⟨j,hj⟩:=List.mem_iff_getElem?.1 h;unfold zA at hj;rw [List.getElem?_modify] at hj
 cases q:l[j]? with
 | none=>rw [q] at hj;simp at hj
 | some x =>
  rw [q] at hj;by_cases e:i=j
  · simp [e] at hj;subst hj;exact .inr rfl
  · simp [e] at hj;subst hj;exact .inl (List.mem_of_getElem? q)
structure ApI (n L:Nat) (i:Nat) (l:List FileD):Prop where
 len:l.length=n
 apt:Apt (l.take i)
 long:∀f∈l,f.p.length≤L+i
theorem ziz {l:List FileD} {f:FileD} (h:Apt l) (hf:∀g∈l,g.p≠f.p):Apt (l++[f]):=by
 unfold Apt at h ⊢;rw [List.map_append,List.nodup_append];refine ⟨h,by simp,fun a ha b hb e=>?_⟩;obtain ⟨g,hg,rfl⟩:=List.mem_map.1 ha;simp only [List.map_cons,List.map_nil,List.mem_singleton] at hb;exact hf g hg (e.trans hb)
theorem ApI.moved {n L i:Nat} {l:List FileD} {f:FileD} (h:ApI n L i l) (hf:l[i]? = some f) (b:Bool):ApI n L (i+1) (zA l i (zau l b f.p)) where
 len:=by rw [zds];exact h.len
 apt:=by
  rw [List.take_add_one,zex,zc6 hf];exact ziz h.apt fun g hg=>zkh g (List.mem_of_mem_take hg)
 long g hg:=by
  rcases zhh hg with q|q
  · have:=h.long g q;omega
  · rw [q];exact zeG h.long _ _ (h.long f (List.mem_of_getElem? hf))
theorem ApI.stay {n L i:Nat} {l:List FileD} {f:FileD} (h:ApI n L i l) (hf:l[i]? = some f) (hn:(l.take i).any (fun g=>g.p==f.p)=false):ApI n L (i+1) l where
 len:=h.len
 apt:=by
  rw [List.take_add_one,hf];refine ziz h.apt fun g hg e=>?_;rw [List.any_eq_false] at hn;exact hn g hg (by simpa using e)
 long g hg:=by have:=h.long g hg;omega
theorem zd2 {l:List FileD} {c:List ClashD} {i:Nat} {f:FileD} (hf:l[i]? = some f):zQ (l,c) i=if (l.take i).any (fun g=>g.p==f.p)=true then (zA l i (zau l false f.p),c++[⟨f.p,5⟩]) else (l,c):=by
 unfold zQ;simp only [hf]
theorem zdo {l:List FileD} {c:List ClashD} {i:Nat} {f:FileD} (hf:l[i]? = some f):zah (l,c) i=if 0<za8 l f.p then (zA l i (zau l true f.p),c++[⟨f.p,6⟩]) else (l,c):=by
 unfold zah;simp only [hf]
theorem zcq {α:Type} (F:α→Nat→α) (a:α) (i:Nat):(List.range (i+1)).foldl F a=F ((List.range i).foldl F a) i:=by
 rw [List.range_succ,List.foldl_append];rfl
def zdc (ds:List FT) (i:Nat) (p:Pth):List FT:=ds.modify i fun x=>({ x.1 with p:=p },x.2)
theorem zoe (ds:List FT) (i:Nat) (p:Pth):(zdc ds i p).map (·.1)=zA (ds.map (·.1)) i p:=by
 unfold zdc zA;apply List.ext_getElem?;intro j;rw [List.getElem?_map,List.getElem?_modify,List.getElem?_modify,List.getElem?_map]
 cases ds[j]? with
 | none=>simp
 | some x=>by_cases e:i=j <;> simp [e]
theorem znD {ds:List FT} {i:Nat} {x:FT} (h:ds[i]? = some x) (p:Pth):(ds.flatMap ftL).set (i*3) (strC p)=(zdc ds i p).flatMap ftL:=by
 obtain ⟨hi,hx⟩:=List.getElem?_eq_some_iff.1 h;have e1:ds=ds.take i++(x::ds.drop (i+1)):=by rw [←hx,List.getElem_cons_drop,List.take_append_drop]
 have e2:zdc ds i p=ds.take i++(({ x.1 with p:=p },x.2)::ds.drop (i+1)):=by
  unfold zdc;rw [List.modify_eq_take_cons_drop hi,hx]
 have l1:((ds.take i).flatMap ftL).length=i*3:=by rw [zdv,List.length_take,Nat.min_eq_left (by omega)]
 rw [e2]
 conv=>lhs;rw [e1]
 rw [List.flatMap_append,List.flatMap_append,List.flatMap_cons,List.flatMap_cons,List.set_append_right _ _ (by omega),l1,Nat.sub_self];rfl
theorem MGA.move {w:World} {z mb so st cb N g i:Nat} {s:MSt} {f:FileD} (h:MGA w z mb so st cb N (some ⟨g,0,none⟩) s) (hf:s.t[i]? = some f) (p:Pth) :w.cell? ⟨g,i*3,none⟩=some (strC f.p)∧w.frozen? ⟨g,i*3,none⟩=false∧MGA (w.setCell ⟨g,i*3,none⟩ (strC p)) z mb so st cb N (some ⟨g,0,none⟩) { s with t:=zA s.t i p }∧Frm z mb cb w (w.setCell ⟨g,i*3,none⟩ (strC p)):=by
 obtain ⟨c,n,f9,h1,h2⟩:=h;obtain ⟨ds,h3,h4,h5⟩:=h2.things;rw [←h3,List.getElem?_map,Option.map_eq_some_iff] at hf;obtain ⟨x,hx,rfl⟩:=hf;have hi:i<ds.length:=(List.getElem?_eq_some_iff.1 hx).1;have hl:ds.length=s.t.length:=by rw [←h3,List.length_map]
 have ht:=Own.turn h4 (i*3) (strC p) (znD hx p);have hc:=zfF hx 0 (strC x.1.p) rfl;rw [Nat.add_zero] at hc;have hk:Kept z [70] [] w (w.setCell ⟨g,i*3,none⟩ (strC p)):=ht.2;have hF:Frm z mb cb w (w.setCell ⟨g,i*3,none⟩ (strC p)):=Kept.mono hk (Nat.le_refl _) (by simp) (by simp)
 refine ⟨(World.ownsRow.cellAt h4 (i*3) (by omega)).trans hc,World.ownsRow.frozenAt h4 (i*3),⟨c,n,f9,h1,⟨?_,Nat.le_trans h2.zs hk.size,h2.zm,h2.zc,⟨zdc ds i p,by rw [zoe,h3],by rw [zds];exact ht.1,fun y hy=>?_⟩,h2.map.keep hk fun t=>?_,h2.cl⟩⟩,hF⟩
 · rw [zds];exact hk.blk h2.blk (by simp) (by decide)
 · obtain ⟨j,hj⟩:=List.mem_iff_getElem?.1 hy;unfold zdc at hj;rw [List.getElem?_modify] at hj
   cases q:ds[j]? with
   | none=>rw [q] at hj;simp at hj
   | some v =>
    rw [q] at hj;have hv:=(h5 v (List.mem_of_getElem? q)).mg h2 hF;by_cases e:i=j
    · simp [e] at hj;subst hj;exact hv
    · simp [e] at hj;subst hj;exact hv
 · rcases t with t|⟨_,e,_,cs,fz,hcc⟩
   · cases t
   · obtain ⟨D,⟨es,clock,q1,_⟩,_⟩:=h2.map;rw [q1] at hcc;cases hcc
end
section
open Go.RowKit Go.Maps
theorem FMap.more {w:World} {z z':Nat} {l:List FileD} {f:Mp} (h:FMap w z l f) (hz:z≤z'):FMap w z' l f :=
 ⟨h.1,fun s v e=>by
  obtain ⟨D,d,h1,h2⟩:=h.2 s v e;exact ⟨D,d,h1,h2.more hz⟩⟩
theorem SideM.toX {w:World} {B z mb cb q:Nat} {s:SideD} {b1 b2 b3 n1 n2 n3:Nat} {f1 f2 f3:Mp} (h:SideM w B q s b1 b2 b3 n1 n2 n3 f1 f2 f3) (hz:B≤z) (hm:w.heap.size≤mb) (hc:w.heap.size≤cb):zan w z mb cb q s:=by
 have key:∀i,i<w.heap.size→i∉[mb,cb]:=fun i hi=>by simp only [List.mem_cons,List.not_mem_nil,or_false];omega
 exact ⟨b1,b2,b3,n1,n2,n3,f1,f2,f3,⟨h.blk,h.m1,h.m2,h.m3,h.p1.more hz,h.p2,h.p3,h.sz⟩,key _ h.blk.lt,key _ h.m1.lt,key _ h.m2.lt,key _ h.m3.lt⟩
def zcW (ds:List FT) (i:Nat) (A:Option Addr) (c:Nat):List FT:=ds.modify i fun x=>(x.1,(A,c))
theorem zo4 (ds:List FT) (i:Nat) (A:Option Addr) (c:Nat):(zcW ds i A c).map (·.1)=ds.map (·.1):=by
 unfold zcW;apply List.ext_getElem?;intro j;rw [List.getElem?_map,List.getElem?_modify,List.getElem?_map]
 cases ds[j]? with
 | none=>simp
 | some x=>by_cases e:i=j <;> simp [e]
theorem zoS {ds:List FT} {i:Nat} {x:FT} (h:ds[i]? = some x) (A:Option Addr) (c:Nat):(ds.flatMap ftL).set (i*3+2) (.slice A x.1.d.length c)=(zcW ds i A c).flatMap ftL:=by
 obtain ⟨hi,hx⟩:=List.getElem?_eq_some_iff.1 h;have e1:ds=ds.take i++(x::ds.drop (i+1)):=by rw [←hx,List.getElem_cons_drop,List.take_append_drop]
 have e2:zcW ds i A c=ds.take i++((x.1,(A,c))::ds.drop (i+1)):=by
  unfold zcW;rw [List.modify_eq_take_cons_drop hi,hx]
 have l1:((ds.take i).flatMap ftL).length=i*3:=by rw [zdv,List.length_take,Nat.min_eq_left (by omega)]
 rw [e2]
 conv=>lhs;rw [e1]
 rw [List.flatMap_append,List.flatMap_append,List.flatMap_cons,List.flatMap_cons,List.set_append_right _ _ (by omega),l1,Nat.add_sub_cancel_left];rfl
theorem MGA.data {w:World} {z mb so st cb N g i:Nat} {s:MSt} {f:FileD} {A:Option Addr} {c:Nat} (h:MGA w z mb so st cb N (some ⟨g,0,none⟩) s) (hf:s.t[i]? = some f) (hd:zo w z (f,(A,c))) :∃v,w.cell? ⟨g,i*3+2,none⟩=some v∧w.frozen? ⟨g,i*3+2,none⟩=false∧MGA (w.setCell ⟨g,i*3+2,none⟩ (.slice A f.d.length c)) z mb so st cb N (some ⟨g,0,none⟩) s∧Frm z mb cb w (w.setCell ⟨g,i*3+2,none⟩ (.slice A f.d.length c)):=by
 obtain ⟨c1,n,f9,h1,h2⟩:=h;obtain ⟨ds,h3,h4,h5⟩:=h2.things;rw [←h3,List.getElem?_map,Option.map_eq_some_iff] at hf;obtain ⟨x,hx,rfl⟩:=hf;have hi:i<ds.length:=(List.getElem?_eq_some_iff.1 hx).1;have hl:ds.length=s.t.length:=by rw [←h3,List.length_map]
 have ht:=Own.turn h4 (i*3+2) (.slice A x.1.d.length c) (zoS hx A c);have hc:=zfF hx 2 (.slice x.2.1 x.1.d.length x.2.2) rfl;have hk:Kept z [70] [] w (w.setCell ⟨g,i*3+2,none⟩ (.slice A x.1.d.length c)):=ht.2;have hF:Frm z mb cb w (w.setCell ⟨g,i*3+2,none⟩ (.slice A x.1.d.length c)):=Kept.mono hk (Nat.le_refl _) (by simp) (by simp)
 refine ⟨_,(World.ownsRow.cellAt h4 (i*3+2) (by omega)).trans hc,World.ownsRow.frozenAt h4 (i*3+2),⟨c1,n,f9,h1,⟨hk.blk h2.blk (by simp) (by decide),Nat.le_trans h2.zs hk.size,h2.zm,h2.zc,⟨zcW ds i A c,by rw [zo4,h3],ht.1,fun y hy=>?_⟩,h2.map.keep hk fun t=>?_,h2.cl⟩⟩,hF⟩
 · obtain ⟨j,hj⟩:=List.mem_iff_getElem?.1 hy;unfold zcW at hj;rw [List.getElem?_modify] at hj
   cases q:ds[j]? with
   | none=>rw [q] at hj;simp at hj
   | some v =>
    rw [q] at hj;by_cases e:i=j
    · subst e;rw [hx] at q;injection q with q;subst q;simp at hj;subst hj;exact hd.mg h2 hF
    · simp [e] at hj;subst hj;exact (h5 v (List.mem_of_getElem? q)).mg h2 hF
 · rcases t with t|⟨_,e,_,cs,fz,hcc⟩
   · cases t
   · obtain ⟨D,⟨es,clock,q1,_⟩,_⟩:=h2.map;rw [q1] at hcc;cases hcc
end
end Go.Proofs.YtmkmbbjgepcioaaGreatDoor
