/- Contract of merge3.Chunks. No statement of the seat is proved here. -/
import Derived.Test.YtmkmbbjgepcioaaGreatDoorSAHq
import Derived.Test.YtmkmbbjgepcioaaGreatDoorSA03
import Derived.Test.YtmkmbbjgepcioaaGreatDoorSA02
import Derived.Deep.DeepCutAuto
import Derived.Deep.CutBlock
import Derived.WalkMore
import Derived.Deep.QuietTactic
import Derived.BigQuiet
import Derived.Test.YtmkmbbjgepcioaaGreatDoorSA04
import Derived.Test.YtmkmbbjgepcioaaGreatDoorSA01
import Derived.Test.YtmkmbbjgepcioaaGreatDoorSA09
namespace Go.Proofs.YtmkmbbjgepcioaaGreatDoor
set_option maxHeartbeats 4000000
set_option maxRecDepth 100000
section
open Go.RowKit
section
variable {α:Type} [DecidableEq α]
def goOn:List α→List α→Bool
 | p::_,q::_=>decide (p=q)
 | _,_=>false
def dels:List α→List α→Bool
 | p::u,v=>decide (lcs u v=lcs (p::u) v)
 | [],_=>false
theorem zjZ {u v:List α} (h:goOn u v=true):∃p u' v',u=p::u'∧v=p::v'∧zt u v=0::zt u' v':=by
 cases u with
 | nil=>simp [goOn] at h
 | cons p u =>
  cases v with
  | nil=>simp [goOn] at h
  | cons q v =>
   simp only [goOn,decide_eq_true_eq] at h;subst h;exact ⟨p,u,v,rfl,rfl,by rw [zt,if_pos rfl]⟩
theorem ztD {u v:List α} (h:goOn u v=false) (hd:dels u v=true):∃p u',u=p::u'∧zt u v=1::zt u' v:=by
 cases u with
 | nil=>simp [dels] at hd
 | cons p u =>
  simp only [dels,decide_eq_true_eq] at hd
  cases v with
  | nil=>exact ⟨p,u,rfl,by rw [zt]⟩
  | cons q v =>
   simp only [goOn,decide_eq_false_iff_not] at h;exact ⟨p,u,rfl,by rw [zt,if_neg h,if_pos hd]⟩
theorem zsw {u v':List α} {q:α} (h:goOn u (q::v')=false) (hd:dels u (q::v')=false):zt u (q::v')=2::zt u v':=by
 cases u with
 | nil=>rw [zt]
 | cons p u =>
  simp only [goOn,decide_eq_false_iff_not] at h;simp only [dels,decide_eq_false_iff_not] at hd;rw [zt,if_neg h,if_neg hd]
theorem zra {u:List α} (hd:dels u []=false):zt u []=[]:=by
 cases u with
 | nil=>rw [zt]
 | cons p u =>
  simp only [dels,decide_eq_false_iff_not] at hd;rw [zb8,zb8] at hd;exact absurd rfl hd
end
theorem zf3 {α:Type} {x:List α} {i:Nat} {p:α} {x':List α} (h:x.drop i=p::x'):i<x.length∧x'=x.drop (i+1):=by
 refine ⟨?_,?_⟩
 · have:=congrArg List.length h;simp at this;omega
 · rw [←List.tail_drop,h];rfl
theorem zhK (a b:Nat):((a:Int)==(b:Int))=decide (a=b):=by
 by_cases h:a=b
 · subst h;simp
 · have h2:¬((a:Int)=(b:Int)):=by omega
   simp [h,h2]
def Small (l:List EdD) (m:Nat):Prop:=l.length+m≤8000∧∀e∈l,e.n+m≤8000
theorem Small.add {l:List EdD} {m:Nat} (h:Small l (m+1)) (op:Nat):Small (addP l op) m:=by
 rcases List.eq_nil_or_concat l with rfl|⟨l',e,rfl⟩
 · have h1:=h.1;simp only [List.length_nil] at h1;refine ⟨by simp only [addP,List.length_cons,List.length_nil];omega,fun e he=>?_⟩;simp only [addP,List.mem_cons,List.not_mem_nil,or_false] at he;subst he;show 1+m≤8000;omega
 · rw [List.concat_eq_append] at h ⊢;obtain ⟨h1,h2⟩:=h;have h3:=h2 e (by simp);simp only [List.length_append,List.length_cons,List.length_nil] at h1;rw [zcY]
   split
   · refine ⟨by simp only [List.length_append,List.length_cons,List.length_nil];omega,fun x hx=>?_⟩
     rcases List.mem_append.1 hx with q|q
     · have:=h2 x (List.mem_append_left _ q);omega
     · have:=List.mem_singleton.1 q;subst this;show e.n+1+m≤8000;omega
   · refine ⟨by simp only [List.length_append,List.length_cons,List.length_nil];omega,fun x hx=>?_⟩
     rcases List.mem_append.1 hx with q|q
     · have:=h2 x q;omega
     · have:=List.mem_singleton.1 q;subst this;show 1+m≤8000;omega
theorem Small.mono {l:List EdD} {m m':Nat} (h:Small l m) (hm:m'≤m):Small l m':=⟨by have:=h.1;omega,fun e he=>by have:=h.2 e he;omega⟩
theorem Tab.kept {w w':World} {lo G base:Nat} {x y:List Nat} (h:Tab w lo G x y) (hk:Kept base [328] [] w w'):Tab w' lo G x y:=by
 obtain ⟨h0,gs,h1,h2,h3⟩:=h;refine ⟨h0,gs,h1,hk.blk h2 (by simp) (by decide),fun k g hg=>?_⟩;obtain ⟨q1,q2⟩:=h3 k g hg;exact ⟨q1,hk.blk q2 (by simp) (by decide)⟩
theorem zqN (d l:List (List UInt8)):numL d l=natL (l.map fun s=>d.idxOf s):=by simp [numL,natL]
theorem zpe {d a b:List (List UInt8)} (ha:∀s∈a,s∈d):zt (a.map fun s=>d.idxOf s) (b.map fun s=>d.idxOf s)=zt a b :=
 zdP (fun s=>d.idxOf s) _ a b (Nat.le_refl _) (fun x hx _ _ h=>zmH (ha x hx) h)
def lenV:Value→Nat
 | .slice _ n _=>n
 | _=>0
theorem ze.tail {w:World} {B n c g o:Nat} {v:Value} {xs:List Value} (h:ze w B 1 (some ⟨g,o,none⟩) (n+1) (v::xs)) (hc:n+1≤c):ze w B 1 (if c=1 then some ⟨g,o,none⟩ else some ⟨g,o+1,none⟩) n xs:=by
 have h1:=h.cut (k:=1) (by omega) hc;simpa [zJ] using h1
def zfJ (a b:List (List UInt8)) (w:World) (r:Ending) (w':World):Prop:=∃A c,r = .returned (.tuple #[.slice A (zx a b).length c,.int .i64 0])∧Own w' w.heap.size 328 2 A (zx a b).length c (edLs (zx a b))∧Below w.heap.size w w'
theorem zn3 (a b:List (List UInt8)) (A C:Option Addr) (c d B:Nat) (w:World) (ha:ze w B 1 A a.length (strL a)) (hb:ze w B 1 C b.length (strL b)) (hB:B≤w.heap.size) (hal:a.length≤4000) (hbl:b.length≤4000) (hsa:∀s∈a,s.length≤maxLen) (hsb:∀s∈b,s.length≤maxLen) :Calls Tryz.prog 274 #[.slice A a.length c,.slice C b.length d] w (zfJ a b w):=by
 have HP:=zz (show zfJ a b w=fun r w'=>∃A c,r = .returned (.tuple #[.slice A (zx a b).length c,.int .i64 0])∧Own w' w.heap.size 328 2 A (zx a b).length c (edLs (zx a b))∧Below w.heap.size w w' from rfl);rw [HP.out];clear HP;have hmm:=@run_makeMap Tryz.prog;have u1:decide ((4000:Int)<(a.length:Int))=false:=decide_eq_false (by omega);have u2:decide ((4000:Int)<(b.length:Int))=false:=decide_eq_false (by omega);go_enter Tryz.func274,Tryz.ntmps274
 go_wp2_with fail
 go_step3
 go_wp2_with fail
 clear u1 u2;have d0:Dic (w.alloc (.map #[] 0)) w.heap.size []:=Dict.made _ _ _ _;have k0:Keep zl w (w.alloc (.map #[] 0)):=(Keep.refl _ _).alloc _;have hz0:w.heap.size<(w.alloc (.map #[] 0)).heap.size:=by simp
 generalize w.alloc (.map #[] 0)=w0 at *;refine (zkr [] a w.heap.size B c A w0 d0 (ha.kept k0 hB (fun _ _ h=>h)) hB (by omega) (by simp) hsa).mono ?_;rintro r w1 ⟨G1,rfl,q1,hg1,d1,k1⟩
 go_wp2_with fail
 have hz1:=k1.size;refine (zkr (dict [] a) b w.heap.size B d C w1 d1 ((hb.kept k0 hB (fun _ _ h=>h)).kept k1 (by omega) (fun i hi h=>by unfold Only at h;omega)) hB (by omega) (by have:=zkf [] a;simp at this;omega) hsb).mono ?_;rintro r w2 ⟨G2,rfl,q2,hg2,d2,k2⟩;have hz2:=k2.size;have q1':=q1.keep k2 (by unfold Only;omega);obtain ⟨t,ht⟩:=zhX (dict [] a) b;have hnum:numL (dict [] a) a=numL (dict (dict [] a) b) a:=by rw [ht];exact (ziB (zf2 [] a)).symm
 rw [hnum] at q1';have hmem:∀s∈a,s∈dict (dict [] a) b:=fun s hs=>by rw [ht];exact List.mem_append_left _ (zf2 [] a s hs)
 have hst:=zpe (b:=b) hmem;rw [zqN] at q1' q2;have hk:Keep zl w w2:=(k0.then_ k1 (fun i hi h=>by unfold Only at h;omega)).then_ k2 (fun i hi h=>by unfold Only at h;omega);clear ht hnum hmem q1 d1 d2 d0 k1 k2;generalize hX:(a.map fun s=>(dict (dict [] a) b).idxOf s)=X at *;generalize hY:(b.map fun s=>(dict (dict [] a) b).idxOf s)=Y at *;have hXl:a.length=X.length:=by rw [←hX];simp
 have hYl:b.length=Y.length:=by rw [←hY];simp
 rw [hXl,hYl];rw [hXl] at hal;rw [hYl] at hbl;have hS:=zz (show zx a b=zaX (zt X Y) from by unfold zx;rw [hst]);have r1:ze w2 w2.heap.size 1 (some ⟨G1,0,none⟩) X.length (natL X):=(ze.of_blk (n:=X.length) (xs:=natL X) q1' rfl (by simp [natL])).more (by have:=q1'.lt;omega);have r2:ze w2 w2.heap.size 1 (some ⟨G2,0,none⟩) Y.length (natL Y):=(ze.of_blk (n:=Y.length) (xs:=natL Y) q2 rfl (by simp [natL])).more (by have:=q2.lt;omega);clear hst q1' q2 hX hY hXl hYl ha hb hmm k0;have hz3:w.heap.size≤w2.heap.size:=hk.size
 go_wp2_with fail
 go_loopw [7,8,9] (fun s7 s8 s9 wr=>∃x y l A1 c1 A2 c2 A3 c3,s7 = .slice A1 x.length c1∧s8 = .slice A2 y.length c2∧s9 = .slice A3 (List.length l) c3∧x.length≤c1∧c1≤4000∧y.length≤c2∧c2≤4000∧ze wr w2.heap.size 1 A1 x.length (natL x)∧ze wr w2.heap.size 1 A2 y.length (natL y)∧Own wr w2.heap.size 328 2 A3 l.length c3 (edLs l)∧Small l (x.length+y.length)∧(zt x y).foldl addP l=zaX (zt X Y)∧Kept w2.heap.size [328] [] w2 wr) (fun s7 _ _ _=>lenV s7)
 case atStart=>exact ⟨X,Y,[],_,_,_,_,_,_,rfl,rfl,rfl,Nat.le_refl _,hal,Nat.le_refl _,hbl,r1,r2,Own.nil _ _ _ _,⟨by simp;omega,by simp⟩,rfl,Kept.refl _ _ _ _⟩
 case round =>
  obtain ⟨x,y,l,A1,c1,A2,c2,A3,c3,rfl,rfl,rfl,hx1,hx2,hy1,hy2,rx,ry,ol,hsm,hfold,hkp⟩:=hrel;go_upto_region 6 with fail
  go_cut [44] (fun s44 wx=>s44 = .bool (goOn x y)∧∃n,wx=wr.drewN n)
  case first =>
   cases x with
   | nil =>
    go_region
    go_wp2_with fail
    go_meet
    exact ⟨rfl,1,rfl⟩
   | cons p x' =>
    cases y with
    | nil =>
     go_region
     go_wp2_with fail
     go_meet
     exact ⟨rfl,1,rfl⟩
    | cons q y' =>
     obtain ⟨ga,oa,rfl,hga,hca⟩:=rx.natAt (k:=0) rfl rfl;obtain ⟨gb,ob,rfl,hgb,hcb⟩:=ry.natAt (k:=0) rfl rfl;have ca:wr.drew.cell? ⟨ga,oa+0,none⟩=some (.int .i64 (p:Int)):=hca;have cb:wr.drew.cell? ⟨gb,ob+0,none⟩=some (.int .i64 (q:Int)):=hcb;rw [Nat.add_zero] at hca hcb ca cb;have hpq:((p:Int)==(q:Int))=goOn (p::x') (q::y'):=by
      exact zhK _ _
     generalize goOn (p::x') (q::y')=z at *
     go_region
     all_goals
      go_wp2_with fail
      go_meet
      exact ⟨rfl,1,rfl⟩
  case rest =>
   obtain ⟨rfl,n,rfl⟩:=hcut
   cases hz:goOn x y with
   | true =>
    obtain ⟨p,x',y',rfl,rfl,hsteps⟩:=zjZ hz;rw [hsteps] at hfold;have hsm1:Small l ((x'.length+1+y'.length)+1):=hsm.mono (by simp;omega);obtain ⟨ga,oa,rfl,hga,-⟩:=rx.natAt (k:=0) rfl rfl;obtain ⟨gb,ob,rfl,hgb,-⟩:=ry.natAt (k:=0) rfl rfl;have ha:=(zff l 0 A3 c3 w2.heap.size _ (ol.drewN n) (by have:=hkp.size;exact this) (by have:=hsm.1;omega) (fun e he=>by have:=hsm.2 e he;omega));have hsm2:=hsm1.add 0;have HF:=zz hfold;clear hfold hsm hsm1 hsteps
    go_wp2_with fail
    refine ha.mono ?_;rintro r w4 ⟨A4,c4,rfl,o4,k4⟩;have rx4:=(rx.drewN n).below (k4.below (Nat.le_refl _) hkp.size (by simp));have ry4:=(ry.drewN n).below (k4.below (Nat.le_refl _) hkp.size (by simp));have k5:=(hkp.drewN n).trans k4;clear ha
    go_wp2_with fail
    go_region
    all_goals
     go_wp2_with fail
     go_roundw
     case rel =>
      refine ⟨x',y',addP l 0,_,c1-1,_,c2-1,A4,c4,by simp,by simp,rfl,by simp at hx1;omega,by omega,by simp at hy1;omega,by omega,ze.tail (v := .int .i64 (p:Int)) rx4 hx1,ze.tail (v := .int .i64 (p:Int)) ry4 hy1,o4,hsm2.mono (by omega),HF.out,k5.drew⟩
     case measure=>simp [lenV]
   | false =>
    have lx:x.length≤4000:=by omega
    have ly:y.length≤4000:=by omega
    have hBz:=hkp.size;have HF:=zz hfold;clear hfold
    go_wp2_with fail
    refine (zry x y A1 A2 c1 c2 w2.heap.size _ (rx.drewN n) (ry.drewN n) (by exact hBz) lx ly).mono ?_;rintro r w5 ⟨G,rfl,ht5,k5⟩;rw [show (wr.drewN n).heap.size=wr.heap.size from rfl] at ht5;have k25:Kept w2.heap.size [328] [] w2 w5:=(hkp.drewN n).trans (Kept.ofKeep k5 (fun _ _ h=>absurd h (fun h=>h)));have o5:Own w5 w2.heap.size 328 2 A3 l.length c3 (edLs l):=(ol.drewN n).kept (b':=0) (E:=[]) (G:=[]) (Kept.ofBelow k5.all) (by simp) (by simp);have rx5:=(rx.drewN n).below (k5.below (B:=w2.heap.size) hBz (fun _ _ h=>h));have ry5:=(ry.drewN n).below (k5.below (B:=w2.heap.size) hBz (fun _ _ h=>h));clear k5 hkp ol rx ry r1 r2 hz;rw [show slV G (x.length+1) = .slice (some ⟨G,0,none⟩) (x.length+1) (x.length+1) from rfl]
    go_wp2_with fail
    go_step3
    go_wp2_with fail
    have hz5:=k25.size
    go_loopw [9,11,12] (fun s9 s11 s12 wr=>∃i j l A3 c3,i≤x.length∧j≤y.length∧s11 = .int .i64 (i:Nat)∧s12 = .int .i64 (j:Nat)∧s9 = .slice A3 (List.length l) c3∧Own wr w2.heap.size 328 2 A3 l.length c3 (edLs l)∧Small l ((x.length-i)+(y.length-j))∧(zt (x.drop i) (y.drop j)).foldl addP l=zaX (zt X Y)∧Kept w2.heap.size [328] [] w5 wr) (fun _ s11 s12 _=>(x.length-(intOf s11).toNat)+(y.length-(intOf s12).toNat))
    case atStart=>exact ⟨0,0,l,A3,c3,Nat.zero_le _,Nat.zero_le _,rfl,rfl,rfl,o5,by simpa using hsm,by simpa using HF.out,Kept.refl _ _ _ _⟩
    case round =>
     obtain ⟨i,j,l,A3,c3,hi,hj,rfl,rfl,rfl,ol,hsm,hfold,hkp⟩:=hrel;have ht:=ht5.kept hkp;have rx6:=rx5.below (hkp.below (Nat.le_refl _) hz5 (by simp));have ry6:=ry5.below (hkp.below (Nat.le_refl _) hz5 (by simp));have HF2:=zz hfold;clear hfold;go_upto_region 11 with fail
     go_cut [54] (fun s54 wx=>s54 = .bool (goOn (x.drop i) (y.drop j))∧∃n,wx=wr.drewN n)
     case first =>
      by_cases h1:i<x.length
      · have b1:decide (i<x.length)=true:=decide_eq_true h1;by_cases h2:j<y.length
        · have b2:decide (j<y.length)=true:=decide_eq_true h2;obtain ⟨p,hp⟩:∃s,x[i]? = some s:=⟨x[i],List.getElem?_eq_getElem h1⟩;obtain ⟨q,hq⟩:∃s,y[j]? = some s:=⟨y[j],List.getElem?_eq_getElem h2⟩;obtain ⟨ga,oa,rfl,hga,hca⟩:=rx6.natAt hp rfl;obtain ⟨gb,ob,rfl,hgb,hcb⟩:=ry6.natAt hq rfl;have ca:wr.drew.cell? ⟨ga,oa+i,none⟩=some (.int .i64 (p:Int)):=hca;have cb:wr.drew.cell? ⟨gb,ob+j,none⟩=some (.int .i64 (q:Int)):=hcb;have hpq:((p:Int)==(q:Int))=goOn (x.drop i) (y.drop j):=by
           rw [show x.drop i=p::x.drop (i+1) from List.drop_eq_getElem?_toList_append.trans (by rw [hp];rfl),show y.drop j=q::y.drop (j+1) from List.drop_eq_getElem?_toList_append.trans (by rw [hq];rfl)];exact zhK _ _
          generalize goOn (x.drop i) (y.drop j)=z at *
          go_region
          all_goals
           go_wp2_with fail
           go_meet
           exact ⟨rfl,1,rfl⟩
        · have b2:decide (j<y.length)=false:=decide_eq_false h2;have e:goOn (x.drop i) (y.drop j)=false:=by
           rw [List.drop_of_length_le (Nat.le_of_not_lt h2)];cases x.drop i <;> rfl
          generalize goOn (x.drop i) (y.drop j)=z at *;subst e
          go_region
          all_goals
           go_wp2_with fail
           go_meet
           exact ⟨rfl,1,rfl⟩
      · have b1:decide (i<x.length)=false:=decide_eq_false h1;have e:goOn (x.drop i) (y.drop j)=false:=by
         rw [List.drop_of_length_le (Nat.le_of_not_lt h1)];rfl
        generalize goOn (x.drop i) (y.drop j)=z at *;subst e
        go_region
        all_goals
         go_wp2_with fail
         go_meet
         exact ⟨rfl,1,rfl⟩
     case rest =>
      obtain ⟨rfl,n,rfl⟩:=hcut;have hzr:w2.heap.size≤wr.heap.size:=Nat.le_trans hz5 hkp.size
      cases hz:goOn (x.drop i) (y.drop j) with
      | true =>
       obtain ⟨p,x',y',ex,ey,hsteps⟩:=zjZ hz;obtain ⟨hi1,rfl⟩:=zf3 ex;obtain ⟨hj1,rfl⟩:=zf3 ey;have hf:=HF2.out;rw [hsteps,List.foldl_cons] at hf;have hsm1:Small l ((x.length-(i+1))+(y.length-(j+1))+1):=hsm.mono (by omega);have hsm2:=hsm1.add 0;have HF3:=zz hf;have HC:=zz (zff l 0 A3 c3 w2.heap.size _ (ol.drewN n) hzr (by have:=hsm.1;omega) (fun e he=>by have:=hsm.2 e he;omega));clear hf hsm hsm1 hsteps ex ey
       go_wp2_with fail
       refine HC.out.mono ?_;rintro r w4 ⟨A4,c4,rfl,o4,k4⟩;have k5:=(hkp.drewN n).trans k4;clear HC
       go_wp2_with fail
       go_roundw
       case rel=>exact ⟨i+1,j+1,addP l 0,A4,c4,hi1,hj1,by go_num,by go_num,rfl,o4,hsm2,HF3.out,k5⟩
       case measure=>simp [intOf];omega
      | false =>
       go_upto_region 15 with fail
       go_cut [82] (fun s82 wx=>s82 = .bool (dels (x.drop i) (y.drop j))∧∃m,wx=(wr.drewN n).drewN m)
       case first =>
        by_cases h1:i<x.length
        · have b1:decide (i<x.length)=true:=decide_eq_true h1;obtain ⟨p,hp⟩:∃s,x[i]? = some s:=⟨x[i],List.getElem?_eq_getElem h1⟩;obtain ⟨g0,e1,e2⟩:=ht.row i hi;obtain ⟨g1,e3,e4⟩:=ht.row (i+1) h1;have e5:=(e2.cell j).trans (zeF _ _ j hj);have e6:=(e4.cell j).trans (zeF _ _ j hj);have hpq:((lcs (x.drop (i+1)) (y.drop j):Int)==(lcs (x.drop i) (y.drop j):Int))=dels (x.drop i) (y.drop j):=by
           rw [show x.drop i=p::x.drop (i+1) from List.drop_eq_getElem?_toList_append.trans (by rw [hp];rfl)];exact zhK _ _
          unfold u16V at e5 e6;unfold slV at e1 e3;have q1:wr.cell? ⟨G,i,none⟩=some (.slice (some ⟨g0,0,none⟩) (y.length+1) (y.length+1)):=e1;have q2:wr.cell? ⟨G,i+1,none⟩=some (.slice (some ⟨g1,0,none⟩) (y.length+1) (y.length+1)):=e3;have q3:wr.cell? ⟨g0,j,none⟩=some (.int .u16 (lcs (x.drop i) (y.drop j):Int)):=e5;have q4:wr.cell? ⟨g1,j,none⟩=some (.int .u16 (lcs (x.drop (i+1)) (y.drop j):Int)):=e6;generalize dels (x.drop i) (y.drop j)=z at *;clear e1 e2 e3 e4 e5 e6;have hw1:IntKind.i64.wrap ((i:Int)+1)=(i:Int)+1:=IntWalk.i64_in _ (by omega);have hw0:(0:Int)≤(i:Int)+1:=by omega
          have hw2:((i:Int)+1).toNat=i+1:=by omega
          have hw3:(i:Int)<(x.length:Int):=by omega
          have hw4:(i:Int)<(x.length:Int)+1:=by omega
          have hw5:(j:Int)<(y.length:Int)+1:=by omega
          go_quiet (fail)
          all_goals
           go_wp2_with fail
           go_meet
           exact ⟨rfl,_,rfl⟩
        · have b1:decide (i<x.length)=false:=decide_eq_false h1;have e:dels (x.drop i) (y.drop j)=false:=by
           rw [List.drop_of_length_le (Nat.le_of_not_lt h1)];rfl
          generalize dels (x.drop i) (y.drop j)=z at *;subst e
          go_region
          all_goals
           go_wp2_with fail
           go_meet
           exact ⟨rfl,1,rfl⟩
       case rest =>
        obtain ⟨rfl,m,rfl⟩:=hcut
        cases hd:dels (x.drop i) (y.drop j) with
        | true =>
         obtain ⟨p,x',ex,hsteps⟩:=ztD hz hd;obtain ⟨hi1,rfl⟩:=zf3 ex;have hf:=HF2.out;rw [hsteps,List.foldl_cons] at hf;have hsm1:Small l ((x.length-(i+1))+(y.length-j)+1):=hsm.mono (by omega);have hsm2:=hsm1.add 1;have HF3:=zz hf;have HC:=zz (zff l 1 A3 c3 w2.heap.size _ (ol.drewN (n+m)) hzr (by have:=hsm.1;omega) (fun e he=>by have:=hsm.2 e he;omega));clear hf hsm hsm1 hsteps ex
         go_wp2_with fail
         refine HC.out.mono ?_;rintro r w4 ⟨A4,c4,rfl,o4,k4⟩;have k5:=(hkp.drewN (n+m)).trans k4;clear HC
         go_wp2_with fail
         go_roundw
         case rel=>exact ⟨i+1,j,addP l 1,A4,c4,hi1,hj,by go_num,rfl,rfl,o4,hsm2,HF3.out,k5⟩
         case measure=>simp [intOf];omega
        | false =>
         by_cases h2:j<y.length
         · obtain ⟨q,hq⟩:∃s,y[j]? = some s:=⟨y[j],List.getElem?_eq_getElem h2⟩;have ey:y.drop j=q::y.drop (j+1):=List.drop_eq_getElem?_toList_append.trans (by rw [hq];rfl);rw [ey] at hz hd;have hsteps:=zsw hz hd;have hf:=HF2.out;rw [ey,hsteps,List.foldl_cons] at hf;have hsm1:Small l ((x.length-i)+(y.length-(j+1))+1):=hsm.mono (by omega);have hsm2:=hsm1.add 2;have HF3:=zz hf;have HC:=zz (zff l 2 A3 c3 w2.heap.size _ (ol.drewN (n+m)) hzr (by have:=hsm.1;omega) (fun e he=>by have:=hsm.2 e he;omega));clear hf hsm hsm1 hsteps ey hz hd hq
           go_wp2_with fail
           refine HC.out.mono ?_;rintro r w4 ⟨A4,c4,rfl,o4,k4⟩;have k5:=(hkp.drewN (n+m)).trans k4;clear HC
           go_wp2_with fail
           go_roundw
           case rel=>exact ⟨i,j+1,addP l 2,A4,c4,hi,h2,rfl,by go_num,rfl,o4,hsm2,HF3.out,k5⟩
           case measure=>simp [intOf];omega
         · rw [List.drop_of_length_le (Nat.le_of_not_lt h2)] at hz hd;have hsteps:=zra hd;have hf:=HF2.out;rw [List.drop_of_length_le (Nat.le_of_not_lt h2),hsteps] at hf;have HF3:=zz hf;clear hf hsteps hz hd
           go_wp2_with fail
           rw [Exit.noGoto_ret]
           go_ret2
           have HS2:=HF3.out;rw [List.foldl_nil,←hS.out] at HS2;rw [←HS2];exact ⟨A3,c3,rfl,(ol.drewN (n+m)).mono hz3,hk.all.trans ((k25.trans (hkp.drewN (n+m))).below hz3 hz3 (by simp))⟩
end
section
open Go.RowKit
theorem zsy {l:List EdD} {k:Nat} {e:EdD} (h:l[k]? = some e):(edLs l)[k*2]? = some (.int .i64 (e.op:Int))∧(edLs l)[k*2+1]? = some (.int .i64 (e.n:Int)) :=
 ⟨by simpa [edLs] using zaV zek l k 0 e h (.int .i64 (e.op:Int)) rfl,zaV zek l k 1 e h (.int .i64 (e.n:Int)) rfl⟩
theorem zkz:(Tryz.prog.info? 328).map (·.size)=some 2:=by kernel_rfl
def edC (e:EdD):Array Value:=#[.int .i64 (e.op:Int),.int .i64 (e.n:Int)]
theorem zp8 {w:World} {l:List EdD} {g off k:Nat} {e:EdD} (h:∀j u,(edLs l)[j]? = some u→w.cell? ⟨g,off+j,none⟩=some u) (hk:l[k]? = some e):(Instr.loadAt 328 (.pointer (some ⟨g,off+k*2,none⟩))).run Tryz.prog w = .ok (.agg (edC e)) w:=by
 refine zaE w _ (edC e) Tryz.underlying328 rfl zkz (fun j v hj=>?_);rw [zJ];obtain ⟨h1,h2⟩:=zsy hk;have hj2:j=0∨j=1:=by
  rcases Nat.lt_or_ge j 2 with q|q
  · omega
  · rw [List.getElem?_eq_none (by simpa [edC] using q)] at hj;cases hj
 rcases hj2 with rfl|rfl
 · simp [edC] at hj;subst hj;simpa using h _ _ h1
 · simp [edC] at hj;subst hj;simpa [Nat.add_assoc] using h _ _ h2
theorem zm6 (e:EdD):∀v∈(edC e).toList,v.oneCell'=true:=zht e
def intL (l:List Int):List Value:=l.map (Value.int .i64)
theorem zi6 (l:List Int):∀v∈intL l,v.oneCell'=true:=by
 intro v hv;obtain ⟨s,_,rfl⟩:=List.mem_map.1 hv;rfl
theorem ziZ:Elem Tryz.prog 57 3 1 8:=by
 refine ⟨Tryz.underlying57,?_,by decide⟩;obtain ⟨i,hi,h1,h2,h3⟩:=info_parts (show (Tryz.prog.info? 3).map (fun i=>(i.zero,i.size,i.bytes))=some (some (.int .i64 0),1,8) by kernel_rfl);exact ⟨i,_,hi,h1,h2,h3,rfl⟩
theorem zpf {P:Program} {ops:Array Oper} {rest:List Oper} {o:Oper} {a:Act} {w w':World} {Q:Exit→Act→World→Prop} (hgd:o.guard=none) {t:TypeId} {l c:Operand} (ho:o.op = .makeSlice t l c) {u v r:Value} (hl:a.eval l=u) (hc:a.eval c=v) (hrun:(Instr.makeSlice t u v).run P w = .ok r w') (h:wpList P ops Q rest (a.put o.dst r) w'):wpList P ops Q (o::rest) a w :=
 wpList_plain hgd fun _ hK=>by
  unfold Oper.wp execOp;simp only [ho,hl,hc,Sem.run_bind,hrun,Result.andThen_ok,Sem.run_pure]
  exact hK _ _ h
theorem znE (w:World) (n:Nat) (hn:n≤1000000):∃w',(Instr.makeSlice 57 (.int .i64 0) (.int .i64 (n:Int))).run Tryz.prog w = .ok (.slice (some ⟨w.heap.size,0,none⟩) 0 n) w'∧Own w' w.heap.size 3 1 (some ⟨w.heap.size,0,none⟩) 0 n []∧Below w.heap.size w w':=by
 obtain ⟨i,hi,h1,h2,h3⟩:=info_parts zlr;have hrun:=run_makeSlice (P:=Tryz.prog) w 57 3 i (.int .i64 0) Tryz.underlying57 hi h1 .i64 .i64 0 (n:Int) (by omega) (by omega) (by rw [h2];simp;omega) (by rw [h3];omega) (by omega);rw [Int.toNat_natCast] at hrun;refine ⟨_,hrun,World.ownsRow_made w _ n (Nat.le_refl _) (by unfold maxLen;omega) (by simp [madeCells,h2]),?_⟩;exact (Below.refl _ _).alloc (Nat.le_refl _) _
theorem zme (op:Nat) (l:List EdD) (j:Nat):zu (⟨op,0⟩::l) j=zu l j:=by
 rw [zu]
 split
 · simp
 · split
   · rfl
   · simp
theorem zoX (n:Nat) (l:List EdD) (j:Nat):zu (⟨0,n+1⟩::l) j=(j:Int)::zu (⟨0,n⟩::l) (j+1):=by
 rw [zu,zu,if_pos rfl,if_pos rfl];simp only
 rw [List.range_succ_eq_map,List.map_cons,List.map_map,List.cons_append]
 congr 1
 rw [show j+(n+1)=j+1+n by omega]
 congr 1
 exact List.map_congr_left fun i _=>by simp only [Function.comp];omega
theorem zmU (n:Nat) (l:List EdD) (j:Nat):zu (⟨2,n+1⟩::l) j=zu (⟨2,n⟩::l) (j+1):=by
 have e:j+(n+1)=j+1+n:=by omega
 simp [zu,e]
theorem ztQ (n:Nat) (l:List EdD) (j:Nat):zu (⟨1,n+1⟩::l) j=-1::zu (⟨1,n⟩::l) j:=by
 simp [zu,List.replicate_succ]
theorem zlB:∀{l:List EdD},canE l→∀e∈l,e.op≤2
 | [],_,e,he=>by cases he
 | x::l,h,e,he=>by
  rcases List.mem_cons.1 he with rfl|he
  · exact h.head.2
  · exact zlB h.tail e he
def zhp (a b:List (List UInt8)) (w:World) (r:Ending) (w':World):Prop:=∃A c,r = .returned (.tuple #[.slice A (zu (zx a b) 0).length c,.int .i64 0])∧Own w' w.heap.size 3 1 A (zu (zx a b) 0).length c (intL (zu (zx a b) 0))∧Below w.heap.size w w'
theorem zky (a b:List (List UInt8)) (A C:Option Addr) (c d B:Nat) (w:World) (ha:ze w B 1 A a.length (strL a)) (hb:ze w B 1 C b.length (strL b)) (hB:B≤w.heap.size) (hal:a.length≤4000) (hbl:b.length≤4000) (hsa:∀s∈a,s.length≤maxLen) (hsb:∀s∈b,s.length≤maxLen) :Calls Tryz.prog 239 #[.slice A a.length c,.slice C b.length d] w (zhp a b w):=by
 have HP:=zz (show zhp a b w=fun r w'=>∃A c,r = .returned (.tuple #[.slice A (zu (zx a b) 0).length c,.int .i64 0])∧Own w' w.heap.size 3 1 A (zu (zx a b) 0).length c (intL (zu (zx a b) 0))∧Below w.heap.size w w' from rfl);rw [HP.out];clear HP;have HD:=zz (zn3 a b A C c d B w ha hb hB hal hbl hsa hsb);unfold zfJ at HD;have hpl:=zcf (zx a b) 0;obtain ⟨_,hfa,hfb,hel⟩:=zd7 a b;have hop:=zz (zlB (zpU a b).2);rw [hfa] at hpl;obtain ⟨P,hP⟩:∃P,zu (zx a b) 0=P:=⟨_,rfl⟩;rw [hP] at hpl ⊢;generalize zx a b=E at *;have HPE:=zz hP;clear ha hb hP hsa hsb hfa;go_enter Tryz.func239,Tryz.ntmps239
 go_wp2_with (go_at_call 274;refine HD.out.mono ?_)
 rintro _ w1 ⟨A1,c1,rfl,o1,b1⟩;have hz1:=b1.size;have HE:=zz (show ∀W,Below w1.heap.size w1 W→ze W w1.heap.size 2 A1 E.length (edLs E) from fun W k=>o1.reads.below k);have hel1:(E.length:Int)≤8000:=by omega
 obtain ⟨w2,hmk,o2,b2⟩:=znE w1 a.length (by omega);have HMK:=zz hmk;have O2:=zz o2;have HB2:=zz b2;have HB1:=zz b1;clear o1 hmk o2 b2 b1 HD
 go_wp2_with (refine zpf rfl rfl rfl rfl HMK.out ?_)
 generalize hz0:w1.heap.size=z1 at *
 go_loopw [8,9,26] (fun s8 s9 s26 wr=>∃(k j:Nat) (out:List Int) (A8:Option Addr) (c8:Nat),s8 = .slice A8 out.length c8∧s9 = .int .i64 (j:Nat)∧s26 = .int .i64 (k:Nat)∧k≤E.length∧Hid (out++zu (E.drop k) j=P∧j+z6 (E.drop k)=b.length)∧Own wr z1 3 1 A8 out.length c8 (intL out)∧Below z1 w1 wr) (fun _ _ s26 _=>E.length-(intOf s26).toNat)
 case atStart=>exact ⟨0,0,[],_,_,rfl,rfl,rfl,Nat.zero_le _,zz ⟨by rw [List.drop_zero];exact HPE.out,by rw [List.drop_zero,hfb];omega⟩,O2.out,HB2.out⟩
 case round =>
  obtain ⟨k,j,out,A8,c8,rfl,rfl,rfl,hk,HO,ho,hb⟩:=hrel;have hz:=hb.size;by_cases hlt:k<E.length
  · obtain ⟨e,he⟩:∃e,E[k]? = some e:=⟨_,List.getElem?_eq_getElem hlt⟩;obtain ⟨g,o,rfl,_,hcl⟩:=(HE.out _ hb).at0 (by omega) (by omega);have HL:=zz (zp8 hcl he);have hdr:E.drop k=e::E.drop (k+1):=List.drop_eq_getElem?_toList_append.trans (by rw [he];rfl);have hop1:=hop.out e (List.mem_of_getElem? he);rw [hdr] at HO;obtain ⟨rest,hrest⟩:∃rest,E.drop (k+1)=rest:=⟨_,rfl⟩;rw [hrest] at HO hdr;have HREST:=zz hrest;clear hrest;have hi0:(0:Int)≤(k:Int):=Int.natCast_nonneg _;have hi1:(k:Int)<(E.length:Int):=by omega
    have O3:=zz ho;have HB3:=zz hb;obtain ⟨op,n⟩:=e;simp only at hop1;clear ho hb hcl he hdr;have hnn:n≤8000:=by
     have h1:=congrArg List.length HO.out.1;have h2:=HO.out.2;rw [List.length_append,zcf,hpl] at h1;simp only [zas,z6,List.map_cons,List.sum_cons] at h1 h2
     split at h1 <;> split at h2 <;> omega
    go_wp2_with (first|(with_reducible refine zad rfl rfl rfl HL.out ?_)|(refine zO rfl rfl (vs:=edC ⟨op,n⟩) rfl rfl (Blk.new _ _ _) rfl zkz (zm6 ⟨op,n⟩) ?_;intro w3 hx3 hk3 hz3;have HQ3:=zz hx3;have HK3:=zz (Keep.ofNew (S:=zl) hk3);have d1:=hx3.cell 1;simp [edC] at d1))
    have O3b:=zz (O3.out.kept (b':=0) (E:=[]) (G:=[]) (Kept.ofKeep HK3.out (fun _ _ h=>absurd h (fun h=>h))) (by simp) (by simp));have HB3b:=zz (HB3.out.trans (HK3.out.all.mono (by omega)));have hq1:z1≤wr.heap.size:=by omega
    clear O3 HK3 HL d1;generalize wr.heap.size=q at *
    go_loopw [8,9,32] (fun s8 s9 s32 wi=>∃(i j2:Nat) (out2:List Int) (A4:Option Addr) (c4:Nat),s8 = .slice A4 out2.length c4∧s9 = .int .i64 (j2:Nat)∧s32 = .int .i64 (i:Nat)∧i≤n∧Hid (out2++zu (⟨op,n-i⟩::rest) j2=P∧j2+z6 (⟨op,n-i⟩::rest)=b.length)∧Own wi z1 3 1 A4 out2.length c4 (intL out2)∧Below z1 w1 wi∧Blk wi q 328 (edC ⟨op,n⟩)) (fun _ _ s32 _=>n-(intOf s32).toNat)
    case atStart=>exact ⟨0,j,out,_,_,rfl,rfl,rfl,Nat.zero_le _,HO,O3b.out,HB3b.out,HQ3.out⟩
    case round =>
     obtain ⟨i,j2,out2,A4,c4,rfl,rfl,rfl,hi,HO4,ho4,hb4,hq4⟩:=hrel;have hz4:=hb4.size;have O4:=zz ho4;have HB4:=zz hb4;have HQ4:=zz hq4;have d0:=hq4.cell 0;have hol:out2.length≤4000:=by
      have:=congrArg List.length HO4.out.1;rw [List.length_append,hpl] at this;omega
     have hjl:j2≤4000:=by have:=HO4.out.2;omega
     simp [edC] at d0;clear ho4 hb4 hq4;by_cases hin:i<n
     · obtain ⟨m,hm⟩:∃m,n-i=m+1:=⟨n-i-1,by omega⟩;have hm2:n-(i+1)=m:=by omega
       have hj0:(0:Int)≤(j2:Int):=Int.natCast_nonneg _;have g1:decide ((i:Int)<(n:Int))=true:=decide_eq_true (by omega);have g2:decide (i<n)=true:=decide_eq_true hin
       rcases (by omega:op=0∨op=2∨op=1) with rfl|rfl|rfl
       · have HN:=zz (show (out2++[(j2:Int)])++zu (⟨0,n-(i+1)⟩::rest) (j2+1)=P∧j2+1+z6 (⟨0,n-(i+1)⟩::rest)=b.length from by
          have h1:=HO4.out.1;have h2:=HO4.out.2;rw [hm,zoX] at h1;rw [hm] at h2;rw [hm2];refine ⟨by rw [←h1];simp,?_⟩;simp only [z6,List.map_cons,List.sum_cons] at h2 ⊢;rw [if_neg (by omega)] at h2 ⊢;omega)
         go_wp2_with (first|(at_builtin;refine zH rfl ziZ rfl rfl (n:=out2.length) (xs:=intL out2) (O4.out.alloc _) rfl (ze.of_blk (n:=1) (size:=1) (xs:=intL [(j2:Int)]) (heap_alloc_new _ _) rfl rfl) (zi6 [(j2:Int)]) (by unfold maxLen;omega) (by omega) (by simp;omega) ?_;intro A5 c5 w5 o5 k5;have O5:=zz o5;have HK5:=zz (((Kept.refl _ _ _ _).alloc _).trans k5);clear o5 k5))
         go_roundw
         case rel=>exact ⟨i+1,j2+1,out2++[(j2:Int)],A5,c5,by rw [List.length_append,List.length_singleton],by go_num,by go_num,by omega,HN,by rw [List.length_append,List.length_singleton];simpa [intL] using O5.out,HB4.out.trans (HK5.out.below (Nat.le_refl _) (by omega) (by simp)),HK5.out.blk HQ4.out (by simp) (by decide)⟩
         case measure=>simp [intOf];omega
       · have HN:=zz (show out2++zu (⟨2,n-(i+1)⟩::rest) (j2+1)=P∧j2+1+z6 (⟨2,n-(i+1)⟩::rest)=b.length from by
          have h1:=HO4.out.1;have h2:=HO4.out.2;rw [hm,zmU] at h1;rw [hm] at h2;rw [hm2];refine ⟨h1,?_⟩;simp only [z6,List.map_cons,List.sum_cons] at h2 ⊢;rw [if_neg (by omega)] at h2 ⊢;omega)
         go_wp2_with fail
         go_roundw
         case rel=>exact ⟨i+1,j2+1,out2,A4,c4,rfl,by go_num,by go_num,by omega,HN,O4.out,HB4.out,HQ4.out⟩
         case measure=>simp [intOf];omega
       · have HN:=zz (show (out2++[-1])++zu (⟨1,n-(i+1)⟩::rest) j2=P∧j2+z6 (⟨1,n-(i+1)⟩::rest)=b.length from by
          have h1:=HO4.out.1;have h2:=HO4.out.2;rw [hm,ztQ] at h1;rw [hm] at h2;rw [hm2];refine ⟨by rw [←h1];simp,?_⟩;simp [z6] at h2 ⊢;omega)
         go_wp2_with (first|(at_builtin;refine zH rfl ziZ rfl rfl (n:=out2.length) (xs:=intL out2) (O4.out.alloc _) rfl (ze.of_blk (n:=1) (size:=1) (xs:=intL [(-1:Int)]) (heap_alloc_new _ _) rfl rfl) (zi6 [(-1:Int)]) (by unfold maxLen;omega) (by omega) (by simp;omega) ?_;intro A5 c5 w5 o5 k5;have O5:=zz o5;have HK5:=zz (((Kept.refl _ _ _ _).alloc _).trans k5);clear o5 k5))
         go_roundw
         case rel=>exact ⟨i+1,j2,out2++[(-1:Int)],A5,c5,by rw [List.length_append,List.length_singleton],by go_num,by go_num,by omega,HN,by rw [List.length_append,List.length_singleton];simpa [intL] using O5.out,HB4.out.trans (HK5.out.below (Nat.le_refl _) (by omega) (by simp)),HK5.out.blk HQ4.out (by simp) (by decide)⟩
         case measure=>simp [intOf];omega
     · obtain rfl:i=n:=by omega
       have HN:=zz (show out2++zu rest j2=P∧j2+z6 rest=b.length from by
        have h1:=HO4.out.1;have h2:=HO4.out.2;rw [Nat.sub_self,zme] at h1;rw [Nat.sub_self] at h2;refine ⟨h1,?_⟩;simp only [z6,List.map_cons,List.sum_cons] at h2 ⊢
        split at h2 <;> omega)
       have hxx:¬(i<i):=Nat.lt_irrefl _
       go_wp2_with fail
       go_roundw
       case rel=>exact ⟨k+1,j2,out2,A4,c4,rfl,by go_num,by go_num,hlt,zz (by rw [HREST.out];exact HN.out),O4.out,HB4.out⟩
       case measure=>simp [intOf];omega
  · obtain rfl:k=E.length:=by omega
    have hP:out=P:=by
     have:=HO.out.1;rw [List.drop_length,zu,List.append_nil] at this;exact this
    clear HO HPE;subst hP;have hbb:Below w.heap.size w wr:=HB1.out.trans (hb.mono (by omega));have hoo:Own wr w.heap.size 3 1 A8 out.length c8 (intL out):=ho.mono (by omega)
    go_wp2_with fail
    go_ret2
    exact ⟨_,_,rfl,hoo,hbb⟩
end
section
open Go.RowKit
theorem CkL.low {w:World} {z z':Nat} {A:Option Addr} {cp:Nat} {l:List ChunkD} (h:CkL w z A cp l) (hz:z'≤z):CkL w z' A cp l:=by
 rcases h with h|⟨ini,tvi,x,v,p,e,h⟩
 · exact .inl h
 · exact .inr ⟨ini,tvi,x,v,p,e,h.len,h.own.mono hz,Nat.le_trans hz h.lo,h.hi,fun k y u e1 e2=>(h.old k y u e1 e2).low hz,h.last,h.apart⟩
theorem CkL.nil_ (w:World) (z:Nat):CkL w z none 0 [] := .inl ⟨rfl,rfl,rfl⟩
def BndC (l:List ChunkD) (x y z:Nat):Prop:=∀c∈l,c.b.length≤x∧c.o.length≤y∧c.t.length≤z
theorem BndC.mono {l:List ChunkD} {x y z x' y' z':Nat} (h:BndC l x y z) (h1:x≤x') (h2:y≤y') (h3:z≤z'):BndC l x' y' z':=fun c hc=>by
 have:=h c hc;omega
theorem zh2 {l:List ChunkD} {x y z:Nat} (h:BndC l x y z) (b o t:List (List UInt8)):BndC (addC l b o t) (x+b.length) (y+o.length) (z+t.length):=by
 by_cases h0:b.length+o.length+t.length=0
 · have:addC l b o t=l:=by unfold addC;rw [if_pos h0]
   rw [this];exact h.mono (by omega) (by omega) (by omega)
 · rcases List.eq_nil_or_concat l with rfl|⟨ini,q,rfl⟩
   · rw [zd1 h0];intro c hc;simp at hc;subst hc;simp only
     omega
   · rw [List.concat_eq_append] at *;by_cases hk:zV b o t=0∧q.kind=0
     · rw [zec h0 hk.1 hk.2];intro c hc
       rcases List.mem_append.1 hc with hc|hc
       · have:=h c (List.mem_append_left _ hc);omega
       · rw [List.mem_singleton.1 hc];have:=h q (List.mem_append_right _ (List.mem_singleton.2 rfl));simp only [List.length_append]
         omega
     · rw [zeo h0 (by omega)];intro c hc
       rcases List.mem_append.1 hc with hc|hc
       · have:=h c hc;omega
       · rw [List.mem_singleton.1 hc];simp only
         omega
theorem zhB (l:List ChunkD) (b o t:List (List UInt8)):(addC l b o t).length≤l.length+1:=by
 by_cases h0:b.length+o.length+t.length=0
 · have:addC l b o t=l:=by unfold addC;rw [if_pos h0]
   rw [this];omega
 · rcases List.eq_nil_or_concat l with rfl|⟨ini,q,rfl⟩
   · rw [zd1 h0];simp
   · rw [List.concat_eq_append] at *;by_cases hk:zV b o t=0∧q.kind=0
     · rw [zec h0 hk.1 hk.2];simp
     · rw [zeo h0 (by omega)];simp
theorem zbS (l:List (List UInt8)) (i j:Nat):(seg l i j).length=min (j-i) (l.length-i):=by
 unfold seg;rw [List.length_take,List.length_drop]
theorem ze.seg_ {w:World} {B n cap:Nat} {A:Option Addr} {l:List (List UInt8)} (h:ze w B 1 A n (strL l)) (hn:n=l.length) {i j:Nat} (hij:i≤j) (hj:j≤n) (hc:n≤cap):ze w B 1 (if cap=i then A else A.map (·.add (i*1))) (seg l i j).length (strL (seg l i j)):=by
 have h1:=(h.cut (k:=i) (cap:=cap) (by omega) hc).front (k:=j-i) (by omega);rw [zbS,Nat.min_eq_left (by omega)];have e:((strL l).drop (i*1)).take ((j-i)*1)=strL (seg l i j):=by
  unfold seg strL;rw [Nat.mul_one,Nat.mul_one,List.map_take,List.map_drop]
 rw [←e];exact h1
structure ChInv (b o t:List (List UInt8)) (pa pb:List Int) (k:Nat) (s:CurC):Prop where
 f:s.f≤k
 i:s.i≤o.length
 j:s.j≤t.length
 pa:∀(m:Nat) (x:Int),k≤m→pa[m]? = some x→0≤x→(s.i:Int)≤x
 pb:∀(m:Nat) (x:Int),k≤m→pb[m]? = some x→0≤x→(s.j:Int)≤x
 len:s.out.length≤2*k
 bnd:BndC s.out s.f s.i s.j
theorem ChInv.start (b o t:List (List UInt8)) (pa pb:List Int):ChInv b o t pa pb 0 ⟨[],0,0,0⟩ :=
 ⟨Nat.le_refl _,Nat.zero_le _,Nat.zero_le _,fun _ _ _ _ h=>by simpa using h,fun _ _ _ _ h=>by simpa using h,Nat.le_refl _,fun _ h=>by cases h⟩
theorem ChInv.skip {b o t:List (List UInt8)} {pa pb:List Int} {k:Nat} {s:CurC} (h:ChInv b o t pa pb k s):ChInv b o t pa pb (k+1) s :=
 ⟨Nat.le_succ_of_le h.f,h.i,h.j,fun m x hm=>h.pa m x (by omega),fun m x hm=>h.pb m x (by omega),by have:=h.len;omega,h.bnd⟩
theorem ChInv.step {b o t:List (List UInt8)} {pa pb:List Int} {k:Nat} {s:CurC} (h:ChInv b o t pa pb k s) {x y:Nat} (hb4:b.length≤4000) (ho4:o.length≤4000) (ht4:t.length≤4000) (hk:k<b.length) (hxo:x<o.length) (hyt:y<t.length) (h1:pa[k]? = some (x:Int)) (h2:pb[k]? = some (y:Int)) (hra:∀(m n:Nat) (u v:Int),pa[m]? = some u→pa[n]? = some v→m<n→0≤u→0≤v→u<v) (hrb:∀(m n:Nat) (u v:Int),pb[m]? = some u→pb[n]? = some v→m<n→0≤u→0≤v→u<v) :s.i≤x∧s.j≤y∧(addC s.out (seg b s.f k) (seg o s.i x) (seg t s.j y)).length≤8001∧BndC (addC s.out (seg b s.f k) (seg o s.i x) (seg t s.j y)) 4000 4000 4000∧ChInv b o t pa pb (k+1) (zam b o t s k (x:Int) (y:Int)):=by
 have hx:=h.pa k _ (Nat.le_refl _) h1 (by omega);have hy:=h.pb k _ (Nat.le_refl _) h2 (by omega);have hf:=h.f;have hn:=h.len;have l1:=zhB s.out (seg b s.f k) (seg o s.i x) (seg t s.j y);have b1:BndC (addC s.out (seg b s.f k) (seg o s.i x) (seg t s.j y)) k x y:=(zh2 h.bnd _ _ _).mono (by rw [zbS];omega) (by rw [zbS];omega) (by rw [zbS];omega);have e:zam b o t s k (x:Int) (y:Int)=⟨addC (addC s.out (seg b s.f k) (seg o s.i x) (seg t s.j y)) (seg b k (k+1)) (seg o x (x+1)) (seg t y (y+1)),k+1,x+1,y+1⟩:=by
  unfold zam;rw [if_neg (by omega)];simp
 refine ⟨by omega,by omega,by omega,b1.mono (by omega) (by omega) (by omega),?_⟩;rw [e]
 refine ⟨Nat.le_refl _,hxo,hyt,fun m u hm hu h0=>?_,fun m u hm hu h0=>?_,?_,?_⟩
 · have:=hra k m _ u h1 hu (by omega) (by omega) h0;simp only
   omega
 · have:=hrb k m _ u h2 hu (by omega) (by omega) h0;simp only
   omega
 · have:=zhB (addC s.out (seg b s.f k) (seg o s.i x) (seg t s.j y)) (seg b k (k+1)) (seg o x (x+1)) (seg t y (y+1));simp only
   omega
 · show BndC _ (k+1) (x+1) (y+1);have q:∀(l:List (List UInt8)) (i:Nat),(seg l i (i+1)).length≤1:=fun l i=>by rw [zbS];omega
   exact (zh2 b1 _ _ _).mono (by have:=q b k;omega) (by have:=q o x;omega) (by have:=q t y;omega)
theorem CkL.keepB {w w':World} {z:Nat} {A:Option Addr} {cp:Nat} {l:List ChunkD} (h:CkL w z A cp l) (hk:Below w.heap.size w w'):CkL w' z A cp l:=by
 rcases h with h|⟨ini,tvi,x,v,p,e,h⟩
 · exact .inl h
 · have s1:zB w.heap.size w w':=zB.ofBelow hk (Nat.le_refl _);exact .inr ⟨ini,tvi,x,v,p,e,h.len,h.own.kept (b':=0) (E:=[]) (G:=[]) (Kept.ofBelow hk) (by simp) (by simp),h.lo,Nat.le_trans h.hi hk.size,fun k y u e1 e2=>(h.old k y u e1 e2).keep (s1.mono h.hi),(h.last.keep s1).more hk.size,h.apart⟩
theorem CkL.drew {w:World} {z:Nat} {A:Option Addr} {cp:Nat} {l:List ChunkD} (h:CkL w z A cp l):CkL w.drew z A cp l:=h.keepB (Below.refl _ _).drew
def SlS (v:Value) (lo:Option Value):Sem Value:=Instr.sliceAt 95 v lo none none
theorem sl_s (v:Value) (lo:Option Value):Instr.sliceAt 95 v lo none none=SlS v lo:=rfl
theorem SlS.tail (w:World) (A:Option Addr) (n c k:Nat) (hk:k≤n):(SlS (.slice A n c) (some (.int .i64 (k:Int)))).run Tryz.prog w = .ok (.slice (if c=k then A else A.map (·.add (k*1))) (n-k) (c-k)) w:=by
 have h0:(0:Int)≤(k:Int):=by omega
 have h1:(k:Int)≤(n:Int):=by omega
 unfold SlS;simp [Instr.sliceAt,Instr.slice,Instr.sliceBounds,Sem.run_bind,run_underlying Tryz.underlying95,run_sliceBound,Tryz.sizeOf9,h0,h1]
end
end Go.Proofs.YtmkmbbjgepcioaaGreatDoor
