/- Rows of files and of pairs that a call owns. No statement of the seat is proved here. -/
import Derived.Test.YtmkmbbjgepcioaaGreatDoorSAHq
import Derived.Test.YtmkmbbjgepcioaaGreatDoorSA14
import Derived.Test.YtmkmbbjgepcioaaGreatDoorCAShelf2
import Derived.Shelf.SlSortCmp.WholeK
import Derived.Shelf.SlSortCmp.NoneTotal
import Derived.Deep.QuietTactic
import Derived.BigRegion
import Derived.BigQuiet
import Derived.Deep.RegionHeld3
namespace Go.Proofs.YtmkmbbjgepcioaaGreatDoor
set_option maxHeartbeats 16000000
set_option maxRecDepth 100000
section
open Go.RowKit Go.Sort Go.Shelf
theorem zi5 {α:Type} [Inhabited α] (enc:α→List Value) (k:Nat) (hk:∀x,(enc x).length=k) (d:List α):(flatK enc k d.toArray).toList=d.flatMap enc:=by
 apply List.ext_getElem?;intro i;have hl:(d.flatMap enc).length=d.length*k:=zcj (f:=enc) (C:=k) hk d;by_cases h:i<d.length*k
 · have h1:i<(flatK enc k d.toArray).size:=by simpa using h
   have hk0:0<k:=by
    rcases Nat.eq_zero_or_pos k with q|q
    · rw [q,Nat.mul_zero] at h;omega
    · exact q
   have hq:i / k<d.length:=(Nat.div_lt_iff_lt_mul hk0).2 h;have hr:i%k<k:=Nat.mod_lt _ hk0;obtain ⟨x,hx⟩:∃x,d[i / k]? = some x:=⟨_,List.getElem?_eq_getElem hq⟩;obtain ⟨u,hu⟩:∃u,(enc x)[i%k]? = some u:=⟨_,List.getElem?_eq_getElem (by rw [hk];exact hr)⟩;have e1:=zaV (f:=enc) (C:=k) hk d (i / k) (i%k) x hx u hu;rw [Nat.div_add_mod' i k] at e1;rw [e1];have e2:=get_flatK enc k d.toArray i (by simpa using h);have e3:d.toArray[i / k]! = x:=by
    rw [getElem!_pos _ _ (by simpa using hq)];rw [List.getElem?_eq_getElem hq] at hx;simpa using hx
   rw [e3] at e2;have e4:(enc x)[i%k]! = u:=by
    rw [getElem!_pos _ _ (by rw [hk];exact hr)];rw [List.getElem?_eq_getElem (by rw [hk];exact hr)] at hu;simpa using hu
   rw [e4] at e2;rw [Array.getElem?_toList,Array.getElem?_eq_getElem h1,←e2,getElem!_pos (flatK enc k d.toArray) i h1]
 · rw [List.getElem?_eq_none (by simp;omega),List.getElem?_eq_none (by omega)]
theorem zkq {α:Type} [Inhabited α] (enc:α→List Value) (k:Nat) (w:World) (g m:Nat) (d:Array α) (os:Array Obj) {i:Nat} (hi:i<w.heap.size):(sortWorldK enc k w g 0 m d os).heap[i]? = if i=g then (w.heap[i]?).map (onCells (putCells id 0 (flatK enc k d))) else w.heap[i]?:=by
 unfold sortWorldK grow putRowK putRow mapBlock Sort.ahead;simp only
 rw [Array.getElem?_append_left (by simpa using hi),Array.getElem?_modify];by_cases e:g=i
 · rw [if_pos e,if_pos e.symm]
 · rw [if_neg e,if_neg (fun q=>e q.symm)]
theorem zen {α:Type} [Inhabited α] {ρ:Ren} (L:SlLaysF0.n6 Tryz.prog ρ) {k:Nat} (aE:∀w,(isAgg (ρ.t 24)).run Tryz.prog w = .ok true w) (zE:∀w,(Go.sizeOf (ρ.t 24)).run Tryz.prog w = .ok k w) (enc:α→List Value) (hk:∀x,(enc x).length=k) (h1:∀x,∀v∈enc x,v.oneCell'=true) (cf:α→α→Int) (hO:SWO (Go.Proofs.ltOf cf)) (g:Nat) (eg:∀args w,(callFunc g args).run Tryz.prog w = .ok (.enter g args) w) (hcmp:∀(W:World) (x y:α),Calls Tryz.prog g #[.agg (enc x).toArray,.agg (enc y).toArray] W fun e w'=>e = .returned (.int .i64 (cf x y))∧∃q os',w'=grow (W.drewN q) os') {base:Nat} {A:Option Addr} {n c:Nat} (d:List α) (w:World) (hn:d.length=n) (hn2:n<4611686018427387904) (hown:Own w base (ρ.t 24) k A n c (d.flatMap enc)) :Calls Tryz.prog (ρ.f 6) #[.slice A n c,.func (.func g) #[] #[]] w fun e w'=>e = .returned (.tuple #[])∧∃d':List α,d'.Perm d∧(d'.Pairwise fun a b=>Go.Proofs.ltOf cf b a=false)∧Own w' base (ρ.t 24) k A n c (d'.flatMap enc)∧Kept base [ρ.t 24] [] w w':=by
 obtain ⟨hl,⟨hv,h0⟩|⟨gg,cap,cur,hv,hb,hh,hncap,hcap,hcs,htake⟩⟩:=id hown
 · injection hv with e1 e2 e3;subst e1 e2 e3;have hd:d=[]:=List.eq_nil_of_length_eq_zero hn;subst hd;exact (AnyF.slices_SortFunc_none L none 0 _ w).mono fun e w' h=>⟨h.1,[],List.Perm.refl _,List.Pairwise.nil,by rw [h.2];exact hown,by rw [h.2];exact Kept.refl _ _ _ _⟩
 · injection hv with e1 e2 e3;subst e1 e3 hn;have hgl:gg<w.heap.size:=by
    rcases Nat.lt_or_ge gg w.heap.size with q|q
    · exact q
    · rw [Array.getElem?_eq_none q] at hh;cases hh
   have hkl:d.length*k≤cur.size:=by rw [hcs];exact Nat.mul_le_mul_right k hncap
   have hH:HoldsK enc k w gg 0 d.toArray:=by
    intro j hj;have hj':j<d.length*k:=by simpa using hj
    refine ⟨?_,frozen_of_row w gg (0+j) cur (ρ.t 24) hh⟩;rw [cell_of_row w gg (0+j) cur (ρ.t 24) (0,0) hh,Nat.zero_add];have e1:(flatK enc k d.toArray).toList[j]? = some (flatK enc k d.toArray)[j]!:=by
     rw [Array.getElem?_toList,Array.getElem?_eq_getElem hj,getElem!_pos (flatK enc k d.toArray) j hj]
    rw [zi5 enc k hk,←htake,List.getElem?_take_of_lt hj',Array.getElem?_toList] at e1;exact e1
   refine (AnyQ.slices_SortFunc L k aE zE enc hk h1 cf hO g #[] gg 0 c d.toArray w eg (fun m os dk _ x y=>hcmp _ x y) hH hgl (by simpa using hn2)).mono ?_;rintro e w' ⟨rfl,d',m,os,hp,hs,rfl⟩;have hsz:d'.size=d.length:=by simpa using hp.1
   refine ⟨rfl,d'.toList,?_,?_,?_,?_⟩
   · have:=hp.2.2;rw [show d.toArray.size=d'.size by simpa using hsz.symm,Array.extract_size] at this;simpa [hsz] using this
   · rw [List.pairwise_iff_getElem];intro i j hi hj hij;have hj2:j<d'.size:=by simpa using hj
     have hi2:i<d'.size:=by simpa using hi
     have:=hs i j (Nat.zero_le _) hij (by simpa [←hsz] using hj2);rw [getElem!_pos d' j hj2,getElem!_pos d' i hi2] at this;simpa using this
   · have hblk:(sortWorldK enc k w gg 0 m d' os).heap[gg]? = some (.cells (putCells id 0 (flatK enc k d') cur) (ρ.t 24) (0,0)):=by
      rw [zkq enc k w gg m d' os hgl,if_pos rfl,hh];rfl
     have hfl:(flatK enc k d').toList=d'.toList.flatMap enc:=by
      have:=zi5 enc k hk d'.toList;simpa using this
     refine ⟨by rw [zcj (f:=enc) (C:=k) hk,Array.length_toList,hsz],.inr ⟨gg,c,_,rfl,hb,hblk,hncap,hcap,by simp [putCells,hcs],?_⟩⟩;rw [←hfl];apply List.ext_getElem?;intro i;by_cases h:i<d.length*k
     · have h2:i<(flatK enc k d').size:=by simpa [hsz] using h
       rw [List.getElem?_take_of_lt h,Array.getElem?_toList,Array.getElem?_toList,Array.getElem?_eq_getElem h2];have h3:i<cur.size:=by omega
       simp [putCells,h3];rw [if_pos (by rw [hsz];exact h),getElem!_pos (flatK enc k d') i h2]
     · rw [List.getElem?_eq_none (by simp;omega),List.getElem?_eq_none (by simp [hsz];omega)]
   · refine ⟨rfl,rfl,rfl,?_,fun i hi hS=>?_⟩
     · simp [sortWorldK,grow,putRowK,putRow,mapBlock,Sort.ahead]
     · rw [zkq enc k w gg m d' os hi,if_neg];intro e;subst e;exact hS (.inr ⟨hb,ρ.t 24,by simp,cur,(0,0),hh⟩)
end
section
open Go.RowKit Go.Sort Go.Shelf
def cmpS (a b:Pth):Int:=if a<b then -1 else if b<a then 1 else 0
theorem zmc (a:Pth) (w:World):Calls Tryz.prog 122 #[strC a] w fun e w'=>e = .returned (.bool false)∧w=w':=by
 unfold strC;go_enter Tryz.func122,Tryz.ntmps122
 go_wp2_with fail
 go_ret
 exact ⟨by simp,rfl⟩
theorem zeI (a b:Pth) (w:World):Calls Tryz.prog 78 #[strC a,strC b] w fun e w'=>e = .returned (.int .i64 (cmpS a b))∧w=w':=by
 have HA:=zz (zmc a w);have HB:=zz (zmc b w);have hc:cmpS a b=if Op.bytesLess a b=true then -1 else if (a==b)=true then 0 else 1:=by
  unfold cmpS;simp only [bytesLess_eq,decide_eq_true_eq,beq_iff_eq]
  rcases zbp a b with q|q|q
  · rw [if_pos q,if_pos q]
  · subst q;rw [if_neg (List.lt_irrefl _),if_neg (List.lt_irrefl _),if_neg (List.lt_irrefl _),if_pos rfl]
  · rw [if_neg (zbz q),if_pos q,if_neg (zbz q),if_neg (fun e=>by subst e;exact List.lt_irrefl _ q)]
 rw [hc];clear hc;unfold strC at HA HB ⊢;go_enter Tryz.func78,Tryz.ntmps78
 cases h1:Op.bytesLess a b with
 | true =>
  go_wp2_with (first|(go_at_call 122;refine HA.out.mono ?_;rintro _ _ ⟨rfl,rfl⟩)|(go_at_call 122;refine HB.out.mono ?_;rintro _ _ ⟨rfl,rfl⟩))
  go_ret
  exact ⟨rfl,rfl⟩
 | false =>
  cases h2:(a==b) with
  | true =>
   go_wp2_with (first|(go_at_call 122;refine HA.out.mono ?_;rintro _ _ ⟨rfl,rfl⟩)|(go_at_call 122;refine HB.out.mono ?_;rintro _ _ ⟨rfl,rfl⟩))
   go_ret
   exact ⟨rfl,rfl⟩
  | false =>
   go_wp2_with (first|(go_at_call 122;refine HA.out.mono ?_;rintro _ _ ⟨rfl,rfl⟩)|(go_at_call 122;refine HB.out.mono ?_;rintro _ _ ⟨rfl,rfl⟩))
   go_ret
   exact ⟨rfl,rfl⟩
def orP:List Int→Int
 | []=>0
 | x::l=>if x=0 then orP l else x
theorem zjx (l:List Int) (A:Option Addr) (c B:Nat) (w:World) (h:ze w B 1 A l.length (intL l)) (hl:l.length≤1000):Calls Tryz.prog 77 #[.slice A l.length c] w fun e w'=>e = .returned (.int .i64 (orP l))∧w=w':=by
 obtain ⟨R,hR⟩:∃R,orP l=R:=⟨_,rfl⟩;rw [hR];have HR:=zz hR;have H:=zz h;clear hR h;go_enter Tryz.func77,Tryz.ntmps77
 go_wp2_with fail
 go_loopw [8] (fun s8 wr=>∃k:Nat,s8 = .int .i64 (k:Nat)∧k≤l.length∧Hid (orP (l.drop k)=R)∧w=wr) (fun s8 _=>l.length-(intOf s8).toNat)
 case atStart=>exact ⟨0,rfl,Nat.zero_le _,zz (by rw [List.drop_zero];exact HR.out),rfl⟩
 case round =>
  obtain ⟨k,rfl,hk,HO,rfl⟩:=hrel;by_cases hlt:k<l.length
  · obtain ⟨x,hx⟩:∃x,l[k]? = some x:=⟨_,List.getElem?_eq_getElem hlt⟩;obtain ⟨g4,f4,rfl,_,hc4⟩:=H.out.at0 (by omega) (by omega);have d4:=hc4 k (.int .i64 x) (by simp [intL,hx]);have i0:(0:Int)≤(k:Int):=by omega
    have i1:(k:Int)<(l.length:Int):=by omega
    have hd:=HO.out;rw [show l.drop k=x::l.drop (k+1) from List.drop_eq_getElem?_toList_append.trans (by rw [hx];rfl),orP] at hd;have HD:=zz hd;clear hc4 hx hd;by_cases h0:x=0
    · subst h0;have HD2:=zz (show orP (l.drop (k+1))=R from by have:=HD.out;rw [if_pos rfl] at this;exact this);clear HD
      go_wp2_with fail
      go_roundw
      case rel=>exact ⟨k+1,by go_num,hlt,HD2,by first|rfl|trivial⟩
      case measure=>simp [intOf];omega
    · have g0:(x !=0)=true:=bne_iff_ne.2 h0;have HD2:=zz (show R=x from by have:=HD.out;rw [if_neg h0] at this;exact this.symm);clear HD
      go_wp2_with fail
      go_ret
      exact ⟨by rw [HD2.out];rfl,rfl⟩
  · obtain rfl:k=l.length:=by omega
    have HD2:=zz (show R=0 from by have:=HO.out;rw [List.drop_length,orP] at this;exact this.symm)
    go_wp2_with fail
    go_ret
    exact ⟨by rw [HD2.out];rfl,rfl⟩
end
section
open Go.RowKit Go.Sort Go.Shelf
def zv (x:PairD):List Value:=[strC x.old,strC x.new,.int .i64 (x.sc:Nat)]
theorem zhc (W:World) (o1 o2:Obj):∃q os',(W.alloc o1).alloc o2=grow (W.drewN q) os':=⟨0,#[o1,o2],by rw [alloc_eq_grow,alloc_eq_grow,grow_grow];rfl⟩
theorem zt0 (W:World) (x y:PairD):Calls Tryz.prog 148 #[.agg (zv x).toArray,.agg (zv y).toArray] W fun e w'=>e = .returned (.int .i64 (cmpS x.old y.old))∧∃q os',w'=grow (W.drewN q) os':=by
 have HG:=zz (zhc W (.cells (zv x).toArray 188) (.cells (zv y).toArray 188));have hx:=(Blk.new W 188 (zv x).toArray).alloc (.cells (zv y).toArray 188);have hy:=Blk.new (W.alloc (.cells (zv x).toArray 188)) 188 (zv y).toArray;rw [show (W.alloc (.cells (zv x).toArray 188)).heap.size=W.heap.size+1 from by simp] at hy;have c1:=(hx.cell 0).trans (show (zv x).toArray[0]? = some (strC x.old) from rfl);have c2:=(hy.cell 0).trans (show (zv y).toArray[0]? = some (strC y.old) from rfl);have HX:=zz (And.intro c1 c2);clear hx hy c1 c2;have HC:=zz (fun w=>zeI x.old y.old w);go_enter Tryz.func148,Tryz.ntmps148
 go_wp2_with (first
  | (refine zC rfl rfl (cs:=(zv x).toArray) rfl ?_)
  | (refine zC rfl rfl (cs:=(zv y).toArray) rfl ?_;obtain ⟨c1,c2⟩:=HX.out;clear HX;generalize (W.alloc (.cells (zv x).toArray 188)).alloc (.cells (zv y).toArray 188)=w1 at *)
  | (go_at_call 78;refine (HC.out _).mono ?_;rintro _ _ ⟨rfl,rfl⟩))
 go_ret
 exact ⟨rfl,HG.out⟩
def likL (x:LikD):List Value:=[strC x.old,strC x.new,.int .i64 (x.sc:Nat),.int .i64 (x.near:Nat)]
def cmpL (a b:LikD):Int:=orP [Lib.compareInt b.sc a.sc,Lib.compareInt a.near b.near,cmpS a.old b.old,cmpS a.new b.new]
theorem zmi (a:LikD):cmpL a a=0:=by
 have h1:∀x:Int,Lib.compareInt x x=0:=fun x=>by simp [Lib.compareInt]
 have h2:∀x:Pth,cmpS x x=0:=fun x=>by unfold cmpS;rw [if_neg (List.lt_irrefl _),if_neg (List.lt_irrefl _)]
 unfold cmpL;rw [h1,h1,h2,h2];rfl
theorem zf7:(Tryz.prog.info? 265).map (·.size)=some 4:=by kernel_rfl
theorem zlD {w:World} {q:Nat} {x:LikD} (h:Blk w q 265 (likL x).toArray):(Instr.loadAt 265 (.pointer (some ⟨q,0,none⟩))).run Tryz.prog w = .ok (.agg (likL x).toArray) w :=
 zcd (P:=Tryz.prog) h 0 (likL x).toArray Tryz.underlying265 rfl zf7 (by simp [likL])
theorem zsL (W:World) (x y:LikD):Calls Tryz.prog 146 #[.agg (likL x).toArray,.agg (likL y).toArray] W fun e w'=>e = .returned (.int .i64 (cmpL x y))∧∃q os',w'=grow (W.drewN q) os':=by
 have hx:=(Blk.new W 265 (likL x).toArray).alloc (.cells (likL y).toArray 265);have hy:=Blk.new (W.alloc (.cells (likL x).toArray 265)) 265 (likL y).toArray;rw [show (W.alloc (.cells (likL x).toArray 265)).heap.size=W.heap.size+1 from by simp] at hy;have HX:=zz (And.intro hx hy);have hg:(W.alloc (.cells (likL x).toArray 265)).alloc (.cells (likL y).toArray 265)=grow W #[.cells (likL x).toArray 265,.cells (likL y).toArray 265]:=by rw [alloc_eq_grow,alloc_eq_grow,grow_grow];rfl
 have HG:=zz hg;clear hx hy hg;obtain ⟨o1,n1,s1,k1⟩:=x;obtain ⟨o2,n2,s2,k2⟩:=y;unfold likL strC at HX HG ⊢;simp only at HX HG ⊢;go_enter Tryz.func146,Tryz.ntmps146
 go_upto_region 1 with (first
  | (refine zC rfl rfl (cs:=#[.string ⟨o1.toArray⟩,.string ⟨n1.toArray⟩,.int .i64 (s1:Int),.int .i64 (k1:Int)]) rfl ?_)
  | (refine zC rfl rfl (cs:=#[.string ⟨o2.toArray⟩,.string ⟨n2.toArray⟩,.int .i64 (s2:Int),.int .i64 (k2:Int)]) rfl ?_))
 have HL1:=zz (zlD (x:=⟨o1,n1,s1,k1⟩) HX.out.1);have HL2:=zz (zlD (x:=⟨o2,n2,s2,k2⟩) HX.out.2);unfold likL strC at HL1 HL2;simp only at HL1 HL2;generalize (W.alloc (.cells [Value.string ⟨o1.toArray⟩,.string ⟨n1.toArray⟩,.int .i64 (s1:Int),.int .i64 (k1:Int)].toArray 265)).alloc (.cells [Value.string ⟨o2.toArray⟩,.string ⟨n2.toArray⟩,.int .i64 (s2:Int),.int .i64 (k2:Int)].toArray 265)=w1 at *;go_cut [7] (fun s7 wx=>s7 = .bool (decide ((⟨o1,n1,s1,k1⟩:LikD)=⟨o2,n2,s2,k2⟩))∧w1=wx)
 case first =>
  cases e1:(o1==o2) with
  | false =>
   go_wp2_with (first|(with_reducible refine zad rfl rfl rfl HL1.out ?_)|(with_reducible refine zad rfl rfl rfl HL2.out ?_))
   go_meet
   exact ⟨by rw [decide_eq_false];intro e;injection e with e;rw [e] at e1;simp at e1,rfl⟩
  | true =>
   cases e2:(n1==n2) with
   | false =>
    go_wp2_with (first|(with_reducible refine zad rfl rfl rfl HL1.out ?_)|(with_reducible refine zad rfl rfl rfl HL2.out ?_))
    go_meet
    exact ⟨by rw [decide_eq_false];intro e;injection e with _ e;rw [e] at e2;simp at e2,rfl⟩
   | true =>
    cases e3:((s1:Int)==(s2:Int)) with
    | false =>
     go_wp2_with (first|(with_reducible refine zad rfl rfl rfl HL1.out ?_)|(with_reducible refine zad rfl rfl rfl HL2.out ?_))
     go_meet
     exact ⟨by rw [decide_eq_false];intro e;injection e with _ _ e;rw [e] at e3;simp at e3,rfl⟩
    | true =>
     cases e4:((k1:Int)==(k2:Int)) with
     | false =>
      go_wp2_with (first|(with_reducible refine zad rfl rfl rfl HL1.out ?_)|(with_reducible refine zad rfl rfl rfl HL2.out ?_))
      go_meet
      exact ⟨by rw [decide_eq_false];intro e;injection e with _ _ _ e;rw [e] at e4;simp at e4,rfl⟩
     | true =>
      go_wp2_with (first|(with_reducible refine zad rfl rfl rfl HL1.out ?_)|(with_reducible refine zad rfl rfl rfl HL2.out ?_))
      go_meet
      exact ⟨by rw [decide_eq_true];rw [eq_of_beq e1,eq_of_beq e2,Int.ofNat_inj.1 (eq_of_beq e3),Int.ofNat_inj.1 (eq_of_beq e4)],rfl⟩
 case rest =>
  obtain ⟨rfl,rfl⟩:=hcut
  cases hd:decide ((⟨o1,n1,s1,k1⟩:LikD)=⟨o2,n2,s2,k2⟩) with
  | true =>
   have HE:=zz (show cmpL ⟨o1,n1,s1,k1⟩ ⟨o2,n2,s2,k2⟩=0 from by rw [of_decide_eq_true hd];exact zmi _)
   go_wp2_with fail
   go_ret
   exact ⟨by rw [HE.out];rfl,0,_,HG.out⟩
  | false =>
   have HI:=zz (fun (a b:Int) (w:World)=>show Calls Tryz.prog 79 #[.int .i64 a,.int .i64 b] w (fun e w'=>e = .returned (.int .i64 (Lib.compareInt a b))∧w=w') from (Tryz.cmp_Compare_int a b w).mono fun _ _ h=>⟨h.1,h.2.symm⟩);have HS:=zz (fun (a b:Pth) (w:World)=>show Calls Tryz.prog 78 #[.string ⟨a.toArray⟩,.string ⟨b.toArray⟩] w (fun e w'=>e = .returned (.int .i64 (cmpS a b))∧w=w') from zeI a b w);have x0:w1.drew.cell? ⟨W.heap.size,0,none⟩=some (.string ⟨o1.toArray⟩):=HX.out.1.cell 0;have x1:w1.drew.cell? ⟨W.heap.size,1,none⟩=some (.string ⟨n1.toArray⟩):=HX.out.1.cell 1;have x2:w1.drew.cell? ⟨W.heap.size,2,none⟩=some (.int .i64 (s1:Int)):=HX.out.1.cell 2;have x3:w1.drew.cell? ⟨W.heap.size,3,none⟩=some (.int .i64 (k1:Int)):=HX.out.1.cell 3;have y0:w1.drew.cell? ⟨W.heap.size+1,0,none⟩=some (.string ⟨o2.toArray⟩):=HX.out.2.cell 0;have y1:w1.drew.cell? ⟨W.heap.size+1,1,none⟩=some (.string ⟨n2.toArray⟩):=HX.out.2.cell 1;have y2:w1.drew.cell? ⟨W.heap.size+1,2,none⟩=some (.int .i64 (s2:Int)):=HX.out.2.cell 2;have y3:w1.drew.cell? ⟨W.heap.size+1,3,none⟩=some (.int .i64 (k2:Int)):=HX.out.2.cell 3;have hcl:cmpL ⟨o1,n1,s1,k1⟩ ⟨o2,n2,s2,k2⟩=orP [Lib.compareInt s2 s1,Lib.compareInt k1 k2,cmpS o1 o2,cmpS n1 n2]:=rfl;have HLT:=zz (show W.heap.size<w1.heap.size∧W.heap.size+1<w1.heap.size from ⟨HX.out.1.lt,HX.out.2.lt⟩);have Xx0:=zz x0;have Xx1:=zz x1;have Xx2:=zz x2;have Xx3:=zz x3;have Xy0:=zz y0;have Xy1:=zz y1;have Xy2:=zz y2;have Xy3:=zz y3;clear hd HX HL1 HL2;have HI1:=zz (fun w=>HI.out (s2:Int) (s1:Int) w);have HI2:=zz (fun w=>HI.out (k1:Int) (k2:Int) w);have HS1:=zz (fun w=>HS.out o1 o2 w);have HS2:=zz (fun w=>HS.out n1 n2 w);have HOR:=zz (fun (a b c d:Int) (A:Option Addr) (k B:Nat) (w:World) (h:ze w B 1 A 4 (intL [a,b,c,d]))=>zjx [a,b,c,d] A k B w h (by simp));generalize Lib.compareInt s2 s1=v1 at *;generalize Lib.compareInt k1 k2=v2 at *;generalize cmpS o1 o2=v3 at *;generalize cmpS n1 n2=v4 at *;have HCL:=zz hcl;clear HI HS hcl
   go_wp2_with fail
   have tx0:∀o,(w1.alloc o).drew.cell? ⟨W.heap.size,0,none⟩=some (.string ⟨o1.toArray⟩):=fun o=>(World.cell?_alloc_lt w1 o ⟨W.heap.size,0,none⟩ HLT.out.1).trans Xx0.out;have tx1:∀o,(w1.alloc o).drew.cell? ⟨W.heap.size,1,none⟩=some (.string ⟨n1.toArray⟩):=fun o=>(World.cell?_alloc_lt w1 o ⟨W.heap.size,1,none⟩ HLT.out.1).trans Xx1.out;have tx2:∀o,(w1.alloc o).drew.cell? ⟨W.heap.size,2,none⟩=some (.int .i64 (s1:Int)):=fun o=>(World.cell?_alloc_lt w1 o ⟨W.heap.size,2,none⟩ HLT.out.1).trans Xx2.out;have tx3:∀o,(w1.alloc o).drew.cell? ⟨W.heap.size,3,none⟩=some (.int .i64 (k1:Int)):=fun o=>(World.cell?_alloc_lt w1 o ⟨W.heap.size,3,none⟩ HLT.out.1).trans Xx3.out;have ty0:∀o,(w1.alloc o).drew.cell? ⟨W.heap.size+1,0,none⟩=some (.string ⟨o2.toArray⟩):=fun o=>(World.cell?_alloc_lt w1 o ⟨W.heap.size+1,0,none⟩ HLT.out.2).trans Xy0.out;have ty1:∀o,(w1.alloc o).drew.cell? ⟨W.heap.size+1,1,none⟩=some (.string ⟨n2.toArray⟩):=fun o=>(World.cell?_alloc_lt w1 o ⟨W.heap.size+1,1,none⟩ HLT.out.2).trans Xy1.out;have ty2:∀o,(w1.alloc o).drew.cell? ⟨W.heap.size+1,2,none⟩=some (.int .i64 (s2:Int)):=fun o=>(World.cell?_alloc_lt w1 o ⟨W.heap.size+1,2,none⟩ HLT.out.2).trans Xy2.out;have ty3:∀o,(w1.alloc o).drew.cell? ⟨W.heap.size+1,3,none⟩=some (.int .i64 (k2:Int)):=fun o=>(World.cell?_alloc_lt w1 o ⟨W.heap.size+1,3,none⟩ HLT.out.2).trans Xy3.out
   go_region_held3 (fun w'=>w'.cell? ⟨W.heap.size,0,none⟩=some (.string ⟨o1.toArray⟩)∧w'.cell? ⟨W.heap.size,1,none⟩=some (.string ⟨n1.toArray⟩)∧w'.cell? ⟨W.heap.size,2,none⟩=some (.int .i64 (s1:Int))∧w'.cell? ⟨W.heap.size,3,none⟩=some (.int .i64 (k1:Int))∧w'.cell? ⟨W.heap.size+1,0,none⟩=some (.string ⟨o2.toArray⟩)∧w'.cell? ⟨W.heap.size+1,1,none⟩=some (.string ⟨n2.toArray⟩)∧w'.cell? ⟨W.heap.size+1,2,none⟩=some (.int .i64 (s2:Int))∧w'.cell? ⟨W.heap.size+1,3,none⟩=some (.int .i64 (k2:Int))) (first|go_keep) (first
    | (go_simp;go_at_call 79;with_reducible refine (HI1.out _).mono ?_;rintro _ _ ⟨rfl,rfl⟩)
    | (go_simp;go_at_call 79;with_reducible refine (HI2.out _).mono ?_;rintro _ _ ⟨rfl,rfl⟩)
    | (go_simp;go_at_call 78;with_reducible refine (HS1.out _).mono ?_;rintro _ _ ⟨rfl,rfl⟩)
    | (go_simp;go_at_call 78;with_reducible refine (HS2.out _).mono ?_;rintro _ _ ⟨rfl,rfl⟩)
    | (go_simp;go_at_call 77;refine (HOR.out v1 v2 v3 v4 _ 4 (w1.heap.size+1) _ (ze.of_blk (n:=4) (heap_alloc_new w1.drew _) rfl rfl)).mono ?_;rintro _ _ ⟨rfl,rfl⟩))
   all_goals
    go_wp2_with fail
    go_ret
    refine ⟨by rw [HCL.out];rfl,1,#[.cells #[.string ⟨o1.toArray⟩,.string ⟨n1.toArray⟩,.int .i64 (s1:Int),.int .i64 (k1:Int)] 265,.cells #[.string ⟨o2.toArray⟩,.string ⟨n2.toArray⟩,.int .i64 (s2:Int),.int .i64 (k2:Int)] 265,.cells #[.int .i64 v1,.int .i64 v2,.int .i64 v3,.int .i64 v4] 3],?_⟩;rw [HG.out];simp only [alloc_eq_grow,drew_grow,grow_grow]
    rfl
end
section
open Go.RowKit
section
variable {P:Program}
def NotB (A:Option Addr) (n c p:Nat):Prop:=(Value.slice A n c).ownBlock≠some p
theorem zgR {w:World} {t e ty:TypeId} {size bytes:Nat} (H:Elem P t e size bytes) {base:Nat} {A:Option Addr} {n c:Nat} {xs:List Value} (hown:Own w base e size A n c xs) {B:Nat} {ad:Addr} {m d:Nat} {news:List Value} (hm:0<m) (hr:ze w B size (some ad) m news) (h1:∀u∈news,u.oneCell'=true) (h63:n+m≤maxLen) (hbytes:(n+m)*bytes≤140737488355328) (hbase:base≤w.heap.size) :∃A' c' w',(Builtin.append_ #[t,t] ty #[.slice A n c,.slice (some ad) m d]).run P w = .ok (.slice A' (n+m) c') w'∧Own w' base e size A' (n+m) c' (xs++news)∧Kept base [e] [] w w'∧∀p,p<w.heap.size→NotB A n c p→w'.heap[p]? = w.heap[p]?∧NotB A' (n+m) c' p:=by
 obtain ⟨ht,⟨i,z,hi,hz,hsize,hby,hzs⟩,hpos⟩:=H;have hcells:∀j u,news[j]? = some u→w.cell? (ad.add j)=some u:=by
  obtain ⟨ad',h,_,hc⟩:=hr.2 hm;injection h with h;subst h;exact hc
 obtain ⟨v',w',hrun,h2,h3,_,h5⟩:=run_append_own_at (P:=P) w base t ty e i z size bytes ht hi hz hsize hby hzs hpos _ n xs hown ad m d news hr.1 hcells h1 h63 hbytes hbase;obtain ⟨A',c',rfl⟩:=zcC h2;refine ⟨A',c',w',hrun,h2,Kept.of_grown hown h3 (by simp),fun p hp hn=>⟨h3.block p hp (fun e=>hn e.symm),?_⟩⟩;unfold NotB at hn ⊢
 rcases h5 with q|q
 · rw [q];exact hn
 · rw [q];intro e;injection e with e;omega
theorem zgI {ops:Array Oper} {rest:List Oper} {o:Oper} {a:Act} {w:World} {Q:Exit→Act→World→Prop} (hgd:o.guard=none) {s x:Operand} {t e:TypeId} {size bytes:Nat} (H:Elem P t e size bytes) (ho:o.op = .call { callee := .builtin .append,args:=#[s,x],argTypes:=#[t,t] }) {base:Nat} {A:Option Addr} {n c:Nat} {xs:List Value} (hs:a.eval s = .slice A n c) (hown:Own w base e size A n c xs) {B:Nat} {S:Addr} {m d:Nat} {news:List Value} (hm:0<m) (hx:a.eval x = .slice (some S) m d) (hr:ze w B size (some S) m news) (h1:∀u∈news,u.oneCell'=true) (h63:n+m≤maxLen) (hbytes:(n+m)*bytes≤140737488355328) (hbase:base≤w.heap.size) (h:∀A' c' w',Own w' base e size A' (n+m) c' (xs++news)→Kept base [e] [] w w'→(∀p,p<w.heap.size→NotB A n c p→w'.heap[p]? = w.heap[p]?∧NotB A' (n+m) c' p)→wpList P ops Q rest (a.put o.dst (.slice A' (n+m) c')) w'):wpList P ops Q (o::rest) a w:=by
 obtain ⟨A',c',w',hrun,h2,h3,h4⟩:=zgR (ty:=o.type) (d:=d) H hown hm hr h1 h63 hbytes hbase;exact wpList_plain hgd fun _ hK=>zcA ho hs hx hrun (hK _ _ (h A' c' w' h2 h3 h4))
theorem zsP {ops:Array Oper} {o:Oper} {a:Act} {w:World} {K:Act→World→Prop} {Q:Exit→Act→World→Prop} {E:Prop} (hgd:o.guard=none) {s x:Operand} {t e:TypeId} {size bytes:Nat} (H:Elem P t e size bytes) (ho:o.op = .call { callee := .builtin .append,args:=#[s,x],argTypes:=#[t,t] }) {base:Nat} {A:Option Addr} {n c:Nat} {xs:List Value} (hs:a.eval s = .slice A n c) (hown:Own w base e size A n c xs) {B:Nat} {S:Addr} {m d:Nat} {news:List Value} (hm:0<m) (hx:a.eval x = .slice (some S) m d) (hr:ze w B size (some S) m news) (h1:∀u∈news,u.oneCell'=true) (h63:n+m≤maxLen) (hbytes:(n+m)*bytes≤140737488355328) (hbase:base≤w.heap.size) (h:∀A' c' w',Own w' base e size A' (n+m) c' (xs++news)→Kept base [e] [] w w'→(∀p,p<w.heap.size→NotB A n c p→w'.heap[p]? = w.heap[p]?∧NotB A' (n+m) c' p)→K (a.put o.dst (.slice A' (n+m) c')) w'):if Region.wanted o (yielded ops a.tmps)=true then Oper.wp P o a w K Q else E:=by
 have hw:Region.wanted o (yielded ops a.tmps)=true:=by simp [Region.wanted,hgd]
 rw [if_pos hw];obtain ⟨A',c',w',hrun,h2,h3,h4⟩:=zgR (ty:=o.type) (d:=d) H hown hm hr h1 h63 hbytes hbase;exact zcA ho hs hx hrun (h A' c' w' h2 h3 h4)
end
theorem zr4 {B:Nat} {a w:World} (h:Below B a w) (n:Nat):Below B a (w.drewN n):=⟨h.os,h.tape,h.output,h.size,h.block⟩
def FO (w:World) (z B:Nat) (A:Option Addr) (c:Nat) (fs:List FileD):Prop:=∃tv:List Value,tv.length=fs.length∧Own w z 70 3 A fs.length c (zK fs tv)∧∀(k:Nat) x y,fs[k]? = some x→tv[k]? = some y→zw w B x y
def PO (w:World) (z:Nat) (A:Option Addr) (c:Nat) (ps:List PairD):Prop:=Own w z 188 3 A ps.length c (ps.flatMap zv)
def zbl (A C:Option Addr):Prop:=∀a c,A=some a→C=some c→a.block≠c.block
theorem zbl.none_ (C:Option Addr):zbl C none:=fun _ _ _ h=>by cases h
section
variable {w w':World} {z B:Nat} {A C:Option Addr} {c:Nat} {fs:List FileD} {tv:List Value} {ps:List PairD}
theorem Own.same1 {base:Nat} {e:TypeId} {size n:Nat} {xs:List Value} (h:Own w base e size A n c xs) (hk:∀a,A=some a→w'.heap[a.block]? = w.heap[a.block]?):Own w' base e size A n c xs:=by
 refine ⟨h.1,?_⟩
 rcases h.2 with hv|⟨g,cap,cur,hv,hbg,hg,hr⟩
 · exact .inl hv
 · refine .inr ⟨g,cap,cur,hv,hbg,?_,hr⟩;injection hv with h1;exact (hk _ h1).trans hg
theorem Own.blkA {base:Nat} {e:TypeId} {size n:Nat} {xs:List Value} (h:Own w base e size A n c xs):∀a,A=some a→base≤a.block∧a.block<w.heap.size∧∃cs,Blk w a.block e cs:=by
 intro a ha;subst ha;exact h.blockAt a.block rfl
theorem zkb (h:∀(k:Nat) x y,fs[k]? = some x→tv[k]? = some y→zw w B x y):∀v∈zK fs tv,v.oneCell'=true:=by
 intro v hv;unfold zK at hv;obtain ⟨x,hx,hv⟩:=List.mem_flatMap.1 hv;obtain ⟨k,hk⟩:=List.mem_iff_getElem?.1 hx;rw [List.getElem?_zip_eq_some] at hk;obtain ⟨A,c,hy,_⟩:=h k _ _ hk.1 hk.2;simp only [zdO,strC,List.mem_cons,List.not_mem_nil,or_false] at hv
 rcases hv with rfl|rfl|rfl
 · rfl
 · rfl
 · rw [hy];rfl
theorem FO.fi (h:FO w z B A c fs) (hB:B≤w.heap.size):FI w w.heap.size A fs:=by
 obtain ⟨tv,h1,h2,h3⟩:=h;exact ⟨tv,h1,h2.reads,fun k x y e1 e2=>(h3 k x y e1 e2).more hB⟩
theorem FO.nil_ (w:World) (z B:Nat):FO w z B none 0 []:=⟨[],rfl,Own.nil _ _ _ _,fun _ _ _ h=>by cases h⟩
theorem FO.same1 (h:FO w z B A c fs) (hk:∀a,A=some a→w'.heap[a.block]? = w.heap[a.block]?) (hb:Below B w w'):FO w' z B A c fs:=by
 obtain ⟨tv,h1,h2,h3⟩:=h;exact ⟨tv,h1,h2.same1 hk,fun k x y e1 e2=>(h3 k x y e1 e2).below hb⟩
theorem FO.lt (h:FO w z B A c fs):∀a,A=some a→z≤a.block∧a.block<w.heap.size∧∃cs,Blk w a.block 70 cs:=by
 obtain ⟨tv,h1,h2,h3⟩:=h;exact h2.blkA
theorem FO.keepB (h:FO w z B A c fs) (hb:Below w.heap.size w w') (hB:B≤w.heap.size):FO w' z B A c fs:=h.same1 (fun a ha=>hb.block _ (h.lt a ha).2.1) (hb.mono hB)
theorem FO.keepOnly {g:Nat} (h:FO w z B A c fs) (hk:Keep (Only g) w w') (hg:∀a,A=some a→a.block≠g) (hB:B≤g) (hz:B≤w.heap.size):FO w' z B A c fs :=
 h.same1 (fun a ha=>hk.block _ (h.lt a ha).2.1 (hg a ha)) (hk.below hz (fun j hj q=>by unfold Only at q;omega))
theorem FO.mono {z':Nat} (h:FO w z B A c fs) (hz:z'≤z):FO w z' B A c fs:=by
 obtain ⟨tv,h1,h2,h3⟩:=h;exact ⟨tv,h1,h2.mono hz,h3⟩
theorem zfp {fs gs:List FileD} {tv uv:List Value} (h:tv.length=fs.length):zK (fs++gs) (tv++uv)=zK fs tv++zK gs uv:=by
 unfold zK;rw [List.zip_append h.symm,List.flatMap_append]
theorem zqf {tv:List Value} (h:tv.length=fs.length) (f:FileD) (D:Option Addr) (d:Nat):zK (fs++[f]) (tv++[.slice D f.d.length d])=zK fs tv++(za f D d).toList:=by
 rw [zfp h];rfl
theorem FO.snoc {A':Option Addr} {c':Nat} {f:FileD} {D:Option Addr} {d:Nat} (h1:tv.length=fs.length) (h3:∀(k:Nat) x y,fs[k]? = some x→tv[k]? = some y→zw w B x y) (hx:zw w B f (.slice D f.d.length d)) (ho:Own w' z 70 3 A' (fs.length+1) c' (zK fs tv++(za f D d).toList)) (hb:Below B w w'):FO w' z B A' c' (fs++[f]):=by
 refine ⟨tv++[.slice D f.d.length d],by simp [h1],by rw [zqf h1,List.length_append];exact ho,fun k a b e1 e2=>?_⟩;refine zw.below ?_ hb
 rcases Nat.lt_trichotomy k fs.length with q|q|q
 · rw [List.getElem?_append_left q] at e1;rw [List.getElem?_append_left (by omega)] at e2;exact h3 k a b e1 e2
 · subst q;rw [List.getElem?_append_right (Nat.le_refl _),Nat.sub_self] at e1;rw [List.getElem?_append_right (by omega),h1,Nat.sub_self] at e2;injection e1 with e1;injection e2 with e2;subst e1 e2;exact hx
 · rw [List.getElem?_eq_none (by rw [List.length_append,List.length_singleton];omega)] at e1;cases e1
theorem znY {fs:List FileD} {tv:List Value} (h:tv.length=fs.length) {i:Nat} (hi:i<fs.length):zK (fs.eraseIdx i) (tv.eraseIdx i)=(zK fs tv).take (i*3)++(zK fs tv).drop ((i+1)*3):=by
 have e1:fs=fs.take i++(fs[i]::fs.drop (i+1)):=by rw [List.getElem_cons_drop,List.take_append_drop]
 have hi':i<tv.length:=by omega
 have e2:tv=tv.take i++(tv[i]::tv.drop (i+1)):=by rw [List.getElem_cons_drop,List.take_append_drop]
 have hl:(tv.take i).length=(fs.take i).length:=by rw [List.length_take,List.length_take,h]
 have e3:zK fs tv=zK (fs.take i) (tv.take i)++(zK [fs[i]] [tv[i]]++zK (fs.drop (i+1)) (tv.drop (i+1))):=by
  rw [←zfp (by rfl),←zfp hl];show zK fs tv=zK (fs.take i++(fs[i]::fs.drop (i+1))) (tv.take i++(tv[i]::tv.drop (i+1)));rw [←e1,←e2]
 have l1:(zK (fs.take i) (tv.take i)).length=i*3:=by rw [zn2 hl,List.length_take,Nat.min_eq_left (by omega)]
 have l2:(zK [fs[i]] [tv[i]]).length=3:=rfl;rw [List.eraseIdx_eq_take_drop_succ,List.eraseIdx_eq_take_drop_succ,zfp hl,e3];generalize zK (fs.take i) (tv.take i)=X at *;generalize zK [fs[i]] [tv[i]]=Y at *;generalize zK (fs.drop (i+1)) (tv.drop (i+1))=Z at *;rw [List.take_left' l1,←List.append_assoc,List.drop_left' (by rw [List.length_append,l1,l2];omega)]
theorem FO.erase {i:Nat} (h1:tv.length=fs.length) (h3:∀(k:Nat) x y,fs[k]? = some x→tv[k]? = some y→zw w B x y) (hi:i<fs.length) (ho:Own w' z 70 3 A (fs.length-1) c ((zK fs tv).take (i*3)++(zK fs tv).drop ((i+1)*3))) (hb:Below B w w'):FO w' z B A c (fs.eraseIdx i):=by
 refine ⟨tv.eraseIdx i,by rw [List.length_eraseIdx_of_lt hi,List.length_eraseIdx_of_lt (by omega),h1],by rw [znY h1 hi,List.length_eraseIdx_of_lt hi];exact ho,fun k a b e1 e2=>?_⟩;rw [List.getElem?_eraseIdx] at e1 e2
 split at e1
 · rename_i q
   rw [if_pos q] at e2;exact (h3 _ _ _ e1 e2).below hb
 · rename_i q
   rw [if_neg q] at e2;exact (h3 _ _ _ e1 e2).below hb
theorem PO.nil_ (w:World) (z:Nat):PO w z none 0 []:=Own.nil _ _ _ _
theorem PO.kept {b:Nat} {E:List TypeId} (h:PO w z A c ps) (hk:Kept b E [] w w') (he:188∉E):PO w' z A c ps:=Own.kept h hk he (by simp)
theorem PO.keepB (h:PO w z A c ps) (hb:Below w.heap.size w w'):PO w' z A c ps:=h.kept (b:=0) (E:=[]) (Kept.ofBelow hb) (by simp)
theorem PO.mono {z':Nat} (h:PO w z A c ps) (hz:z'≤z):PO w z' A c ps:=Own.mono h hz
theorem PO.snoc {A':Option Addr} {c':Nat} {x:PairD} (ho:Own w z 188 3 A' (ps.length+1) c' (ps.flatMap zv++zv x)):PO w z A' c' (ps++[x]):=by
 unfold PO;rw [List.length_append,List.flatMap_append];simpa using ho
theorem zdx (x:PairD):∀v∈zv x,v.oneCell'=true:=by
 intro v hv;simp only [zv,strC,List.mem_cons,List.not_mem_nil,or_false] at hv;rcases hv with rfl|rfl|rfl <;> rfl
theorem zpj {n m c':Nat} (hx:zbl C A) (hw:∀a,C=some a→a.block<w.heap.size) {A':Option Addr} (hn:∀p,p<w.heap.size→NotB A n c p→w'.heap[p]? = w.heap[p]?∧NotB A' m c' p):(∀a,C=some a→w'.heap[a.block]? = w.heap[a.block]?)∧zbl C A':=by
 have key:∀a,C=some a→NotB A n c a.block:=by
  intro a ha q
  rcases A with _|b
  · cases q
  · injection q with q;exact hx a b ha rfl q.symm
 refine ⟨fun a ha=>(hn _ (hw a ha) (key a ha)).1,fun a b ha hb q=>?_⟩;subst hb;exact (hn _ (hw a ha) (key a ha)).2 (by rw [q];rfl)
theorem FO.kept {b:Nat} {E:List TypeId} (h:FO w z B A c fs) (hk:Kept b E [] w w') (he:70∉E) (hb:B≤b) (hz:B≤w.heap.size):FO w' z B A c fs:=by
 obtain ⟨tv,h1,h2,h3⟩:=h;exact ⟨tv,h1,Own.kept h2 hk he (by simp),fun k x y e1 e2=>(h3 k x y e1 e2).below (hk.below hb hz (by simp))⟩
theorem FO.push2 {w9:World} {d c9 dd:Nat} {gs:List FileD} {f:FileD} {D A9:Option Addr} (h1:tv.length=fs.length) (h3:∀(k:Nat) x y,fs[k]? = some x→tv[k]? = some y→zw w B x y) (hx:zw w B f (.slice D f.d.length dd)) (hg:FO w z B C d gs) (ap:zbl C A) (hBz:B≤z) (hz:z≤w.heap.size) (o9:Own w9 z 70 3 A9 (fs.length+1) c9 (zK fs tv++(za f D dd).toList)) (k9:Kept z [70] [] (w.alloc (.cells (za f D dd) 70)) w9) (n9:∀p,p<(w.alloc (.cells (za f D dd) 70)).heap.size→NotB A fs.length c p→w9.heap[p]? = (w.alloc (.cells (za f D dd) 70)).heap[p]?∧NotB A9 (fs.length+1) c9 p) :FO w9 z B A9 c9 (fs++[f])∧FO w9 z B C d gs∧zbl C A9∧Below z w w9:=by
 have hb:Below z w w9:=((Below.refl z w).alloc hz _).trans (k9.below (Nat.le_refl _) (by simp;omega) (by simp));obtain ⟨q1,q2⟩:=zpj ap (fun a ha=>by have:=(hg.lt a ha).2.1;simp;omega) n9;refine ⟨FO.snoc h1 h3 hx o9 (hb.mono hBz),hg.same1 (fun a ha=>?_) (hb.mono hBz),q2,hb⟩;rw [q1 a ha];exact Below.heap_alloc w _ _ (hg.lt a ha).2.1
end
theorem zfv:Elem Tryz.prog 113 188 3 40:=by
 refine ⟨Tryz.underlying113,?_,by decide⟩;obtain ⟨i,hi,h1,h2,h3⟩:=info_parts (show (Tryz.prog.info? 188).map (fun i=>(i.zero,i.size,i.bytes))=some (some (.agg #[.string ⟨#[]⟩,.string ⟨#[]⟩,.int .i64 0]),3,40) by kernel_rfl);exact ⟨i,_,hi,h1,h2,h3,rfl⟩
theorem zgk (w:World):(zeroValue 188).run Tryz.prog w = .ok (.agg #[.string ⟨#[]⟩,.string ⟨#[]⟩,.int .i64 0]) w:=by kernel_rfl
theorem zr0 {f:FileD} {gone rest:List FileD} (h:zaG f rest 0 none=none):zr (f::gone) rest=((zr gone rest).1,f::(zr gone rest).2.1,(zr gone rest).2.2):=by
 rw [zr,h]
theorem zt3 {f:FileD} {gone rest:List FileD} {x:Nat×FileD} (h:zaG f rest 0 none=some x):zr (f::gone) rest=(⟨f.p,x.2.p,100⟩::(zr gone (rest.eraseIdx x.1)).1,(zr gone (rest.eraseIdx x.1)).2.1,(zr gone (rest.eraseIdx x.1)).2.2):=by
 rw [zr,h]
end
end Go.Proofs.YtmkmbbjgepcioaaGreatDoor
