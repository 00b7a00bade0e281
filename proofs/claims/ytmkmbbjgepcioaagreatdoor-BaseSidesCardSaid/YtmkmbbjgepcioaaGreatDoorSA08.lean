/- Contract of tree.above. No statement of the seat is proved here. -/
import Derived.Test.YtmkmbbjgepcioaaGreatDoorSAHq
import Derived.Test.YtmkmbbjgepcioaaGreatDoorSA07
import Derived.Test.YtmkmbbjgepcioaaGreatDoorSA03
import Derived.Lib.LastIndexByte
namespace Go.Proofs.YtmkmbbjgepcioaaGreatDoor
set_option maxHeartbeats 2000000
set_option maxRecDepth 100000
section
open Go.RowKit
def VarM (w:World):Prop:=∃m,w.cell? ⟨1,0,none⟩=some (.int .i64 m)
theorem VarM.below {w w':World} {B:Nat} (h:VarM w) (hb:Below B w w') (hB:1<B):VarM w':=by
 obtain ⟨m,h⟩:=h;exact ⟨m,(hb.cell (by exact hB)).trans h⟩
theorem VarM.pos {w:World} (h:VarM w):1<w.heap.size:=by
 obtain ⟨m,h⟩:=h;have:=World.block_lt_of_cell? w _ h;exact this
theorem zm7 (p:Pth):((Lib.splitB ⟨#[47]⟩ 0 (Lib.countB ⟨p.toArray⟩ ⟨#[47]⟩) ⟨p.toArray⟩).map Value.string)=strL (nmP p)∧Lib.countB ⟨p.toArray⟩ ⟨#[47]⟩+1=(nmP p).length:=by
 have h1:Lib.countB ⟨p.toArray⟩ ⟨#[47]⟩=p.count 47:=Lib.count_one 47 p;have h2:(Lib.splitB ⟨#[47]⟩ 0 (Lib.countB ⟨p.toArray⟩ ⟨#[47]⟩) ⟨p.toArray⟩).map (·.data.toList)=nmP p:=by
  rw [Lib.splitB_data,h1];exact zig p.length p (Nat.le_refl _)
 have h3:∀l:List ByteArray,l.map Value.string=strL (l.map (·.data.toList)):=fun l=>by
  simp [strL,strC]
 refine ⟨by rw [h3,h2],?_⟩;rw [←h2,List.length_map,Lib.splitB_all ⟨#[47]⟩ (by decide) 0 _ _ rfl]
theorem zhH:∀(b cur:Pth),(z7 cur b).length≤b.length+1∧∀s∈z7 cur b,s.length≤cur.length+b.length
 | [],cur=>by simp [z7]
 | x::b,cur=>by
  unfold z7
  split
  · obtain ⟨h1,h2⟩:=zhH b [];refine ⟨by simp;omega,fun s hs=>?_⟩
    rcases List.mem_cons.1 hs with rfl|hs
    · simp
    · have:=h2 s hs;simp at this ⊢;omega
  · obtain ⟨h1,h2⟩:=zhH b (cur++[x]);refine ⟨by simp;omega,fun s hs=>?_⟩;have:=h2 s hs;simp at this ⊢;omega
theorem zp5 (p:Pth):(nmP p).length≤p.length+1∧∀s∈nmP p,s.length≤p.length:=by
 have:=zhH p [];simpa [nmP] using this
theorem ztg (p:Pth) (w:World) (hl:p.length≤1000000) (hv:VarM w) :Calls Tryz.prog 136 #[strC p,.string ⟨#[47]⟩] w fun e w'=>∃c,e = .returned (.slice (some ⟨w.heap.size,0,none⟩) (nmP p).length c)∧ze w' w'.heap.size 1 (some ⟨w.heap.size,0,none⟩) (nmP p).length (strL (nmP p))∧Below w.heap.size w w':=by
 obtain ⟨m,hm⟩:=hv;have hsz:(⟨p.toArray⟩:ByteArray).size=p.length:=by simp [ByteArray.size]
 have h:=Tryz.strings_Split ⟨p.toArray⟩ ⟨#[47]⟩ m w (by rw [hsz];omega) hm (by decide);obtain ⟨e1,e2⟩:=zm7 p;rw [e1,e2] at h;refine Calls.mono h ?_;rintro e w' ⟨rfl,rfl⟩;refine ⟨_,rfl,?_,(Below.refl _ _).alloc (Nat.le_refl _) _⟩;have:=ze.of_blk (w:=w.alloc (.cells (strL (nmP p)).toArray 9)) (n:=(nmP p).length) (size:=1) (xs:=strL (nmP p)) (heap_alloc_new _ _) rfl (by simp [strL]);exact this.more (by simp)
theorem zrq (s:List UInt8) (w:World) :Calls Tryz.prog 138 #[strC s] w fun e w'=>e = .returned (.bool (!zI s))∧Below w.heap.size w w':=by
 have HQ:=zz (show Calls Tryz.prog 139 #[strC s] w (fun e w'=>e = .returned (.bool (zI s))∧Below w.heap.size w w') from zof ⟨s.toArray⟩ w);unfold strC at HQ;unfold strC;generalize zI s=b at *;go_enter Tryz.func138,Tryz.ntmps138
 go_wp2_with (go_at_call 139;refine HQ.out.mono ?_)
 rintro _ w1 ⟨rfl,b1⟩
 go_wp2_with fail
 go_ret
 exact ⟨rfl,b1⟩
def zcm:List (List UInt8)→Option Nat
 | []=>none
 | s::l=>if zI s=true then (zcm l).map (· + 1) else some 0
theorem zqs {l:List (List UInt8)} (h:∀(k:Nat) (s:List UInt8),l[k]? = some s→zI s=true):zcm l=none:=by
 induction l with
 | nil=>rfl
 | cons x l ih =>
  unfold zcm;rw [if_pos (h 0 x rfl),ih (fun k s hs=>h (k+1) s hs)];rfl
theorem zni {l:List (List UInt8)}:∀{k:Nat} {s:List UInt8},(∀(j:Nat) (t:List UInt8),j<k→l[j]? = some t→zI t=true)→l[k]? = some s→zI s=false→zcm l=some k:=by
 induction l with
 | nil=>intro k s _ h;simp at h
 | cons x l ih =>
  intro k s h1 h2 h3;unfold zcm
  cases k with
  | zero =>
   simp at h2;subst h2
   simp [h3]
  | succ k =>
   rw [if_pos (h1 0 x (by omega) rfl),ih (k:=k) (s:=s) (fun j t hj ht=>h1 (j+1) t (by omega) ht) (by simpa using h2) h3];rfl
def zdH (l:List (List UInt8)):Int:=match zcm l with|some k=>k|none=>-1
theorem zqJ (l:List (List UInt8)):decide (0≤zdH l)=l.any (fun s=>!zI s):=by
 have:(zcm l).isSome=l.any (fun s=>!zI s):=by
  induction l with
  | nil=>rfl
  | cons x l ih =>
   unfold zcm;cases hx:zI x
   · simp [hx]
   · simp [hx,ih]
 rw [←this];unfold zdH
 cases zcm l with
 | none=>rfl
 | some k=>simp
theorem zpw (l:List (List UInt8)) (A:Option Addr) (c B:Nat) (w:World) (hB:B≤w.heap.size) (hr:ze w B 1 A l.length (strL l)) (hl:l.length≤10000000) :Calls Tryz.prog 185 #[.slice A l.length c,.func (.func 138) #[] #[]] w fun r w'=>r = .returned (.int .i64 (zdH l))∧Below w.heap.size w w':=by
 have HR:=zz (show ∀W,Below w.heap.size w W→ze W B 1 A l.length (strL l) from fun W k=>hr.below (k.mono hB));clear hr;go_enter Tryz.func185,Tryz.ntmps185
 go_wp2_with fail
 go_loopw [8] (fun i wr=>∃k:Nat,k≤l.length∧i = .int .i64 k∧Hid (Below w.heap.size w wr)∧Hid (∀(j:Nat) (t:List UInt8),j<k→l[j]? = some t→zI t=true)) (fun i _=>l.length-(intOf i).toNat)
 case atStart=>exact ⟨0,Nat.zero_le _,rfl,zz (Below.refl _ _),zz fun j t h=>absurd h (by omega)⟩
 case round =>
  obtain ⟨k,hk,rfl,HB,HALL⟩:=hrel;by_cases hlt:k<l.length
  · obtain ⟨x,hx⟩:∃x,l[k]? = some x:=⟨_,List.getElem?_eq_getElem hlt⟩;obtain ⟨g1,o1,rfl,_,hc1⟩:=(HR.out _ HB.out).at0 (by omega) (by omega);have d1:=hc1 _ _ (zlQ hx);have HX:=zz hx;have HQ:=zz (zrq x wr);unfold strC at d1 HQ;have hi0:(0:Int)≤(k:Int):=Int.natCast_nonneg _;have hi1:(k:Int)<(l.length:Int):=by omega
    have hz:=HB.out.size;clear hc1 hx;cases hp:zI x
    · have HP:=zz hp;rw [hp] at HQ;clear hp
      go_wp2_with (go_at_call 138;refine HQ.out.mono ?_)
      rintro _ w1 ⟨rfl,b1⟩
      go_wp2_with fail
      go_ret
      exact ⟨by unfold zdH;rw [zni HALL.out HX.out HP.out];rfl,HB.out.trans (b1.mono hz)⟩
    · have HP:=zz hp;rw [hp] at HQ;clear hp
      go_wp2_with (go_at_call 138;refine HQ.out.mono ?_)
      rintro _ w1 ⟨rfl,b1⟩;have HB1:=zz (HB.out.trans (b1.mono hz));clear b1
      go_wp2_with fail
      go_roundw
      case rel =>
       refine ⟨k+1,by omega,by go_num,HB1,zz fun j t hj ht=>?_⟩
       rcases Nat.lt_or_ge j k with q|q
       · exact HALL.out j t q ht
       · obtain rfl:j=k:=by omega
         rw [HX.out] at ht;injection ht with ht;subst ht;exact HP.out
      case measure=>simp [intOf];omega
  · obtain rfl:k=l.length:=by omega
    go_wp2_with fail
    go_ret
    refine ⟨?_,HB.out⟩;unfold zdH;rw [zqs (fun j t ht=>HALL.out j t (List.getElem?_eq_some_iff.1 ht).1 ht)];rfl
theorem zmX (l:List (List UInt8)) (A:Option Addr) (c B:Nat) (w:World) (hB:B≤w.heap.size) (hr:ze w B 1 A l.length (strL l)) (hl:l.length≤10000000) :Calls Tryz.prog 137 #[.slice A l.length c,.func (.func 138) #[] #[]] w fun r w'=>r = .returned (.bool (l.any (fun s=>!zI s)))∧Below w.heap.size w w':=by
 have HQ:=zz (zpw l A c B w hB hr hl);rw [←zqJ];generalize zdH l=n at *;clear hr;go_enter Tryz.func137,Tryz.ntmps137
 go_wp2_with (go_at_call 185;refine HQ.out.mono ?_)
 rintro _ w1 ⟨rfl,b1⟩
 go_wp2_with fail
 go_ret
 exact ⟨rfl,b1⟩
end
section
open Go.RowKit
theorem zsc (f:FileD):zP f=if (f.k !=1)=true∧(f.k !=2)=true∧(f.k !=3)=true then 3 else if decide (8<(nmP f.p).length)=true∨(nmP f.p).any (fun s=>!zI s)=true then 7 else if decide (65536<f.d.length)=true then 5 else 0:=by
 unfold zP;simp
theorem zoP (f:FileD) (A:Option Addr) (c:Nat) (w:World) (hl:f.p.length≤1000000) (hv:VarM w) :Calls Tryz.prog 101 #[.agg (za f A c)] w fun e w'=>e = .returned (.int .i64 (zP f:Nat))∧Below w.heap.size w w':=by
 obtain ⟨E,hE⟩:∃E,zP f=E:=⟨_,rfl⟩;have HE:=zz (zsc f);rw [hE] at HE;rw [hE];clear hE;obtain ⟨p,k,d⟩:=f;simp only at hl HE ⊢;have HN:=zz (fun W (kW:Below w.heap.size w W)=>ztg p W hl (hv.below kW hv.pos));obtain ⟨hnl,_⟩:=zp5 p;have HA:=zz (fun (A:Option Addr) (c:Nat) (W:World) (hr:ze W W.heap.size 1 A (nmP p).length (strL (nmP p)))=>zmX (nmP p) A c W.heap.size W (Nat.le_refl _) hr (by omega));unfold strC at HN;generalize (nmP p).any (fun s=>!zI s)=ba at *;generalize nmP p=ns at *;unfold za strC;simp only
 have hq:(w.alloc (.cells #[.string ⟨p.toArray⟩,.int .i64 k,.slice A d.length c] 70)).heap.size=w.heap.size+1:=by simp
 go_enter Tryz.func101,Tryz.ntmps101
 go_wp2_with (go_at_call 136;refine (HN.out _ ((Below.refl _ _).alloc (Nat.le_refl _) _)).mono ?_)
 rintro _ w1 ⟨c1,rfl,r1,b1⟩;have HX:=zz (show Blk w1 w.heap.size 70 #[.string ⟨p.toArray⟩,.int .i64 k,.slice A d.length c] from Blk.below (heap_alloc_new _ _) b1 (by simp));have HB:=zz (show Below w.heap.size w w1 from ((Below.refl w.heap.size w).alloc (Nat.le_refl _) (.cells #[.string ⟨p.toArray⟩,.int .i64 k,.slice A d.length c] 70)).trans (b1.mono (by simp)));have HR:=zz r1;clear r1 b1 hq;generalize w.alloc (.cells #[.string ⟨p.toArray⟩,.int .i64 k,.slice A d.length c] 70)=wa at *;have d1:=HX.out.cell 1;have d2:=HX.out.cell 2;simp at d1 d2;have HAN:=zz (fun W (kW:Below w1.heap.size w1 W)=>HA.out (some ⟨wa.heap.size,0,none⟩) c1 W ((HR.out.below kW).more kW.size));clear HN HA;generalize h1:(k !=1)=x1 at *;generalize h2:(k !=2)=x2 at *;generalize h3:(k !=3)=x3 at *;have hw:x1=true∧x2=true∧x3=true∨(x1=false∨x1=true∧x2=false∨x1=true∧x2=true∧x3=false):=by
  cases x1 <;> cases x2 <;> cases x3 <;> simp
 rcases hw with ⟨rfl,rfl,rfl⟩|hw
 · have HE1:=zz (show E=3 from by rw [HE.out,if_pos ⟨rfl,rfl,rfl⟩]);clear HE
   go_wp2_with fail
   go_ret
   exact ⟨by rw [HE1.out];rfl,HB.out⟩
 · have HE1:=zz (show E=if decide (8<ns.length)=true∨ba=true then 7 else if decide (65536<d.length)=true then 5 else 0 from by
    rw [HE.out,if_neg];rcases hw with e|⟨_,e⟩|⟨_,_,e⟩ <;> simp [e])
   clear HE;by_cases hn:8<ns.length
   · have HE2:=zz (show E=7 from by rw [HE1.out,if_pos (.inl (decide_eq_true hn))]);clear HE1;have g1:decide ((8:Int)<(ns.length:Int))=true:=decide_eq_true (by omega);have g2:decide (8<ns.length)=true:=decide_eq_true hn;rcases hw with rfl|⟨rfl,rfl⟩|⟨rfl,rfl,rfl⟩
     all_goals
      go_wp2_with fail
      go_ret
      exact ⟨by rw [HE2.out];rfl,HB.out⟩
   · have g1:decide ((8:Int)<(ns.length:Int))=false:=decide_eq_false (by omega);have g2:decide (8<ns.length)=false:=decide_eq_false hn
     cases ba with
     | true =>
      have HE2:=zz (show E=7 from by rw [HE1.out,if_pos (.inr rfl)]);clear HE1;rcases hw with rfl|⟨rfl,rfl⟩|⟨rfl,rfl,rfl⟩
      all_goals
       go_wp2_with (go_at_call 137;refine (HAN.out _ (Below.refl _ _)).mono ?_)
       rintro _ w2 ⟨rfl,b2⟩;have HB2:=zz (HB.out.trans (b2.mono HB.out.size));clear b2
       go_wp2_with fail
       go_ret
       exact ⟨by rw [HE2.out];rfl,HB2.out⟩
     | false =>
      have HE2:=zz (show E=if decide (65536<d.length)=true then 5 else 0 from by rw [HE1.out,if_neg (by rw [g2];simp)]);clear HE1;by_cases hd:65536<d.length
      · have HE3:=zz (show E=5 from by rw [HE2.out,if_pos (decide_eq_true hd)]);have g3:decide ((65536:Int)<(d.length:Int))=true:=decide_eq_true (by omega);have g4:decide (65536<d.length)=true:=decide_eq_true hd;clear HE2;rcases hw with rfl|⟨rfl,rfl⟩|⟨rfl,rfl,rfl⟩
        all_goals
         go_wp2_with (go_at_call 137;refine (HAN.out _ (Below.refl _ _)).mono ?_)
         rintro _ w2 ⟨rfl,b2⟩;have HB2:=zz (HB.out.trans (b2.mono HB.out.size));have d3:=(Blk.below HX.out b2 HX.out.lt).cell 2;simp at d3;clear b2
         go_wp2_with fail
         go_ret
         exact ⟨by rw [HE3.out];rfl,HB2.out⟩
      · have HE3:=zz (show E=0 from by rw [HE2.out,if_neg (by simpa using hd)]);have g3:decide ((65536:Int)<(d.length:Int))=false:=decide_eq_false (by omega);have g4:decide (65536<d.length)=false:=decide_eq_false hd;clear HE2;rcases hw with rfl|⟨rfl,rfl⟩|⟨rfl,rfl,rfl⟩
        all_goals
         go_wp2_with (go_at_call 137;refine (HAN.out _ (Below.refl _ _)).mono ?_)
         rintro _ w2 ⟨rfl,b2⟩;have HB2:=zz (HB.out.trans (b2.mono HB.out.size));have d3:=(Blk.below HX.out b2 HX.out.lt).cell 2;simp at d3;clear b2
         go_wp2_with fail
         go_ret
         exact ⟨by rw [HE3.out];rfl,HB2.out⟩
end
section
open Go.RowKit Go.Maps
theorem zlz {s:Pth} (h:(47:UInt8)∉s):zap s=s∧parN s=[]:=by
 have hall:∀x∈s.reverse,(x !=47)=true:=fun x hx=>by
  rw [bne_iff_ne];rintro rfl;exact h (List.mem_reverse.1 hx)
 have h1:s.reverse.takeWhile (fun x=>x !=47)=s.reverse:=by
  have:=List.takeWhile_append_of_pos (l₂:=[]) hall;simpa using this
 have h2:s.reverse.dropWhile (fun x=>x !=47)=[]:=by
  have:=List.dropWhile_append_of_pos (l₂:=[]) hall;simpa using this
 unfold zap parN;rw [h1,h2];simp
theorem zkH {p q:Pth} (h:(47:UInt8)∉q):zap (p++47::q)=q∧parN (p++47::q)=p:=by
 have hall:∀x∈q.reverse,(x !=47)=true:=fun x hx=>by
  rw [bne_iff_ne];rintro rfl;exact h (List.mem_reverse.1 hx)
 have hr:(p++47::q).reverse=q.reverse++47::p.reverse:=by simp
 unfold zap parN;rw [hr,List.takeWhile_append_of_pos hall,List.dropWhile_append_of_pos hall];simp
theorem zlG (s:Pth):((47:UInt8)∉s∧Lib.lastIndexByte ⟨s.toArray⟩ 47=-1)∨∃p q:Pth,s=p++47::q∧(47:UInt8)∉q∧Lib.lastIndexByte ⟨s.toArray⟩ 47=(p.length:Int):=by
 have hget:∀j,j<s.length→(⟨s.toArray⟩:ByteArray).data[j]! = s[j]!:=fun j hj=>by simp [hj]
 rcases Lib.lastIndexByte_spec ⟨s.toArray⟩ 47 with ⟨h1,h2⟩|⟨i,hi,h1,h2,h3⟩
 · refine .inl ⟨fun hm=>?_,h1⟩;obtain ⟨j,hj,hx⟩:=List.mem_iff_getElem.1 hm;refine h2 j (by simpa [ByteArray.size] using hj) ?_;rw [hget j hj,getElem!_pos s j hj,hx];rfl
 · have hi':i<s.length:=by simpa [ByteArray.size] using hi
   have hsi:s[i]=47:=by
    rw [hget i hi',getElem!_pos s i hi'] at h2;apply UInt8.toNat_inj.1;show s[i].toNat=47;omega
   refine .inr ⟨s.take i,s.drop (i+1),?_,fun hm=>?_,by rw [h1,List.length_take,Nat.min_eq_left (by omega)]⟩
   · conv=>lhs;rw [←List.take_append_drop i s]
     rw [List.drop_eq_getElem_cons hi',hsi]
   · obtain ⟨j,hj,hx⟩:=List.mem_iff_getElem.1 hm;rw [List.length_drop] at hj;rw [List.getElem_drop] at hx;refine h3 (i+1+j) (by omega) (by simp [ByteArray.size];omega) ?_;rw [hget _ (by omega),getElem!_pos s _ (by omega),hx];rfl
end
section
open Go.RowKit Go.Maps
theorem zgF (p:Pth):∀l:List Pth,zae l→(insK p l).length=if p∈l then l.length else l.length+1
 | [],_=>by simp [insK]
 | q::l,h=>by
  have h2:=List.pairwise_cons.1 h;unfold insK;by_cases e:p=q
  · subst e;simp
  · rw [if_neg e];by_cases hlt:p<q
    · rw [if_pos hlt,if_neg]
      · simp
      · intro hm
        rcases List.mem_cons.1 hm with r|r
        · exact e r
        · exact zbz hlt (h2.1 p r)
    · rw [if_neg hlt,List.length_cons,zgF p l h2.2];by_cases hm:p∈l
      · rw [if_pos hm,if_pos (List.mem_cons_of_mem _ hm)];rfl
      · rw [if_neg hm,if_neg (by simp [e,hm])];rfl
theorem zmB (l:List Pth) (x:Pth):zat (l++[x])=insK x (zat l) :=
 zda (zbI _) (zgC x (zbI l)) fun y=>by
  rw [zbm,zet,zbm,List.mem_append,List.mem_singleton];exact Or.comm
theorem zlK (l:List (Pth×Pth)) (d e s:Pth):zab (l++[(e,s)]) d=if e=d then insK s (zab l d) else zab l d:=by
 unfold zab;rw [List.filter_append];by_cases h:e=d
 · subst h;rw [if_pos rfl];simp [zmB]
 · rw [if_neg h];have:(e==d)=false:=beq_eq_false_iff_ne.2 h;simp [this]
theorem zhg {l:List (Pth×Pth)} {d s:Pth}:s∈zab l d↔(d,s)∈l:=by
 unfold zab;rw [zbm,List.mem_map];constructor
 · rintro ⟨⟨a,b⟩,h,rfl⟩;rw [List.mem_filter] at h;have:a=d:=by simpa using h.2
   rw [←this];exact h.1
 · intro h;exact ⟨(d,s),List.mem_filter.2 ⟨h,by simp⟩,rfl⟩
theorem zln (l:List (Pth×Pth)) (d s:Pth):(zab (l++[(d,s)]) d).length=if (d,s)∈l then (zab l d).length else (zab l d).length+1:=by
 rw [zlK,if_pos rfl,zgF s (zab l d) (zbI _)];by_cases h:(d,s)∈l
 · rw [if_pos (zhg.2 h),if_pos h]
 · rw [if_neg (fun q=>h (zhg.1 q)),if_neg h]
theorem zlO (l:List (Pth×Pth)) {d e:Pth} (s:Pth) (h:e≠d):zab (l++[(e,s)]) d=zab l d:=by
 rw [zlK,if_neg h]
theorem zc1:∀l:List Pth,(zat l).length≤l.length
 | []=>Nat.le_refl _
 | x::l=>by
  have:=zgF x (zat l) (zbI l);have ih:=zc1 l;show (insK x (zat l)).length≤_;rw [this]
  split <;> simp <;> omega
theorem zs3 (l:List (Pth×Pth)) (d:Pth):(zab l d).length≤l.length:=by
 unfold zab;refine Nat.le_trans (zc1 _) ?_;rw [List.length_map];exact List.length_filter_le _ _
structure Ent (w:World) (z be:Nat) (D:List Nat) (l:List (Pth×Pth)):Prop where
 bz:z≤be
 out:be∉D
 dz:∀d∈D,z≤d
 dm:∀d∈D,∃n f,VM w d n f
 map:∃n fE,VM w be n fE∧n≤l.length∧(∀dir,fE dir=none→∀s,(dir,s)∉l) ∧
  (∀dir v,fE dir=some v→∃bd fd,v = .map (some bd)∧bd∈D∧VM w bd (zab l dir).length fd∧(∃s,(dir,s)∈l)∧∀s,(fd s).isSome=true↔(dir,s)∈l) ∧
  (∀dir dir' bd,fE dir=some (.map (some bd))→fE dir'=some (.map (some bd))→dir=dir')
def EntS (be:Nat) (D:List Nat):Nat→Prop:=fun k=>k=be∨k∈D
theorem Ent.keep {S:Nat→Prop} {w w':World} {z be:Nat} {D:List Nat} {l:List (Pth×Pth)} (h:Ent w z be D l) (hk:Keep S w w') (hb:¬S be) (hD:∀d∈D,¬S d):Ent w' z be D l:=by
 obtain ⟨n,fE,h1,h2,h3,h4,h5⟩:=h.map;exact ⟨h.bz,h.out,h.dz,fun d hd=>by
  obtain ⟨n,f,q⟩:=h.dm d hd;exact ⟨n,f,q.keep hk (hD d hd)⟩,n,fE,h1.keep hk hb,h2,h3,fun dir v e=>by
  obtain ⟨bd,fd,q1,q2,q3,q4,q5⟩:=h4 dir v e;exact ⟨bd,fd,q1,q2,q3.keep hk (hD bd q2),q4,q5⟩,h5⟩
theorem ze8 (w:World):(zeroValue 218).run Tryz.prog w = .ok (.map none) w:=by kernel_rfl
theorem ztX (w:World):(binOp .eql 218 (.map none) (.map none)).run Tryz.prog w = .ok (.bool true) w:=by kernel_rfl
theorem zrh (w:World) (b:Nat):(binOp .eql 218 (.map (some b)) (.map none)).run Tryz.prog w = .ok (.bool false) w:=by kernel_rfl
theorem Ent.fresh {w w2 w3:World} {z be n bd:Nat} {D:List Nat} {l:List (Pth×Pth)} {fE:Mp} {dir name:Pth} {v:Value} (h:Ent w z be D l) (hz:z≤w.heap.size) (hbd:bd=w.heap.size) (hv:VM w be n fE) (hn:n≤l.length) (hno:∀dir,fE dir=none→∀s,(dir,s)∉l) (hyes:∀dir v,fE dir=some v→∃bd fd,v = .map (some bd)∧bd∈D∧VM w bd (zab l dir).length fd∧(∃s,(dir,s)∈l)∧∀s,(fd s).isSome=true↔(dir,s)∈l) (hinj:∀dir dir' bd,fE dir=some (.map (some bd))→fE dir'=some (.map (some bd))→dir=dir') (hf:fE dir=none) (v2:VM w2 be (n+1) (mput fE dir (.map (some bd)))) (k2:Keep (Only be) (w.alloc (.map #[] 0)) w2) (v3:VM w3 bd 1 (mput zF name v)) (k3:Keep (Only bd) w2 w3) :∃D',Ent w3 z be D' (l++[(dir,name)])∧Keep (EntS be D) w w3∧∀d∈D',d∈D∨w.heap.size≤d:=by
 have hbe:=hv.lt
 refine ⟨D++[bd],⟨h.bz,?_,?_,?_,n+1,_,v2.keep k3 (by unfold Only;omega),by rw [List.length_append];simp;omega,?_,?_,?_⟩,?_,?_⟩
 · intro hm
   rcases List.mem_append.1 hm with q|q
   · exact h.out q
   · have:=List.mem_singleton.1 q;omega
 · intro d hd
   rcases List.mem_append.1 hd with q|q
   · exact h.dz d q
   · rw [List.mem_singleton.1 q];omega
 · intro d hd
   rcases List.mem_append.1 hd with q|q
   · obtain ⟨n',f,r⟩:=h.dm d q;have hlt:=r.lt;exact ⟨n',f,((r.alloc _).keep k2 (by unfold Only;intro e;exact h.out (e▸q))).keep k3 (by unfold Only;omega)⟩
   · rw [List.mem_singleton.1 q];exact ⟨1,_,v3⟩
 · intro dir' hq s hm;unfold mput at hq
   split at hq
   · cases hq
   · rename_i hne
     rcases List.mem_append.1 hm with q|q
     · exact hno dir' hq s q
     · rw [List.mem_singleton] at q;injection q with q1 q2;exact hne q1
 · intro dir' u hq;unfold mput at hq
   split at hq
   · rename_i he
     subst he;obtain rfl:=Option.some.inj hq
     refine ⟨bd,mput zF name v,rfl,List.mem_append_right _ (List.mem_singleton.2 rfl),?_,⟨name,by simp⟩,fun s=>?_⟩
     · have e0:zab l dir'=[]:=by
        rcases List.eq_nil_or_concat (zab l dir') with q|⟨a,b,q⟩
        · exact q
        · exact absurd (zhg.1 (by rw [q,List.concat_eq_append];simp:b∈zab l dir')) (hno dir' hf b)
       rw [zln,if_neg (hno dir' hf name),e0];exact v3
     · unfold mput;by_cases hs:s=name
       · subst hs;simp
       · rw [if_neg hs];have:=hno dir' hf s;simp [zF,this,hs]
   · rename_i hne
     obtain ⟨b',fd,q1,q2,q3,q4,q5⟩:=hyes dir' u hq;have hb':=q3.lt
     refine ⟨b',fd,q1,List.mem_append_left _ q2,?_,?_,fun s=>?_⟩
     · rw [zlO _ _ (fun e=>hne e.symm)];exact ((q3.alloc _).keep k2 (by unfold Only;intro e;exact h.out (e▸q2))).keep k3 (by unfold Only;omega)
     · obtain ⟨s,hs⟩:=q4;exact ⟨s,List.mem_append_left _ hs⟩
     · rw [q5];constructor
       · exact fun q=>List.mem_append_left _ q
       · intro q
         rcases List.mem_append.1 q with r|r
         · exact r
         · rw [List.mem_singleton] at r;injection r with r1 r2;exact absurd r1 hne
 · intro d1 d2 b' h1 h2;have hlt:∀dir',fE dir'=some (.map (some b'))→b'<w.heap.size:=fun dir' q=>by
    obtain ⟨b2,fd,q1,_,q3,_⟩:=hyes dir' _ q;injection q1 with q1;injection q1 with q1;subst q1;exact q3.lt
   unfold mput at h1 h2
   split at h1
   · rename_i e1
     split at h2
     · rename_i e2;rw [e1,e2]
     · injection h1 with h1;injection h1 with h1;injection h1 with h1;have:=hlt d2 h2;omega
   · split at h2
     · injection h2 with h2;injection h2 with h2;injection h2 with h2;have:=hlt d1 h1;omega
     · exact hinj d1 d2 b' h1 h2
 · have k0:Keep (EntS be D) w (w.alloc (.map #[] 0)):=(Keep.refl _ _).alloc _;have k1:Keep (EntS be D) w w2:=k0.trans (k2.mono fun i _ q => .inl q);exact k1.then_ k3 fun i hi q=>by unfold Only at q;omega
 · intro d hd
   rcases List.mem_append.1 hd with q|q
   · exact .inl q
   · rw [List.mem_singleton.1 q];exact .inr (by omega)
theorem Ent.more {w w3:World} {z be bd n:Nat} {D:List Nat} {l:List (Pth×Pth)} {fE fd:Mp} {dir name:Pth} {v:Value} (h:Ent w z be D l) (hv:VM w be n fE) (hn:n≤l.length) (hno:∀dir,fE dir=none→∀s,(dir,s)∉l) (hyes:∀dir v,fE dir=some v→∃bd fd,v = .map (some bd)∧bd∈D∧VM w bd (zab l dir).length fd∧(∃s,(dir,s)∈l)∧∀s,(fd s).isSome=true↔(dir,s)∈l) (hinj:∀dir dir' bd,fE dir=some (.map (some bd))→fE dir'=some (.map (some bd))→dir=dir') (hf:fE dir=some (.map (some bd))) (hbd:bd∈D) (hs:∀s,(fd s).isSome=true↔(dir,s)∈l) (v3:VM w3 bd (if (fd name).isSome then (zab l dir).length else (zab l dir).length+1) (mput fd name v)) (k3:Keep (Only bd) w w3) :∃D',Ent w3 z be D' (l++[(dir,name)])∧Keep (EntS be D) w w3∧∀d∈D',d∈D∨w.heap.size≤d:=by
 have hne:be≠bd:=fun e=>h.out (e▸hbd);refine ⟨D,⟨h.bz,h.out,h.dz,fun d hd=>by
  by_cases e:d=bd
  · rw [e];exact ⟨_,_,v3⟩
  · obtain ⟨n',f,r⟩:=h.dm d hd;exact ⟨n',f,r.keep k3 e⟩,n,fE,hv.keep k3 hne,by rw [List.length_append];simp;omega,?_,?_,hinj⟩,k3.mono fun i _ q => .inr (by unfold Only at q;rw [q];exact hbd),fun d hd => .inl hd⟩
 · intro dir' hq s hm
   rcases List.mem_append.1 hm with q|q
   · exact hno dir' hq s q
   · rw [List.mem_singleton] at q;injection q with q1 q2;rw [q1,hf] at hq;cases hq
 · intro dir' u hq;by_cases he:dir'=dir
   · subst he;rw [hf] at hq;obtain rfl:=Option.some.inj hq
     refine ⟨bd,mput fd name v,rfl,hbd,?_,⟨name,by simp⟩,fun s=>?_⟩
     · rw [zln];by_cases hm:(dir',name)∈l
       · rw [if_pos hm];rw [if_pos ((hs name).2 hm)] at v3;exact v3
       · rw [if_neg hm];rw [if_neg (fun q=>hm ((hs name).1 q))] at v3;exact v3
     · unfold mput;by_cases hn':s=name
       · subst hn';simp
       · rw [if_neg hn',hs];simp [hn']
   · obtain ⟨b',fd',q1,q2,q3,q4,q5⟩:=hyes dir' u hq;have hb':b'≠bd:=fun e=>he (hinj dir' dir bd (by rw [hq,q1,e]) hf)
     refine ⟨b',fd',q1,q2,?_,?_,fun s=>?_⟩
     · rw [zlO _ _ (fun e=>he e.symm)];exact q3.keep k3 hb'
     · obtain ⟨s,hs⟩:=q4;exact ⟨s,List.mem_append_left _ hs⟩
     · rw [q5];constructor
       · exact fun q=>List.mem_append_left _ q
       · intro q
         rcases List.mem_append.1 q with r|r
         · exact r
         · rw [List.mem_singleton] at r;injection r with r1 r2;exact absurd r1 he
def zfz (z be:Nat) (D:List Nat) (l:List (Pth×Pth)) (e:Pth×Pth) (w:World) (r:Ending) (w':World):Prop:=∃D',r = .returned (.tuple #[])∧Ent w' z be D' (l++[e])∧Keep (EntS be D) w w'∧∀d∈D',d∈D∨w.heap.size≤d
theorem zko (p:Pth) (qe qi z be:Nat) (i:Int) (D:List Nat) (l:List (Pth×Pth)) (w:World) (hp:p.length≤1000000) (hz:z≤w.heap.size) (hE:Ent w z be D l) (hqe:Blk w qe 219 #[.map (some be)]) (hqi:Blk w qi 3 #[.int .i64 i]) (hll:l.length≤10000000) :Calls Tryz.prog 102 #[strC p,.pointer (some ⟨qe,0,none⟩),.pointer (some ⟨qi,0,none⟩)] w (zfz z be D l (parN p,zap p) w):=by
 have HP:=zz (show zfz z be D l (parN p,zap p) w=fun r w'=>∃D',r = .returned (.tuple #[])∧Ent w' z be D' (l++[(parN p,zap p)])∧Keep (EntS be D) w w'∧∀d∈D',d∈D∨w.heap.size≤d from rfl);rw [HP.out];clear HP;unfold strC;have hsz:(⟨p.toArray⟩:ByteArray).size=p.length:=by simp [ByteArray.size]
 have HL:=zz (show Calls Tryz.prog 103 #[.string ⟨p.toArray⟩,.int .u8 47] w (fun e w'=>e = .returned (.int .i64 (Lib.lastIndexByte ⟨p.toArray⟩ 47))∧w=w') from (Tryz.strings_LastIndexByte ⟨p.toArray⟩ 47 (by rw [hsz];omega) w).mono fun _ _ h=>⟨h.1,h.2.symm⟩);have hex:∃kk:Int,Lib.lastIndexByte ⟨p.toArray⟩ 47=kk∧-1≤kk∧kk<p.length∧(⟨p.toArray⟩:ByteArray).extract 0 (max kk 0).toNat=⟨(parN p).toArray⟩∧(⟨p.toArray⟩:ByteArray).extract (kk+1).toNat p.length=⟨(zap p).toArray⟩∧(parN p).length≤p.length∧(zap p).length≤p.length:=by
  have hx:∀i j,(⟨p.toArray⟩:ByteArray).extract i j=⟨((p.take j).drop i).toArray⟩:=fun i j=>by
   apply ByteArray.ext;apply Array.ext';simp [List.drop_take]
  rcases zlG p with ⟨h0,hk⟩|⟨a,b,hab,h0,hk⟩
  · obtain ⟨e1,e2⟩:=zlz h0
    refine ⟨-1,hk,by omega,by omega,?_,?_,by rw [e2];simp,by rw [e1];exact Nat.le_refl _⟩
    · rw [hx,e2,show (max (-1:Int) 0).toNat=0 by decide,List.take_zero,List.drop_zero]
    · rw [hx,e1];simp
  · obtain ⟨e1,e2⟩:=zkH h0 (p:=a);rw [←hab] at e1 e2;have hl:p.length=a.length+1+b.length:=by rw [hab];simp;omega
    refine ⟨a.length,hk,by omega,by omega,?_,?_,by rw [e2];omega,by rw [e1];omega⟩
    · rw [hx,e2,show (max (a.length:Int) 0).toNat=a.length by omega,List.drop_zero];rw [hab,List.take_append_of_le_length (Nat.le_refl _),List.take_length]
    · rw [hx,e1,List.take_length,show ((a.length:Int)+1).toNat=a.length+1 by omega,hab];rw [List.drop_append,List.drop_eq_nil_of_le (by omega)];simp
 obtain ⟨kk,hk,k1,k2,x1,x2,l1,l2⟩:=hex;rw [hk] at HL;generalize parN p=dir at *;generalize zap p=name at *;have m0:(0:Int)≤max kk 0:=by omega
 have m1:max kk 0≤(p.length:Int):=by omega
 have m2:(0:Int)≤kk+1:=by omega
 have m3:kk+1≤(p.length:Int):=by omega
 have m4:IntKind.i64.wrap (kk+1)=kk+1:=IntWalk.i64_in _ (by omega);clear hk;obtain ⟨n,fE,hv,hn,hno,hyes,hinj⟩:=hE.map;have HE:=zz hE;have HQE:=zz hqe;have HQI:=zz hqi;have hdl:dir.length≤maxLen:=by unfold maxLen;omega
 have hnl:name.length≤maxLen:=by unfold maxLen;omega
 have hlk:=hv.look Tryz.underlying219 (ze8 w) hdl;unfold strC at hlk;have hqeb:qe≠be:=fun e=>by
  obtain ⟨D0,⟨es,clock,q1,_⟩,_⟩:=hv;rw [←e,show w.heap[qe]? = _ from hqe] at q1;cases q1
 have hqib:qi≠be:=fun e=>by
  obtain ⟨D0,⟨es,clock,q1,_⟩,_⟩:=hv;rw [←e,show w.heap[qi]? = _ from hqi] at q1;cases q1
 have hqel:=hqe.lt;have hqil:=hqi.lt
 cases hf:fE dir with
 | none =>
  rw [hf] at hlk;simp only [Option.getD_none] at hlk;have hbe:=hv.lt;have v1:VM (w.alloc (.map #[] 0)) be n fE:=hv.alloc _;have v1d:VM (w.alloc (.map #[] 0)) w.heap.size 0 zF:=VM.made w;obtain ⟨w2,hst,v2,k2,z2⟩:=v1.store Tryz.underlying219 (by unfold maxLen;omega) hdl (.map (some w.heap.size));have v2d:VM w2 w.heap.size 0 zF:=v1d.keep k2 (by unfold Only;omega);rw [hf] at v2;have hlk2:=v2.look Tryz.underlying219 (ze8 w2) hdl;rw [show mput fE dir (.map (some w.heap.size)) dir=some (.map (some w.heap.size)) from if_pos rfl] at hlk2;simp only [Option.getD_some] at hlk2;have hlk3:=(show VM w2.drew be _ _ from v2.block rfl).look Tryz.underlying219 (ze8 w2.drew) hdl;rw [show mput fE dir (.map (some w.heap.size)) dir=some (.map (some w.heap.size)) from if_pos rfl] at hlk3;simp only [Option.getD_some] at hlk3;obtain ⟨w3,hst3,v3,k3,z3⟩:=(show VM w2.drew w.heap.size 0 zF from v2d.block rfl).store Tryz.underlying218 (by unfold maxLen;omega) hnl (.int .i64 i);have HFIN:=zz (hE.fresh hz rfl hv hn hno hyes hinj hf v2 k2 v3 (Keep.ofDrewN (n:=1) k3));unfold strC at hst hlk2 hlk3 hst3;have c2:=((hqe.alloc (.map #[] 0)).keep k2 (by unfold Only;exact hqeb)).cell 0;have c3:=((hqi.alloc (.map #[] 0)).keep k2 (by unfold Only;exact hqib)).cell 0;simp at c2 c3;have c2d:w2.drew.cell? ⟨qe,0,none⟩=some (.map (some be)):=c2;have c3d:w2.drew.cell? ⟨qi,0,none⟩=some (.int .i64 i):=c3;have c1:=hqe.cell 0;simp at c1;have he:=ztX w;have hmm:=@run_makeMap Tryz.prog;go_enter Tryz.func102,Tryz.ntmps102
  go_wp2_with (go_at_call 103;refine HL.out.mono ?_;rintro _ _ ⟨rfl,rfl⟩)
  clear v1 v1d v2 v2d k2 v3 k3 hv hno hyes hinj hE
  go_region_law (fail)
  all_goals
   go_end0
   obtain ⟨D',q1,q2,q3⟩:=HFIN.out
   exact ⟨D',rfl,q1,q2,q3⟩
 | some v =>
  obtain ⟨bd,fd,rfl,hbd,hvd,_,hsd⟩:=hyes dir v hf;rw [hf] at hlk;simp only [Option.getD_some] at hlk;have hlk3:=(show VM w.drew be _ _ from hv.block rfl).look Tryz.underlying219 (ze8 w.drew) hdl;rw [hf] at hlk3;simp only [Option.getD_some] at hlk3;have hnn:=zs3 l dir;obtain ⟨w3,hst3,v3,k3,z3⟩:=(show VM w.drew bd _ _ from hvd.block rfl).store Tryz.underlying218 (by unfold maxLen;omega) hnl (.int .i64 i);have HFIN:=zz (hE.more hv hn hno hyes hinj hf hbd hsd v3 (Keep.ofDrewN (n:=1) k3));unfold strC at hlk3 hst3;have c1:=hqe.cell 0;have c3:=hqi.cell 0;simp at c1 c3;have c2d:w.drew.cell? ⟨qe,0,none⟩=some (.map (some be)):=c1;have c3d:w.drew.cell? ⟨qi,0,none⟩=some (.int .i64 i):=c3;have he:=zrh w bd;clear v3 k3 hv hno hyes hinj hE hvd hsd;go_enter Tryz.func102,Tryz.ntmps102
  go_wp2_with (go_at_call 103;refine HL.out.mono ?_;rintro _ _ ⟨rfl,rfl⟩)
  go_region_law (fail)
  all_goals
   go_end0
   obtain ⟨D',q1,q2,q3⟩:=HFIN.out;exact ⟨D',rfl,q1,q2,q3⟩
end
section
open Go.RowKit Go.Maps
structure CkS (w:World) (z qs qe qi qb qp bs be:Nat) (i:Int) (seen:List Pth) (D:List Nat) (l:List (Pth×Pth)) (b:Bool):Prop where
 s:Blk w qs 218 #[.map (some bs)]
 e:Blk w qe 219 #[.map (some be)]
 i:Blk w qi 3 #[.int .i64 i]
 b:Blk w qb 4 #[.bool b]
 p:Blk w qp 222 #[.func (.func 102) #[] #[.pointer (some ⟨qe,0,none⟩),.pointer (some ⟨qi,0,none⟩)]]
 m:∃n fs,VM w bs n fs∧n≤seen.length∧∀t,(fs t).isSome=true↔t∈seen
 ent:Ent w z be D l
 bz:z≤bs
 ne:bs≠be
 nd:bs∉D
 zq:z≤qs∧z≤qe∧z≤qi∧z≤qb∧z≤qp
 qq:qs≠qb∧qe≠qb∧qi≠qb∧qp≠qb
theorem VM.noBlk {w:World} {b n:Nat} {f:Mp} (h:VM w b n f) {t:TypeId} {cs:Array Value} {q:Nat} (hq:Blk w q t cs):q≠b:=fun e=>by
 obtain ⟨D0,⟨es,clock,q1,_⟩,_⟩:=h;rw [←e,show w.heap[q]? = _ from hq] at q1;cases q1
theorem Ent.noBlk {w:World} {z be:Nat} {D:List Nat} {l:List (Pth×Pth)} (h:Ent w z be D l) {t:TypeId} {cs:Array Value} {q:Nat} (hq:Blk w q t cs):q≠be:=by
 obtain ⟨n,fE,h1,_⟩:=h.map;exact h1.noBlk hq
def CkK (qb be:Nat) (D:List Nat):Nat→Prop:=fun k=>k=qb∨k=be∨k∈D
theorem CkK.then_ {w w1 w2:World} {qb be:Nat} {D D1:List Nat} (h:Keep (CkK qb be D) w w1) (hD:∀d∈D1,d∈D∨w.heap.size≤d) (k:Keep (CkK qb be D1) w1 w2):Keep (CkK qb be D) w w2 :=
 h.then_ k fun i hi q=>by
  rcases q with q|q|q
  · exact .inl q
  · exact .inr (.inl q)
  · rcases hD i q with r|r
    · exact .inr (.inr r)
    · omega
def zaO (seen:List Pth) (ds:List Pth):Bool:=ds.any fun d=>decide (d∈seen)
def entD (ds:List Pth):List (Pth×Pth):=ds.map fun d=>(parN d,zap d)
def zdC (z qs qe qi qb qp bs be:Nat) (i:Int) (seen:List Pth) (D:List Nat) (l:List (Pth×Pth)) (b:Bool) (ds:List Pth) (w:World) (r:Ending) (w':World):Prop :=
 ∃D',r = .returned (.tuple #[])∧CkS w' z qs qe qi qb qp bs be i seen D' (l++entD ds) (b||zaO seen ds)∧Keep (CkK qb be D) w w'∧∀d∈D',d∈D∨w.heap.size≤d
theorem zth (p:Pth) (z qs qe qi qb qp bs be:Nat) (i:Int) (seen:List Pth) (D:List Nat) (l:List (Pth×Pth)) (b:Bool) (w:World) (hp:p.length≤1000000) (hz:z≤w.heap.size) (h:CkS w z qs qe qi qb qp bs be i seen D l b) (hll:l.length≤10000000) :Calls Tryz.prog 105 #[strC p,.pointer (some ⟨qs,0,none⟩),.pointer (some ⟨qb,0,none⟩),.pointer (some ⟨qp,0,none⟩)] w (zdC z qs qe qi qb qp bs be i seen D l b [p] w):=by
 have HP:=zz (show zdC z qs qe qi qb qp bs be i seen D l b [p] w=fun r w'=>∃D',r = .returned (.tuple #[])∧CkS w' z qs qe qi qb qp bs be i seen D' (l++entD [p]) (b||zaO seen [p])∧Keep (CkK qb be D) w w'∧∀d∈D',d∈D∨w.heap.size≤d from rfl);rw [HP.out];clear HP;obtain ⟨n,fs,hv,hn,hs⟩:=h.m;have hlk:=hv.look_ok Tryz.underlying218 (zbw w) (s:=p) (by unfold maxLen;omega);have hsee:(fs p).isSome=decide (p∈seen):=by
  by_cases q:p∈seen
  · rw [(hs p).2 q,decide_eq_true q]
  · rw [decide_eq_false q];exact Bool.eq_false_iff.2 fun r=>q ((hs p).1 r)
 rw [hsee] at hlk;have hb1:(b||zaO seen [p])=(b||decide (p∈seen)):=by simp [zaO]
 rw [hb1];have HSL:=zz (show ∀b':Bool,CkS (w.setCell ⟨qb,0,none⟩ (.bool b')) z qs qe qi qb qp bs be i seen D l b'∧Keep (CkK qb be D) w (w.setCell ⟨qb,0,none⟩ (.bool b')) from fun b'=>by
  obtain ⟨a1,a2,a3,a4⟩:=h.qq;have kk:Keep (Only qb) w (w.setCell ⟨qb,0,none⟩ (.bool b')):=(Keep.refl (Only qb) w).setCell (p:=⟨qb,0,none⟩) (.inl rfl) _;have hbq:¬Only qb be:=fun e=>h.ent.noBlk h.b e.symm;have hbs:¬Only qb bs:=fun e=>hv.noBlk h.b e.symm;have hDq:∀d∈D,¬Only qb d:=fun d hd e=>by
   obtain ⟨n',f,q⟩:=h.ent.dm d hd;exact q.noBlk h.b e.symm
  refine ⟨⟨h.s.far a1 _,h.e.far a2 _,h.i.far a3 _,?_,h.p.far a4 _,⟨n,fs,hv.keep kk hbs,hn,hs⟩,h.ent.keep kk hbq hDq,h.bz,h.ne,h.nd,h.zq,h.qq⟩,kk.mono fun k _ q => .inl q⟩;have:=h.b.set_ 0 (.bool b');simpa using this)
 have HB:=zz (fun (W:World) (D':List Nat) (b':Bool) (hW:CkS W z qs qe qi qb qp bs be i seen D' l b') (hzW:z≤W.heap.size)=>zko p qe qi z be i D' l W hp hzW hW.ent hW.e hW.i hll);unfold zfz at HB;obtain ⟨HS1,HK1⟩:=HSL.out (b||decide (p∈seen));have HS1:=zz HS1;have HK1:=zz HK1;have c1:=h.s.cell 0;have c2:=h.b.cell 0;have f2:=h.b.frozen 0;have c3:=HS1.out.p.cell 0;simp at c1 c2 c3;have HH:=zz h;have hzz:=hz;unfold strC at hlk HB;unfold strC;clear h hv hs hsee hb1 HSL;generalize decide (p∈seen)=e at *;cases b
 all_goals
  simp only [Bool.true_or,Bool.false_or] at HS1 HK1 c3 ⊢;go_enter Tryz.func105,Tryz.ntmps105
  go_wp2_with (go_at_call 102;refine (HB.out _ D _ HS1.out (Nat.le_trans hzz HK1.out.size)).mono ?_)
  rintro _ w2 ⟨D',rfl,q1,q2,q3⟩;have hsz:=HK1.out.size;have HS2:=zz q1;have HK2:=zz q2;have HD2:=zz q3;clear q1 q2 q3
  go_wp2_with fail
  go_end0
  obtain ⟨a1,a2,a3,a4⟩:=HH.out.qq;obtain ⟨n1,fs1,v1,v2,v3⟩:=HS1.out.m;have nS:∀{t cs q},Blk (w.setCell ⟨qb,0,none⟩ _) q t cs→¬EntS be D q:=fun hq q=>by
   rcases q with q|q
   · exact HS1.out.ent.noBlk hq q
   · obtain ⟨n',f,r⟩:=HS1.out.ent.dm _ q;exact r.noBlk hq rfl
  have nbs:¬EntS be D bs:=fun q=>by
   rcases q with q|q
   · exact HS1.out.ne q
   · exact HS1.out.nd q
  refine ⟨D',rfl,⟨HS1.out.s.keep HK2.out (nS HS1.out.s),HS1.out.e.keep HK2.out (nS HS1.out.e),HS1.out.i.keep HK2.out (nS HS1.out.i),HS1.out.b.keep HK2.out (nS HS1.out.b),HS1.out.p.keep HK2.out (nS HS1.out.p),⟨n1,fs1,v1.keep HK2.out nbs,v2,v3⟩,HS2.out,HS1.out.bz,HS1.out.ne,fun q=>?_,HS1.out.zq,HS1.out.qq⟩,HK1.out.then_ HK2.out fun k _ q=>?_,fun d hd=>?_⟩
  · rcases HD2.out bs q with r|r
    · exact HS1.out.nd r
    · have:=v1.lt;omega
  · exact .inr q
  · rcases HD2.out d hd with r|r
    · exact .inl r
    · exact .inr (Nat.le_trans hsz r)
end
section
open Go.RowKit Go.Maps
theorem zmb (x:UInt8):∀(b cur:Pth),zaZ cur (b++[x])=zaZ cur b++(if x=47 then [cur++b] else [])
 | [],cur=>by
  simp only [List.nil_append,zaZ,List.append_nil]
 | y::b,cur=>by
  have ih:=zmb x b (cur++[y]);rw [List.cons_append,zaZ,zaZ,ih];have e:cur++[y]++b=cur++y::b:=by simp
  rw [e]
  split
  · simp
  · rfl
theorem zhk {p:Pth} {k:Nat} {x:UInt8} (h:p[k]? = some x):zj (p.take (k+1))=zj (p.take k)++(if x=47 then [p.take k] else []):=by
 unfold zj;rw [List.take_add_one,h];exact zmb x _ _
theorem zg3 (p:Pth):(zj p).length≤p.length:=by
 have:∀(b cur:Pth),(zaZ cur b).length≤b.length:=fun b=>by
  induction b with
  | nil=>intro cur;simp [zaZ]
  | cons x b ih =>
   intro cur;unfold zaZ;have:=ih (cur++[x])
   split <;> simp <;> omega
 exact this p []
theorem zmE (a:List Pth) (d:Pth):entD (a++[d])=entD a++[(parN d,zap d)]:=by simp [entD]
theorem zrk (seen a c:List Pth):zaO seen (a++c)=(zaO seen a||zaO seen c):=by simp [zaO]
theorem zqG (p:Pth) (z qs qe qi qb qp bs be:Nat) (i:Int) (seen:List Pth) (D:List Nat) (l:List (Pth×Pth)) (b:Bool) (w:World) (hp:p.length≤1000000) (hz:z≤w.heap.size) (h:CkS w z qs qe qi qb qp bs be i seen D l b) (hll:l.length≤1000000) :Calls Tryz.prog 104 #[strC p,.func (.func 105) #[] #[.pointer (some ⟨qs,0,none⟩),.pointer (some ⟨qb,0,none⟩),.pointer (some ⟨qp,0,none⟩)]] w (zdC z qs qe qi qb qp bs be i seen D l b (zj p) w):=by
 have HP:=zz (show zdC z qs qe qi qb qp bs be i seen D l b (zj p) w=fun r w'=>∃D',r = .returned (.tuple #[])∧CkS w' z qs qe qi qb qp bs be i seen D' (l++entD (zj p)) (b||zaO seen (zj p))∧Keep (CkK qb be D) w w'∧∀d∈D',d∈D∨w.heap.size≤d from rfl);rw [HP.out];clear HP;have HH:=zz h;clear h;unfold strC;have hsz:(⟨p.toArray⟩:ByteArray).size=p.length:=by simp [ByteArray.size]
 go_enter Tryz.func104,Tryz.ntmps104
 go_wp2_with fail
 go_loopw [7] (fun s7 wr=>∃(k:Nat) (D':List Nat),s7 = .int .i64 (k:Nat)∧k≤p.length∧Hid (CkS wr z qs qe qi qb qp bs be i seen D' (l++entD (zj (p.take k))) (b||zaO seen (zj (p.take k))))∧Hid (Keep (CkK qb be D) w wr)∧Hid (∀d∈D',d∈D∨w.heap.size≤d)) (fun s7 _=>p.length-(intOf s7).toNat)
 case atStart=>exact ⟨0,D,rfl,Nat.zero_le _,zz (by simpa [zj,zaZ,entD,zaO] using HH.out),zz (Keep.refl _ _),zz fun d hd => .inl hd⟩
 case round =>
  obtain ⟨k,D',rfl,hk,HS,HK,HD⟩:=hrel;by_cases hlt:k<p.length
  · obtain ⟨x,hx⟩:∃x,p[k]? = some x:=⟨_,List.getElem?_eq_getElem hlt⟩;have HT:=zz (zhk hx);have i0:(0:Int)≤(k:Int):=by omega
    have i1:(k:Int)<(p.length:Int):=by omega
    have hx1:p[k]=x:=by
     have:=List.getElem?_eq_getElem hlt;rw [hx] at this;exact (Option.some.inj this).symm
    have hb:((⟨p.toArray⟩:ByteArray)[k]'(by rw [hsz];exact hlt))=x:=hx1;have he:(⟨p.toArray⟩:ByteArray).extract 0 k=⟨(p.take k).toArray⟩:=by
     apply ByteArray.ext;apply Array.ext';simp
    have hdl:=zg3 (p.take k);rw [List.length_take] at hdl;have HC:=zz (zth (p.take k) z qs qe qi qb qp bs be i seen D' (l++entD (zj (p.take k))) (b||zaO seen (zj (p.take k))) wr (by rw [List.length_take];omega) (Nat.le_trans hz HK.out.size) HS.out (by rw [List.length_append,entD,List.length_map];omega));unfold zdC strC at HC;clear hx1 hdl hx;by_cases hx:x=47
    · subst hx;rw [if_pos rfl] at HT
      go_wp2_with (go_at_call 105;refine HC.out.mono ?_)
      rintro _ w2 ⟨D2,rfl,q1,q2,q3⟩;have HS2:=zz (show CkS w2 z qs qe qi qb qp bs be i seen D2 (l++entD (zj (p.take (k+1)))) (b||zaO seen (zj (p.take (k+1)))) from by
       rw [HT.out,zmE,zrk,←List.append_assoc,←Bool.or_assoc];exact q1)
      have HK2:=zz (CkK.then_ HK.out HD.out q2);have HD2:=zz (show ∀d∈D2,d∈D∨w.heap.size≤d from fun d hd=>by
       rcases q3 d hd with r|r
       · exact HD.out d r
       · exact .inr (Nat.le_trans HK.out.size r))
      clear q1 q2 q3
      go_wp2_with fail
      go_roundw
      case rel=>exact ⟨k+1,D2,by go_num,hlt,HS2,HK2,HD2⟩
      case measure=>simp [intOf];omega
    · have hne:((x.toNat:Int)==47)=false:=beq_eq_false_iff_ne.2 fun e=>hx (by apply UInt8.toNat_inj.1;show x.toNat=47;omega);rw [if_neg hx,List.append_nil] at HT;rw [←HT.out] at HS
      go_wp2_with fail
      go_roundw
      case rel=>exact ⟨k+1,D',by go_num,hlt,HS,HK,HD⟩
      case measure=>simp [intOf];omega
  · obtain rfl:k=p.length:=by omega
    rw [List.take_length] at HS
    go_wp2_with fail
    go_end0
    exact ⟨D',rfl,HS.out,HK.out,HD.out⟩
end
end Go.Proofs.YtmkmbbjgepcioaaGreatDoor
