/- Contract of lines.table: of each place in both rows of numbers how many can be kept behind it. No statement of the seat is proved here. -/
import Derived.Test.YtmkmbbjgepcioaaGreatDoorSAHq
import Derived.Test.YtmkmbbjgepcioaaGreatDoorSA02
import Derived.Maps.OwnSet
import Derived.Test.YtmkmbbjgepcioaaGreatDoorProg
import Derived.OwnWalk
import Derived.Maps.RangeWalk
import Derived.Test.YtmkmbbjgepcioaaGreatDoorSA01
namespace Go.Proofs.YtmkmbbjgepcioaaGreatDoor
set_option maxHeartbeats 4000000
set_option maxRecDepth 100000
section
open Go.RowKit Go.Maps
def strC (s:List UInt8):Value := .string ⟨s.toArray⟩
def keyS (s:List UInt8):Lit := .string s
theorem zeA {s t:List UInt8} (h:keyS s=keyS t):s=t:=by
 unfold keyS at h;injection h
theorem zdj (s:List UInt8):WideAt.IsKeyLit (keyS s):=trivial
def zaF (d:List (List UInt8)) (s:List UInt8):List (List UInt8):=if s∈d then d else d++[s]
def dict (d:List (List UInt8)):List (List UInt8)→List (List UInt8)
 | []=>d
 | s::l=>dict (zaF d s) l
theorem zqt (d l:List (List UInt8)) (s:List UInt8):dict d (l++[s])=zaF (dict d l) s:=by
 induction l generalizing d with
 | nil=>rfl
 | cons x l ih=>rw [List.cons_append,dict,dict,ih]
theorem zqF (d:List (List UInt8)) (s:List UInt8):∃t,zaF d s=d++t:=by
 unfold zaF
 split
 · exact ⟨[],by simp⟩
 · exact ⟨[s],rfl⟩
theorem zhX (d l:List (List UInt8)):∃t,dict d l=d++t:=by
 induction l generalizing d with
 | nil=>exact ⟨[],by simp [dict]⟩
 | cons x l ih =>
  obtain ⟨t,ht⟩:=ih (zaF d x);obtain ⟨u,hu⟩:=zqF d x;exact ⟨u++t,by rw [dict,ht,hu,List.append_assoc]⟩
theorem zoh (d:List (List UInt8)) (s:List UInt8):s∈zaF d s:=by
 unfold zaF
 split
 · assumption
 · simp
theorem zf2 (d l:List (List UInt8)):∀s∈l,s∈dict d l:=by
 induction l generalizing d with
 | nil=>simp
 | cons x l ih =>
  intro s hs;rw [dict]
  rcases List.mem_cons.1 hs with rfl|hs
  · obtain ⟨t,ht⟩:=zhX (zaF d s) l;rw [ht];exact List.mem_append_left _ (zoh d s)
  · exact ih _ s hs
theorem ziy {d t:List (List UInt8)} {s:List UInt8} (h:s∈d):(d++t).idxOf s=d.idxOf s:=by
 rw [List.idxOf_append];simp [h]
theorem zmH {d:List (List UInt8)} {s t:List UInt8} (hs:s∈d) (h:d.idxOf s=d.idxOf t):s=t:=by
 have h1:=List.idxOf_lt_length_of_mem hs;have h2:d[d.idxOf s]=s:=List.getElem_idxOf h1;have h3:d[d.idxOf t]'(by rw [←h];exact h1)=t:=List.getElem_idxOf (by rw [←h];exact h1);rw [←h2,←h3]
 congr 1
theorem zkf (d l:List (List UInt8)):(dict d l).length≤d.length+l.length:=by
 induction l generalizing d with
 | nil=>simp [dict]
 | cons x l ih =>
  have h:=ih (zaF d x);have h1:(zaF d x).length≤d.length+1:=by
   unfold zaF
   split <;> simp
  rw [dict];simp at h ⊢;omega
def Dict (P:Program) (k e:TypeId) (w:World) (b:Nat) (d:List (List UInt8)):Prop :=
 ∃D:DataW Unit,w.ownsMap P k (plainElem P e) b d.length D∧Tidy D∧Maps.size D=d.length∧(∀s,has D (keyS s)=decide (s∈d))∧∀s∈d,D.atKey (keyS s) (.lit (.int .i64 0)) = .lit (.int .i64 (d.idxOf s:Nat))
section
variable {P:Program} {k e:TypeId} {w w':World} {b:Nat} {d:List (List UInt8)}
theorem Dict.made (w:World) (P:Program) (k e:TypeId):Dict P k e (w.alloc (.map #[] 0)) w.heap.size [] :=
 ⟨.map [],World.ownsMap_made _ _ _ _,tidy_empty,rfl,fun s=>by simp [has_eq],fun s hs=>absurd hs (by simp)⟩
theorem Dict.lt (h:Dict P k e w b d):b<w.heap.size:=by
 obtain ⟨D,h1,_⟩:=h;exact h1.lt
theorem Dict.kept {row:Option Nat} (h:Dict P k e w b d) (hg:w.grownBy w' row) (hne:some b≠row):Dict P k e w' b d:=by
 obtain ⟨D,h1,h2⟩:=h;exact ⟨D,h1.kept hg hne,h2⟩
theorem Dict.block (h:Dict P k e w b d) (hb:w'.heap[b]? = w.heap[b]?):Dict P k e w' b d:=by
 obtain ⟨D,⟨es,clock,q1,q2⟩,h2⟩:=h;exact ⟨D,⟨es,clock,hb.trans q1,q2⟩,h2⟩
theorem Dict.alloc (h:Dict P k e w b d) (o:Obj):Dict P k e (w.alloc o) b d:=h.kept (World.grownBy_alloc w o none) (by simp)
theorem Dict.setCell (h:Dict P k e w b d) {p:Addr} (hp:b≠p.block) (u:Value):Dict P k e (w.setCell p u) b d:=by
 obtain ⟨D,h1,h2⟩:=h;exact ⟨D,h1.setCell hp u,h2⟩
theorem Dict.put {D:DataW Unit} {s:List UInt8} (h1:w'.ownsMap P k (plainElem P e) b (d.length+1) (D.put (keyS s) (.lit (.int .i64 (d.length:Nat))))) (ht:Tidy D) (hs:Maps.size D=d.length) (hh:∀s,has D (keyS s)=decide (s∈d)) (ha:∀s∈d,D.atKey (keyS s) (.lit (.int .i64 0)) = .lit (.int .i64 (d.idxOf s:Nat))) (hn:s∉d):Dict P k e w' b (d++[s]):=by
 have hh0:has D (keyS s)=false:=by rw [hh];simpa using hn
 refine ⟨_,by simpa using h1,ht.put (zdj s) _,?_,fun t=>?_,fun t hm=>?_⟩
 · rw [size_put ht,hh0];simp [hs]
 · by_cases hst:t=s
   · subst hst;rw [has_put_same ht.isMap (zdj t)];simp
   · rw [has_put_other (fun q=>hst (zeA q)),hh];simp [hst]
 · by_cases hst:t=s
   · subst hst;rw [atKey_put_same ht.isMap (zdj t),List.idxOf_append];simp [hn]
   · have hm':t∈d:=by
      rcases List.mem_append.1 hm with q|q
      · exact q
      · exact absurd (List.mem_singleton.1 q) hst
     rw [atKey_put_other (fun q=>hst (zeA q)),ha t hm',ziy hm']
end
end
section
open Go.RowKit Go.WideMaps Go.Maps
section
variable {P:Program}
theorem zfh {ops:Array Oper} {rest:List Oper} {o:Oper} {a:Act} {w:World} {Q:Exit→Act→World→Prop} (hgd:o.guard=none) {t e:TypeId} {l c:Operand} (ho:o.op = .makeSlice t l c) {z:Value} {y:Nat} (ht:P.underlying t=some (.slice e)) (hi0:(P.info? e).map (fun i=>(i.zero,i.size,i.bytes))=some (some z,1,y)) (hzc:z.cells=#[z]) (hy:y≤100) (n:Nat) (hn:n≤1000000) {Z Y:Int} (hl:a.eval l = .int .i64 Z) (hc:a.eval c = .int .i64 Y) (hZ:Z=(n:Int)) (hY:Y=(n:Int)) (h:wpList P ops Q rest (a.put o.dst (.slice (some ⟨w.heap.size,0,none⟩) n n)) (w.alloc (.cells (Array.replicate n z) e))):wpList P ops Q (o::rest) a w :=
 wpList_plain hgd fun _ hK=>by
  obtain ⟨i,hi,h1,h2,h3⟩:=info_parts hi0;have hrun:=run_makeSlice (P:=P) w t e i z ht hi h1 .i64 .i64 (n:Int) (n:Int) (by omega) (Int.le_refl _) (by rw [h2];simp;omega) (by rw [h3];have h:=Nat.mul_le_mul hy hn;rw [←Int.natCast_mul];exact Int.ofNat_le.2 (Nat.le_trans h (show 100*1000000≤281474976710656 by omega))) (by omega);rw [Int.toNat_natCast,h2,hzc] at hrun;have hmk:madeCells #[z] (n*1)=Array.replicate n z:=by
   apply Array.ext';apply List.ext_getElem
   · simp [madeCells]
   · intro i h1 h2;simp [madeCells,Nat.mod_one]
  rw [hmk] at hrun;subst hZ hY;unfold Oper.wp execOp;simp only [ho,hl,hc,Sem.run_bind,hrun,Result.andThen_ok,Sem.run_pure]
  exact hK _ _ h
end
def strL (l:List (List UInt8)):List Value:=l.map strC
theorem zqL {l:List (List UInt8)} {k:Nat} {s:List UInt8} (h:l[k]? = some s):(strL l)[k]? = some (strC s):=by simp [strL,h]
theorem ze.strAt {w:World} {B n k:Nat} {A:Option Addr} {l:List (List UInt8)} {s:List UInt8} (h:ze w B 1 A n (strL l)) (hs:l[k]? = some s) (hn:l.length=n):∃g off,A=some ⟨g,off,none⟩∧g<B∧w.cell? ⟨g,off+k,none⟩=some (strC s):=by
 have hk:k<l.length:=by
  rcases Nat.lt_or_ge k l.length with q|q
  · exact q
  · rw [List.getElem?_eq_none q] at hs;cases hs
 obtain ⟨g,off,e,hb,hc⟩:=h.at0 (by omega) (by omega);exact ⟨g,off,e,hb,hc _ _ (zqL hs)⟩
abbrev Dic (w:World) (b:Nat) (d:List (List UInt8)):Prop:=Dict Tryz.prog 9 3 w b d
theorem zbw (w:World):(zeroValue 3).run Tryz.prog w = .ok (.int .i64 0) w:=by kernel_rfl
theorem zlr:(Tryz.prog.info? 3).map (fun i=>(i.zero,i.size,i.bytes))=some (some (.int .i64 0),1,8):=by kernel_rfl
theorem zdd:Keyed Tryz.prog 9:=string_keyed Tryz.underlying9
theorem zd5 {s:List UInt8} (hs:s.length≤maxLen):keyOf Tryz.prog 9 (strC s)=some (keyS s):=by
 have:=keyOf_string_mk (P:=Tryz.prog) Tryz.underlying9 (s:=⟨s.toArray⟩) (show s.toArray.size≤maxLen by simpa using hs);simpa [strC,keyS] using this
theorem Dict.look {w:World} {b:Nat} {d:List (List UInt8)} (h:Dic w b d) {s:List UInt8} (hs:s.length≤maxLen) :∃c:Int,(Instr.lookup 218 (.map (some b)) (strC s) true).run Tryz.prog w = .ok (.tuple #[.int .i64 c,.bool (decide (s∈d))]) w∧(s∈d→c=(d.idxOf s:Nat)):=by
 obtain ⟨D,h1,h2,h3,h4,h5⟩:=h;obtain ⟨v,ps,hrun,hv⟩:=h1.look_ok zdd Tryz.underlying218 (zbw w) (plainElem_int Tryz.underlying3 (by decide)) (zd5 hs);obtain ⟨c,rfl,hc,_⟩:=plainElem_int_inv Tryz.underlying3 hv;refine ⟨c,by rw [hrun,h4],fun hm=>?_⟩;rw [h5 s hm] at hc;simp only [Prod.mk.injEq,DataW.lit.injEq,Lit.int.injEq,true_and] at hc;exact hc.1.symm
theorem Dict.len {w:World} {b:Nat} {d:List (List UInt8)} (h:Dic w b d) (ty:TypeId):(Builtin.len_ #[218] ty #[.map (some b)]).run Tryz.prog w = .ok (.int .i64 (d.length:Nat)) w:=by
 obtain ⟨D,h1,h2,h3,h4,h5⟩:=h;rw [h1.len Tryz.underlying218,h3]
theorem zci {w w':World} {b:Nat} (h:w.grownBy w' (some b)):Keep (Only b) w w':=⟨h.os,h.tape,h.output,h.size,fun k hk hn=>h.block k hk (fun e=>hn (by injection e))⟩
def numL (d:List (List UInt8)) (l:List (List UInt8)):List Value:=l.map fun s => .int .i64 ((d.idxOf s:Nat):Int)
theorem zfb (d l:List (List UInt8)):(numL d l).length=l.length:=by simp [numL]
theorem ziB {d t l:List (List UInt8)} (h:∀s∈l,s∈d):numL (d++t) l=numL d l:=by
 unfold numL;apply List.map_congr_left;intro s hs;rw [ziy (h s hs)]
theorem zjv (xs:List Value) (n k:Nat) (v z:Value) (hk:k<n) (hx:xs.length=k):((xs++List.replicate (n-k) z).toArray).setIfInBounds k v=(xs++[v]++List.replicate (n-(k+1)) z).toArray:=by
 apply Array.ext';rw [Array.toList_setIfInBounds,List.set_append_right _ _ (by omega),hx,Nat.sub_self];obtain ⟨m,hm⟩:∃m,n-k=m+1:=⟨n-k-1,by omega⟩;rw [hm,List.replicate_succ,show n-(k+1)=m by omega];simp
theorem zio (xs:List Value) (n k:Nat) (z:Value) (hk:k<n) (hx:xs.length=k):(xs++List.replicate (n-k) z).toArray[k]? = some z:=by
 obtain ⟨m,hm⟩:∃m,n-k=m+1:=⟨n-k-1,by omega⟩;rw [hm,List.replicate_succ];simp [hx]
def zk0 (d l:List (List UInt8)) (b:Nat) (w:World) (r:Ending) (w':World):Prop:=∃G,r = .returned (.slice (some ⟨G,0,none⟩) l.length l.length)∧Blk w' G 3 (numL (dict d l) l).toArray∧w.heap.size≤G∧Dic w' b (dict d l)∧Keep (Only b) w w'
theorem zkr (d l:List (List UInt8)) (b B c:Nat) (A:Option Addr) (w:World) (hd:Dic w b d) (hr:ze w B 1 A l.length (strL l)) (hB:B≤b) (hl:l.length≤100000) (hdl:d.length≤100000) (hs:∀s∈l,s.length≤maxLen) :Calls Tryz.prog 290 #[.map (some b),.slice A l.length c] w (zk0 d l b w):=by
 have HP:=zz (show zk0 d l b w=fun r w'=>∃G,r = .returned (.slice (some ⟨G,0,none⟩) l.length l.length)∧Blk w' G 3 (numL (dict d l) l).toArray∧w.heap.size≤G∧Dic w' b (dict d l)∧Keep (Only b) w w' from rfl);rw [HP.out];have hbl:=hd.lt;go_enter Tryz.func290,Tryz.ntmps290
 go_wp2_with (first|(refine zfh rfl rfl Tryz.underlying57 zlr rfl (by omega) l.length (by omega) rfl rfl rfl rfl ?_))
 have q0:Blk (w.alloc (.cells (Array.replicate l.length (Value.int .i64 0)) 3)) w.heap.size 3 (Array.replicate l.length (Value.int .i64 0)):=Blk.new _ _ _;have d0:Dic (w.alloc (.cells (Array.replicate l.length (Value.int .i64 0)) 3)) b d:=hd.alloc _;have k0:Keep (Only b) w (w.alloc (.cells (Array.replicate l.length (Value.int .i64 0)) 3)):=(Keep.refl _ _).alloc _;generalize hG:w.heap.size=G at *;generalize w.alloc (.cells (Array.replicate l.length (Value.int .i64 0)) 3)=w0 at *
 go_loopw [15] (fun i wr=>∃k:Nat,k≤l.length∧i = .int .i64 k∧Blk wr G 3 (numL (dict d (l.take k)) (l.take k)++List.replicate (l.length-k) (Value.int .i64 0)).toArray∧Dic wr b (dict d (l.take k))∧Keep (Only b) w wr) (fun i _=>l.length-(intOf i).toNat)
 case atStart=>exact ⟨0,by omega,rfl,by simpa [dict,numL] using q0,by simpa [dict] using d0,k0⟩
 case round =>
  obtain ⟨k,hk,rfl,hq,hdk,hkp⟩:=hrel;by_cases hlt:k<l.length
  · obtain ⟨s,hsk⟩:∃s,l[k]? = some s:=⟨l[k],List.getElem?_eq_getElem hlt⟩;have hss:s.length≤maxLen:=hs s (List.mem_of_getElem? hsk);obtain ⟨g,off,rfl,hgB,hc⟩:=(hr.kept hkp (by omega) (fun i hi=>by unfold Only;omega)).strAt hsk rfl;obtain ⟨x,hlook,hx⟩:=hdk.look hss;have htk:l.take (k+1)=l.take k++[s]:=by rw [List.take_add_one,hsk];rfl
    have hDl:=zkf d (l.take k);have hlk:(l.take k).length=k:=by simp;omega
    have hlen:=hdk.len;have hne:G≠b:=by omega
    generalize hdd:dict d (l.take k)=dk at *;have HD1:=zz (show dict d (l.take (k+1))=zaF dk s from by rw [htk,zqt,hdd]);have HMem:=zz (show ∀t∈l.take k,t∈dk from fun t ht=>by rw [←hdd];exact zf2 d _ t ht);have HTK:=zz htk;clear htk hdd;by_cases hm:s∈dk
    · have hb0:decide (s∈dk)=true:=decide_eq_true hm;rw [hb0] at hlook;have hx1:=hx hm;subst hx1;have c1:=hq.cell k;have f1:=hq.frozen k;have c2:=c1.trans (zio _ _ _ (.int .i64 0) hlt (by rw [zfb,hlk]));have hq1:=hq.set_ k (.int .i64 ((dk.idxOf s:Nat):Int));rw [zjv _ _ _ _ _ hlt (by rw [zfb,hlk])] at hq1;have HQ:=zz hq1;clear hq1 c1;have hdm:=hdk.setCell (p:=⟨G,k,none⟩) (fun e=>hne e.symm) (.int .i64 ((dk.idxOf s:Nat):Int))
      go_wp2
      go_roundw
      case rel => 
       refine ⟨k+1,by omega,by go_num,?_,?_,hkp.setCell (.inr (by simp;omega)) _⟩
       · rw [HD1.out,HTK.out,show zaF dk s=dk from by unfold zaF;rw [if_pos hm]];simpa [numL] using HQ.out
       · rw [HD1.out,show zaF dk s=dk from by unfold zaF;rw [if_pos hm]];exact hdm
      case measure=>simp [intOf];omega
    · have hb0:decide (s∈dk)=false:=decide_eq_false hm;rw [hb0] at hlook;obtain ⟨D,e1,e2,e3,e4,e5⟩:=hdk;have hwf:(Lit.int .i64 ((dk.length:Nat):Int)).wf=true:=Go.WalkArith.wf_i64 (by omega);have hG0:G<wr.heap.size:=hq.lt;have HNX:∀w1,wr.grownBy w1 (some b)→w1.cell? ⟨G,k,none⟩=some (.int .i64 0)∧w1.frozen? ⟨G,k,none⟩=false∧Hid (Blk (w1.setCell ⟨G,k,none⟩ (.int .i64 ((dk.length:Nat):Int))) G 3 (numL dk (l.take k)++[Value.int .i64 ((dk.length:Nat):Int)]++List.replicate (l.length-(k+1)) (Value.int .i64 0)).toArray)∧Hid (Keep (Only b) w (w1.setCell ⟨G,k,none⟩ (.int .i64 ((dk.length:Nat):Int)))):=by
       intro w1 g1;have hq2:Blk w1 G 3 (numL dk (l.take k)++List.replicate (l.length-k) (Value.int .i64 0)).toArray:=hq.keep (zci g1) (by unfold Only;exact hne);have hq3:=hq2.set_ k (.int .i64 ((dk.length:Nat):Int));rw [zjv _ _ _ _ _ hlt (by rw [zfb,hlk])] at hq3;exact ⟨(hq2.cell k).trans (zio _ _ _ (.int .i64 0) hlt (by rw [zfb,hlk])),hq2.frozen k,zz hq3,zz ((hkp.trans (zci g1)).setCell (.inr (by show w.heap.size≤G;omega)) _)⟩
      have HNX:=zz HNX
      go_wp2_with (first|(at_mapUpdate;refine wpList_mapUpdate_own _ rfl _ _ _ 218 rfl 9 3 zdd Tryz.underlying218 _ b dk.length D rfl e1 (by unfold maxLen;omega) _ _ (keyS s) rfl rfl (zd5 hss) _ [] (plainElem_int Tryz.underlying3 hwf) ?_;intro w1 o1 g1;obtain ⟨c2,f2,HQ,HK⟩:=HNX.out w1 g1)|go_in)
      go_roundw
      case rel =>
       refine ⟨k+1,by omega,by go_num,?_,?_,HK.out⟩
       · rw [HD1.out,HTK.out,show zaF dk s=dk++[s] from by unfold zaF;rw [if_neg hm]];have e1:numL (dk++[s]) (l.take k++[s])=numL dk (l.take k)++[Value.int .i64 ((dk.length:Nat):Int)]:=by
          have e2:numL (dk++[s]) (l.take k++[s])=numL (dk++[s]) (l.take k)++numL (dk++[s]) [s]:=by simp [numL]
          rw [e2,ziB HMem.out];simp [numL,List.idxOf_append,hm]
         rw [e1];exact HQ.out
       · rw [HD1.out,show zaF dk s=dk++[s] from by unfold zaF;rw [if_neg hm]];exact (Dict.put o1 e2 e3 e4 e5 hm).setCell (p:=⟨G,k,none⟩) (fun e=>hne e.symm) _
      case measure=>simp [intOf];omega
  · have hkl:k=l.length:=by omega
    go_wp2
    go_ret
    subst hkl
    refine ⟨G,rfl,?_,by omega,?_,hkp⟩
    · simpa using hq
    · simpa using hdk
end
section
open Go.RowKit
structure FileD where
 p:List UInt8
 k:Int
 d:List UInt8
deriving DecidableEq
def za (f:FileD) (A:Option Addr) (c:Nat):Array Value:=#[strC f.p,.int .i64 f.k,.slice A f.d.length c]
def zdO (f:FileD) (v:Value):List Value:=[strC f.p,.int .i64 f.k,v]
def zK (fs:List FileD) (tv:List Value):List Value:=(fs.zip tv).flatMap fun x=>zdO x.1 x.2
def zw (w:World) (B:Nat) (f:FileD) (v:Value):Prop:=∃A c,v = .slice A f.d.length c∧f.d.length≤c∧c≤maxLen∧ze w B 1 A f.d.length (f.d.map zh)
def FI (w:World) (B:Nat) (A:Option Addr) (fs:List FileD):Prop:=∃tv:List Value,tv.length=fs.length∧ze w B 3 A fs.length (zK fs tv)∧∀(k:Nat) x y,fs[k]? = some x→tv[k]? = some y→zw w B x y
section
variable {w w':World} {B B':Nat} {A:Option Addr} {fs:List FileD}
theorem zw.keep {f:FileD} {v:Value} (hr:zw w B f v) (hk:∀p:Addr,p.block<B→w'.cell? p=w.cell? p):zw w' B f v:=by
 obtain ⟨A,c,h1,h2,h3,h4⟩:=hr;exact ⟨A,c,h1,h2,h3,h4.keep hk⟩
theorem zw.below {f:FileD} {v:Value} (hr:zw w B f v) (hb:Below B w w'):zw w' B f v:=hr.keep fun _ hp=>hb.cell hp
theorem zw.more {f:FileD} {v:Value} (hr:zw w B f v) (hB:B≤B'):zw w B' f v:=by
 obtain ⟨A,c,h1,h2,h3,h4⟩:=hr;exact ⟨A,c,h1,h2,h3,h4.more hB⟩
theorem FI.keep (h:FI w B A fs) (hk:∀p:Addr,p.block<B→w'.cell? p=w.cell? p):FI w' B A fs:=by
 obtain ⟨tv,h1,h2,h3⟩:=h;exact ⟨tv,h1,h2.keep hk,fun k x y e1 e2=>(h3 k x y e1 e2).keep hk⟩
theorem FI.below (h:FI w B A fs) (hb:Below B w w'):FI w' B A fs:=h.keep fun _ hp=>hb.cell hp
theorem FI.drewN (h:FI w B A fs) (n:Nat):FI (w.drewN n) B A fs:=h.keep fun _ _=>rfl
theorem FI.more (h:FI w B A fs) (hB:B≤B'):FI w B' A fs:=by
 obtain ⟨tv,h1,h2,h3⟩:=h;exact ⟨tv,h1,h2.more hB,fun k x y e1 e2=>(h3 k x y e1 e2).more hB⟩
theorem FI.nil_ (w:World) (B:Nat) (A:Option Addr):FI w B A []:=⟨[],rfl,ze.none_,fun _ _ _ h=>by cases h⟩
theorem zha {tv:List Value} {k:Nat} {f:FileD} {v:Value} (h1:fs[k]? = some f) (h2:tv[k]? = some v) (j:Nat) (u:Value) (hj:(zdO f v)[j]? = some u):(zK fs tv)[k*3+j]? = some u :=
 zaV (f:=fun x:FileD×Value=>zdO x.1 x.2) (C:=3) (fun _=>rfl) (fs.zip tv) k j (f,v) (by rw [List.getElem?_zip_eq_some];exact ⟨h1,h2⟩) u hj
theorem zn2 {tv:List Value} (h:tv.length=fs.length):(zK fs tv).length=fs.length*3:=by
 unfold zK;rw [zcj (f:=fun x:FileD×Value=>zdO x.1 x.2) (C:=3) (fun _=>rfl),List.length_zip,h,Nat.min_self]
end
theorem zaw:(Tryz.prog.info? 70).map (·.size)=some 3:=by kernel_rfl
theorem FI.at_ {w:World} {B:Nat} {A:Option Addr} {fs:List FileD} (h:FI w B A fs) {k:Nat} {x:FileD} (hk:fs[k]? = some x):∃g off DA dc,A=some ⟨g,off,none⟩∧g<B ∧(Instr.loadAt 70 (.pointer (some ⟨g,off+k*3,none⟩))).run Tryz.prog w = .ok (.agg (za x DA dc)) w ∧w.cell? ⟨g,off+k*3,none⟩=some (strC x.p)∧w.cell? ⟨g,off+k*3+1,none⟩=some (.int .i64 x.k)∧w.cell? ⟨g,off+k*3+2,none⟩=some (.slice DA x.d.length dc) ∧x.d.length≤dc∧dc≤maxLen∧ze w B 1 DA x.d.length (x.d.map zh):=by
 obtain ⟨tv,h1,h2,h3⟩:=h;have hlt:k<fs.length:=(List.getElem?_eq_some_iff.1 hk).1;obtain ⟨y,hy⟩:∃y,tv[k]? = some y:=⟨_,List.getElem?_eq_getElem (by omega)⟩;obtain ⟨DA,dc,rfl,q3,q4,q5⟩:=h3 k x y hk hy;obtain ⟨g,off,rfl,hg,hc⟩:=h2.at0 (by omega) (by omega);have e0:=hc _ _ (zha hk hy 0 _ rfl);have e1:=hc _ _ (zha hk hy 1 _ rfl);have e2:=hc _ _ (zha hk hy 2 _ rfl);rw [←Nat.add_assoc] at e1 e2;rw [Nat.add_zero] at e0;refine ⟨g,off,DA,dc,rfl,hg,zaE w _ (za x DA dc) Tryz.underlying70 rfl zaw (fun j v hj=>?_),e0,e1,e2,q3,q4,q5⟩;rw [zJ];have hj3:j<3:=by
  rcases Nat.lt_or_ge j 3 with q|q
  · exact q
  · rw [List.getElem?_eq_none (by simpa [za] using q)] at hj;cases hj
 rcases (by omega:j=0∨j=1∨j=2) with rfl|rfl|rfl
 · simp [za] at hj;subst hj;simpa using e0
 · simp [za] at hj;subst hj;simpa [Nat.add_assoc] using e1
 · simp [za] at hj;subst hj;simpa [Nat.add_assoc] using e2
end
section
open Go.RowKit Go.WideMaps Go.Maps
def zak (v:Value):Option (DataW Value×List MemPlace):=some (.held v,[])
abbrev Mp:=List UInt8→Option Value
def zF:Mp:=fun _=>none
def mput (f:Mp) (s:List UInt8) (v:Value):Mp:=fun t=>if t=s then some v else f t
def DatM (D:DataW Value) (f:Mp):Prop:=Tidy D∧∀s,(f s=none→has D (keyS s)=false)∧∀v,f s=some v→has D (keyS s)=true∧∀z,D.atKey (keyS s) z = .held v
def VM (w:World) (b n:Nat) (f:Mp):Prop:=∃D,w.ownsMap Tryz.prog 9 zak b n D∧Maps.size D=n∧DatM D f
def VR (w:World) (b r n:Nat) (f:Mp) (left:List UInt8→Bool) (cnt:Nat):Prop:=∃D L,w.ranges Tryz.prog 9 zak b r n D L cnt∧Maps.size D=n∧DatM D f∧(∀s,L (keyS s)=left s)∧∀kl,L kl=true→∃s,kl=keyS s
section
variable {w w':World} {b n:Nat} {f:Mp}
theorem DatM.has {D:DataW Value} (h:DatM D f) (s:List UInt8):has D (keyS s)=(f s).isSome:=by
 obtain ⟨h1,h2⟩:=h.2 s
 cases hf:f s with
 | none=>rw [h1 hf];rfl
 | some v=>rw [(h2 v hf).1];rfl
theorem DatM.at_ {D:DataW Value} (h:DatM D f) (s:List UInt8) (z:Value):D.atKey (keyS s) (.held z) = .held ((f s).getD z):=by
 obtain ⟨h1,h2⟩:=h.2 s
 cases hf:f s with
 | none=>rw [atKey_of_not_has (h1 hf)];rfl
 | some v=>rw [(h2 v hf).2];rfl
theorem DatM.put {D:DataW Value} (h:DatM D f) (s:List UInt8) (v:Value):DatM (D.put (keyS s) (.held v)) (mput f s v):=by
 refine ⟨h.1.put (zdj s) _,fun t=>?_⟩;unfold mput;by_cases e:t=s
 · subst e;rw [if_pos rfl];refine ⟨fun q=>by simp at q,fun u hu=>?_⟩;have hu:=Option.some.inj hu;subst hu;exact ⟨has_put_same h.1.isMap (zdj t) _,fun z=>atKey_put_same h.1.isMap (zdj t) _ z⟩
 · rw [if_neg e];have hne:keyS t≠keyS s:=fun q=>e (zeA q);obtain ⟨h1,h2⟩:=h.2 t;exact ⟨fun q=>by rw [has_put_other hne];exact h1 q,fun u hu=>⟨by rw [has_put_other hne];exact (h2 u hu).1,fun z=>by rw [atKey_put_other hne];exact (h2 u hu).2 z⟩⟩
theorem zdB {v x:Value} {ps:List MemPlace} (h:zak v=some (.held x,ps)):v=x∧ps=[]:=by
 unfold zak at h;injection h with h;injection h with h1 h2;injection h1 with h1;exact ⟨h1,h2.symm⟩
theorem VM.made (w:World):VM (w.alloc (.map #[] 0)) w.heap.size 0 zF :=
 ⟨.map [],World.ownsMap_made _ _ _ _,rfl,tidy_empty,fun s=>⟨fun _=>by simp [has_eq],fun v h=>by cases h⟩⟩
theorem VM.lt (h:VM w b n f):b<w.heap.size:=by
 obtain ⟨D,h1,_⟩:=h;exact h1.lt
theorem VM.block (h:VM w b n f) (hb:w'.heap[b]? = w.heap[b]?):VM w' b n f:=by
 obtain ⟨D,⟨es,clock,q1,q2⟩,h2⟩:=h;exact ⟨D,⟨es,clock,hb.trans q1,q2⟩,h2⟩
theorem VM.keep {S:Nat→Prop} (h:VM w b n f) (hk:Keep S w w') (hb:¬S b):VM w' b n f:=h.block (hk.block b h.lt hb)
theorem VM.alloc (h:VM w b n f) (o:Obj):VM (w.alloc o) b n f:=h.block (Below.heap_alloc w o b h.lt)
theorem VM.setCell (h:VM w b n f) {p:Addr} (hp:b≠p.block) (u:Value):VM (w.setCell p u) b n f:=h.block (Below.heap_setCell w p u b hp)
theorem VM.drewN (h:VM w b n f) (k:Nat):VM (w.drewN k) b n f:=h
theorem VM.look {t e:TypeId} (h:VM w b n f) (ht:Tryz.prog.underlying t=some (.map 9 e)) {z:Value} (hz:(zeroValue e).run Tryz.prog w = .ok z w) {s:List UInt8} (hs:s.length≤maxLen) :(Instr.lookup t (.map (some b)) (strC s) false).run Tryz.prog w = .ok ((f s).getD z) w:=by
 obtain ⟨D,h1,h2,h3⟩:=h;obtain ⟨v,ps,hrun,hv⟩:=h1.lookup zdd ht hz (zd := .held z) (zp:=[]) rfl (zd5 hs);rw [h3.at_] at hv;rw [hrun,(zdB hv).1]
theorem VM.look_ok {t e:TypeId} (h:VM w b n f) (ht:Tryz.prog.underlying t=some (.map 9 e)) {z:Value} (hz:(zeroValue e).run Tryz.prog w = .ok z w) {s:List UInt8} (hs:s.length≤maxLen) :(Instr.lookup t (.map (some b)) (strC s) true).run Tryz.prog w = .ok (.tuple #[(f s).getD z,.bool (f s).isSome]) w:=by
 obtain ⟨D,h1,h2,h3⟩:=h;obtain ⟨v,ps,hrun,hv⟩:=h1.look_ok zdd ht hz (zd := .held z) (zp:=[]) rfl (zd5 hs);rw [h3.at_] at hv;rw [hrun,(zdB hv).1,h3.has]
theorem VM.len {t e:TypeId} (h:VM w b n f) (ht:Tryz.prog.underlying t=some (.map 9 e)) (ty:TypeId):(Builtin.len_ #[t] ty #[.map (some b)]).run Tryz.prog w = .ok (.int .i64 (n:Nat)) w:=by
 obtain ⟨D,h1,h2,h3⟩:=h;rw [h1.len ht,h2]
theorem zmI {D:DataW Value} {m:Nat} (h:w.ownsMap Tryz.prog 9 zak b m D):w.ownsMap Tryz.prog 9 zak b (Maps.size D) D:=by
 obtain ⟨es,clock,h1,h2,h3,h4⟩:=h;refine ⟨es,clock,h1,h2,?_,h4⟩;subst h4;simp [Maps.size,length_sorted]
theorem VM.store {t e:TypeId} (h:VM w b n f) (ht:Tryz.prog.underlying t=some (.map 9 e)) (hn:n<maxLen) {s:List UInt8} (hs:s.length≤maxLen) (v:Value) :∃w',(Instr.mapUpdate t (.map (some b)) (strC s) v).run Tryz.prog w = .ok () w'∧VM w' b (if (f s).isSome then n else n+1) (mput f s v)∧Keep (Only b) w w'∧w'.heap.size=w.heap.size:=by
 obtain ⟨D,h1,h2,h3⟩:=h;obtain ⟨w',hrun,q1,q2⟩:=h1.store zdd ht hn (zd5 hs) (d := .held v) (ps:=[]) rfl;refine ⟨w',hrun,⟨_,?_,?_,h3.put s v⟩,zci q2.grown,?_⟩
 · have hz:Maps.size (D.put (keyS s) (.held v))=if (f s).isSome then n else n+1:=by rw [size_put h3.1,h3.has,h2]
   rw [←hz];exact zmI q1
 · rw [size_put h3.1,h3.has,h2]
 · obtain ⟨es,clock,es',clock',_,rfl⟩:=q2;simp [ChangeMaps.setBlock]
theorem VR.owns {r:Nat} {left:List UInt8→Bool} {cnt:Nat} (h:VR w b r n f left cnt):VM w b n f:=by
 obtain ⟨D,L,h1,h2,h3,_⟩:=h;exact ⟨D,h1.owns,h2,h3⟩
theorem VR.lt {r:Nat} {left:List UInt8→Bool} {cnt:Nat} (h:VR w b r n f left cnt):r<w.heap.size:=by
 obtain ⟨D,L,h1,_⟩:=h;exact h1.lt
theorem VR.ne {r:Nat} {left:List UInt8→Bool} {cnt:Nat} (h:VR w b r n f left cnt):r≠b:=by
 obtain ⟨D,L,h1,_⟩:=h;exact h1.ne
theorem VR.left_eq {r:Nat} {left:List UInt8→Bool} {cnt:Nat} (h:VR w b r n f left cnt):w.rangeLeft b r=cnt:=by
 obtain ⟨D,L,h1,_⟩:=h;exact h1.left_eq
theorem VR.keep {S:Nat→Prop} {r:Nat} {left:List UInt8→Bool} {cnt:Nat} (h:VR w b r n f left cnt) (hk:Keep S w w') (hb:¬S b) (hr:¬S r):VR w' b r n f left cnt:=by
 have h4:=h.owns.lt;have h5:=h.lt;obtain ⟨D,L,⟨es,clock,since,seen,c0,q1,q2,q3,q4,q5,q6⟩,h2,h3⟩:=h;exact ⟨D,L,⟨es,clock,since,seen,c0,(hk.block b h4 hb).trans q1,q2,q3,q4,(hk.block r h5 hr).trans q5,q6⟩,h2,h3⟩
theorem zfG {v:Value} {kl:Lit} (h:keyOf Tryz.prog 9 v=some kl):∃s,v=strC s∧kl=keyS s:=by
 rw [keyOf_string Tryz.underlying9] at h;unfold mapKey at h;rw [Tryz.underlying9] at h
 split at h
 all_goals first|cases h;done|skip
 · rename_i q
   cases q
 · rename_i q
   cases q
 · rename_i s _
   split at h
   · injection h with h;exact ⟨s.data.toList,by simp [strC],h.symm⟩
   · cases h
theorem VM.range {t e:TypeId} (h:VM w b n f) (ht:Tryz.prog.underlying t=some (.map 9 e)) :∃w',(Instr.range t (.map (some b))).run Tryz.prog w = .ok (.pointer (some ⟨w.heap.size,0,none⟩)) w'∧VR w' b w.heap.size n f (fun s=>(f s).isSome) n∧Keep zl w w'∧w'.heap.size=w.heap.size+1:=by
 obtain ⟨D,h1,h2,h3⟩:=h;obtain ⟨w',hrun,q1,q2,q3⟩:=h1.range zdd ht;refine ⟨w',hrun,⟨D,_,by rw [←h2];rw [h2] at q1 ⊢;exact q1,h2,h3,fun s=>h3.has s,fun kl hk=>?_⟩,⟨q2.os,q2.tape,q2.output,q2.size,fun k hk _=>q2.block k hk (by simp)⟩,q3⟩;obtain ⟨es,clock,since,seen,c0,_,F,_,_,_,_,_,_,hx,_⟩:=q1;obtain ⟨x,hx1,rfl⟩:=hx kl hk;have hkk:=fit_keys F _ (List.mem_map.2 ⟨x,hx1,rfl⟩);obtain ⟨v,hv⟩:=hkk;obtain ⟨s,_,hs⟩:=zfG hv;exact ⟨s,hs⟩
end
theorem zg0 (s t:List UInt8):(keyS s).sameKey (keyS t)=decide (s=t):=by
 by_cases h:s=t
 · subst h;simp [keyS,Lit.sameKey]
 · rw [sameKey_ne (fun q=>h (zeA q)),decide_eq_false h]
theorem VR.next {w:World} {b r n:Nat} {f:Mp} {left:List UInt8→Bool} {cnt:Nat} (h:VR w b r n f left cnt) (ty:TypeId) :(cnt=0∧(∀s,left s=false)∧(Instr.next (.pointer (some ⟨r,0,none⟩)) false ty).run Tryz.prog w = .ok (.tuple #[.bool false]) w) ∨∃s v w' cnt',left s=true∧f s=some v∧(Instr.next (.pointer (some ⟨r,0,none⟩)) false ty).run Tryz.prog w = .ok (.tuple #[.bool true,strC s,v]) w' ∧VR w' b r n f (fun x=>left x&&!decide (x=s)) cnt'∧cnt'<cnt∧Keep (Only r) w w'∧w'.heap.size=w.heap.size∧(Instr.entry (.pointer (some ⟨r,0,none⟩))).run Tryz.prog w' = .ok (.tuple #[strC s,v]) w':=by
 obtain ⟨D,L,h1,h2,h3,h4,h5⟩:=h
 rcases h1.next zdd ty with ⟨q1,q2,q3⟩|⟨key,v,kl,y,w',cnt',q1,q2,q3,q4,q5,q6,q7,q8,q9,q10⟩
 · exact .inl ⟨q1,fun s=>by rw [←h4];exact q2 _,q3⟩
 · obtain ⟨s,rfl,rfl⟩:=zfG q1;have hy:y=(.held v,[]):=(Option.some.inj q3).symm;subst hy;have hh:=has_true_of_atKey q4;rw [h3.has] at hh;obtain ⟨u,hu⟩:=Option.isSome_iff_exists.1 hh;have:=q4 (.held v);rw [((h3.2 s).2 u hu).2] at this;injection this with this;subst this;refine .inr ⟨s,u,w',cnt',by rw [←h4];exact q2,hu,q5,⟨D,_,q6,h2,h3,fun t=>by simp only [h4,zg0],fun kl hk=>h5 kl (by simp only [Bool.and_eq_true] at hk;exact hk.1)⟩,q7,zci q8,q9,q10⟩
end
section
open Go.RowKit
def natL (x:List Nat):List Value:=x.map fun (n:Nat)=>Value.int .i64 (n:Int)
theorem ze.natAt {w:World} {B n k:Nat} {A:Option Addr} {x:List Nat} {s:Nat} (h:ze w B 1 A n (natL x)) (hs:x[k]? = some s) (hn:x.length=n):∃g off,A=some ⟨g,off,none⟩∧g<B∧w.cell? ⟨g,off+k,none⟩=some (.int .i64 (s:Int)):=by
 have hk:k<x.length:=by
  rcases Nat.lt_or_ge k x.length with q|q
  · exact q
  · rw [List.getElem?_eq_none q] at hs;cases hs
 obtain ⟨g,off,e,hb,hc⟩:=h.at0 (by omega) (by omega);exact ⟨g,off,e,hb,hc _ _ (by simp [natL,hs])⟩
def u16V (n:Nat):Value := .int .u16 (n:Int)
def rowL (l:List Nat):List Nat→List Value
 | []=>[u16V 0]
 | y::m=>u16V (lcs l (y::m))::rowL l m
theorem zil (l m:List Nat) (j:Nat) (h:j≤m.length):(rowL l m)[j]? = some (u16V (lcs l (m.drop j))):=by
 induction m generalizing j with
 | nil =>
  have:j=0:=by simpa using h
  subst this
  simp [rowL,zb8]
 | cons y m ih =>
  cases j with
  | zero=>simp [rowL]
  | succ j =>
   simp only [rowL,List.getElem?_cons_succ,List.drop_succ_cons]
   exact ih j (by simpa using h)
theorem zeF (l m:List Nat) (j:Nat) (h:j≤m.length):(rowL l m).toArray[j]? = some (u16V (lcs l (m.drop j))):=by rw [List.getElem?_toArray];exact zil l m j h
theorem zsd (m:List Nat):rowL [] m=List.replicate (m.length+1) (u16V 0):=by
 induction m with
 | nil=>rfl
 | cons y m ih=>rw [rowL,ih,zcz,List.length_cons,List.replicate_succ (n:=m.length+1)]
theorem ztc (l m:List Nat) (j k:Nat) (h:k≤m.length):(List.replicate j (u16V 0)++rowL l m).toArray[j+k]? = some (u16V (lcs l (m.drop k))):=by
 simp only [List.getElem?_toArray]
 rw [List.getElem?_append_right (by simp),List.length_replicate,Nat.add_sub_cancel_left];exact zil l m k h
theorem zrv (l m:List Nat) (j:Nat) (y:Nat) (v:Nat) (hv:lcs l (y::m)=v):((List.replicate (j+1) (u16V 0)++rowL l m).toArray).setIfInBounds j (u16V v)=(List.replicate j (u16V 0)++rowL l (y::m)).toArray:=by
 apply Array.ext';rw [Array.toList_setIfInBounds,List.replicate_succ',List.append_assoc,List.set_append_right _ _ (by simp)];simp [rowL,hv]
def slV (g m:Nat):Value := .slice (some ⟨g,0,none⟩) m m
def nilV:Value := .slice none 0 0
def zfw (w:World) (lo:Nat) (x y:List Nat) (gs:List Nat):Prop:=∀k g,gs[k]? = some g→lo≤g∧Blk w g 391 (rowL (x.drop k) y).toArray
def Tab (w:World) (lo G:Nat) (x y:List Nat):Prop:=lo≤G∧∃gs:List Nat,gs.length=x.length+1∧Blk w G 392 (gs.map fun g=>slV g (y.length+1)).toArray∧zfw w lo x y gs
theorem Tab.row {w:World} {lo G:Nat} {x y:List Nat} (h:Tab w lo G x y) (i:Nat) (hi:i≤x.length):∃g,w.cell? ⟨G,i,none⟩=some (slV g (y.length+1))∧Blk w g 391 (rowL (x.drop i) y).toArray:=by
 obtain ⟨_,gs,h1,h2,h3⟩:=h;have hg:gs[i]? = some (gs[i]'(by omega)):=List.getElem?_eq_getElem (by omega);refine ⟨gs[i]'(by omega),?_,(h3 i _ hg).2⟩;rw [h2.cell];simp [hg]
theorem Tab.keep {w w':World} {lo G:Nat} {x y:List Nat} {S:Nat→Prop} (h:Tab w lo G x y) (hk:Keep S w w') (hs:∀i,lo≤i→¬S i):Tab w' lo G x y:=by
 obtain ⟨h0,gs,h1,h2,h3⟩:=h;refine ⟨h0,gs,h1,h2.keep hk (hs _ h0),fun k g hg=>?_⟩;obtain ⟨q1,q2⟩:=h3 k g hg;exact ⟨q1,q2.keep hk (hs _ q1)⟩
theorem zt8:(Tryz.prog.info? 392).map (fun i=>(i.zero,i.size,i.bytes))=some (some nilV,1,24):=by kernel_rfl
theorem ziv:(Tryz.prog.info? 391).map (fun i=>(i.zero,i.size,i.bytes))=some (some (u16V 0),1,2):=by kernel_rfl
theorem zrE (k:Nat) (z v:Value) (l:List Value):((List.replicate (k+1) z++l).toArray).setIfInBounds k v=(List.replicate k z++(v::l)).toArray:=by
 apply Array.ext';rw [Array.toList_setIfInBounds,List.replicate_succ',List.append_assoc,List.set_append_right _ _ (by simp)];simp
theorem ziG (k:Nat) (z:Value) (l:List Value):(List.replicate (k+1) z++l).toArray[k]? = some z:=by
 rw [List.replicate_succ',List.append_assoc];simp
def zj6 (x y:List Nat) (w:World) (r:Ending) (w':World):Prop:=∃G,r = .returned (slV G (x.length+1))∧Tab w' w.heap.size G x y∧Keep zl w w'
theorem zry (x y:List Nat) (A C:Option Addr) (c d B:Nat) (w:World) (hx:ze w B 1 A x.length (natL x)) (hy:ze w B 1 C y.length (natL y)) (hB:B≤w.heap.size) (hxl:x.length≤4000) (hyl:y.length≤4000) :Calls Tryz.prog 292 #[.slice A x.length c,.slice C y.length d] w (zj6 x y w):=by
 have HP:=zz (show zj6 x y w=fun r w'=>∃G,r = .returned (slV G (x.length+1))∧Tab w' w.heap.size G x y∧Keep zl w w' from rfl);rw [HP.out];clear HP;go_enter Tryz.func292,Tryz.ntmps292
 go_wp2_with (first|(refine zfh rfl rfl Tryz.underlying389 zt8 rfl (by omega) (x.length+1) (by omega) rfl rfl (by omega) (by omega) ?_))
 have q0:Blk (w.alloc (.cells (Array.replicate (x.length+1) nilV) 392)) w.heap.size 392 (Array.replicate (x.length+1) nilV):=Blk.new _ _ _;have k0:Keep zl w (w.alloc (.cells (Array.replicate (x.length+1) nilV) 392)):=(Keep.refl _ _).alloc _;generalize hG:w.heap.size=G at *;generalize w.alloc (.cells (Array.replicate (x.length+1) nilV) 392)=w0 at *
 go_loopw [6] (fun i wr=>∃k gs,k≤x.length+1∧i = .int .i64 ((k:Int)-1)∧gs.length=x.length+1-k∧Blk wr G 392 (List.replicate k nilV++gs.map fun g=>slV g (y.length+1)).toArray∧zfw wr (G+1) (x.drop k) y gs∧Keep zl w wr) (fun i _=>(intOf i+1).toNat)
 case atStart=>exact ⟨x.length+1,[],Nat.le_refl _,by simp,by simp,by simpa using q0,fun k g hg=>by simp at hg,k0⟩
 case round =>
  obtain ⟨k,gs,hk,rfl,hgs,hq,hrows,hkp⟩:=hrel;have hz:=hkp.size
  cases k with
  | zero =>
   go_wp2
   go_ret
   refine ⟨G,rfl,⟨by omega,gs,by omega,by simpa using hq,fun k g hg=>?_⟩,hkp⟩;obtain ⟨q1,q2⟩:=hrows k g hg
   exact ⟨by omega,by simpa using q2⟩
  | succ k =>
   rw [show ((k+1:Nat):Int)-1=(k:Int) from by omega];obtain ⟨g0,hg0⟩:∃g0,wr.heap.size=g0:=⟨_,rfl⟩;have hGlt:G<wr.heap.size:=hq.lt;have hne:G≠g0:=by omega
   have HMK:=zz (show ∀W,W=wr.alloc (.cells (Array.replicate (y.length+1) (u16V 0)) 391)→W.cell? ⟨G,k,none⟩=some (.slice none 0 0)∧W.frozen? ⟨G,k,none⟩=false∧Hid (Blk (W.setCell ⟨G,k,none⟩ (slV g0 (y.length+1))) G 392 (List.replicate k nilV++(g0::gs).map fun g=>slV g (y.length+1)).toArray)∧Hid (Keep zl w (W.setCell ⟨G,k,none⟩ (slV g0 (y.length+1))))∧Hid (Blk (W.setCell ⟨G,k,none⟩ (slV g0 (y.length+1))) g0 391 (Array.replicate (y.length+1) (u16V 0)))∧Hid (zfw (W.setCell ⟨G,k,none⟩ (slV g0 (y.length+1))) (G+1) (x.drop (k+1)) y gs) from by
    rintro W rfl;have q1:=hq.alloc (.cells (Array.replicate (y.length+1) (u16V 0)) 391);have q2:=q1.set_ k (slV g0 (y.length+1));rw [zrE] at q2;have n1:Blk (wr.alloc (.cells (Array.replicate (y.length+1) (u16V 0)) 391)) g0 391 (Array.replicate (y.length+1) (u16V 0)):=by rw [←hg0];exact Blk.new _ _ _
    refine ⟨(q1.cell k).trans (ziG k _ _),q1.frozen k,zz q2,zz ((hkp.alloc _).setCell (.inr (by show w.heap.size≤G;omega)) _),zz (n1.far (p:=⟨G,k,none⟩) (fun e=>hne e.symm) _),zz (fun j g hg=>?_)⟩;obtain ⟨p1,p2⟩:=hrows j g hg;exact ⟨p1,(p2.alloc _).far (p:=⟨G,k,none⟩) (by show g≠G;omega) _⟩)
   have HLT:=zz (show ∀j g,gs[j]? = some g→g<g0 from fun j g hg=>by have:=(hrows j g hg).2.lt;omega);by_cases hkn:k=x.length
   · have hb0:((k:Int)==(x.length:Int))=true:=beq_iff_eq.2 (by omega);have HGN:=zz (show gs=[] from List.eq_nil_of_length_eq_zero (by omega));have HKN:=zz hkn;clear hkn
     go_wp2_with (first|(refine zfh rfl rfl Tryz.underlying392 ziv rfl (by omega) (y.length+1) (by omega) rfl rfl (by omega) (by omega) ?_;rw [hg0];obtain ⟨c0,f0,HQ,HK,HN,HR⟩:=HMK.out _ rfl;generalize wr.alloc (.cells (Array.replicate (y.length+1) (u16V 0)) 391)=w1 at *))
     go_roundw
     case rel =>
      have hkn:=HKN.out;have hgn:=HGN.out
      refine ⟨k,[g0],by omega,by go_num,by simp;omega,?_,fun j g hg=>?_,HK.out⟩
      · simpa [hgn,slV] using HQ.out
      · cases j with
        | succ j=>simp at hg
        | zero =>
         simp only [List.getElem?_cons_zero,Option.some.injEq] at hg;subst hg;refine ⟨by omega,?_⟩;have hN:=HN.out;rw [hkn] at hN ⊢;rw [List.drop_length,List.drop_nil,zsd];simpa [slV] using hN
     case measure=>simp [intOf]
   · have hlt:k<x.length:=by omega
     have hb0:((k:Int)==(x.length:Int))=false:=beq_eq_false_iff_ne.2 (by omega);obtain ⟨xi,hxi⟩:∃s,x[k]? = some s:=⟨x[k],List.getElem?_eq_getElem hlt⟩;have HDX:=zz (show x.drop k=xi::x.drop (k+1) from List.drop_eq_getElem?_toList_append.trans (by rw [hxi];rfl));obtain ⟨g1,gs',hgs'⟩:∃g1 gs',gs=g1::gs':=by
      cases gs with
      | nil=>simp at hgs;omega
      | cons g1 gs'=>exact ⟨g1,gs',rfl⟩
     have HGS:=zz hgs';clear hgs' hkn;obtain ⟨ga,oa,rfl,hgaB,hcx⟩:=hx.natAt hxi rfl
     go_wp2_with (first|(refine zfh rfl rfl Tryz.underlying392 ziv rfl (by omega) (y.length+1) (by omega) rfl rfl (by omega) (by omega) ?_;rw [hg0];obtain ⟨c0,f0,HQ,HK,HN,HR⟩:=HMK.out _ rfl;generalize wr.alloc (.cells (Array.replicate (y.length+1) (u16V 0)) 391)=w1 at *))
     have hq2:=HQ.out;have hn2:=HN.out;have hr2:=HR.out;have hk2:=HK.out;rw [show slV g0 (y.length+1) = .slice (some ⟨g0,0,none⟩) (y.length+1) (y.length+1) from rfl] at hq2 hn2 hr2 hk2;have hGG:w.heap.size≤G:=by omega
     have hGE:G≤w.heap.size:=by omega
     clear HQ HN HR HK c0 f0 HMK hq hrows hkp hG q0 k0;generalize w1.setCell ⟨G,k,none⟩ (.slice (some ⟨g0,0,none⟩) (y.length+1) (y.length+1))=w2 at *;have hg1:G<g1∧Blk w2 g1 391 (rowL (x.drop (k+1)) y).toArray:=by
      have:=hr2 0 g1 (by rw [HGS.out];rfl);exact ⟨by omega,by simpa using this.2⟩
     have hne1:g1≠g0:=by
      have:=HLT.out 0 g1 (by rw [HGS.out];rfl);omega
     have c1:w2.cell? ⟨G,k,none⟩=some (.slice (some ⟨g0,0,none⟩) (y.length+1) (y.length+1)):=by
      rw [hq2.cell];simp [slV]
     have c2:w2.cell? ⟨G,k+1,none⟩=some (.slice (some ⟨g1,0,none⟩) (y.length+1) (y.length+1)):=by
      rw [hq2.cell,HGS.out];simp [slV]
     have hq3:=hq2.drew;have hr3:zfw w2.drew (G+1) (x.drop (k+1)) y gs:=hr2;have hk3:=hk2.drew;have hn3:=hn2.drew;have hg3:=hg1.2.drew;have hz3:=hk2.size;have hg0G:w.heap.size≤g0:=by omega
     have hg0lt:=hn3.lt
     go_region
     go_wp2
     clear c1 c2 hq2 hr2 hk2 hn2;have hg1G:=hg1.1;clear hg1;generalize w2.drew=w3 at *
     go_loopw [9] (fun i wr=>∃j:Nat,j≤y.length∧i = .int .i64 ((j:Int)-1)∧Blk wr g0 391 (List.replicate j (u16V 0)++rowL (xi::x.drop (k+1)) (y.drop j)).toArray∧Keep (Only g0) w3 wr) (fun i _=>(intOf i+1).toNat)
     case atStart =>
      refine ⟨y.length,Nat.le_refl _,rfl,?_,Keep.refl _ _⟩;have e:rowL (xi::x.drop (k+1)) []=[u16V 0]:=by simp [rowL]
      rw [List.drop_length,e,←List.replicate_succ'];simpa using hn3
     case round =>
      obtain ⟨j,hj,rfl,hrow,hkq⟩:=hrel
      cases j with
      | zero =>
       go_wp2
       go_roundw
       case rel =>
        refine ⟨k,g0::gs,by omega,by go_num,by simp;omega,hq3.keep hkq (by unfold Only;omega),fun j g hg=>?_,hk3.then_ hkq (by unfold Only;omega)⟩
        cases j with
        | zero =>
         simp only [List.getElem?_cons_zero,Option.some.injEq] at hg;subst hg;refine ⟨by omega,?_⟩;rw [List.drop_zero,HDX.out]
         simpa using hrow
        | succ j =>
         rw [List.getElem?_cons_succ] at hg;obtain ⟨p1,p2⟩:=hr3 j g hg;have p3:=HLT.out j g hg;refine ⟨p1,?_⟩;rw [HDX.out,List.drop_succ_cons];exact p2.keep hkq (by unfold Only;omega)
       case measure=>simp [intOf]
      | succ j =>
       rw [show ((j+1:Nat):Int)-1=(j:Int) from by omega];have hjlt:j<y.length:=by omega
       obtain ⟨yj,hyj⟩:∃s,y[j]? = some s:=⟨y[j],List.getElem?_eq_getElem hjlt⟩;have HDY:=zz (show y.drop j=yj::y.drop (j+1) from List.drop_eq_getElem?_toList_append.trans (by rw [hyj];rfl));obtain ⟨gc,oc,rfl,hgcB,hcy⟩:=hy.natAt hyj rfl;have hkT:Keep zl w wr:=hk3.then_ hkq (by unfold Only;omega);have e1:=(hkT.drew.cell (p:=⟨ga,oa+k,none⟩) (by show ga<w.heap.size;omega) (fun h=>h)).trans hcx;have e2:=(hkT.drew.cell (p:=⟨gc,oc+j,none⟩) (by show gc<w.heap.size;omega) (fun h=>h)).trans hcy;have e1':=(hkT.cell (p:=⟨ga,oa+k,none⟩) (by show ga<w.heap.size;omega) (fun h=>h)).trans hcx;have e2':=(hkT.cell (p:=⟨gc,oc+j,none⟩) (by show gc<w.heap.size;omega) (fun h=>h)).trans hcy;have hgq:=hg3.keep hkq (by unfold Only;exact hne1);have s1:=(hgq.drew.cell (j+1)).trans (zeF (x.drop (k+1)) y (j+1) hjlt);have s2:=(hgq.drew.cell j).trans (zeF (x.drop (k+1)) y j (by omega));have s3:=(hrow.drew.cell (j+1)).trans (ztc (xi::x.drop (k+1)) (y.drop (j+1)) (j+1) 0 (by omega));have s4:=(hrow.drew.cell j).trans (ziG j _ _);have f4:=hrow.drew.frozen j;rw [HDY.out] at s2;rw [List.drop_zero] at s3;have v1:=zeC (x.drop (k+1)) (y.drop (j+1));have v2:=zeC (x.drop (k+1)) (yj::y.drop (j+1));have v3:=zeC (xi::x.drop (k+1)) (y.drop (j+1));have HV:=zdr xi yj (x.drop (k+1)) (y.drop (j+1));have HSET:=zz (show ∀v,lcs (xi::x.drop (k+1)) (yj::y.drop (j+1))=v→Blk (wr.drew.setCell ⟨g0,j,none⟩ (u16V v)) g0 391 (List.replicate j (u16V 0)++rowL (xi::x.drop (k+1)) (y.drop j)).toArray from fun v hv=>by
        have:=hrow.drew.set_ j (u16V v);rw [zrv _ _ _ yj v hv] at this;rw [HDY.out];exact this)
       rw [List.length_cons] at v3;rw [List.length_drop] at v1 v2 v3;generalize lcs (x.drop (k+1)) (y.drop (j+1))=z11 at *;generalize lcs (x.drop (k+1)) (yj::y.drop (j+1))=z10 at *;generalize lcs (xi::x.drop (k+1)) (y.drop (j+1))=z01 at *;unfold u16V at s1 s2 s3 s4;by_cases hxy:xi=yj
       · have hb1:((xi:Int)==(yj:Int))=true:=beq_iff_eq.2 (by omega);rw [if_pos hxy] at HV;have HS1:=zz (HSET.out _ HV);clear HV HSET hxy
         go_wp2_with fail
         go_region
         go_wp2
         go_roundw
         case rel =>
          have h1:=HS1.out;rw [show u16V (z11+1) = .int .u16 ((z11:Int)+1) from rfl] at h1;exact ⟨j,by omega,by go_num,h1,(hkq.setCell (p:=⟨g0,j,none⟩) (.inl rfl) _).drew⟩
         case measure=>simp [intOf]
       · have hb1:((xi:Int)==(yj:Int))=false:=beq_eq_false_iff_ne.2 (by omega);rw [if_neg hxy] at HV;have HS1:=zz (HSET.out _ HV);clear HV HSET hxy
         go_wp2_with fail
         go_region
         go_wp2_with fail
         go_region
         go_wp2
         go_roundw
         case rel =>
          have h1:=HS1.out;rw [show u16V (max z10 z01) = .int .u16 (if z10<z01 then (z01:Int) else (z10:Int)) from by unfold u16V;congr 1;split <;> omega] at h1;exact ⟨j,by omega,by go_num,h1,(hkq.setCell (p:=⟨g0,j,none⟩) (.inl rfl) _).drew.drew⟩
         case measure=>simp [intOf]
end
end Go.Proofs.YtmkmbbjgepcioaaGreatDoor
