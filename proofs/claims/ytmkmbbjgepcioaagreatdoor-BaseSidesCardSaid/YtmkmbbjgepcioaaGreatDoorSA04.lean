/- Contracts of lines.Split, lines.Join. No statement of the seat is proved here. -/
import Derived.Test.YtmkmbbjgepcioaaGreatDoorSAHq
import Derived.Test.YtmkmbbjgepcioaaGreatDoorSA03
import Derived.Test.YtmkmbbjgepcioaaGreatDoorCAShelf
import Derived.Test.YtmkmbbjgepcioaaGreatDoorSA01
namespace Go.Proofs.YtmkmbbjgepcioaaGreatDoor
set_option maxHeartbeats 2000000
set_option maxRecDepth 100000
section
open Go.RowKit
theorem zbA:Elem Tryz.prog 58 5 1 1:=by
 refine ⟨Tryz.underlying58,?_,by decide⟩;obtain ⟨i,hi,h1,h2,h3⟩:=info_parts (show (Tryz.prog.info? 5).map (fun i=>(i.zero,i.size,i.bytes))=some (some (.int .u8 0),1,1) by kernel_rfl);exact ⟨i,_,hi,h1,h2,h3,rfl⟩
theorem zbG:Elem Tryz.prog 95 9 1 16:=by
 refine ⟨Tryz.underlying95,?_,by decide⟩;obtain ⟨i,hi,h1,h2,h3⟩:=info_parts (show (Tryz.prog.info? 9).map (fun i=>(i.zero,i.size,i.bytes))=some (some (.string ByteArray.empty),1,16) by kernel_rfl);exact ⟨i,_,hi,h1,h2,h3,rfl⟩
theorem zb5 (l:List (List UInt8)):∀v∈strL l,v.oneCell'=true:=by
 intro v hv;obtain ⟨s,_,rfl⟩:=List.mem_map.1 hv;rfl
theorem ziK:(Tryz.prog.info? 5).bind (·.zero)=some (.int .u8 0):=by kernel_rfl
theorem zb3 (bs:List UInt8):∀v∈bs.map zh,v.oneCell'=true:=by
 intro v hv;obtain ⟨b,_,rfl⟩:=List.mem_map.1 hv;rfl
theorem zdT {l m:List UInt8} {A C:Option Addr} {c d B B':Nat} {w:World} (h1:ze w B 1 A l.length (l.map zh)) (h2:ze w B' 1 C m.length (m.map zh)) :Calls Tryz.prog 150 #[.slice A l.length c,.slice C m.length d] w fun e w'=>e = .returned (.bool (decide (l=m)))∧w'=w:=by
 have k1:(convert 58 9 (.slice A l.length c)).run Tryz.prog w = .ok (.string ⟨l.toArray⟩) w:=by
  rw [run_convert_bytes_string w 58 9 5 A l.length c Tryz.underlying58 Tryz.underlying5 Tryz.underlying9,zer h1]
 have k2:(convert 58 9 (.slice C m.length d)).run Tryz.prog w = .ok (.string ⟨m.toArray⟩) w:=by
  rw [run_convert_bytes_string w 58 9 5 C m.length d Tryz.underlying58 Tryz.underlying5 Tryz.underlying9,zer h2]
 have e1:((⟨l.toArray⟩:ByteArray).toList==(⟨m.toArray⟩:ByteArray).toList)=decide (l=m):=by
  rw [ByteArray.toList_eq,ByteArray.toList_eq];by_cases q:l=m
  · subst q;simp
  · simp [q]
 have h0:=Tryz.bytes_Equal_strs _ _ _ _ w k1 k2;rw [e1] at h0;exact h0
theorem zud {l:List UInt8} {A:Option Addr} {c B:Nat} {x:UInt8} {w:World} (h:ze w B 1 A l.length (l.map zh)) (hl:0<l.length) :Calls Tryz.prog 222 #[.slice A l.length c,.int .u8 (x.toNat:Int)] w fun e w'=>e = .returned (.int .i64 (Lib.indexByte l x))∧w'=w:=by
 obtain ⟨g,o,rfl,_,hc⟩:=h.at0 hl (by omega)
 have:=Tryz.bytes_IndexByte g o l.length c (l.map fun x=>(x.toNat:Int)) (x.toNat:Int) w (by simp) (fun i hi=>by
  have hk:l[i]? = some l[i]:=List.getElem?_eq_getElem hi;rw [hc i (zh l[i]) (by rw [List.getElem?_map,hk];rfl)];simp [zh,List.getD_eq_getElem?_getD,hk])
 refine this.mono fun e w' h=>⟨?_,h.2⟩;rw [h.1];have e1:Lib.bytesOf (l.map fun x=>(x.toNat:Int))=l:=by
  unfold Lib.bytesOf;rw [List.map_map]
  conv=>rhs;rw [←List.map_id l]
  exact List.map_congr_left fun y _=>by simp
 have e2:((x.toNat:Int)).toNat.toUInt8=x:=by simp [Nat.toUInt8]
 rw [e1,e2]
end
section
open Go.RowKit
theorem zlQ {l:List (List UInt8)} {k:Nat} {s:List UInt8} (h:l[k]? = some s):(strL l)[k]? = some (strC s):=by simp [strL,h]
def baL (l:List (List UInt8)):List ByteArray:=l.map fun s=>⟨s.toArray⟩
theorem zc2 (l:List (List UInt8)):(baL l).length=l.length:=by simp [baL]
theorem ztW {l m:List (List UInt8)}:baL l=baL m↔l=m:=by
 constructor
 · intro h;have:=congrArg (List.map fun b:ByteArray=>b.data.toList) h;simpa [baL,List.map_map,Function.comp_def] using this
 · rintro rfl;rfl
theorem zgo {l:List (List UInt8)} {j:Nat} (hj:j<(baL l).length):(strL l)[j]? = some (.string ((baL l).getD j ByteArray.empty)):=by
 rw [zc2] at hj;rw [zlQ (List.getElem?_eq_getElem hj)];simp [baL,strC,hj]
theorem zf9 (xs ys:List (List UInt8)) (A1 A2:Option Addr) (c d B B':Nat) (w:World) (h1:ze w B 1 A1 xs.length (strL xs)) (h2:ze w B' 1 A2 ys.length (strL ys)) (hx:xs.length≤9223372036854775807) (hy:ys.length≤9223372036854775807) :Calls Tryz.prog 293 #[.slice A1 xs.length c,.slice A2 ys.length d] w fun r w'=>r = .returned (.bool (decide (xs=ys)))∧∃n,w'=w.drewN n:=by
 by_cases hl:xs.length=ys.length
 case neg =>
  have hne:decide (xs=ys)=false:=decide_eq_false fun e=>hl (by rw [e]);refine (Tryz.slices_Equal_string_lens A1 A2 xs.length c ys.length d w hl).mono ?_;rintro r w' ⟨rfl,rfl⟩;exact ⟨by rw [hne],0,rfl⟩
 case pos =>
  by_cases h0:xs.length=0
  · have hx0:=List.eq_nil_of_length_eq_zero h0;have hy0:=List.eq_nil_of_length_eq_zero (hl▸h0);subst hx0 hy0;refine (Tryz.slices_Equal_string_empty A1 A2 c 0 d w (by decide)).mono ?_;rintro r w' ⟨rfl,rfl⟩;exact ⟨by simp,0,rfl⟩
  · obtain ⟨b1,o1,rfl,_,hc1⟩:=h1.at0 (by omega) (by omega);obtain ⟨b2,o2,rfl,_,hc2⟩:=h2.at0 (by omega) (by omega);refine (Tryz.slices_Equal_string b1 o1 xs.length c b2 o2 ys.length d (baL xs) (baL ys) w (by rw [zc2];exact Nat.le_refl _) (by rw [zc2];exact Nat.le_refl _) hx hy (fun j hj=>hc1 j _ (zgo hj)) (fun j hj=>hc2 j _ (zgo hj))).mono ?_;rintro r w' ⟨rfl,hw⟩;refine ⟨?_,hw⟩;rw [List.take_of_length_le (by rw [zc2];exact Nat.le_refl _),List.take_of_length_le (by rw [zc2];exact Nat.le_refl _)];rw [decide_eq_decide.2 ztW]
theorem zfR (l:List (List UInt8)) (A:Option Addr) (c B:Nat) (w:World) (hr:ze w B 1 A l.length (strL l)) (hl:l.length≤1000000) :Calls Tryz.prog 276 #[.slice A l.length c] w fun r w'=>∃A' c',r = .returned (.slice A' l.length c')∧Own w' w.heap.size 9 1 A' l.length c' (strL l)∧Below w.heap.size w w':=by
 have fin:∀(v':Value) (w':World),w'.ownsRow w.heap.size 9 1 v' l.length (strL l)→Below w.heap.size w w'→∃A' c',Ending.returned v' = .returned (.slice A' l.length c')∧Own w' w.heap.size 9 1 A' l.length c' (strL l)∧Below w.heap.size w w':=by
  intro v' w' h hb
  rcases h.2 with ⟨rfl,h0⟩|⟨g,cap,cur,rfl,_⟩
  · exact ⟨none,0,by rw [h0],by unfold Own;rw [h0] at h ⊢;exact h,hb⟩
  · exact ⟨_,_,rfl,h,hb⟩
 rcases A with _|a
 · have h0:l.length=0:=by
    rcases Nat.eq_zero_or_pos l.length with q|q
    · exact q
    · obtain ⟨ad,h,_⟩:=hr.2 q;cases h
   have hl0:=List.eq_nil_of_length_eq_zero h0;subst hl0;refine (Tryz.slices_Clone_string_nil 0 c w).mono ?_;rintro r w' ⟨rfl,rfl⟩;exact ⟨none,0,rfl,Own.nil _ _ _ _,Below.refl _ _⟩
 · rcases Nat.eq_zero_or_pos l.length with h0|h0
   · have hl0:=List.eq_nil_of_length_eq_zero h0;subst hl0;refine (Tryz.slices_Clone_string_zero a c w).mono ?_;rintro r w' ⟨v',rfl,h1,_,h2⟩;exact fin v' w' h1 h2
   · obtain ⟨b1,o1,hA,_,hc1⟩:=hr.at0 h0 (by omega);injection hA with hA;subst hA;refine (Tryz.slices_Clone_string b1 o1 l.length c (baL l) w (by rw [zc2];exact Nat.le_refl _) (by omega) (fun j hj=>hc1 j _ (zgo hj))).mono ?_;rintro r w' ⟨v',rfl,h1,_,h2⟩;have e:((baL l).take l.length).map Value.string=strL l:=by
      rw [List.take_of_length_le (by rw [zc2];exact Nat.le_refl _)];simp [baL,strL,strC,Function.comp_def]
     rw [e] at h1;exact fin v' w' h1 h2
theorem zre (b o t:List (List UInt8)):zV b o t=if (decide (b=o)&&decide (b=t))=true then 0 else if decide (o=t)=true then 3 else if decide (b=t)=true then 1 else if decide (b=o)=true then 2 else 4:=by
 simp [zV]
theorem zqT (b o t:List (List UInt8)) (A1 A2 A3:Option Addr) (c1 c2 c3 B:Nat) (w:World) (h1:ze w B 1 A1 b.length (strL b)) (h2:ze w B 1 A2 o.length (strL o)) (h3:ze w B 1 A3 t.length (strL t)) (hb:b.length≤1000000) (ho:o.length≤1000000) (ht:t.length≤1000000) :Calls Tryz.prog 275 #[.slice A1 b.length c1,.slice A2 o.length c2,.slice A3 t.length c3] w fun r w'=>r = .returned (.int .i64 (zV b o t:Nat))∧∃n,w'=w.drewN n:=by
 have HE1:=zz (fun n=>zf9 b o A1 A2 c1 c2 B B (w.drewN n) (h1.drewN n) (h2.drewN n) (by omega) (by omega));have HE2:=zz (fun n=>zf9 b t A1 A3 c1 c3 B B (w.drewN n) (h1.drewN n) (h3.drewN n) (by omega) (by omega));have HE3:=zz (fun n=>zf9 o t A2 A3 c2 c3 B B (w.drewN n) (h2.drewN n) (h3.drewN n) (by omega) (by omega));have HK:=zre b o t;rw [HK];clear h1 h2 h3 HK;generalize decide (b=o)=x1 at *;generalize decide (b=t)=x2 at *;generalize decide (o=t)=x3 at *;go_enter Tryz.func275,Tryz.ntmps275
 cases x1 <;> cases x2
 case true.true =>
  go_wp2_with (go_at_call 293;refine (HE1.out 0).mono ?_)
  rintro _ _ ⟨rfl,n,rfl⟩
  go_wp2_with (go_at_call 293;refine (HE2.out n).mono ?_)
  rintro _ _ ⟨rfl,m,rfl⟩
  go_wp2_with fail
  go_ret
  exact ⟨rfl,n+m,rfl⟩
 all_goals
  go_wp2_with (go_at_call 293;refine (HE1.out 0).mono ?_)
  rintro _ _ ⟨rfl,n,rfl⟩
  go_wp2_with (go_at_call 293;refine (HE2.out n).mono ?_)
  rintro _ _ ⟨rfl,m,rfl⟩
  go_wp2_with (go_at_call 293;refine (HE3.out (n+m)).mono ?_)
  rintro _ _ ⟨rfl,k,rfl⟩;cases x3
  all_goals
   go_wp2_with fail
   go_ret
   exact ⟨rfl,n+m+k,rfl⟩
end
section
open Go.RowKit
def zed:Value→Nat
 | .slice _ n _=>n
 | _=>0
theorem zpc {l:List UInt8} (h:(10:UInt8)∉l):Lib.indexByte l 10=-1:=by
 have h1:=Lib.indexByte_ge l 10
 rcases Int.lt_or_le (Lib.indexByte l 10) 0 with q|q
 · omega
 · obtain ⟨o,ho⟩:∃o:Nat,Lib.indexByte l 10=(o:Int):=⟨(Lib.indexByte l 10).toNat,by omega⟩
   exact absurd (List.mem_of_getElem? (Lib.indexByte_some ho).1) h
theorem ztE {l:List UInt8} (h:(10:UInt8)∈l):∃p q:List UInt8,l=p++10::q∧(10:UInt8)∉p∧Lib.indexByte l 10=(p.length:Int):=by
 have h1:=Lib.indexByte_ge l 10
 rcases Int.lt_or_le (Lib.indexByte l 10) 0 with q|q
 · obtain ⟨j,hj,hx⟩:=List.mem_iff_getElem.1 h;exact absurd (by rw [List.getElem?_eq_getElem hj,hx]) (Lib.indexByte_none (l:=l) (c:=10) (by omega) j)
 · obtain ⟨o,ho⟩:∃o:Nat,Lib.indexByte l 10=(o:Int):=⟨(Lib.indexByte l 10).toNat,by omega⟩
   obtain ⟨h2,h3⟩:=Lib.indexByte_some ho;have hlt:=(List.getElem?_eq_some_iff.1 h2).1
   refine ⟨l.take o,l.drop (o+1),?_,fun hm=>?_,by rw [ho,List.length_take,Nat.min_eq_left (by omega)]⟩
   · have:l.drop o=10::l.drop (o+1):=List.drop_eq_getElem?_toList_append.trans (by rw [h2];rfl);rw [←this,List.take_append_drop]
   · obtain ⟨j,hj,hx⟩:=List.mem_iff_getElem.1 hm;rw [List.length_take] at hj;refine h3 j (by omega) ?_;rw [List.getElem_take] at hx;rw [List.getElem?_eq_getElem (by omega),hx]
theorem zgQ (b:List UInt8) (A:Option Addr) (c B:Nat) (w:World) (hB:B≤w.heap.size) (hr:ze w B 1 A b.length (b.map zh)) (hbl:b.length≤1000000) (hbc:b.length≤c) :Calls Tryz.prog 189 #[.slice A b.length c] w fun r w'=>∃A' c',r = .returned (.slice A' (zf b).length c')∧Own w' w.heap.size 9 1 A' (zf b).length c' (strL (zf b))∧Below w.heap.size w w':=by
 obtain ⟨L,hL⟩:∃L,zf b=L:=⟨_,rfl⟩;rw [hL];have HL:=zz hL;clear hL;have HR0:=zz hr;clear hr;go_enter Tryz.func189,Tryz.ntmps189
 go_wp2_with fail
 go_loopw [0,3] (fun s0 s3 wr=>∃(r:List UInt8) (out:List (List UInt8)) (A0:Option Addr) (c0:Nat) (A3:Option Addr) (c3:Nat),s0 = .slice A0 r.length c0∧s3 = .slice A3 out.length c3∧out.length+r.length≤b.length∧r.length≤c0∧Hid (out++zf r=L)∧Hid (ze wr B 1 A0 r.length (r.map zh))∧Own wr w.heap.size 9 1 A3 out.length c3 (strL out)∧Below w.heap.size w wr) (fun s0 _ _=>zed s0)
 case atStart=>exact ⟨b,[],A,c,none,0,rfl,rfl,by simp,hbc,zz (by rw [←HL.out];rfl),HR0,Own.nil _ _ _ _,Below.refl _ _⟩
 case round =>
  obtain ⟨r,out,A0,c0,A3,c3,rfl,rfl,hlen,hrc,HO,HR,ho,hb⟩:=hrel;have hz:=hb.size;by_cases hr0:r.length=0
  · have e0:decide ((0:Int)<(r.length:Int))=false:=decide_eq_false (by omega);have e1:decide (0<r.length)=false:=decide_eq_false (by omega);have hout:out=L:=by
     have:=HO.out;rw [List.eq_nil_of_length_eq_zero hr0] at this;simpa [zf,za0] using this
    clear HO HL;subst hout
    go_wp2_with fail
    go_ret
    exact ⟨_,_,rfl,ho,hb⟩
  · have e0:decide ((0:Int)<(r.length:Int))=true:=decide_eq_true (by omega);have e1:decide (0<r.length)=true:=decide_eq_true (by omega);have HI:=zz (show Calls Tryz.prog 222 #[.slice A0 r.length c0,.int .u8 10] wr (fun e w'=>e = .returned (.int .i64 (Lib.indexByte r 10))∧wr=w') from (zud (c:=c0) (x:=10) HR.out (by omega)).mono fun _ _ h=>⟨h.1,h.2.symm⟩);have HST:=zz (show ∃n row,1≤n∧n≤r.length∧r.take n=row∧zf r=row::zf (r.drop n)∧((Lib.indexByte r 10=-1∧n=r.length)∨Lib.indexByte r 10=((n-1:Nat):Int)) from by
     by_cases hm:(10:UInt8)∈r
     · obtain ⟨p,q,rfl,hp,hi⟩:=ztE hm;refine ⟨p.length+1,p++[10],by omega,by simp,by rw [List.take_append,List.take_of_length_le (by omega)];simp,?_,.inr (by rw [hi];simp)⟩;rw [zql hp]
       congr 1
       congr 1
       rw [List.drop_append,List.drop_eq_nil_of_le (by omega)];simp
     · refine ⟨r.length,r,by omega,Nat.le_refl _,List.take_length,?_,.inl ⟨zpc hm,rfl⟩⟩;rw [zpN hm (by intro q;simp [q] at hr0),List.drop_length];rfl)
    obtain ⟨n,row,n1,n2,hrow,hsp,hix⟩:=HST.out;have HS1:=zz (show ze wr B 1 A0 n (row.map zh) from by
     have:=HR.out.front (k:=n) n2
     rwa [Nat.mul_one,←List.map_take,hrow] at this)
    have HC:=HR.out.cut (k:=n) (cap:=c0) n2 hrc;rw [Nat.mul_one,←List.map_drop] at HC;obtain ⟨g,o,hA,_,_⟩:=HR.out.at0 (by omega) (by omega);subst hA;have HN:=zz (show (out++[row])++zf (r.drop n)=L from by
     rw [←HO.out,hsp];simp)
    have hrl:(r.drop n).length=r.length-n:=List.length_drop;have hrowl:=zz hrow;clear HST HO HR hsp hrow;generalize Lib.indexByte r 10=ix at *;generalize r.drop n=r2 at *;have O3:=zz ho;have HB:=zz hb;clear ho hb;by_cases hcp:c0=n
    · subst hcp
      rcases hix with ⟨rfl,rfl⟩|hix
      · go_wp2_with (first|(go_at_call 222;refine HI.out.mono ?_;rintro _ _ ⟨rfl,rfl⟩)|(refine zfj rfl rfl Tryz.underlying58 Tryz.underlying5 Tryz.underlying9 (l:=row) rfl HS1.out ?_)|(at_builtin;refine zH rfl zbG rfl rfl (n:=out.length) (xs:=strL out) (O3.out.alloc _) rfl (ze.of_blk (n:=1) (size:=1) (xs:=strL [row]) (heap_alloc_new _ _) rfl rfl) (zb5 [row]) (by unfold maxLen;omega) (by omega) (by simp;omega) ?_;intro A5 c5 w5 o5 k5;have O5:=zz o5;have HK5:=zz ((((Kept.refl _ _ _ _).alloc _).trans k5));have HB5:=zz (HB.out.trans (HK5.out.below (Nat.le_refl _) hz (by simp)));clear o5 k5))
        go_roundw
        case rel =>
         have hn:r2=[]:=List.eq_nil_of_length_eq_zero (by omega);subst hn;exact ⟨[],out++[row],_,_,A5,c5,rfl,by rw [List.length_append,List.length_singleton],by simp;omega,Nat.zero_le _,HN,zz ze.none_,by rw [List.length_append,List.length_singleton];simpa [strL] using O5.out,HB5.out⟩
        case measure=>simp [zed];omega
      · obtain ⟨m,rfl⟩:∃m,c0=m+1:=⟨c0-1,by omega⟩;have hm:((m+1-1:Nat):Int)=(m:Int):=by omega
        rw [hm] at hix;subst hix
        go_wp2_with (first|(go_at_call 222;refine HI.out.mono ?_;rintro _ _ ⟨rfl,rfl⟩)|(refine zfj rfl rfl Tryz.underlying58 Tryz.underlying5 Tryz.underlying9 (l:=row) rfl HS1.out ?_)|(at_builtin;refine zH rfl zbG rfl rfl (n:=out.length) (xs:=strL out) (O3.out.alloc _) rfl (ze.of_blk (n:=1) (size:=1) (xs:=strL [row]) (heap_alloc_new _ _) rfl rfl) (zb5 [row]) (by unfold maxLen;omega) (by omega) (by simp;omega) ?_;intro A5 c5 w5 o5 k5;have O5:=zz o5;have HK5:=zz ((((Kept.refl _ _ _ _).alloc _).trans k5));have HB5:=zz (HB.out.trans (HK5.out.below (Nat.le_refl _) hz (by simp)));clear o5 k5))
        go_roundw
        case rel =>
         have hn:r2=[]:=List.eq_nil_of_length_eq_zero (by omega);subst hn;exact ⟨[],out++[row],_,_,A5,c5,rfl,by rw [List.length_append,List.length_singleton],by simp;omega,Nat.zero_le _,HN,zz ze.none_,by rw [List.length_append,List.length_singleton];simpa [strL] using O5.out,HB5.out⟩
        case measure=>simp [zed];omega
    · rcases hix with ⟨rfl,rfl⟩|hix
      · go_wp2_with (first|(go_at_call 222;refine HI.out.mono ?_;rintro _ _ ⟨rfl,rfl⟩)|(refine zfj rfl rfl Tryz.underlying58 Tryz.underlying5 Tryz.underlying9 (l:=row) rfl HS1.out ?_)|(at_builtin;refine zH rfl zbG rfl rfl (n:=out.length) (xs:=strL out) (O3.out.alloc _) rfl (ze.of_blk (n:=1) (size:=1) (xs:=strL [row]) (heap_alloc_new _ _) rfl rfl) (zb5 [row]) (by unfold maxLen;omega) (by omega) (by simp;omega) ?_;intro A5 c5 w5 o5 k5;have O5:=zz o5;have HK5:=zz ((((Kept.refl _ _ _ _).alloc _).trans k5));have HB5:=zz (HB.out.trans (HK5.out.below (Nat.le_refl _) hz (by simp)));clear o5 k5))
        go_roundw
        case rel =>
         have hn:r2=[]:=List.eq_nil_of_length_eq_zero (by omega);subst hn;exact ⟨[],out++[row],_,_,A5,c5,rfl,by rw [List.length_append,List.length_singleton],by simp;omega,Nat.zero_le _,HN,zz ze.none_,by rw [List.length_append,List.length_singleton];simpa [strL] using O5.out,HB5.out⟩
        case measure=>simp [zed];omega
      · obtain ⟨m,rfl⟩:∃m,n=m+1:=⟨n-1,by omega⟩;have hm:((m+1-1:Nat):Int)=(m:Int):=by omega
        rw [hm] at hix;subst hix
        go_wp2_with (first|(go_at_call 222;refine HI.out.mono ?_;rintro _ _ ⟨rfl,rfl⟩)|(refine zfj rfl rfl Tryz.underlying58 Tryz.underlying5 Tryz.underlying9 (l:=row) rfl HS1.out ?_)|(at_builtin;refine zH rfl zbG rfl rfl (n:=out.length) (xs:=strL out) (O3.out.alloc _) rfl (ze.of_blk (n:=1) (size:=1) (xs:=strL [row]) (heap_alloc_new _ _) rfl rfl) (zb5 [row]) (by unfold maxLen;omega) (by omega) (by simp;omega) ?_;intro A5 c5 w5 o5 k5;have O5:=zz o5;have HK5:=zz ((((Kept.refl _ _ _ _).alloc _).trans k5));have HB5:=zz (HB.out.trans (HK5.out.below (Nat.le_refl _) hz (by simp)));clear o5 k5))
        have HC2:=zz (show ze wr B 1 (some ⟨g,o+(m+1),none⟩) (r.length-(m+1)) (r2.map zh) from by
         rw [if_neg hcp,Option.map_some,zJ] at HC;exact HC)
        go_roundw
        case rel=>exact ⟨r2,out++[row],_,_,A5,c5,by rw [hrl],by rw [List.length_append,List.length_singleton],by rw [List.length_append,List.length_singleton];omega,by omega,HN,zz (by rw [hrl];exact HC2.out.below ((HK5.out.below (Nat.le_refl _) hz (by simp)).mono hB)),by rw [List.length_append,List.length_singleton];simpa [strL] using O5.out,HB5.out⟩
        case measure=>simp [zed];omega
theorem zd9 (l:List (List UInt8)) (A:Option Addr) (c B:Nat) (w:World) (hB:B≤w.heap.size) (hr:ze w B 1 A l.length (strL l)) (hl:l.length≤100000000) (hfl:l.flatten.length≤100000000) :Calls Tryz.prog 241 #[.slice A l.length c] w fun r w'=>∃A' c',r = .returned (.slice A' l.flatten.length c')∧Own w' w.heap.size 5 1 A' l.flatten.length c' (l.flatten.map zh)∧Below w.heap.size w w':=by
 have HR:=zz (show ∀W,Below w.heap.size w W→ze W B 1 A l.length (strL l) from fun W k=>hr.below (k.mono hB));clear hr;go_enter Tryz.func241,Tryz.ntmps241
 go_wp2_with fail
 go_loopw [3,8] (fun s3 s8 wr=>∃(k:Nat) (A3:Option Addr) (c3:Nat),k≤l.length∧s3 = .slice A3 (l.take k).flatten.length c3∧s8 = .int .i64 (k:Nat)∧Own wr w.heap.size 5 1 A3 (l.take k).flatten.length c3 ((l.take k).flatten.map zh)∧Below w.heap.size w wr) (fun _ s8 _=>l.length-(intOf s8).toNat)
 case atStart=>exact ⟨0,none,0,Nat.zero_le _,rfl,rfl,Own.nil _ _ _ _,Below.refl _ _⟩
 case round =>
  obtain ⟨k,A3,c3,hk,rfl,rfl,ho,hb⟩:=hrel;have hz:=hb.size;by_cases hlt:k<l.length
  · obtain ⟨s,hs⟩:∃s,l[k]? = some s:=⟨_,List.getElem?_eq_getElem hlt⟩;obtain ⟨g,off,rfl,_,d5⟩:=(HR.out _ hb).strAt hs rfl;unfold strC at d5;have HT:=zz (show (l.take (k+1)).flatten=(l.take k).flatten++s from by rw [List.take_add_one,hs];simp);have hle:(l.take k).flatten.length+s.length≤100000000:=by
     rw [←List.length_append,←HT.out];refine Nat.le_trans ?_ hfl
     conv=>rhs;rw [←List.take_append_drop (k+1) l]
     rw [List.flatten_append,List.length_append];omega
    generalize (l.take k).flatten=T at *;have hsz:(⟨s.toArray⟩:ByteArray).size=s.length:=by simp [ByteArray.size]
    have hi0:(0:Int)≤(k:Int):=Int.natCast_nonneg _;have hi1:(k:Int)<(l.length:Int):=by omega
    have O3:=zz ho;have HB:=zz hb;clear ho hb hs
    go_wp2_with (at_builtin;refine zjU rfl zbA ziK Tryz.underlying9 rfl rfl O3.out rfl (by rw [hsz];unfold maxLen;omega) (by rw [hsz];omega) hz ?_;intro A5 c5 w5 o5 k5;have O5:=zz o5;have HB5:=zz (HB.out.trans (k5.below (Nat.le_refl _) hz (by simp)));clear o5 k5)
    go_roundw
    case rel=>exact ⟨k+1,A5,c5,hlt,by rw [HT.out,List.length_append],by go_num,by rw [HT.out,List.length_append,List.map_append];have:=O5.out;rw [hsz] at this;exact this,HB5.out⟩
    case measure=>simp [intOf];omega
  · obtain rfl:k=l.length:=by omega
    rw [List.take_length] at ho ⊢
    go_wp2_with fail
    go_ret
    exact ⟨_,_,rfl,ho,hb⟩
end
end Go.Proofs.YtmkmbbjgepcioaaGreatDoor
