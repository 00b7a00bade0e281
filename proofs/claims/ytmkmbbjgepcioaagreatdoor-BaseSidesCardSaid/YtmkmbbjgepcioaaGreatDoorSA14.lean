/- Contract of rename.Score. No statement of the seat is proved here. -/
import Derived.Test.YtmkmbbjgepcioaaGreatDoorSAHq
import Derived.Test.YtmkmbbjgepcioaaGreatDoorSAVl
import Derived.Test.YtmkmbbjgepcioaaGreatDoorSA08
import Derived.Deep.QuietTactic
import Derived.BigRegion
import Derived.BigQuiet
import Derived.Test.YtmkmbbjgepcioaaGreatDoorSA04
namespace Go.Proofs.YtmkmbbjgepcioaaGreatDoor
set_option maxHeartbeats 4000000
set_option maxRecDepth 100000
section
open Go.RowKit
theorem zkA (p:Pth) (w:World) (hp:p.length≤1000000):Calls Tryz.prog 190 #[strC p] w fun e w'=>e = .returned (strC (zap p))∧w=w':=by
 unfold strC;have hsz:(⟨p.toArray⟩:ByteArray).size=p.length:=by simp [ByteArray.size]
 have HL:=zz (show Calls Tryz.prog 103 #[.string ⟨p.toArray⟩,.int .u8 47] w (fun e w'=>e = .returned (.int .i64 (Lib.lastIndexByte ⟨p.toArray⟩ 47))∧w=w') from (Tryz.strings_LastIndexByte ⟨p.toArray⟩ 47 (by rw [hsz];omega) w).mono fun _ _ h=>⟨h.1,h.2.symm⟩);have hex:∃kk:Int,Lib.lastIndexByte ⟨p.toArray⟩ 47=kk∧-1≤kk∧kk<p.length∧(⟨p.toArray⟩:ByteArray).extract (kk+1).toNat p.length=⟨(zap p).toArray⟩:=by
  have hx:∀i j,(⟨p.toArray⟩:ByteArray).extract i j=⟨((p.take j).drop i).toArray⟩:=fun i j=>by
   apply ByteArray.ext;apply Array.ext';simp [List.drop_take]
  rcases zlG p with ⟨h0,hk⟩|⟨a,b,hab,h0,hk⟩
  · refine ⟨-1,hk,by omega,by omega,?_⟩;rw [hx,(zlz h0).1];simp
  · have e1:=(zkH h0 (p:=a)).1;rw [←hab] at e1;have hl:p.length=a.length+1+b.length:=by rw [hab];simp;omega
    refine ⟨a.length,hk,by omega,by omega,?_⟩;rw [hx,e1,List.take_length,show ((a.length:Int)+1).toNat=a.length+1 by omega,hab];rw [List.drop_append,List.drop_eq_nil_of_le (by omega)];simp
 obtain ⟨kk,hk,k1,k2,x2⟩:=hex;rw [hk] at HL;generalize zap p=name at *;have m2:(0:Int)≤kk+1:=by omega
 have m3:kk+1≤(p.length:Int):=by omega
 have m4:IntKind.i64.wrap (kk+1)=kk+1:=IntWalk.i64_in _ (by omega);clear hk;go_enter Tryz.func190,Tryz.ntmps190
 go_wp2_with (go_at_call 103;refine HL.out.mono ?_;rintro _ _ ⟨rfl,rfl⟩)
 go_ret
 exact ⟨rfl,rfl⟩
theorem zg1 (p q:Pth) (w:World) (hp:p.length≤1000000) (hq:q.length≤1000000):Calls Tryz.prog 144 #[strC p,strC q] w fun e w'=>e = .returned (.int .i64 (zaS p q:Nat))∧w=w':=by
 have HP:=zz (zkA p w hp);have HQ:=zz (zkA q w hq);have hn:zaS p q=if zap p=zap q then 0 else 1:=rfl
 generalize zaS p q=n at *;unfold strC at HP HQ ⊢;generalize zap p=a at *;generalize zap q=b at *;go_enter Tryz.func144,Tryz.ntmps144
 cases hab:(a==b) with
 | true =>
  rw [if_pos (eq_of_beq hab)] at hn;subst hn
  go_wp2_with (first|(go_at_call 190;refine HP.out.mono ?_;rintro _ _ ⟨rfl,rfl⟩)|(go_at_call 190;refine HQ.out.mono ?_;rintro _ _ ⟨rfl,rfl⟩))
  go_ret
  exact ⟨rfl,rfl⟩
 | false =>
  rw [if_neg (fun e=>by rw [e] at hab;simp at hab)] at hn;subst hn
  go_wp2_with (first|(go_at_call 190;refine HP.out.mono ?_;rintro _ _ ⟨rfl,rfl⟩)|(go_at_call 190;refine HQ.out.mono ?_;rintro _ _ ⟨rfl,rfl⟩))
  go_ret
  exact ⟨rfl,rfl⟩
theorem zkO (f:FileD) (A:Option Addr) (c:Nat) (w:World):Calls Tryz.prog 141 #[.agg (za f A c)] w fun e w'=>e = .returned (.bool (zaL f))∧Below w.heap.size w w':=by
 have hc:zaL f=((f.k==1||f.k==2)&&decide (0<f.d.length)):=rfl;rw [hc];go_enter Tryz.func141,Tryz.ntmps141
 have hB:=(Below.refl w.heap.size w).alloc (Nat.le_refl _) (.cells (za f A c) 70);have hx:=Blk.new w 70 (za f A c);have c1:=(hx.cell 1).trans (show (za f A c)[1]? = some (.int .i64 f.k) from rfl);have c2:=(hx.cell 2).trans (show (za f A c)[2]? = some (.slice A f.d.length c) from rfl);have HX:=zz (And.intro hB (And.intro c1 c2));clear hB hx c1 c2
 cases h1:(f.k==1) with
 | true =>
  go_wp2_with (refine zC rfl rfl (cs:=za f A c) rfl ?_;obtain ⟨hB,c1,c2⟩:=HX.out;have HB:=zz hB;clear HX hB;generalize w.alloc (.cells (za f A c) 70)=w1 at *)
  go_ret
  exact ⟨rfl,HB.out⟩
 | false =>
  cases h2:(f.k==2) with
  | true =>
   go_wp2_with (refine zC rfl rfl (cs:=za f A c) rfl ?_;obtain ⟨hB,c1,c2⟩:=HX.out;have HB:=zz hB;clear HX hB;generalize w.alloc (.cells (za f A c) 70)=w1 at *)
   go_ret
   exact ⟨rfl,HB.out⟩
  | false =>
   go_wp2_with (refine zC rfl rfl (cs:=za f A c) rfl ?_;obtain ⟨hB,c1,c2⟩:=HX.out;have HB:=zz hB;clear HX hB;generalize w.alloc (.cells (za f A c) 70)=w1 at *)
   go_ret
   exact ⟨rfl,HB.out⟩
end
section
open Go.RowKit
theorem zaf:Elem Tryz.prog 37 70 3 48:=by
 refine ⟨Tryz.underlying37,?_,by decide⟩;obtain ⟨i,hi,h1,h2,h3⟩:=info_parts (show (Tryz.prog.info? 70).map (fun i=>(i.zero,i.size,i.bytes))=some (some (.agg #[.string ⟨#[]⟩,.int .i64 0,.slice none 0 0]),3,48) by kernel_rfl);exact ⟨i,_,hi,h1,h2,h3,rfl⟩
theorem zsl (xs:List Value) (n:Nat) (A:Option Addr) (c B:Nat) (w:World) (hB:B≤w.heap.size) (hr:ze w B 3 A n xs) (h1:∀v∈xs,v.oneCell'=true) (hl:n≤1000000) :Calls Tryz.prog 187 #[.slice A n c] w fun r w'=>∃A' c',r = .returned (.slice A' n c')∧Own w' w.heap.size 70 3 A' n c' xs∧Below w.heap.size w w':=by
 have q22:∀(w:World) (a:Option Addr) (n c n' c':Nat),(binOp .eql 37 (.slice a n c) (.slice none n' c')).run Tryz.prog w = .ok (.bool a.isNone) w:=fun w a n c n' c'=>Lib.run_eql_slice_nil w _ _ a n c n' c' Tryz.underlying37
 rcases A with _|a
 · have h0:n=0:=by
    rcases Nat.eq_zero_or_pos n with q|q
    · exact q
    · obtain ⟨ad,h,_⟩:=hr.2 q;cases h
   subst h0;have hx:xs=[]:=List.eq_nil_of_length_eq_zero hr.1;subst hx;go_enter Tryz.func187,Tryz.ntmps187
   go_wp2_with fail
   go_ret
   exact ⟨none,0,rfl,Own.nil _ _ _ _,Below.refl _ _⟩
 · have HR:=zz (fun W (k:Below w.heap.size w W)=>hr.below (k.mono hB));have h0:Own (w.alloc (.cells #[] 70)) w.heap.size 70 3 (some ⟨w.heap.size,0,none⟩) 0 0 []:=World.ownsRow_made w #[] 0 (Nat.le_refl _) (Nat.zero_le _) (by simp);have H0:=zz h0;have H1:=zz h1;clear hr h0 h1;go_enter Tryz.func187,Tryz.ntmps187
   go_wp2_with (at_builtin;refine zH rfl zaf rfl rfl (n:=0) (xs:=[]) H0.out rfl (HR.out _ ((Below.refl _ _).alloc (Nat.le_refl _) _)) H1.out (by unfold maxLen;omega) (by omega) (by simp) ?_;intro A5 c5 w5 o5 k5;have O5:=zz o5;have HK5:=zz (((Kept.refl w.heap.size [70] [] w).alloc _).trans k5);clear o5 k5)
   go_ret
   exact ⟨A5,c5,rfl,by have:=O5.out;rw [Nat.zero_add,List.nil_append] at this;exact this,HK5.out.below (Nat.le_refl _) (Nat.le_refl _) (by simp)⟩
end
section
open Go.RowKit
section
variable {P:Program}
theorem ztI {w:World} {t e ty:TypeId} {size bytes:Nat} (H:Elem P t e size bytes) {g n c m d:Nat} {ad:Addr} {cur:Array Value} (hb:Blk w g e cur) {news:List Value} (hl:news.length=m*size) (hc:∀j u,news[j]? = some u→w.cell? (ad.add j)=some u) (h1:∀u∈news,u.oneCell'=true) (hroom:n+m≤c) (hfit:n*size+news.length≤cur.size) :(Builtin.append_ #[t,t] ty #[.slice (some ⟨g,0,none⟩) n c,.slice (some ad) m d]).run P w = .ok (.slice (some ⟨g,0,none⟩) (n+m) c) (w.setRow g (cur.toList.take (n*size)++news++cur.toList.drop (n*size+news.length)).toArray):=by
 obtain ⟨ht,⟨i,z,hi,hz,hsize,hby,hzs⟩,hpos⟩:=H;subst hsize;exact run_append_room (P:=P) w t ty e i ht hi g n c cur hb ad m d news hl hc h1 hroom hfit
theorem zri {ops:Array Oper} {o:Oper} {a:Act} {w:World} {K:Act→World→Prop} {Q:Exit→Act→World→Prop} {E:Prop} (hgd:o.guard=none) {s x:Operand} {t e:TypeId} {size bytes:Nat} (H:Elem P t e size bytes) (ho:o.op = .call { callee := .builtin .append,args:=#[s,x],argTypes:=#[t,t] }) {g n c m d:Nat} {ad:Addr} {cur:Array Value} (hs:a.eval s = .slice (some ⟨g,0,none⟩) n c) (hb:Blk w g e cur) {news:List Value} (hx:a.eval x = .slice (some ad) m d) (hl:news.length=m*size) (hc:∀j u,news[j]? = some u→w.cell? (ad.add j)=some u) (h1:∀u∈news,u.oneCell'=true) (hroom:n+m≤c) (hfit:n*size+news.length≤cur.size) (h:K (a.put o.dst (.slice (some ⟨g,0,none⟩) (n+m) c)) (w.setRow g (cur.toList.take (n*size)++news++cur.toList.drop (n*size+news.length)).toArray)):if Region.wanted o (yielded ops a.tmps)=true then Oper.wp P o a w K Q else E:=by
 have hw:Region.wanted o (yielded ops a.tmps)=true:=by simp [Region.wanted,hgd]
 rw [if_pos hw];exact zcA ho hs hx (ztI H hb hl hc h1 hroom hfit) h
theorem zmZ {w:World} {t e ty:TypeId} {g off c:Nat} {cur z:Array Value} (ht:P.underlying t=some (.slice e)) (hv:∀w,(zeroValue e).run P w = .ok (.agg z) w) (hb:Blk w g e cur) (hl:off+z.size≤cur.size) (h1:∀v∈z.toList,v.oneCell'=true) :(Builtin.clear_ #[t] ty #[.slice (some ⟨g,off,none⟩) 1 c]).run P w = .ok (.tuple #[]) (w.setRow g (spl cur off z.toList)):=by
 have hzc:(Builtin.zeroCells z 1)=z:=by
  unfold Builtin.zeroCells;apply Array.ext
  · simp
  · intro i h1 h2;simp;rw [Nat.mod_eq_of_lt h2,getElem!_pos z i h2]
 have hst:=zhy (P:=P) g off e z.toList 0 cur w hb (by simpa using hl) h1;simp only [Nat.add_zero] at hst;simp [Builtin.clear_,run_underlying ht,hv,Value.cells,hzc,hst,spl]
end
end
section
open Go.RowKit
theorem znp:∀v∈(#[.string ⟨#[]⟩,.int .i64 0,.slice none 0 0]:Array Value).toList,v.oneCell'=true:=by
 intro v hv;simp only [List.mem_cons,List.not_mem_nil,or_false] at hv;rcases hv with rfl|rfl|rfl <;> rfl
def SlF (v:Value) (lo hi:Option Value):Sem Value:=Instr.sliceAt 37 v lo hi none
theorem sl_f (v:Value) (lo hi:Option Value):Instr.sliceAt 37 v lo hi none=SlF v lo hi:=rfl
theorem SlF.tail (w:World) (A:Option Addr) (n c k:Nat) (hk:k≤n) (hc:n≤c):(SlF (.slice A n c) (some (.int .i64 (k:Int))) none).run Tryz.prog w = .ok (.slice (if c=k then A else A.map (·.add (k*3))) (n-k) (c-k)) w:=by
 have h0:(0:Int)≤(k:Int):=by omega
 have h1:(k:Int)≤(n:Int):=by omega
 have h2:(n:Int)≤(c:Int):=by omega
 unfold SlF;simp [Instr.sliceAt,Instr.slice,Instr.sliceBounds,Sem.run_bind,run_underlying Tryz.underlying37,run_sliceBound,Tryz.sizeOf70,h0,h1]
theorem SlF.front (w:World) (g n c k:Nat) (hk:k≤c):(SlF (.slice (some ⟨g,0,none⟩) n c) none (some (.int .i64 (k:Int)))).run Tryz.prog w = .ok (.slice (some ⟨g,0,none⟩) k c) w:=by
 have h0:(0:Int)≤(k:Int):=by omega
 have h1:(k:Int)≤(c:Int):=by omega
 have h2:(⟨g,0,none⟩:Addr).add 0=⟨g,0,none⟩:=zJ g 0 0;unfold SlF;simp [Instr.sliceAt,Instr.slice,Instr.sliceBounds,Sem.run_bind,run_underlying Tryz.underlying37,run_sliceBound,Tryz.sizeOf70,h0,h1,h2]
theorem SlF.part (w:World) (A:Option Addr) (n c k m:Nat) (hk:k≤m) (hm:m≤c) (hkc:k<c):(SlF (.slice A n c) (some (.int .i64 (k:Int))) (some (.int .i64 (m:Int)))).run Tryz.prog w = .ok (.slice (A.map (·.add (k*3))) (m-k) (c-k)) w:=by
 have h0:(0:Int)≤(k:Int):=by omega
 have h1:(k:Int)≤(m:Int):=by omega
 have h2:(m:Int)≤(c:Int):=by omega
 have h3:¬c=k:=by omega
 unfold SlF;simp [Instr.sliceAt,Instr.slice,Instr.sliceBounds,Sem.run_bind,run_underlying Tryz.underlying37,run_sliceBound,Tryz.sizeOf70,h0,h1,h2,h3]
theorem Kept.ofKeepOnly {w w':World} {g base:Nat} {e:TypeId} {cur:Array Value} (hb:Blk w g e cur) (hg:base≤g) (hk:Keep (Only g) w w'):Kept base [e] [] w w' :=
 Keep.mono hk fun i _ q=>by
  unfold Only at q;subst q;exact .inr ⟨hg,e,by simp,cur,(0,0),hb⟩
attribute [local go_sem ↓] sl_f
theorem zpO (xs:List Value) (n i:Nat) (A:Option Addr) (c base:Nat) (w:World) (ho:Own w base 70 3 A n c xs) (h1:∀v∈xs,v.oneCell'=true) (hi:i<n) (hn:n≤1000000) :Calls Tryz.prog 188 #[.slice A n c,.int .i64 (i:Nat),.int .i64 ((i:Int)+1)] w fun r w'=>r = .returned (.slice A (n-1:Nat) c)∧Own w' base 70 3 A (n-1) c (xs.take (i*3)++xs.drop ((i+1)*3))∧Kept base [70] [] w w'∧∀a,A=some a→Keep (Only a.block) w w':=by
 obtain ⟨hl,⟨hv,h0⟩|⟨g,cap,cur,hv,hb,hh,hncap,hcap,hcs,htake⟩⟩:=ho
 · omega
 · injection hv with e1 e2 e3;subst e1 e3;have hB:Blk w g 70 cur:=hh;have hce:(i:Int)≤(i:Int)+1:=by omega
   have b0:(0:Int)≤(i:Int):=by omega
   have b1:(i:Int)+1≤(n:Int):=by omega
   have b2:(n:Int)≤(c:Int):=by omega
   have b3:((i:Int)==(i:Int)+1)=false:=by rw [beq_eq_false_iff_ne];omega
   have b4:(i:Int)≤(c:Int):=by omega
   have b5:(i:Int)+1≤(c:Int):=by omega
   have HB:=zz hB;clear hh hB;go_enter Tryz.func188,Tryz.ntmps188
   go_wp2_with fail
   have f1:∀W,(SlF (.slice (some ⟨g,0,none⟩) n c) none (some (.int .i64 (i:Int)))).run Tryz.prog W = .ok (.slice (some ⟨g,0,none⟩) i c) W:=fun W=>SlF.front W g n c i (by omega);obtain ⟨ad,had,hcell⟩:∃ad:Addr,(∀W,(SlF (.slice (some ⟨g,0,none⟩) n c) (some (.int .i64 ((i:Int)+1))) none).run Tryz.prog W = .ok (.slice (some ad) (n-(i+1)) (c-(i+1))) W)∧∀j u,(xs.drop ((i+1)*3))[j]? = some u→w.cell? (ad.add j)=some u:=by
    by_cases hq:c=i+1
    · refine ⟨⟨g,0,none⟩,fun W=>?_,fun j u hj=>?_⟩
      · have:=SlF.tail W (some ⟨g,0,none⟩) n c (i+1) (by omega) hncap;rw [if_pos hq] at this;exact this
      · rw [List.drop_eq_nil_of_le (by omega)] at hj;cases hj
    · refine ⟨⟨g,(i+1)*3,none⟩,fun W=>?_,fun j u hj=>?_⟩
      · have:=SlF.tail W (some ⟨g,0,none⟩) n c (i+1) (by omega) hncap;rw [if_neg hq,Option.map_some,zJ,Nat.zero_add] at this;exact this
      · rw [zJ,HB.out.cell];rw [List.getElem?_drop,←htake] at hj;have hlt:(i+1)*3+j<n*3:=by
         rcases Nat.lt_or_ge ((i+1)*3+j) (n*3) with q|q
         · exact q
         · rw [List.getElem?_eq_none (by rw [List.length_take];omega)] at hj;cases hj
        rw [List.getElem?_take_of_lt hlt,Array.getElem?_toList] at hj;exact hj
   have HC:=zz (show ∀j u,(xs.drop ((i+1)*3))[j]? = some u→w.drew.cell? (ad.add j)=some u from hcell);have HD:=zz (show ∀v∈xs.drop ((i+1)*3),v.oneCell'=true from fun v hv=>h1 v (List.mem_of_mem_drop hv));have HL:=zz (show (xs.drop ((i+1)*3)).length=(n-(i+1))*3 from by rw [List.length_drop,hl];omega);clear hcell h1;have f3:∀W,(SlF (.slice (some ⟨g,0,none⟩) (n-1:Nat) c) (some (.int .i64 ((n-1:Nat):Int))) (some (.int .i64 (n:Int)))).run Tryz.prog W = .ok (.slice (some ⟨g,(n-1)*3,none⟩) 1 (c-(n-1))) W:=fun W=>by
    have:=SlF.part W (some ⟨g,0,none⟩) (n-1) c (n-1) n (by omega) hncap (by omega);rw [Option.map_some,zJ,Nat.zero_add,show n-(n-1)=1 by omega] at this;exact this
   have hnn:i+(n-(i+1))=n-1:=by omega
   have HNN:=zz hnn;clear hnn
   go_region_law (refine zri (by rfl) zaf (by rfl) (by rfl) (by exact HB.out.drew) (by rfl) HL.out HC.out HD.out (by omega) (by rw [HL.out,hcs];omega) ?_;rw [HNN.out];have HB1:=zz (HB.out.drew.row (cur.toList.take (i*3)++xs.drop ((i+1)*3)++cur.toList.drop (i*3+(xs.drop ((i+1)*3)).length)).toArray);have HK1:=zz (show Keep (Only g) w (w.drew.setRow g (cur.toList.take (i*3)++xs.drop ((i+1)*3)++cur.toList.drop (i*3+(xs.drop ((i+1)*3)).length)).toArray) from Keep.setRow ((Keep.refl (Only g) w).drew) (.inl rfl) _);generalize w.drew.setRow g (cur.toList.take (i*3)++xs.drop ((i+1)*3)++cur.toList.drop (i*3+(xs.drop ((i+1)*3)).length)).toArray=w1 at *)
   have hsz:(cur.toList.take (i*3)++xs.drop ((i+1)*3)++cur.toList.drop (i*3+(xs.drop ((i+1)*3)).length)).length=c*3:=by
    rw [List.length_append,List.length_append,List.length_take,List.length_drop,List.length_drop,hl,Array.length_toList,hcs];omega
   obtain ⟨CC,hCC⟩:∃CC,cur.toList.take (i*3)++xs.drop ((i+1)*3)++cur.toList.drop (i*3+(xs.drop ((i+1)*3)).length)=CC:=⟨_,rfl⟩;rw [hCC] at HB1 hsz;have HCC:=zz hCC;clear hCC;have hclr:=zmZ (P:=Tryz.prog) (ty:=0) (off:=(n-1)*3) (c:=c-(n-1)) Tryz.underlying37 zaU HB1.out (by rw [List.size_toArray,List.size_toArray,hsz];show (n-1)*3+3≤c*3;omega) znp;have HB2:=zz (HB1.out.row (spl CC.toArray ((n-1)*3) (#[.string ⟨#[]⟩,.int .i64 0,.slice none 0 0]:Array Value).toList));have HK2:=zz (Keep.setRow HK1.out (g:=g) (.inl rfl) (spl CC.toArray ((n-1)*3) (#[.string ⟨#[]⟩,.int .i64 0,.slice none 0 0]:Array Value).toList));have HSZ:=zz hsz;clear hsz;generalize w1.setRow g (spl CC.toArray ((n-1)*3) (#[.string ⟨#[]⟩,.int .i64 0,.slice none 0 0]:Array Value).toList)=w2 at *
   go_wp2_with fail
   go_ret
   refine ⟨rfl,⟨by rw [List.length_append,List.length_take,List.length_drop,hl];omega,.inr ⟨g,c,_,rfl,hb,HB2.out,by omega,hcap,?_,?_⟩⟩,Kept.ofKeepOnly HB.out hb HK2.out,HK2.out⟩
   · have:=HSZ.out;simp only [spl,List.size_toArray,List.length_append,List.length_take,List.length_drop] at this ⊢;simp only [List.length_cons,List.length_nil]
     omega
   · have hxs:xs.take (i*3)=cur.toList.take (i*3):=by rw [←htake,List.take_take,Nat.min_eq_left (by omega)]
     rw [hxs];have hl2:(cur.toList.take (i*3)++xs.drop ((i+1)*3)).length=(n-1)*3:=by
      rw [List.length_append,List.length_take,List.length_drop,hl,Array.length_toList,hcs];omega
     unfold spl;simp only
     rw [List.append_assoc,List.take_append_of_le_length (by rw [List.length_take,HSZ.out];omega),←HCC.out];rw [List.take_take,Nat.min_self,List.take_append_of_le_length (by rw [hl2];exact Nat.le_refl _),←hl2,List.take_length]
end
section
open Go.RowKit Go.Maps
def CntM (f:Mp) (x:List (List UInt8)):Prop:=∀s,(f s).getD (.int .i64 0) = .int .i64 (x.count s:Nat)
theorem CntM.nil_:CntM zF []:=fun _=>rfl
theorem CntM.put {f:Mp} {x:List (List UInt8)} (h:CntM f x) {s:List UInt8} {m:Nat} (hm:x.count s=m):CntM (mput f s (.int .i64 ((m:Int)+1))) (x++[s]):=by
 intro t;unfold mput;by_cases e:t=s
 · subst e;rw [if_pos rfl,List.count_append,hm];simp
 · rw [if_neg e,h,List.count_append,List.count_singleton,if_neg (by simpa using fun q=>e q.symm)];rfl
theorem CntM.less {f:Mp} {x:List (List UInt8)} (h:CntM f x) {s:List UInt8} {m:Nat} (hm:x.count s=m) (h0:0<m):CntM (mput f s (.int .i64 ((m:Int)-1))) (x.erase s):=by
 intro t;unfold mput;by_cases e:t=s
 · subst e;rw [if_pos rfl,List.count_erase_self,hm];simp;omega
 · rw [if_neg e,h,List.count_erase_of_ne e]
theorem zqS {xs:List (List UInt8)} {s:List UInt8} {y:List (List UInt8)} {m:Nat} (hm:xs.count s=m):zbN xs (s::y)=if 0<m then zbN (xs.erase s) y+1 else zbN xs y:=by
 rw [zbN];have:s∈xs↔0<m:=by rw [←hm];exact List.count_pos_iff.symm
 by_cases q:0<m
 · rw [if_pos q,if_pos (this.2 q)]
 · rw [if_neg q,if_neg (fun r=>q (this.1 r))]
theorem zsR (a b:List UInt8) (A1 A2:Option Addr) (c1 c2 B:Nat) (w:World) (hB:B≤w.heap.size) (h1:ze w B 1 A1 a.length (a.map zh)) (h2:ze w B 1 A2 b.length (b.map zh)) (ha:a.length≤1000000) (hb:b.length≤1000000) (hc1:a.length≤c1) (hc2:b.length≤c2) :Calls Tryz.prog 143 #[.slice A1 a.length c1,.slice A2 b.length c2] w fun e w'=>e = .returned (.int .i64 (zbr a b:Nat))∧Below w.heap.size w w':=by
 have HEQ:=zz (show Calls Tryz.prog 150 #[.slice A1 a.length c1,.slice A2 b.length c2] w (fun e w'=>e = .returned (.bool (decide (a=b)))∧w=w') from (zdT (c:=c1) (d:=c2) h1 h2).mono fun _ _ h=>⟨h.1,h.2.symm⟩);have HS1:=zz (zgQ a A1 c1 B w hB h1 ha hc1);have HS2:=zz (fun W (hW:Below w.heap.size w W)=>zgQ b A2 c2 B W (Nat.le_trans hB hW.size) (h2.below (hW.mono hB)) hb hc2);have hsc:zbr a b=if a=b then 100 else 200*zbN (zf a) (zf b) / ((zf a).length+(zf b).length):=rfl
 obtain ⟨lx,lxs⟩:=zd8 a;obtain ⟨ly,lys⟩:=zd8 b;have hne:a≠b→0<(zf a).length+(zf b).length:=fun q=>by
  rcases Nat.eq_zero_or_pos ((zf a).length+(zf b).length) with r|r
  · have e1:=List.eq_nil_of_length_eq_zero (show (zf a).length=0 by omega);have e2:=List.eq_nil_of_length_eq_zero (show (zf b).length=0 by omega);have e3:=zcv a;have e4:=zcv b;rw [e1] at e3;rw [e2] at e4;exact absurd (e3.symm.trans e4) q
  · exact r
 generalize zbr a b=sc at *;generalize zf a=x at *;generalize zf b=y at *;have HSC:=zz hsc;have HNE:=zz hne;have HXS:=zz (show ∀s∈x,s.length≤maxLen from fun s hs=>by have:=lxs s hs;unfold maxLen;omega);have HYS:=zz (show ∀s∈y,s.length≤maxLen from fun s hs=>by have:=lys s hs;unfold maxLen;omega);have hmm:=@run_makeMap Tryz.prog;have hxl:x.length≤1000000:=by omega
 have hyl:y.length≤1000000:=by omega
 clear hsc lx ly lxs lys hne h1 h2;go_enter Tryz.func143,Tryz.ntmps143
 cases hab:decide (a=b) with
 | true =>
  have HE:=zz (show sc=100 from by rw [HSC.out,if_pos (of_decide_eq_true hab)]);rw [hab] at HEQ;clear hab
  go_wp2_with (go_at_call 150;refine HEQ.out.mono ?_;rintro _ _ ⟨rfl,rfl⟩)
  go_ret
  exact ⟨by rw [HE.out];rfl,Below.refl _ _⟩
 | false =>
  have HE:=zz (show sc=200*zbN x y / (x.length+y.length) from by rw [HSC.out,if_neg (of_decide_eq_false hab)]);have hpos:=HNE.out (of_decide_eq_false hab);rw [hab] at HEQ;clear hab HSC HNE
  go_wp2_with (go_at_call 150;refine HEQ.out.mono ?_)
  rintro _ _ ⟨rfl,rfl⟩;clear HEQ
  go_wp2_with (go_at_call 189;refine HS1.out.mono ?_)
  rintro _ w1 ⟨A3,c3,rfl,o3,b3⟩;have HO3:=zz o3;have HB3:=zz b3;clear o3 b3 HS1
  go_wp2_with (go_at_call 189;refine (HS2.out _ HB3.out).mono ?_)
  rintro _ w2 ⟨A4,c4,rfl,o4,b4⟩;have HX:=zz (show ze w2 w2.heap.size 1 A3 x.length (strL x) from (HO3.out.reads.below b4).more b4.size);have HY:=zz o4.reads;have HB4:=zz (show Below w.heap.size w w2 from HB3.out.trans (b4.mono HB3.out.size));clear o4 b4 HO3 HB3 HS2;obtain ⟨z,hz⟩:∃z,w2.heap.size=z:=⟨_,rfl⟩;rw [hz] at HX HY;have HZ:=zz hz;have HV0:=zz (show VM (w2.alloc (.map #[] 0)) z 0 zF from by rw [←hz];exact VM.made w2);have HW0:=zz (show Below z w2 (w2.alloc (.map #[] 0)) from (Below.refl _ w2).alloc (by rw [hz];exact Nat.le_refl _) _);have hmz:=hmm 218 w2;rw [hz] at hmz;clear hz hmm
  go_wp2_with fail
  go_loopw [23] (fun s23 wr=>∃(k n:Nat) (f:Mp),s23 = .int .i64 (k:Nat)∧k≤x.length∧n≤k∧Hid (VM wr z n f)∧Hid (CntM f (x.take k))∧Hid (Below z w2 wr)) (fun s23 _=>x.length-(intOf s23).toNat)
  case atStart=>exact ⟨0,0,zF,rfl,Nat.zero_le _,Nat.le_refl _,HV0,zz (by rw [List.take_zero];exact CntM.nil_),HW0⟩
  case round =>
   obtain ⟨k,n,f,rfl,hk,hn,HV,HC,HW⟩:=hrel;by_cases hlt:k<x.length
   · obtain ⟨s,hs⟩:∃s,x[k]? = some s:=⟨_,List.getElem?_eq_getElem hlt⟩;obtain ⟨g4,f4,rfl,_,hc4⟩:=(HX.out.below HW.out).at0 (by omega) (by omega);have d4:=hc4 k (strC s) (by simp [strL,hs,strC]);have i0:(0:Int)≤(k:Int):=by omega
     have i1:(k:Int)<(x.length:Int):=by omega
     have hsl:=HXS.out s (List.mem_of_getElem? hs);obtain ⟨m,hm⟩:∃m,(x.take k).count s=m:=⟨_,rfl⟩;have hmk:m≤1000000:=by have:=List.count_le_length (a:=s) (l:=x.take k);rw [List.length_take] at this;omega
     have hlk:=HV.out.look (s:=s) Tryz.underlying218 (zbw _) hsl;rw [HC.out s,hm] at hlk;obtain ⟨w6,hst,hv6,hk6,_⟩:=HV.out.store (s:=s) Tryz.underlying218 (by unfold maxLen;omega) hsl (.int .i64 ((m:Int)+1));have HV6:=zz hv6;have HC6:=zz (show CntM (mput f s (.int .i64 ((m:Int)+1))) (x.take (k+1)) from by rw [List.take_add_one,hs];exact HC.out.put hm);have HW6:=zz (show Below z w2 w6 from HW.out.trans (hk6.below (by have:=HW.out.size;rw [HZ.out] at this;exact this) (fun j hj q=>by unfold Only at q;omega)));clear hc4 hm hv6 hk6 hs hsl
     go_wp2_with fail
     go_roundw
     case rel=>exact ⟨k+1,_,_,by go_num,hlt,by split <;> omega,HV6,HC6,HW6⟩
     case measure=>simp [intOf];omega
   · obtain rfl:k=x.length:=by omega
     rw [List.take_length] at HC
     go_wp2_with fail
     clear hlt hk
     go_loopw [10,34] (fun s10 s34 wr=>∃(k n c:Nat) (f:Mp) (xs:List (List UInt8)),s10 = .int .i64 (c:Nat)∧s34 = .int .i64 (k:Nat)∧k≤y.length∧c≤k∧n≤1000000+k∧xs.length≤1000000∧c+zbN xs (y.drop k)=zbN x y∧Hid (VM wr z n f)∧Hid (CntM f xs)∧Hid (Below z w2 wr)) (fun _ s34 _=>y.length-(intOf s34).toNat)
     case atStart=>exact ⟨0,n,0,f,x,rfl,rfl,Nat.zero_le _,Nat.le_refl _,by omega,hxl,by rw [List.drop_zero,Nat.zero_add],HV,HC,HW⟩
     case round =>
      clear HV HC HW hn;obtain ⟨k,n,c,f,xs,rfl,rfl,hk,hc,hn,hxs,hco,HV,HC,HW⟩:=hrel;by_cases hlt:k<y.length
      · obtain ⟨s,hs⟩:∃s,y[k]? = some s:=⟨_,List.getElem?_eq_getElem hlt⟩;obtain ⟨g4,f4,rfl,_,hc4⟩:=(HY.out.below HW.out).at0 (by omega) (by omega);have d4:=hc4 k (strC s) (by simp [strL,hs,strC]);have i0:(0:Int)≤(k:Int):=by omega
        have i1:(k:Int)<(y.length:Int):=by omega
        have hsl:=HYS.out s (List.mem_of_getElem? hs);obtain ⟨m,hm⟩:∃m,xs.count s=m:=⟨_,rfl⟩;have hmk:m≤1000000:=by have:=List.count_le_length (a:=s) (l:=xs);omega
        have hlk:=HV.out.look (s:=s) Tryz.underlying218 (zbw _) hsl;rw [HC.out s,hm] at hlk;rw [show y.drop k=s::y.drop (k+1) from List.drop_eq_getElem?_toList_append.trans (by rw [hs];rfl),zqS hm] at hco;by_cases h0:0<m
        · rw [if_pos h0] at hco;obtain ⟨w6,hst,hv6,hk6,_⟩:=HV.out.store (s:=s) Tryz.underlying218 (by unfold maxLen;omega) hsl (.int .i64 ((m:Int)-1));have HV6:=zz hv6;have HC6:=zz (show CntM (mput f s (.int .i64 ((m:Int)-1))) (xs.erase s) from HC.out.less hm h0);have HW6:=zz (show Below z w2 w6 from HW.out.trans (hk6.below (by have:=HW.out.size;rw [HZ.out] at this;exact this) (fun j hj q=>by unfold Only at q;omega)));have g0:decide (0<m)=true:=decide_eq_true h0;have g1:decide ((0:Int)<(m:Int))=true:=decide_eq_true (by omega);clear hc4 hm hv6 hk6 hs hsl
          go_wp2_with fail
          go_roundw
          case rel=>exact ⟨k+1,_,c+1,_,xs.erase s,by go_num,by go_num,hlt,by omega,by split <;> omega,Nat.le_trans (List.length_erase_le ..) hxs,by omega,HV6,HC6,HW6⟩
          case measure=>simp [intOf];omega
        · rw [if_neg h0] at hco;have g0:decide (0<m)=false:=decide_eq_false h0;have g1:decide ((0:Int)<(m:Int))=false:=decide_eq_false (by omega);clear hc4 hm hs hsl
          go_wp2_with fail
          go_roundw
          case rel=>exact ⟨k+1,n,c,f,xs,rfl,by go_num,hlt,by omega,by omega,hxs,hco,HV,HC,HW⟩
          case measure=>simp [intOf];omega
      · obtain rfl:k=y.length:=by omega
        rw [List.drop_length,zbN,Nat.add_zero] at hco;have HE2:=zz (show (sc:Int)=((200*c / (x.length+y.length):Nat):Int) from by rw [HE.out,hco]);clear HE hco
        go_wp2_with fail
        have e:(sc:Int)=200*(c:Int) / ((x.length:Int)+(y.length:Int)):=by rw [HE2.out];simp
        go_ret
        exact ⟨by rw [e];rfl,HB4.out.trans (HW.out.mono (by have:=HB4.out.size;rw [HZ.out] at this;exact this))⟩
end
end Go.Proofs.YtmkmbbjgepcioaaGreatDoor
