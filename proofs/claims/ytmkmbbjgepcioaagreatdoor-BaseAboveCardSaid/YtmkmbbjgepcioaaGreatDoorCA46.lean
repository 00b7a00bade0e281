/- Contract of law 18's Told. No statement of the seat is proved here. -/
import Derived.Test.YtmkmbbjgepcioaaGreatDoorCAHq
import Derived.Test.YtmkmbbjgepcioaaGreatDoorCAEr
import Derived.Test.YtmkmbbjgepcioaaGreatDoorCA43
import Derived.Test.YtmkmbbjgepcioaaGreatDoorCA39
import Derived.Test.YtmkmbbjgepcioaaGreatDoorCA38
import Derived.Test.YtmkmbbjgepcioaaGreatDoorCA44
import Derived.Test.YtmkmbbjgepcioaaGreatDoorCA03
import Derived.BigRegion
import Derived.Test.YtmkmbbjgepcioaaGreatDoorCAGs
import Derived.Test.YtmkmbbjgepcioaaGreatDoorCA42
namespace Go.Proofs.YtmkmbbjgepcioaaGreatDoor
set_option maxHeartbeats 4000000
set_option maxRecDepth 100000
section
open Go.RowKit
def zbm (x:List Int×SlA):Value := .slice x.2.1 x.1.length x.2.2
structure RawI (w:World) (B:Nat) (A:Option Addr) (ls:List (List Int)) (vs:List SlA):Prop where
 len:vs.length=ls.length
 row:ze w B 1 A ls.length ((ls.zip vs).map zbm)
 each:∀(i:Nat) l v,ls[i]? = some l→vs[i]? = some v→ze w B 1 v.1 l.length (i64L l)∧l.length≤v.2∧v.2≤maxLen∧zcA l
theorem RawI.below {w w':World} {B:Nat} {A:Option Addr} {ls:List (List Int)} {vs:List SlA} (h:RawI w B A ls vs) (hb:Below B w w'):RawI w' B A ls vs :=
 ⟨h.len,h.row.below hb,fun i l v h1 h2=>⟨(h.each i l v h1 h2).1.below hb,(h.each i l v h1 h2).2⟩⟩
def zbP (ls:List (List Int)) (n:Nat):Rw:=(List.range n).map fun i=>rowP i ((ls[i]?).getD [])
theorem zmf (ls:List (List Int)) (n:Nat):zbP ls (n+1)=zbP ls n++[rowP n ((ls[n]?).getD [])]:=by
 unfold zbP;rw [List.range_succ,List.map_append];rfl
theorem zcY (ls:List (List Int)) (n:Nat):(zbP ls n).length=n:=by simp [zbP]
structure RwO (w:World) (z:Nat) (A:Option Addr) (n c:Nat) (R:Rw) (rs:List SlA):Prop where
 len:rs.length=R.length
 num:R.length=n
 row:Own w z 57 1 A n c ((R.zip rs).map fun x=>slR x.1 x.2)
 each:∀(i:Nat) p r,R[i]? = some p→rs[i]? = some r→Own w z 3 1 r.1 p.length r.2 (p.map nvI)
theorem RwO.below {w w':World} {z n c:Nat} {A:Option Addr} {R:Rw} {rs:List SlA} (h:RwO w z A n c R rs) (hb:Below w.heap.size w w'):RwO w' z A n c R rs :=
 ⟨h.len,h.num,h.row.kept (Kept.ofBelow (base:=0) (E:=[]) (G:=[]) hb) (by simp) (by simp),fun i p r h1 h2=>(h.each i p r h1 h2).kept (Kept.ofBelow (base:=0) (E:=[]) (G:=[]) hb) (by simp) (by simp)⟩
theorem RwO.rwi {w:World} {z n c:Nat} {A:Option Addr} {R:Rw} {rs:List SlA} (h:RwO w z A n c R rs):RwI w w.heap.size A R rs :=
 ⟨h.len,by rw [h.num];exact h.row.reads,fun i p r h1 h2=>(h.each i p r h1 h2).reads⟩
theorem zgb:Elem Tryz.prog 62 57 1 24:=by
 refine ⟨Tryz.underlying62,?_,by decide⟩;obtain ⟨i,hi,h1,h2,h3⟩:=info_parts (show (Tryz.prog.info? 57).map (fun i=>(i.zero,i.size,i.bytes))=some (some (.slice none 0 0),1,24) by kernel_rfl);exact ⟨i,_,hi,h1,h2,h3,rfl⟩
theorem zrv:Elem Tryz.prog 57 3 1 8:=by
 refine ⟨Tryz.underlying57,?_,by decide⟩;obtain ⟨i,hi,h1,h2,h3⟩:=info_parts (show (Tryz.prog.info? 3).map (fun i=>(i.zero,i.size,i.bytes))=some (some (.int .i64 0),1,8) by kernel_rfl);exact ⟨i,_,hi,h1,h2,h3,rfl⟩
theorem zsb {n:Nat} {l:List Int} {k:Nat} {x:Int} (h:l[k]? = some x) (_:0<n):(l.take (k+1)).foldl (za9 n) []=za9 n ((l.take k).foldl (za9 n) []) x:=by
 rw [List.take_add_one,h,List.foldl_append];rfl
theorem znX {n k:Nat} {l:List Int} (h:¬(k<l.length∧k<4∧0<n)) (hk:k≤4) (h0:n=0→k=0):(l.take k).foldl (za9 n) []=rowP n l:=by
 unfold rowP;by_cases hn:n=0
 · rw [if_pos hn,h0 hn];rfl
 · rw [if_neg hn];have:l.take k=l.take 4:=by
    rcases Nat.lt_or_ge k 4 with q|q
    · rw [List.take_of_length_le (by omega),List.take_of_length_le (by omega)]
    · rw [show k=4 by omega]
   rw [this]
theorem zsp (ls:List (List Int)) (vs:List SlA) (A:Option Addr) (c M B:Nat) (hM:ls.length=M) (hM2:M≤16) (w:World) (hB:B≤w.heap.size) (hr:RawI w B A ls vs) :Calls Tryz.prog 20 #[.slice A M c] w fun e w'=>∃A' c' rs,e = .returned (.slice A' M c')∧RwI w' w'.heap.size A' (zau ls) rs∧Below w.heap.size w w':=by
 obtain ⟨z,hz⟩:∃z,w.heap.size=z:=⟨_,rfl⟩;have HMM:=zz hM;have HR:=zz hr;have HB0:=zz (Below.refl z w);have HE:=zz (show zau ls=zbP ls M from by unfold zau zbP;rw [hM,Nat.min_eq_left (by omega)]);have hz0:z≤w.heap.size:=by omega
 rw [hz,HE.out];rw [hz] at hB;clear hr hM HE;go_enter Tryz.func20,Tryz.ntmps20
 go_wp2_with fail
 go_loopg [3,4] M (fun kx s3 s4 wr=>∃(n:Nat) (A1:Option Addr) (c1:Nat) (rs:List SlA),s4 = .int .i64 n∧s3 = .slice A1 n c1∧n≤M∧M-n≤kx∧Hid (RwO wr z A1 n c1 (zbP ls n) rs)∧Hid (Below z w wr)∧z≤wr.heap.size)
 case atStart=>exact ⟨0,none,0,[],rfl,rfl,Nat.zero_le _,Nat.le_refl _,zz ⟨rfl,rfl,Own.nil _ _ _ _,fun i p r h _=>by cases h⟩,HB0,hz0⟩
 case round =>
  clear HB0 hz0;obtain ⟨n,A1,c1,rs,rfl,rfl,hnM,hkx,HO,HB,hzr⟩:=hrel;by_cases hlt:n<M
  · obtain ⟨l,hl⟩:∃l,ls[n]? = some l:=⟨_,List.getElem?_eq_getElem (by rw [HMM.out];exact hlt)⟩;obtain ⟨v,hv⟩:∃v,vs[n]? = some v:=⟨_,List.getElem?_eq_getElem (by rw [HR.out.len,HMM.out];exact hlt)⟩;have hltz:(n:Int)<(M:Int):=by omega
    have hlt40:(n:Int)<40:=by omega
    have hn0:(0:Int)≤(n:Int):=by omega
    obtain ⟨L,hL⟩:∃L,l.length=L:=⟨_,rfl⟩;have hrow:=HR.out.row;rw [HMM.out] at hrow;obtain ⟨gP,oP,rfl,hgP,hcP⟩:=hrow.at0 (by omega) (by omega);have hcn:=hcP n (zbm (l,v)) (by rw [List.getElem?_map,(List.getElem?_zip_eq_some (z:=(l,v))).2 ⟨hl,hv⟩];rfl);unfold zbm at hcn;simp only at hcn;rw [hL] at hcn;obtain ⟨hre,hvc1,hvc2,hfit⟩:=HR.out.each n l v hl hv;rw [hL] at hre hvc1;have HCN:=zz hcn;have HRE:=zz hre;have HLL:=zz (And.intro hl (And.intro hL hfit));obtain ⟨zn,hzn⟩:∃zn,wr.heap.size=zn:=⟨_,rfl⟩;have HWN:=zz (Below.refl zn wr);have hzn0:zn≤wr.heap.size:=by omega
    clear hrow hcP hcn hre hfit hl hv hL;go_upto_region 7 with fail
    generalize wr=wn at *
    go_loopg [5,6] 4 (fun kk s5 s6 wq=>∃(k:Nat) (p:List Nat) (A2:Option Addr) (c2:Nat),s6 = .int .i64 k∧s5 = .slice A2 p.length c2∧k≤4∧(n=0→k=0)∧4-k≤kk∧Hid (p=(l.take k).foldl (za9 n) [])∧p.length≤4∧Hid (∀x∈p,x<16)∧Hid (Own wq zn 3 1 A2 p.length c2 (p.map nvI))∧Hid (Below zn wn wq)∧zn≤wq.heap.size)
    case atStart=>exact ⟨0,[],none,0,rfl,rfl,Nat.zero_le _,fun _=>rfl,Nat.le_refl _,zz rfl,by simp,zz (by simp),zz (Own.nil _ _ _ _),HWN,hzn0⟩
    case round =>
     clear HWN hzn0;obtain ⟨k,p,A2,c2,rfl,rfl,hk4,hk0,hkk,HP,hp4,HP16,HOP,HBQ,hzq⟩:=hrel;have b1:=((HB.out.trans (HBQ.out.mono (by omega))).cell (p:=⟨gP,oP+n,none⟩) (by show gP<z;omega)).trans HCN.out;have hkz:(0:Int)≤(k:Int):=by omega
     go_upto_region 7 with fail
     go_cut [34] (fun s34 wx=>s34 = .bool (decide (k<L∧k<4∧0<n))∧wr=wx)
     case first =>
      by_cases c1:k<L
      · have e1:(k:Int)<(L:Int):=by omega
        by_cases c2:k<4
        · have e2:(k:Int)<4:=by omega
          by_cases c3:0<n
          · have e3:(0:Int)<(n:Int):=by omega
            go_wp2_with fail
            go_meet
            exact ⟨by rw [decide_eq_true ⟨c1,c2,c3⟩],rfl⟩
          · have e3:¬(0:Int)<(n:Int):=by omega
            go_wp2_with fail
            go_meet
            exact ⟨by rw [decide_eq_false (fun h=>c3 h.2.2)],rfl⟩
        · have e2:¬(k:Int)<4:=by omega
          go_wp2_with fail
          go_meet
          exact ⟨by rw [decide_eq_false (fun h=>c2 h.2.1)],rfl⟩
      · have e1:¬(k:Int)<(L:Int):=by omega
        go_wp2_with fail
        go_meet
        exact ⟨by rw [decide_eq_false (fun h=>c1 h.1)],rfl⟩
     case rest =>
      obtain ⟨rfl,rfl⟩:=hcut;by_cases hc:k<L∧k<4∧0<n
      · rw [decide_eq_true hc];obtain ⟨c1',c2',c3'⟩:=hc;have e1:(k:Int)<(L:Int):=by omega
        obtain ⟨x,hx⟩:∃x,l[k]? = some x:=⟨_,List.getElem?_eq_getElem (by rw [HLL.out.2.1];exact c1')⟩;obtain ⟨gl,ol,hve,hgl,hcl⟩:=HRE.out.at0 (by omega) (by omega);have b2:=((HB.out.trans (HBQ.out.mono (by omega))).cell (p:=⟨gl,ol+k,none⟩) (by show gl<z;omega)).trans (hcl k (.int .i64 x) (by unfold i64L;rw [List.getElem?_map,hx];rfl));obtain ⟨v1,v2⟩:=v;simp only at hve b1;subst hve;have hq0:=Int.emod_nonneg x (show (n:Int)≠0 by omega);have hq1:=Int.emod_lt_of_pos x (show (0:Int)<n by omega);obtain ⟨q,hq⟩:∃q:Nat,x%(n:Int)=(q:Int):=⟨(x%n).toNat,by omega⟩
        have HWI:=zz (fun W=>zqB x (n:Int) W (by omega) (by omega));rw [hq] at HWI;have hqn:q<n:=by omega
        have HQ:=zz (show (x%(n:Int)).toNat=q from by rw [hq];rfl);clear hcl hq0 hq1;go_upto_region 10 with (go_at_call 34;(with_reducible refine (HWI.out _).mono ?_);rintro _ w5 ⟨rfl,rfl⟩)
        clear HWI b1 b2 hq;go_upto_region 12 with fail
        go_loopg [8,9] p.length (fun kj s8 s9 wx=>∃(j:Nat),s9 = .int .i64 j∧s8 = .bool (decide (q∈p.take j))∧j≤p.length∧p.length-j≤kj∧wr=wx)
        case atStart=>exact ⟨0,rfl,by simp,Nat.zero_le _,Nat.le_refl _,rfl⟩
        case round =>
         obtain ⟨j,rfl,rfl,hjp,hkj,rfl⟩:=hrel;have hj0:(0:Int)≤(j:Int):=by omega
         by_cases hjl:j<p.length
         · obtain ⟨y,hy⟩:∃y,p[j]? = some y:=⟨_,List.getElem?_eq_getElem hjl⟩;have e4:(j:Int)<(p.length:Int):=by omega
           obtain ⟨g2,o2,hA2,hg2,hc2⟩:=HOP.out.reads.at0 (by omega) (by omega);subst hA2;have b3:=hc2 j (nvI y) (by rw [List.getElem?_map,hy];rfl);unfold nvI at b3;have htk:p.take (j+1)=p.take j++[y]:=by rw [List.take_add_one,hy];rfl
           have HTK:=zz htk;clear hc2 htk;by_cases hin:q∈p.take j
           · have HN:=zz (show decide (q∈p.take (j+1))=true from decide_eq_true (by rw [HTK.out];exact List.mem_append.2 (.inl hin)));rw [decide_eq_true hin]
             go_wp2_with fail
             go_roundg (p.length-(j+1))
             case measure=>omega
             case rel=>exact ⟨j+1,by go_num,by rw [HN.out],by omega,Nat.le_refl _,rfl⟩
           · rw [decide_eq_false hin];by_cases hyq:y=q
             · have e5:((y:Int)==(q:Int))=true:=beq_iff_eq.2 (by omega);have HN:=zz (show decide (q∈p.take (j+1))=true from decide_eq_true (by rw [HTK.out,hyq];simp));clear hyq
               go_wp2_with fail
               go_roundg (p.length-(j+1))
               case measure=>omega
               case rel=>exact ⟨j+1,by go_num,by rw [HN.out],by omega,Nat.le_refl _,rfl⟩
             · have e5:((y:Int)==(q:Int))=false:=beq_eq_false_iff_ne.2 (by omega);have HN:=zz (show decide (q∈p.take (j+1))=false from decide_eq_false (by rw [HTK.out,List.mem_append,List.mem_singleton];rintro (h|h);exact hin h;exact hyq h.symm))
               go_wp2_with fail
               go_roundg (p.length-(j+1))
               case measure=>omega
               case rel=>exact ⟨j+1,by go_num,by rw [HN.out],by omega,Nat.le_refl _,rfl⟩
         · obtain rfl:j=p.length:=by omega
           rw [List.take_length];have HRT:=zz (zsb hx c3');by_cases hin:q∈p
           · rw [decide_eq_true hin];have HP2:=zz (show p=(l.take (k+1)).foldl (za9 n) [] from by
              rw [HRT.out,←HP.out];unfold za9;rw [HQ.out,if_pos (List.contains_iff_mem.2 hin)])
             go_wp2_with fail
             go_roundg (4-(k+1))
             case measure=>omega
             case rel=>exact ⟨k+1,p,A2,c2,by go_num,rfl,by omega,fun h=>by omega,Nat.le_refl _,HP2,hp4,HP16,HOP,HBQ,hzq⟩
           · rw [decide_eq_false hin];have HP2:=zz (show p++[q]=(l.take (k+1)).foldl (za9 n) [] from by
              rw [HRT.out,←HP.out];unfold za9;rw [HQ.out,if_neg (fun h=>hin (List.contains_iff_mem.1 h))])
             have HO3:=zz (HOP.out.alloc (.cells #[.int .i64 (q:Nat)] 3));have hnew:=heap_alloc_new wr (.cells #[.int .i64 (q:Nat)] 3);have HRN:=zz (ze.of_cellsF (n:=1) (size:=1) (xs:=[.int .i64 (q:Nat)]) hnew rfl rfl);have hm1:p.length+1≤maxLen:=by unfold maxLen;omega
             have hm2:(p.length+1)*8≤140737488355328:=by omega
             have hz3:zn≤(wr.alloc (.cells #[.int .i64 (q:Nat)] 3)).heap.size:=by simp;omega
             have HB3:=zz (HBQ.out.alloc hzq (.cells #[.int .i64 (q:Nat)] 3));have hpl:p.length≤k:=by
              rw [HP.out];refine Nat.le_trans (zhk (n:=n) (l.take k) []) ?_;rw [List.length_take,List.length_nil];omega
             clear hnew
             go_wp2_with (refine zy rfl zrv rfl rfl HO3.out rfl HRN.out (by intro u hu;rw [List.mem_singleton] at hu;subst hu;rfl) hm1 hm2 hz3 ?_;intro A6 c6 w6 ho6 hk6;have HO6:=zz ho6;have HK6:=zz hk6;clear ho6 hk6)
             have hl6:(p++[q]).length=p.length+1:=by simp
             have HO7:=zz (show Own w6 zn 3 1 A6 (p++[q]).length c6 ((p++[q]).map nvI) from by
              rw [hl6,List.map_append];exact HO6.out)
             have HB6:=zz (HB3.out.trans (HK6.out.below (Nat.le_refl _) hz3 (by simp)));have hz6:zn≤w6.heap.size:=Nat.le_trans hz3 HK6.out.size;have HP6:=zz (show ∀y∈p++[q],y<16 from fun y hy=>by
              rcases List.mem_append.1 hy with h|h
              · exact HP16.out y h
              · rw [List.mem_singleton.1 h];omega)
             rw [←hl6];clear HO6 HK6 HO3 HB3 HRN
             go_roundg (4-(k+1))
             case measure=>omega
             case rel=>exact ⟨k+1,p++[q],A6,c6,by go_num,by rw [hl6],by omega,fun h=>by omega,Nat.le_refl _,HP2,by rw [hl6];omega,HP6,HO7,HB6,hz6⟩
      · have HPD:=zz (show p=rowP n l from by rw [HP.out];exact znX (by rw [HLL.out.2.1];exact hc) hk4 hk0);rw [decide_eq_false hc];have ho1:=HO.out.row.kept (Kept.ofBelow (base:=0) (E:=[]) (G:=[]) (by rw [hzn];exact HBQ.out)) (by simp) (by simp);have HO3:=zz (ho1.alloc (.cells #[.slice A2 p.length c2] 57));have hnew:=heap_alloc_new wr (.cells #[.slice A2 p.length c2] 57);have HRN:=zz (ze.of_cellsF (n:=1) (size:=1) (xs:=[.slice A2 p.length c2]) hnew rfl rfl);have hm1:n+1≤maxLen:=by unfold maxLen;omega
        have hm2:(n+1)*24≤140737488355328:=by omega
        have hzz:z≤wr.heap.size:=by omega
        have hz3:z≤(wr.alloc (.cells #[.slice A2 p.length c2] 57)).heap.size:=by simp;omega
        have HB3:=zz ((HB.out.trans (HBQ.out.mono (by omega))).alloc hzz (.cells #[.slice A2 p.length c2] 57));clear hnew ho1
        go_wp2_with (refine zy rfl zgb rfl rfl HO3.out rfl HRN.out (by intro u hu;rw [List.mem_singleton] at hu;subst hu;rfl) hm1 hm2 hz3 ?_;intro A6 c6 w6 ho6 hk6;have HO6:=zz ho6;have HK6:=zz hk6;clear ho6 hk6)
        have hRe:zbP ls (n+1)=zbP ls n++[p]:=by rw [zmf,HLL.out.1,HPD.out];rfl
        have hlr:rs.length=n:=by rw [HO.out.len,zcY]
        have HO7:=zz (show RwO w6 z A6 (n+1) c6 (zbP ls (n+1)) (rs++[(A2,c2)]) from by
         refine ⟨by rw [zcY,List.length_append,hlr];rfl,zcY _ _,?_,fun i p' r h1 h2=>?_⟩
         · rw [hRe,List.zip_append (by rw [zcY,hlr]),List.map_append];exact HO6.out
         · have carry:∀{A:Option Addr} {m c:Nat} {xs:List Value} {zb:Nat},z≤zb→Own wr zb 3 1 A m c xs→Own w6 z 3 1 A m c xs:=fun hb h=>((h.alloc _).kept HK6.out (by decide) (by simp)).mono hb;rw [hRe] at h1
           rcases Nat.lt_or_ge i n with q|q
           · rw [List.getElem?_append_left (by rw [zcY];exact q)] at h1;rw [List.getElem?_append_left (by omega)] at h2;exact carry (Nat.le_refl z) ((HO.out.each i p' r h1 h2).kept (Kept.ofBelow (base:=0) (E:=[]) (G:=[]) (by rw [hzn];exact HBQ.out)) (by simp) (by simp))
           · rw [List.getElem?_append_right (by rw [zcY];exact q),zcY] at h1;rw [List.getElem?_append_right (by omega),hlr] at h2;have hi:i-n=0:=by
              have:=(List.getElem?_eq_some_iff.1 h1).1;simp at this;omega
             rw [hi] at h1 h2;simp at h1 h2;subst h1 h2;exact carry (by omega) HOP.out)
        have HB6:=zz (HB3.out.trans (HK6.out.below (Nat.le_refl _) hz3 (by simp)));have hz6:z≤w6.heap.size:=Nat.le_trans hz3 HK6.out.size;clear HO6 HK6 HO3 HB3 HRN
        go_roundg (M-(n+1))
        case measure=>omega
        case rel=>exact ⟨n+1,A6,c6,rs++[(A2,c2)],by go_num,rfl,by omega,Nat.le_refl _,HO7,HB6,hz6⟩
  · obtain rfl:n=M:=by omega
    have HF:=zz (And.intro HO.out.rwi HB.out);clear HO HB
    go_wp2_with fail
    go_ret
    exact ⟨A1,c1,rs,rfl,HF.out⟩
end
section
open Go.RowKit
attribute [local go_sem ↓] zoV zqy zj2 zsL zov zoN zni znp zsv
theorem zmq (R:Rw) (rs:List SlA) (A:Option Addr) (c N B:Nat) (hN:R.length=N) (hN2:N≤16) (hp4:∀n,(par R n).length≤4) (hpl:∀n,∀p∈par R n,p<200) (w:World) (hB:B≤w.heap.size) (hR:RwI w B A R rs) :Calls Tryz.prog 23 #[.slice A N c] w fun e w'=>∃g,e = .returned (.pointer (some ⟨g,0,none⟩))∧Below w.heap.size w w'∧w.heap.size≤g∧∃A c vs,GrI w' w'.heap.size g R N A c vs:=by
 obtain ⟨z,hz⟩:∃z,w.heap.size=z:=⟨_,rfl⟩;have HN:=zz hN;have hb0:Below z w (w.alloc (.cells #[.slice none 0 0] 99)):=(Below.refl z w).alloc (by omega) _;have hg0:=Blk.new w 99 #[.slice none 0 0];rw [hz] at hg0;have hz1:(w.alloc (.cells #[.slice none 0 0] 99)).heap.size=z+1:=by rw [←hz];simp
 have HG0:=zz hg0;have HB0:=zz hb0;have HR:=zz hR;rw [hz] at hB;rw [hz];clear hb0 hg0 hR hN;go_enter Tryz.func23,Tryz.ntmps23
 go_upto_region 2 with (refine zu rfl rfl (cs:=#[.slice none 0 0]) rfl ?_)
 generalize w.alloc (.cells #[.slice none 0 0] 99)=w1 at *;have hz1':z+1≤w1.heap.size:=by omega
 clear hz1
 go_wp2_with fail
 go_loopg [4] N (fun kx s4 wr=>∃(n:Nat) (A1:Option Addr) (c1:Nat) (vs:List (Option Addr×Nat)),s4 = .int .i64 n∧n≤N∧N-n≤kx∧Hid (Blk wr z 99 #[.slice A1 n c1])∧Hid (Own wr (z+1) 101 33 A1 n c1 (zb0 R vs))∧vs.length=n∧Hid (∀(i:Nat) v,vs[i]? = some v→Own wr (z+1) 33 32 v.1 (par R i).length v.2 (idsV (par R i)))∧Hid (Below z w wr)∧z+1≤wr.heap.size)
 case atStart=>exact ⟨0,none,0,[],rfl,Nat.zero_le _,Nat.le_refl _,HG0,zz (Own.nil _ _ _ _),rfl,zz (fun i v h=>by simp at h),HB0,hz1'⟩
 case round =>
  clear HG0 HB0 hz1';obtain ⟨n,A1,c1,vs,rfl,hnN,hkx,HG,HO,hvn,HE,HB,hzr⟩:=hrel;by_cases hlt:n<N
  · obtain ⟨p,hp⟩:∃p,R[n]? = some p:=⟨_,List.getElem?_eq_getElem (by rw [HN.out];exact hlt)⟩;obtain ⟨r,hr⟩:∃r,rs[n]? = some r:=⟨_,List.getElem?_eq_getElem (by rw [HR.out.len,HN.out];exact hlt)⟩;have hpp:par R n=p:=by unfold par;rw [hp];rfl
    have hl4:=hp4 n;have hpl':=hpl n;rw [hpp] at hl4 hpl';have HPP:=zz hpp;have hltz:(n:Int)<(N:Int):=by omega
    have hrow:=HR.out.row;rw [HN.out] at hrow;obtain ⟨gP,oP,rfl,hgP,hcP⟩:=hrow.at0 (by omega) (by omega);have hcn:=hcP n (slR p r) (by rw [List.getElem?_map,(List.getElem?_zip_eq_some (z:=(p,r))).2 ⟨hp,hr⟩];rfl);unfold slR at hcn;obtain ⟨rA,rc⟩:=r;simp only at hcn;have HEC:=zz (HR.out.each n p (rA,rc) hp hr);have HCN:=zz hcn;obtain ⟨L,hL⟩:∃L,p.length=L:=⟨_,rfl⟩;rw [hL] at hl4;have HL:=zz hL;have HID:=zz (zbW n (by omega) wr);clear hcP hrow hcn hp hr hpp;go_upto_region 6 with (first|(go_at_call 9;(with_reducible refine HID.out.mono ?_);rintro _ w5 ⟨rfl,hb5⟩;have HB5:=zz hb5;clear hb5)|(refine zbV rfl rfl (zjS _) ?_)|(refine zG rfl rfl (vs:=zaa n (.slice none 0 0)) rfl rfl (Blk.new _ _ _) (by simp [zt,zc0]) (by rw [zc0];exact zj0) (ziH _ _ _ _) ?_;intro w6 hb6 hk6 hs6))
    simp only [Act.put,List.setIfInBounds_toArray,List.set]
    obtain ⟨zn,hzn⟩:∃zn,w5.heap.size=zn:=⟨_,rfl⟩;rw [hzn] at hb6 hk6 ⊢;have b56:Below zn w5 w6:=((Below.refl zn w5).alloc (by omega) _).trans (hk6.below (by simp;omega) (fun i hi h=>by unfold Only at h;omega));have h5:=HB5.out.size;have b06:Below wr.heap.size wr w6:=HB5.out.trans (b56.mono (by omega));have hz6:zn+1≤w6.heap.size:=by have:=hb6.lt;omega
    have HG6:=zz (HG.out.below b06 (by omega));have HO6:=zz (HO.out.kept (Kept.ofBelow (base:=0) (E:=[]) (G:=[]) b06) (by simp) (by simp));have HB6:=zz (HB.out.trans (b06.mono (by omega)));have HX6:=zz hb6;have HBW:=zz (Below.refl zn w6);have hzz:z+1≤zn:=by omega
    have HA1:=zz (show ∀a,A1=some a→a.block<zn from fun a ha=>by
     subst ha;have:=(HO.out.blockAt a.block (by simp [Value.ownBlock])).2.1;omega)
    have HE6:=zz (fun (i:Nat) v (h:vs[i]? = some v)=>show Own w6 (z+1) 33 32 v.1 (par R i).length v.2 (idsV (par R i))∧∀a,v.1=some a→a.block<zn from ⟨(HE.out i v h).kept (Kept.ofBelow (base:=0) (E:=[]) (G:=[]) b06) (by simp) (by simp),fun a ha=>by
     have:=((HE.out i v h).blockAt a.block (by simp [Value.ownBlock,ha])).2.1;omega⟩)
    clear b56 b06 hb6 hk6 hs6 HG HO HB HB5 h5 HID hzn HE
    go_wp2_with fail
    go_loopg [6] L (fun kk s6 wq=>∃(k:Nat) (A2:Option Addr) (c2:Nat),s6 = .int .i64 k∧k≤L∧L-k≤kk∧Hid (Blk wq zn 101 (zaa n (.slice A2 k c2)))∧Hid (Own wq (zn+1) 33 32 A2 k c2 (idsV (p.take k)))∧Hid (Below zn w6 wq)∧zn+1≤wq.heap.size)
    case atStart=>exact ⟨0,none,0,rfl,Nat.zero_le _,Nat.le_refl _,HX6,zz (Own.nil _ _ _ _),HBW,hz6⟩
    case round =>
     clear HX6 HBW hz6;obtain ⟨k,A2,c2,rfl,hkL,hkk,HX,HP,HBQ,hzq⟩:=hrel;have b1:=((HB6.out.trans (HBQ.out.mono (by omega))).cell (p:=⟨gP,oP+n,none⟩) (by show gP<z;omega)).trans HCN.out;rw [HL.out] at b1;by_cases hkl:k<L
     · obtain ⟨y,hy⟩:∃y,p[k]? = some y:=⟨_,List.getElem?_eq_getElem (by rw [HL.out];exact hkl)⟩;have hklz:(k:Int)<(L:Int):=by omega
       have hec:=HEC.out;rw [HL.out] at hec;obtain ⟨gr,or,rfl,hgr,hcr⟩:=hec.at0 (by omega) (by omega);have b2:=((HB6.out.trans (HBQ.out.mono (by omega))).cell (p:=⟨gr,or+k,none⟩) (by show gr<z;omega)).trans (hcr k (nvI y) (by rw [List.getElem?_map,hy];rfl));unfold nvI at b2;have hy2:y<200:=hpl' y (List.mem_of_getElem? hy);have HIDY:=zz (zbW y (by omega) wr.drew);have b3:=(HX.out.cell 32).trans (zdN _ _);have HAF:=zz (show ∀w7,Below wr.drew.heap.size wr.drew w7→w7.cell? ⟨zn,32,none⟩=some (.slice A2 k c2)∧(w7.alloc (.cells (idC (idN y)) 33)).cell? ⟨zn,32,none⟩=some (.slice A2 k c2)∧∃A9 c9 w8,(ApIq #[.slice A2 k c2,.slice (some ⟨w7.heap.size,0,none⟩) 1 1]).run Tryz.prog (w7.alloc (.cells (idC (idN y)) 33)) = .ok (.slice A9 (k+1) c9) w8∧w8.cell? ⟨zn,32,none⟩=some (.slice A2 k c2)∧w8.frozen? ⟨zn,32,none⟩=false∧Hid (Blk (w8.setCell ⟨zn,32,none⟩ (.slice A9 (k+1) c9)) zn 101 (zaa n (.slice A9 (k+1) c9))∧Own (w8.setCell ⟨zn,32,none⟩ (.slice A9 (k+1) c9)) (zn+1) 33 32 A9 (k+1) c9 (idsV (p.take (k+1)))∧Below zn w6 (w8.setCell ⟨zn,32,none⟩ (.slice A9 (k+1) c9))∧zn+1≤(w8.setCell ⟨zn,32,none⟩ (.slice A9 (k+1) c9)).heap.size) from fun w7 h7=>by
        have hx7:=HX.out.drew.below h7 HX.out.lt;have hx8:=hx7.alloc (.cells (idC (idN y)) 33);have ho7:Own w7 (zn+1) 33 32 A2 k c2 (idsV (p.take k)):=HP.out.drew.kept (Kept.ofBelow (base:=0) (E:=[]) (G:=[]) h7) (by simp) (by simp);have h7s:wr.heap.size≤w7.heap.size:=h7.size;have hzw:zn+1≤(w7.alloc (.cells (idC (idN y)) 33)).heap.size:=by simp;omega
        obtain ⟨A9,c9,w8,hrun,ho8,hk8⟩:=zef (P:=Tryz.prog) (ty:=36) (d:=1) zaO (ho7.alloc (.cells (idC (idN y)) 33)) (m:=1) (ze.of_cellsF (n:=1) (size:=32) (xs:=idL (idN y)) (heap_alloc_new w7 (.cells (idC (idN y)) 33)) (by simp [idC]) (by rw [zae])) (za5 _) (by unfold maxLen;omega) (by omega) hzw;have hx9:=hk8.blk hx8 (by simp) (by decide);rw [show idsV (p.take k)++idL (idN y)=idsV (p.take (k+1)) from by rw [List.take_add_one,hy];simp [idsV]] at ho8
        refine ⟨(hx7.cell 32).trans (zdN _ _),(hx8.cell 32).trans (zdN _ _),A9,c9,w8,hrun,(hx9.cell 32).trans (zdN _ _),hx9.frozen 32,zz ⟨?_,ho8.setCell hx9 (by decide) _,?_,?_⟩⟩
        · have:=hx9.set_ 32 (.slice A9 (k+1) c9)
          rwa [zr5] at this
        · exact (((HBQ.out.drew.trans (h7.mono (by show zn≤wr.heap.size;omega))).alloc (by omega) _).trans (hk8.below (by omega) (by simp;omega) (by simp))).setCell (p:=⟨zn,32,none⟩) (Nat.le_refl _) _
        · have:=hk8.size;simp [World.setCell];omega)
       clear hcr hy hec;go_upto_region 9 with fail
       have d1:wr.drew.cell? ⟨gP,oP+n,none⟩=_:=b1;have d2:wr.drew.cell? ⟨gr,or+k,none⟩=_:=b2;have d3:wr.drew.cell? ⟨zn,32,none⟩=_:=b3;have hsl:=fun W=>zqI (idN y) W
       go_region_law (first|(go_simp;go_at_call 9;(with_reducible refine HIDY.out.mono ?_);rintro _ w7 ⟨rfl,hb7⟩;have haf:=HAF.out w7 hb7;clear hb7;obtain ⟨e3,f3,A9,c9,w8,hap,g3,g4,HFF⟩:=haf))
       all_goals
        have HX9:=zz HFF.out.1;have HP9:=zz HFF.out.2.1;have HB9:=zz HFF.out.2.2.1;have hz9:=HFF.out.2.2.2;generalize w8.setCell ⟨zn,32,none⟩ (.slice A9 (k+1) c9)=w9 at *;clear HAF HIDY HX HP HBQ b1 b2 b3 HFF hap g3 g4 e3 f3
        go_wp2_with fail
        go_roundg (L-(k+1))
        case measure=>omega
        case rel=>exact ⟨k+1,A9,c9,by go_num,by omega,Nat.le_refl _,HX9,HP9,HB9,hz9⟩
     · obtain rfl:k=L:=by omega
       clear hkk hkL;have hGr:=HG6.out.below (HBQ.out) (by omega);have hOr:Own wr (z+1) 101 33 A1 n c1 (zb0 R vs):=HO6.out.sameAt fun a ha=>HBQ.out.block _ (HA1.out a ha);have hBr:=HB6.out.trans (HBQ.out.mono (by omega));have hzw:z+1≤(wr.alloc (.cells (zaa n (.slice A2 k c2)) 101)).drew.heap.size:=by show z+1≤(wr.alloc _).heap.size;simp;omega
       obtain ⟨A9,c9,w9,hrun,ho9,hk9⟩:=zef (P:=Tryz.prog) (w:=(wr.alloc (.cells (zaa n (.slice A2 k c2)) 101)).drew) (ty:=97) (d:=1) ziZ (hOr.alloc (.cells (zaa n (.slice A2 k c2)) 101)) (m:=1) (ze.of_cellsF (n:=1) (size:=33) (xs:=(zaa n (.slice A2 k c2)).toList) (heap_alloc_new wr (.cells (zaa n (.slice A2 k c2)) 101)) rfl (by rw [Array.length_toList,zc0])) (ziH _ _ _ _) (by unfold maxLen;omega) (by omega) hzw;rw [zj2] at hrun;have hpl:p.take k=p:=List.take_of_length_le (by rw [HL.out];exact Nat.le_refl _);have hnl:zb0 R vs++(zaa n (.slice A2 k c2)).toList=zb0 R (vs++[(A2,c2)]):=by rw [zod,hvn,HPP.out,HL.out]
       rw [hnl] at ho9;have hG9:=hk9.blk (hGr.alloc _).drew (by simp) (by decide);have d0:wr.drew.cell? ⟨z,0,none⟩=some (.slice A1 n c1):=(hGr.cell 0).trans rfl;have a0:∀o,(wr.alloc o).drew.cell? ⟨z,0,none⟩=some (.slice A1 n c1):=fun o=>(World.cell?_alloc_lt wr o _ hGr.lt).trans ((hGr.cell 0).trans rfl);have d1:=LdNd.blk HX.out.drew (zc0 _ _);have a1:=fun o=>LdNd.blk (HX.out.alloc o).drew (zc0 _ _);have hsl:=zp7 (zaa n (.slice A2 k c2)) (zc0 _ _);have t0:w9.cell? ⟨z,0,none⟩=some (.slice A1 n c1):=(hG9.cell 0).trans rfl;have t3:=hG9.frozen 0;have he9:∀(i:Nat) v,(vs++[(A2,c2)])[i]? = some v→Own (w9.setCell ⟨z,0,none⟩ (.slice A9 (n+1) c9)) (z+1) 33 32 v.1 (par R i).length v.2 (idsV (par R i)):=by
        intro i v hv;have ho:Own wr (z+1) 33 32 v.1 (par R i).length v.2 (idsV (par R i)):=by
         rcases Nat.lt_or_ge i vs.length with hi|hi
         · rw [List.getElem?_append_left hi] at hv;exact (HE6.out i v hv).1.sameAt (fun a ha=>HBQ.out.block _ ((HE6.out i v hv).2 a ha))
         · rw [List.getElem?_append_right hi] at hv;obtain rfl:i=n:=by
            have:=(List.getElem?_eq_some_iff.1 hv).1;simp at this;omega
           rw [hvn,Nat.sub_self] at hv;injection hv with hv;subst hv;rw [HPP.out,HL.out];have:=HP.out.mono (show z+1≤zn+1 by omega)
           rwa [hpl] at this
        exact ((ho.alloc (.cells (zaa n (.slice A2 k c2)) 101)).drew.kept hk9 (by decide) (by simp)).setCell hG9 (by decide) _
       have HE9:=zz he9;have HF:=zz (show Blk (w9.setCell ⟨z,0,none⟩ (.slice A9 (n+1) c9)) z 99 #[.slice A9 (n+1) c9]∧Own (w9.setCell ⟨z,0,none⟩ (.slice A9 (n+1) c9)) (z+1) 101 33 A9 (n+1) c9 (zb0 R (vs++[(A2,c2)]))∧Below z w (w9.setCell ⟨z,0,none⟩ (.slice A9 (n+1) c9))∧z+1≤(w9.setCell ⟨z,0,none⟩ (.slice A9 (n+1) c9)).heap.size from
        ⟨hG9.set_ 0 _,ho9.setCell hG9 (by decide) _,((((hBr.alloc (by omega) _).drew).trans (hk9.below (by omega) (Nat.le_trans (by omega) hzw) (by simp)))).setCell (p:=⟨z,0,none⟩) (Nat.le_refl _) _,by have:=hk9.size;simp [World.setCell] at this ⊢;omega⟩)
       clear hGr hOr hBr hzw ho9 hk9 hG9 he9 hnl hpl;go_upto_region 10 with fail
       clear b1
       go_region
       all_goals
        have HG9:=zz HF.out.1;have HO9:=zz HF.out.2.1;have HB9:=zz HF.out.2.2.1;have hz9:=HF.out.2.2.2;generalize w9.setCell ⟨z,0,none⟩ (.slice A9 (n+1) c9)=w10 at *;clear HF d0 a0 d1 a1 hsl t0 t3 hrun
        go_wp2_with fail
        go_roundg (N-(n+1))
        case measure=>omega
        case rel=>exact ⟨n+1,A9,c9,vs++[(A2,c2)],by go_num,by omega,Nat.le_refl _,HG9,HO9,by rw [List.length_append,hvn];rfl,HE9,HB9,hz9⟩
  · obtain rfl:n=N:=by omega
    have HF:=zz (show Below z w wr∧z≤z∧∃A c vs,GrI wr wr.heap.size z R n A c vs from ⟨HB.out,Nat.le_refl _,A1,c1,vs,⟨HG.out,by omega,hvn,HO.out.reads,fun i v hv=>⟨(HE.out i v hv).reads,(HE.out i v hv).cap_le⟩⟩⟩);clear HG HO HE
    go_wp2_with fail
    go_ret
    exact ⟨z,rfl,HF.out⟩
end
section
open Go.RowKit
structure TrO (w:World) (z:Nat) (A:Option Addr) (n c:Nat) (T:List (List FileD)) (ts:List SlA):Prop where
 len:ts.length=T.length
 num:T.length=n
 row:Own w z 37 1 A n c ((T.zip ts).map fun x=>slT x.1 x.2)
 each:∀(i:Nat) (t:List FileD) (r:SlA),T[i]? = some t→ts[i]? = some r→FI w w.heap.size r.1 t
 only:AllC w A isSl
theorem zjp {α β:Type}:∀(n:Nat) (l:List α) (m:List β),(l.take n).zip (m.take n)=(l.zip m).take n
 | 0,_,_=>by simp
 | n+1,[],m=>by simp
 | n+1,x::l,[]=>by simp
 | n+1,x::l,y::m=>by simp [zjp n l m]
def parL (ss:List StepD) (vs:List StV):List Value:=(ss.zip vs).map fun x=>zbm (x.1.pars,x.2.a)
theorem zru {ss:List StepD} {vs:List StV} {n:Nat} {s:StepD} {v:StV} (h1:ss[n]? = some s) (h2:vs[n]? = some v):(parL ss vs).take (n+1)=(parL ss vs).take n++[zbm (s.pars,v.a)]:=by
 have:(parL ss vs)[n]? = some (zbm (s.pars,v.a)):=by
  unfold parL;rw [List.getElem?_map,(List.getElem?_zip_eq_some (z:=(s,v))).2 ⟨h1,h2⟩];rfl
 rw [List.take_add_one,this];rfl
theorem znj:Elem Tryz.prog 29 37 1 24:=by
 refine ⟨Tryz.underlying29,?_,by decide⟩;obtain ⟨i,hi,h1,h2,h3⟩:=info_parts (show (Tryz.prog.info? 37).map (fun i=>(i.zero,i.size,i.bytes))=some (some (.slice none 0 0),1,24) by kernel_rfl);exact ⟨i,_,hi,h1,h2,h3,rfl⟩
theorem zqh (w:World):(zeroValue 57).run Tryz.prog w = .ok (.slice none 0 0) w:=by kernel_rfl
theorem znU {w:World} {z:Nat} {A:Option Addr} {N c:Nat} {ss:List StepD} {vs:List StV} (hl:vs.length=ss.length) (hN:N≤ss.length) (ho:Own w z 57 1 A N c ((parL ss vs).take N)) {AS:Option Addr} {B:Nat} (h:StI w B AS ss vs) (hB:B≤w.heap.size):RawI w w.heap.size A ((ss.take N).map (·.pars)) ((vs.take N).map (·.a)):=by
 have e1:((ss.take N).map (·.pars)).length=N:=by rw [List.length_map,List.length_take];omega
 refine ⟨by rw [e1,List.length_map,List.length_take];omega,?_,fun i l v h1 h2=>?_⟩
 · rw [e1];have:((((ss.take N).map (·.pars)).zip ((vs.take N).map (·.a))).map zbm)=(parL ss vs).take N:=by
    unfold parL;rw [←List.map_take,←zjp,List.zip_map,List.map_map];rfl
   rw [this];exact ho.reads
 · rw [List.getElem?_map] at h1 h2;obtain ⟨s,hs,rfl⟩:=Option.map_eq_some_iff.1 h1;obtain ⟨u,hu,rfl⟩:=Option.map_eq_some_iff.1 h2;rw [List.getElem?_take] at hs hu
   split at hs
   · rename_i hi
     rw [if_pos hi] at hu;have:=h.each i s u hs hu;exact ⟨this.pars.more hB,this.parsC.1,this.parsC.2,this.fitP⟩
   · cases hs
theorem zon (n:Int):(zcr n).length≤5:=by
 unfold zcr;generalize (n%6).toNat=k
 rcases Nat.lt_or_ge k 6 with h|h
 · rcases (by omega:k=0∨k=1∨k=2∨k=3∨k=4∨k=5) with rfl|rfl|rfl|rfl|rfl|rfl <;> decide
 · rw [List.getElem?_eq_none (by simp [zep];omega)];simp
theorem zaQ.of_all {w:World} {A:Option Addr} (h:AllC w A isSl) {a:Addr} (ha:A=some a):zaQ w a.block:=fun i=>by
 have key:∀u,w.cell? ⟨a.block,i,none⟩=some u→isSl u:=fun u hc=>by
  unfold World.cell? at hc
  cases q:w.heap[a.block]? with
  | none=>simp [q] at hc
  | some ob =>
   cases ob with
   | cells cur e fz =>
    simp only [q] at hc
    exact h a ha cur e fz q u (by rw [Array.mem_toList_iff];exact Array.mem_of_getElem? hc)
   | _=>simp [q] at hc
 refine ⟨fun s e=>?_,fun n e=>?_⟩ <;> (obtain ⟨x,y,z,h⟩:=key _ e;cases h)
def ApTr (vs:Array Value):Sem Value:=Builtin.append_ #[29,29] 29 vs
theorem zpT (vs:Array Value):Builtin.append_ #[29,29] 29 vs=ApTr vs:=rfl
theorem TrO.zip_snoc {T:List (List FileD)} {ts:List SlA} {t:List FileD} {r:SlA} (h:ts.length=T.length):((T++[t]).zip (ts++[r])).map (fun x=>slT x.1 x.2)=(T.zip ts).map (fun x=>slT x.1 x.2)++[slT t r]:=by
 rw [List.zip_append h.symm,List.map_append];rfl
theorem zr1 {w:World} {s n N cP cT:Nat} {AP AT:Option Addr} {T:List (List FileD)} {ts:List SlA} {A8:Option Addr} {c8:Nat} {t:List FileD} (hs:Blk w s 67 #[.slice AP N cP,.int .i64 0,.slice AT n cT]) (ho:TrO w (s+1) AT n cT T ts) (hf:FI w w.heap.size A8 t) (hn:n<16) :∃A9 c9 w9,(ApTr #[.slice AT n cT,.slice (some ⟨w.heap.size,0,none⟩) 1 1]).run Tryz.prog (w.alloc (.cells #[.slice A8 t.length c8] 37)) = .ok (.slice A9 (n+1) c9) w9∧w9.cell? ⟨s,2,none⟩=some (.slice AT n cT)∧w9.frozen? ⟨s,2,none⟩=false ∧Blk (w9.setCell ⟨s,2,none⟩ (.slice A9 (n+1) c9)) s 67 #[.slice AP N cP,.int .i64 0,.slice A9 (n+1) c9]∧TrO (w9.setCell ⟨s,2,none⟩ (.slice A9 (n+1) c9)) (s+1) A9 (n+1) c9 (T++[t]) (ts++[(A8,c8)])∧Below s w (w9.setCell ⟨s,2,none⟩ (.slice A9 (n+1) c9))∧s+1≤(w9.setCell ⟨s,2,none⟩ (.slice A9 (n+1) c9)).heap.size:=by
 have hsl:=hs.lt;have hs1:=hs.alloc (.cells #[.slice A8 t.length c8] 37);have hb1:Below w.heap.size w (w.alloc (.cells #[.slice A8 t.length c8] 37)):=(Below.refl _ w).alloc (Nat.le_refl _) _;have ho1:=ho.row.alloc (.cells #[.slice A8 t.length c8] 37);have hnew:=heap_alloc_new w (.cells #[.slice A8 t.length c8] 37);have hz1:(w.alloc (.cells #[.slice A8 t.length c8] 37)).heap.size=w.heap.size+1:=by simp
 have hA1:AllC (w.alloc (.cells #[.slice A8 t.length c8] 37)) AT isSl:=ho.only.same fun a ha=>hb1.block _ (by
  subst ha;have:=(ho.row.blockAt a.block (by simp [Value.ownBlock])).2.1;omega)
 generalize w.alloc (.cells #[.slice A8 t.length c8] 37)=w1 at *;have hall:∀v∈(T.zip ts).map (fun x=>slT x.1 x.2),isSl v:=fun v hv=>by
  obtain ⟨x,_,rfl⟩:=List.mem_map.1 hv;exact ⟨_,_,_,rfl⟩
 obtain ⟨A9,c9,w9,hrun,ho9,hk9,hfr,hA9⟩:=zrM (ty:=29) (d:=1) znj ho1 (m:=1) (by omega) (ze.of_cellsF (n:=1) (size:=1) (xs:=[.slice A8 t.length c8]) hnew rfl rfl) (by intro u hu;simp at hu;subst hu;rfl) (by unfold maxLen;omega) (by omega) (by omega) hA1 hall (by intro v hv;simp at hv;subst hv;exact ⟨_,_,_,rfl⟩) (fun z hz=>by
  have:(Tryz.prog.info? 37).bind (·.zero)=some (.slice none 0 0):=by kernel_rfl
  rw [this] at hz;injection hz with hz;subst hz;exact ⟨_,_,_,rfl⟩)
 have hs9:=hk9.blk hs1 (by simp) (by decide);have hks:Keep (fun k=>k=s∨∃a,AT=some a∧k=a.block) w (w9.setCell ⟨s,2,none⟩ (.slice A9 (n+1) c9)):=by
  refine Keep.setCell ((Below.keep_ hb1 _).trans ⟨hk9.os,hk9.tape,hk9.output,hk9.size,fun k hk hn=>(hfr k hk fun e=>hn (.inr ?_)).1⟩) (.inl (.inl rfl)) _
  cases AT with
  | none=>simp [Value.ownBlock] at e
  | some a=>exact ⟨a,rfl,by simpa [Value.ownBlock] using e.symm⟩
 have hno:∀k,(k=s∨∃a,AT=some a∧k=a.block)→zaQ w k:=fun k hk=>by
  rcases hk with rfl|⟨a,ha,rfl⟩
  · refine zaQ.of hs fun v hv=>?_;simp at hv;rcases hv with rfl|rfl|rfl <;> exact ⟨fun s e=>(by cases e),fun n e=>(by cases e)⟩
  · exact zaQ.of_all ho.only ha
 have hsz9:w1.heap.size≤w9.heap.size:=hk9.size;have hba:Below s w w9:=(hb1.mono (by omega)).trans (hk9.below (by omega) (by omega) (by simp));have hbb:Below s w (w9.setCell ⟨s,2,none⟩ (.slice A9 (n+1) c9)):=hba.setCell (p:=⟨s,2,none⟩) (Nat.le_refl _) _;have hsz:(w9.setCell ⟨s,2,none⟩ (.slice A9 (n+1) c9)).heap.size=w9.heap.size:=by simp [World.setCell]
 refine ⟨A9,c9,w9,hrun,(hs9.cell 2).trans rfl,hs9.frozen 2,hs9.set_ 2 _,⟨by simp [ho.len],by simp [ho.num],?_,fun i t' r h1 h2=>?_,?_⟩,hbb,by omega⟩
 · rw [TrO.zip_snoc ho.len];exact ho9.setCell hs9 (by decide) _
 · refine FI.more (B:=w.heap.size) ?_ hks.size
   rcases Nat.lt_trichotomy i T.length with q|q|q
   · rw [List.getElem?_append_left q] at h1;rw [List.getElem?_append_left (by rw [ho.len];exact q)] at h2;exact (ho.each i t' r h1 h2).far (Nat.le_refl _) hks hno
   · subst q;rw [List.getElem?_append_right (Nat.le_refl _),Nat.sub_self] at h1;rw [List.getElem?_append_right (by rw [ho.len];exact Nat.le_refl _),ho.len,Nat.sub_self] at h2;injection h1 with h1;injection h2 with h2;subst h1 h2;exact hf.far (Nat.le_refl _) hks hno
   · rw [List.getElem?_eq_none (by rw [List.length_append];simp;omega)] at h1;cases h1
 · refine hA9.same fun a ha=>?_;subst ha;have hne:a.block≠s:=by
    have:=(ho9.blockAt a.block (by simp [Value.ownBlock])).1;omega
   exact Below.heap_setCell _ _ _ _ hne
theorem zry (p:Pth) (w:World):(BdFl #[(0,strC p),(1,.int .i64 1)]).run Tryz.prog w = .ok (.agg (za ⟨p,1,[]⟩ none 0)) w:=by kernel_rfl
theorem zsr {ds:List (List UInt8)} {k:Nat} {d:List UInt8} (h:ds[k]? = some d) (h0:0<d.length) (h3:d.length<300):zdv ((ds[k]?).getD [])=d:=by
 rw [h];unfold zdv;rw [Option.getD_some,if_pos ⟨h0,h3⟩]
theorem zml {ds:List (List UInt8)} {k:Nat} (h:¬∃d,ds[k]? = some d∧0<d.length∧d.length<300):zdv ((ds[k]?).getD [])=[]:=by
 unfold zdv
 split
 · rename_i q
   cases e:ds[k]? with
   | none=>rfl
   | some d =>
    rw [e] at q;exact (h ⟨d,e,q⟩).elim
 · rfl
theorem TrO.below {w w':World} {z n c:Nat} {A:Option Addr} {T:List (List FileD)} {ts:List SlA} (h:TrO w z A n c T ts) (hb:Below w.heap.size w w'):TrO w' z A n c T ts :=
 ⟨h.len,h.num,h.row.kept (Kept.ofBelow (base:=0) (E:=[]) (G:=[]) hb) (by simp) (by simp),fun i t r h1 h2=>((h.each i t r h1 h2).below hb).more hb.size,h.only.same fun a ha=>hb.block _ (by
  subst ha;exact (h.row.blockAt a.block (by simp [Value.ownBlock])).2.1)⟩
theorem TrO.tri {w:World} {z n c:Nat} {A:Option Addr} {T:List (List FileD)} {ts:List SlA} (h:TrO w z A n c T ts):TrI w w.heap.size A T ts :=
 ⟨h.len,by rw [h.num];exact h.row.reads,h.each⟩
theorem zp2 {T:List (List FileD)} {p:List Nat} {q:Nat} {t:List FileD} (h:p[0]? = some q) (ht:T[q]? = some t):zdO T p=t:=by
 cases p with
 | nil=>cases h
 | cons x p =>
  injection h with h;subst h;show (T[x]?).getD []=t;rw [ht];rfl
attribute [local go_sem ↓] ld_f zpT zkj zry
theorem zjy (ss:List StepD) (vs:List StV) (A:Option Addr) (c M B N:Nat) (hM:ss.length=M) (hN:N=min M 16) (w:World) (hB:B≤w.heap.size) (hs:StI w B A ss vs) :Calls Tryz.prog 8 #[.slice A M c] w fun e w'=>∃(s h g:Nat) (AP AT:Option Addr) (cP cT:Nat) (rs ts:List SlA),e = .returned (.tuple #[.pointer (some ⟨s,0,none⟩),.pointer (some ⟨h,0,none⟩)]) ∧Blk w' s 67 #[.slice AP N cP,.int .i64 0,.slice AT N cT]∧RwI w' s AP (zau ((ss.take 16).map (·.pars))) rs∧TrI w' w'.heap.size AT (zaT (zau ((ss.take 16).map (·.pars))) ss N) ts ∧Blk w' h 31 #[.pointer (some ⟨g,0,none⟩),.slice AT N cT,.int .i64 0]∧w.heap.size≤s∧Below w.heap.size w w'∧∃GA Gc Gv,GrI w' w'.heap.size g (zau ((ss.take 16).map (·.pars))) N GA Gc Gv:=by
 obtain ⟨z,hz⟩:∃z,w.heap.size=z:=⟨_,rfl⟩;have HM:=zz hM;have HS:=zz hs;have HB0:=zz (Below.refl z w);have hz0:z≤w.heap.size:=by omega
 have hNM:N≤M:=by omega
 have hN16:N≤16:=by omega
 have hfull:N<16→N=M:=by omega
 have ht16:ss.take 16=ss.take N:=by
  rcases Nat.lt_or_ge N 16 with q|q
  · rw [List.take_of_length_le (by rw [hM];omega),List.take_of_length_le (by rw [hM];omega)]
  · rw [show N=16 by omega]
 rw [hz,ht16];rw [hz] at hB;obtain ⟨R,hR⟩:∃R,zau ((ss.take N).map (·.pars))=R:=⟨_,rfl⟩;rw [hR];have HRR:=zz hR;clear hs hM ht16 hR hN;go_enter Tryz.func8,Tryz.ntmps8
 go_wp2_with fail
 go_loopg [4,5] N (fun kx s4 s5 wr=>∃(n:Nat) (A1:Option Addr) (c1:Nat),s5 = .int .i64 n∧s4 = .slice A1 n c1∧n≤N∧N-n≤kx∧Hid (Own wr z 57 1 A1 n c1 ((parL ss vs).take n))∧Hid (Below z w wr)∧z≤wr.heap.size)
 case atStart=>exact ⟨0,none,0,rfl,rfl,Nat.zero_le _,Nat.le_refl _,zz (Own.nil _ _ _ _),HB0,hz0⟩
 case round =>
  clear HB0 hz0;obtain ⟨n,A1,c1,rfl,rfl,hnN,hkx,HO,HB,hzr⟩:=hrel;go_upto_region 3 with fail
  go_cut [18] (fun s18 wx=>s18 = .bool (decide (n<N))∧wr=wx)
  case first =>
   by_cases c2:n<M
   · have e2:(n:Int)<(M:Int):=by omega
     by_cases c3:n<16
     · have e3:(n:Int)<16:=by omega
       have e4:n<N:=by
        rcases Nat.lt_or_ge N 16 with q|q
        · rw [hfull q];exact c2
        · omega
       go_wp2_with fail
       go_meet
       exact ⟨by rw [decide_eq_true e4],rfl⟩
     · have e3:¬(n:Int)<16:=by omega
       go_wp2_with fail
       go_meet
       exact ⟨by rw [decide_eq_false (by omega)],rfl⟩
   · have e2:¬(n:Int)<(M:Int):=by omega
     go_wp2_with fail
     go_meet
     exact ⟨by rw [decide_eq_false (by omega)],rfl⟩
  case rest =>
  obtain ⟨rfl,rfl⟩:=hcut;by_cases hlt:n<N
  · rw [decide_eq_true hlt];obtain ⟨s,hs⟩:∃s,ss[n]? = some s:=⟨_,List.getElem?_eq_getElem (by rw [HM.out];omega)⟩;obtain ⟨v,hv⟩:∃v,vs[n]? = some v:=⟨_,List.getElem?_eq_getElem (by rw [HS.out.len,HM.out];omega)⟩;have hltz:(n:Int)<(M:Int):=by omega
    have hrow:=HS.out.row;rw [HM.out] at hrow;obtain ⟨gP,oP,rfl,hgP,hcP⟩:=hrow.at0 (by omega) (by omega);have hcn:=hcP (n*3+0) (.slice v.a.1 s.pars.length v.a.2) (zaD (f:=zcW) (C:=3) (fun _=>rfl) (ss.zip vs) n 0 (s,v) ((List.getElem?_zip_eq_some (z:=(s,v))).2 ⟨hs,hv⟩) _ rfl);have b1:=(HB.out.cell (p:=⟨gP,oP+(n*3+0),none⟩) (by show gP<z;omega)).trans hcn;have HO3:=zz (HO.out.alloc (.cells #[zbm (s.pars,v.a)] 57));have HRN:=zz (ze.of_cellsF (n:=1) (size:=1) (xs:=[zbm (s.pars,v.a)]) (heap_alloc_new wr (.cells #[zbm (s.pars,v.a)] 57)) rfl rfl);have hz3:z≤(wr.alloc (.cells #[zbm (s.pars,v.a)] 57)).heap.size:=by simp;omega
    have HT:=zz (zru hs hv);have HB3:=zz (HB.out.alloc hzr (.cells #[zbm (s.pars,v.a)] 57));unfold zbm at HO3 HRN hz3 HT HB3;simp only [Nat.add_zero] at b1;have hm1:n+1≤maxLen:=by unfold maxLen;omega
    have hm2:(n+1)*24≤140737488355328:=by omega
    clear hcP hrow hcn hs hv
    go_wp2_with (first
     | (refine za2 rfl zgb rfl zqh rfl rfl (by omega) rfl ?_)
     | (refine zy rfl zgb rfl rfl HO3.out rfl HRN.out (by intro u hu;simp at hu;subst hu;rfl) hm1 hm2 hz3 ?_;intro A6 c6 w6 ho6 hk6;have HO6:=zz ho6;have HK6:=zz hk6;clear ho6 hk6))
    have hO7:Hid (Own w6 z 57 1 A6 (n+1) c6 ((parL ss vs).take (n+1))):=zz (by rw [HT.out];exact HO6.out);have HB6:=zz (HB3.out.trans (HK6.out.below (Nat.le_refl _) hz3 (by simp)));have hz6:z≤w6.heap.size:=Nat.le_trans hz3 HK6.out.size;clear HO6 HK6 HO3 HB3 HRN HT HO HB
    go_roundg (N-(n+1))
    case measure=>omega
    case rel=>exact ⟨n+1,A6,c6,by go_num,rfl,by omega,Nat.le_refl _,hO7,HB6,hz6⟩
  · rw [decide_eq_false hlt];obtain rfl:N=n:=by omega
    have hraw:=znU (by rw [HS.out.len]) (by rw [HM.out];exact hNM) HO.out (HS.out.below (HB.out.mono hB)) (by omega);have hrows:=zsp ((ss.take N).map (·.pars)) ((vs.take N).map (·.a)) A1 c1 N wr.heap.size (by rw [List.length_map,List.length_take,HM.out];omega) hN16 wr (Nat.le_refl _) hraw;rw [HRR.out] at hrows;have HRO:=zz hrows;clear hraw hrows HO;go_upto_region 7 with (go_at_call 20;(with_reducible refine HRO.out.mono ?_);rintro _ w6 ⟨AP,cP,rs,rfl,hr6,hb6⟩;have HR6:=zz hr6;have HB6:=zz hb6;clear hr6 hb6)
    obtain ⟨s,hsz⟩:∃s,w6.heap.size=s:=⟨_,rfl⟩;have h16:=HB6.out.size;have hb7:Below s w6 (w6.alloc (.cells #[.slice AP N cP,.int .i64 0,.slice none 0 0] 67)):=(Below.refl s w6).alloc (by omega) _;have hk7:Below z w (w6.alloc (.cells #[.slice AP N cP,.int .i64 0,.slice none 0 0] 67)):=((HB.out.trans (HB6.out.mono (by omega)))).trans (hb7.mono (by omega));have hg7:=Blk.new w6 67 #[.slice AP N cP,.int .i64 0,.slice none 0 0];have hr7:=HR6.out;rw [hsz] at hg7 hr7;have HR7:=zz (hr7.below hb7);have HG7:=zz hg7;have HK7:=zz hk7;have hs7:s+1≤(w6.alloc (.cells #[.slice AP N cP,.int .i64 0,.slice none 0 0] 67)).heap.size:=by simp;omega
    have hzs:z≤s:=by omega
    clear hr7 hg7 hk7 hb7 HB HB6 HR6 h16 HRO;go_upto_region 8 with (refine zu rfl rfl (cs:=#[.slice AP N cP,.int .i64 0,.slice none 0 0]) rfl ?_)
    clear hsz;generalize w6.alloc (.cells #[.slice AP N cP,.int .i64 0,.slice none 0 0] 67)=w7 at *;have hRN:R.length=N:=by
     rw [←HRR.out,zjj,List.length_map,List.length_take,HM.out];omega
    have HRN:=zz hRN;have HWF:=zz (show WfR R from by rw [←HRR.out];exact zeR _);have HR4:=zz (show ∀x,(par R x).length≤4 from fun x=>by rw [←HRR.out];exact zeo _ x);have HRL:=zz (show ∀n,∀p∈par R n,p<200 from fun m p hp=>by
     have h1:=HWF.out m p hp;have h2:m<N:=by
      rcases Nat.lt_or_ge m N with q|q
      · exact q
      · unfold par at hp;rw [List.getElem?_eq_none (by rw [HRN.out];exact q)] at hp;cases hp
     omega)
    have HW7:=zz (Below.refl s w7);have HT7:=zz (show TrO w7 (s+1) none 0 0 (zaT R ss 0) [] from ⟨rfl,rfl,Own.nil _ _ _ _,fun i t r h _=>(by cases h),AllC.nil_ _ _⟩);clear hRN;go_upto_region 9 with fail
    go_loopg [7] N (fun kx s7 wr=>∃(n:Nat) (AT:Option Addr) (cT:Nat) (ts:List SlA),s7 = .int .i64 n∧n≤N∧N-n≤kx∧Hid (Blk wr s 67 #[.slice AP N cP,.int .i64 0,.slice AT n cT])∧Hid (TrO wr (s+1) AT n cT (zaT R ss n) ts)∧Hid (Below s w7 wr)∧s+1≤wr.heap.size)
    case atStart=>exact ⟨0,none,0,[],rfl,Nat.zero_le _,Nat.le_refl _,HG7,HT7,HW7,hs7⟩
    case round =>
     clear HG7 HT7 HW7 hs7;obtain ⟨n,AT,cT,ts,rfl,hnN,hkx,HG,HO,HB,hzr⟩:=hrel;by_cases hlt:n<N
     · obtain ⟨p,hp⟩:∃p,R[n]? = some p:=⟨_,List.getElem?_eq_getElem (by rw [HRN.out];exact hlt)⟩;obtain ⟨r,hr⟩:∃r,rs[n]? = some r:=⟨_,List.getElem?_eq_getElem (by rw [HR7.out.len,HRN.out];exact hlt)⟩;obtain ⟨st,hst⟩:∃st,ss[n]? = some st:=⟨_,List.getElem?_eq_getElem (by rw [HM.out];omega)⟩;obtain ⟨v,hv⟩:∃v,vs[n]? = some v:=⟨_,List.getElem?_eq_getElem (by rw [HS.out.len,HM.out];omega)⟩;have hpp:par R n=p:=by unfold par;rw [hp];rfl
       have hwf:=HWF.out n;rw [hpp] at hwf;have hltz:(n:Int)<(N:Int):=by omega
       have hltm:(n:Int)<(M:Int):=by omega
       have hrow:=HR7.out.row;rw [HRN.out] at hrow;obtain ⟨gP,oP,rfl,hgP,hcP⟩:=hrow.at0 (by omega) (by omega);have hcn:=hcP n (slR p r) (by rw [List.getElem?_map,(List.getElem?_zip_eq_some (z:=(p,r))).2 ⟨hp,hr⟩];rfl);unfold slR at hcn;obtain ⟨rA,rc⟩:=r;simp only at hcn;have HEC:=zz (HR7.out.each n p (rA,rc) hp hr);obtain ⟨L,hL⟩:∃L,p.length=L:=⟨_,rfl⟩;rw [hL] at hcn;obtain ⟨t0,ht0⟩:∃t0,zdO (zaT R ss n) p=t0:=⟨_,rfl⟩;have HFT:=zz (show z7 t0 from by rw [←ht0];exact z7.base (zdk _ _ _) _);have HTS:=zz (show zaT R ss (n+1)=zaT R ss n++[zbb st t0 (min st.paths.length 4)] from by rw [zge,hst,hpp,ht0];rfl);have HSI:=zz (HS.out.each n st v hst hv);have hsrow:=HS.out.row;rw [HM.out] at hsrow;obtain ⟨gS,oS,rfl,hgS,hcS⟩:=hsrow.at0 (by omega) (by omega);have HC1:=zz (show w.cell? ⟨gS,oS+n*3+1,none⟩=some (.slice v.b.1 st.paths.length v.b.2) from hcS (n*3+1) _ (zaD (f:=zcW) (C:=3) (fun _=>rfl) (ss.zip vs) n 1 (st,v) ((List.getElem?_zip_eq_some (z:=(st,v))).2 ⟨hst,hv⟩) _ rfl));have HC2:=zz (show w.cell? ⟨gS,oS+n*3+2,none⟩=some (.slice v.c.1 st.data.length v.c.2) from hcS (n*3+2) _ (zaD (f:=zcW) (C:=3) (fun _=>rfl) (ss.zip vs) n 2 (st,v) ((List.getElem?_zip_eq_some (z:=(st,v))).2 ⟨hst,hv⟩) _ rfl));have b1:=(HB.out.cell (p:=⟨gP,oP+n,none⟩) hgP).trans hcn;have HL:=zz (And.intro hL ht0);have HWP:=zz hwf;clear hcS hsrow hcP hrow hcn hp hr hst hv hpp hL hwf ht0;go_upto_if 46 with fail
       go_cut [8] (fun s8 wx=>∃(A8:Option Addr) (c8:Nat),s8 = .slice A8 t0.length c8∧Hid (FI wx wx.heap.size A8 t0)∧Hid (Blk wx s 67 #[.slice (some ⟨gP,oP,none⟩) N cP,.int .i64 0,.slice AT n cT])∧Hid (TrO wx (s+1) AT n cT (zaT R ss n) ts)∧Hid (Below s w7 wx)∧s+1≤wx.heap.size)
       case first =>
        by_cases h0:0<L
        · have h0z:(0:Int)<(L:Int):=by omega
          obtain ⟨q,hq⟩:∃q,p[0]? = some q:=⟨_,List.getElem?_eq_getElem (by rw [HL.out.1];exact h0)⟩;have hqn:q<n:=HWP.out q (List.mem_of_getElem? hq);obtain ⟨t1,ht1⟩:∃t1,(zaT R ss n)[q]? = some t1:=⟨_,List.getElem?_eq_getElem (by rw [zcX];exact hqn)⟩;obtain ⟨r1,hr1⟩:∃r1,ts[q]? = some r1:=⟨_,List.getElem?_eq_getElem (by rw [HO.out.len,zcX];exact hqn)⟩;have HE1:=zz (HO.out.each q t1 r1 ht1 hr1);have HT0:=zz (show t0=t1 from by rw [←HL.out.2];exact zp2 hq ht1);obtain ⟨gT,oT,rfl,hgT,hcT⟩:=HO.out.row.reads.at0 (by omega) (by omega);have d3:wr.drew.cell? ⟨gT,oT+q,none⟩=_:=hcT q (slT t1 r1) (by rw [List.getElem?_map,(List.getElem?_zip_eq_some (z:=(t1,r1))).2 ⟨ht1,hr1⟩];rfl);have hec:=HEC.out;rw [HL.out.1] at hec;obtain ⟨gr,or,rfl,hgr,hcr⟩:=hec.at0 h0 (by omega);have d2:wr.drew.cell? ⟨gr,or,none⟩=_:=(HB.out.cell (p:=⟨gr,or,none⟩) hgr).trans (hcr 0 (nvI q) (by rw [List.getElem?_map,hq];rfl));unfold slT at d3;unfold nvI at d2;have d1:wr.drew.cell? ⟨gP,oP+n,none⟩=_:=b1;have d0:wr.drew.cell? ⟨s,2,none⟩=some (.slice (some ⟨gT,oT,none⟩) n cT):=(HG.out.cell 2).trans rfl;have hqz:(q:Int)<(n:Int):=by omega
          clear hcT hec hcr hq ht1 hr1;go_upto_region 13 with fail
          go_region_law (fail)
          all_goals
           go_wp2_with fail
           go_meet
           exact ⟨r1.1,r1.2,by rw [HT0.out],zz (by rw [HT0.out];exact HE1.out),zz HG.out.drew,zz (HO.out.below (Below.refl _ wr).drew),zz HB.out.drew,hzr⟩
        · obtain rfl:L=0:=by omega
          have HT0:=zz (show t0=[] from by rw [←HL.out.2,List.length_eq_zero_iff.1 HL.out.1];rfl)
          go_wp2_with fail
          go_meet
          exact ⟨none,0,by rw [HT0.out];rfl,zz (by rw [HT0.out];exact FI.nil_ _ _ _),HG,HO,HB,hzr⟩
       case rest =>
       obtain ⟨A8,c8,rfl,HF8,HG8,HO8,HB8,hz8⟩:=hcut;generalize wc=w8 at *;clear HG HO HB b1 hzr HEC;obtain ⟨zn,hzn⟩:∃zn,w8.heap.size=zn:=⟨_,rfl⟩;have HWN:=zz (Below.refl zn w8);have hzn0:zn≤w8.heap.size:=by omega
       have hszn:s+1≤zn:=by omega
       rw [hzn] at HF8;have HZN:=zz hzn;obtain ⟨K,hK⟩:∃K,min st.paths.length 4=K:=⟨_,rfl⟩;rw [hK] at HTS;obtain ⟨Lq,hLq⟩:∃Lq,st.paths.length=Lq:=⟨_,rfl⟩;obtain ⟨Ld,hLd⟩:∃Ld,st.data.length=Ld:=⟨_,rfl⟩;rw [hLq] at hK HC1;rw [hLd] at HC2;have HLL:=zz (And.intro hLq hLd);have hK1:K≤Lq:=by omega
       have hK2:K≤4:=by omega
       have hK3:∀k,k<Lq→k<4→k<K:=by omega
       have HK3:=zz hK3;have HF0:=zz (show FI w8 w8.heap.size A8 (zbb st t0 0) from by rw [HZN.out];exact HF8.out);clear hzn hK hLq hLd hK3;go_upto_region 15 with fail
       go_loopg [8,9] K (fun kk s8 s9 wq=>∃(k:Nat) (A9:Option Addr) (c9:Nat),s9 = .int .i64 k∧s8 = .slice A9 (zbb st t0 k).length c9∧k≤K∧K-k≤kk∧Hid (FI wq wq.heap.size A9 (zbb st t0 k))∧Hid (Below zn w8 wq)∧zn≤wq.heap.size)
       case atStart=>exact ⟨0,A8,c8,rfl,rfl,Nat.zero_le _,Nat.le_refl _,HF0,HWN,hzn0⟩
       case round =>
        clear HF0 HWN hzn0;obtain ⟨k,A9,c9,rfl,rfl,hkK,hkk,HF,HBQ,hzq⟩:=hrel;have HWW:=zz (HK7.out.trans ((HB8.out.mono hzs).trans (HBQ.out.mono (by omega))));have b1:=(HWW.out.cell (p:=⟨gS,oS+n*3+1,none⟩) (by show gS<z;omega)).trans HC1.out;have hkz:(0:Int)≤(k:Int):=by omega
        go_upto_region 15 with fail
        go_cut [70] (fun s70 wx=>s70 = .bool (decide (k<K))∧wr=wx)
        case first =>
         by_cases c2:k<Lq
         · have e2:(k:Int)<(Lq:Int):=by omega
           by_cases c3:k<4
           · have e3:(k:Int)<4:=by omega
             have e4:k<K:=HK3.out k c2 c3
             go_wp2_with fail
             go_meet
             exact ⟨by rw [decide_eq_true e4],rfl⟩
           · have e3:¬(k:Int)<4:=by omega
             go_wp2_with fail
             go_meet
             exact ⟨by rw [decide_eq_false (by omega)],rfl⟩
         · have e2:¬(k:Int)<(Lq:Int):=by omega
           go_wp2_with fail
           go_meet
           exact ⟨by rw [decide_eq_false (by omega)],rfl⟩
        case rest =>
        obtain ⟨rfl,rfl⟩:=hcut;by_cases hkl:k<K
        · rw [decide_eq_true hkl];have e1:(k:Int)<(Lq:Int):=by omega
          obtain ⟨x,hx⟩:∃x,st.paths[k]? = some x:=⟨_,List.getElem?_eq_getElem (by rw [HLL.out.1];omega)⟩;have hrp:=HSI.out.paths;rw [HLL.out.1] at hrp;obtain ⟨gb,ob,hbe,hgb,hcb⟩:=hrp.at0 (by omega) (by omega);have b3:=(HWW.out.cell (p:=⟨gb,ob+k,none⟩) (by show gb<z;omega)).trans (hcb k (.int .i64 x) (by unfold i64L;rw [List.getElem?_map,hx];rfl));rw [hbe] at b1;have HPA:=zz (zpx x wr);have HSF:=zz (show zaY st k=⟨zcr x,1,zdv ((st.data[k]?).getD [])⟩ from by unfold zaY;rw [hx];rfl);have hps:=zon x;obtain ⟨px,hpx⟩:∃px,zcr x=px:=⟨_,rfl⟩;rw [hpx] at HPA HSF hps;clear hrp hcb hx hbe hpx;go_upto_region 18 with (first|(go_at_call 21;(with_reducible refine HPA.out.mono ?_);rintro _ w5 ⟨rfl,hb5⟩;have HB5:=zz hb5;clear hb5)|(refine zbV rfl rfl (zaP _) ?_)|(refine zG rfl rfl (vs:=za ⟨px,1,[]⟩ none 0) rfl rfl (Blk.new _ _ _) rfl (by kernel_rfl) (by intro u hu;simp [za] at hu;rcases hu with rfl|rfl|rfl <;> rfl) ?_;intro w6 hb6 hk6 hs6))
          simp only [Act.put,List.setIfInBounds_toArray,List.set]
          have h15:=HB5.out.size;have hb6':Below wr.heap.size wr w6:=HB5.out.trans ((((Below.refl w5.heap.size w5).alloc (Nat.le_refl _) _).trans (hk6.below (by simp) (fun i hi q=>by unfold Only at q;omega))).mono h15);obtain ⟨f,hf5⟩:∃f,w5.heap.size=f:=⟨_,rfl⟩;rw [hf5] at hb6 h15 ⊢;have HX6:=zz hb6;have HB6:=zz hb6';have HW6:=zz (HWW.out.trans (hb6'.mono (by omega)));clear hb6 hk6 hs6 hb6' HB5 HPA b1 b3 hf5;have c2:=(HW6.out.cell (p:=⟨gS,oS+n*3+2,none⟩) (by show gS<z;omega)).trans HC2.out;obtain ⟨bb,hbb⟩:∃bb:Bool,bb=true↔∃d,st.data[k]? = some d∧0<d.length∧d.length<300:=by
           by_cases q:∃d,st.data[k]? = some d∧0<d.length∧d.length<300
           · exact ⟨true,by simp [q]⟩
           · exact ⟨false,by simp [q]⟩
          have HBB:=zz hbb;clear hbb;go_cut [114] (fun s114 wx=>s114 = .bool bb∧w6=wx)
          case first =>
           by_cases c3:k<Ld
           · have e3:(k:Int)<(Ld:Int):=by omega
             obtain ⟨d,hd⟩:∃d,st.data[k]? = some d:=⟨_,List.getElem?_eq_getElem (by rw [HLL.out.2];exact c3)⟩;obtain ⟨dr,hdr⟩:∃dr,v.ds[k]? = some dr:=⟨_,List.getElem?_eq_getElem (by rw [HSI.out.dsl,HLL.out.2];exact c3)⟩;have hrd:=HSI.out.data;rw [HLL.out.2] at hrd;obtain ⟨gd,od,hde,hgd,hcd⟩:=hrd.at0 (by omega) (by omega);have c4:=(HW6.out.cell (p:=⟨gd,od+k,none⟩) (by show gd<z;omega)).trans (hcd k (slB d dr) (by rw [List.getElem?_map,(List.getElem?_zip_eq_some (z:=(d,dr))).2 ⟨hd,hdr⟩];rfl));unfold slB at c4;rw [hde] at c2;obtain ⟨dl,hdl⟩:∃dl,d.length=dl:=⟨_,rfl⟩;rw [hdl] at c4;have HD:=zz (show bb=true↔(0<dl∧dl<300) from by
              rw [HBB.out,←hdl];exact ⟨fun ⟨d',h1,h2⟩=>by rw [hd] at h1;injection h1 with h1;subst h1;exact h2,fun h=>⟨d,hd,h⟩⟩)
             clear hrd hcd hd hdr hde hdl;by_cases c5:0<dl
             · have e5:(0:Int)<(dl:Int):=by omega
               by_cases c6:dl<300
               · have e6:(dl:Int)<300:=by omega
                 go_wp2_with fail
                 go_meet
                 exact ⟨by rw [HD.out.2 ⟨c5,c6⟩],rfl⟩
               · have e6:¬(dl:Int)<300:=by omega
                 go_wp2_with fail
                 go_meet
                 exact ⟨by rw [Bool.eq_false_iff.2 (fun q=>c6 (HD.out.1 q).2)],rfl⟩
             · have e5:¬(0:Int)<(dl:Int):=by omega
               go_wp2_with fail
               go_meet
               exact ⟨by rw [Bool.eq_false_iff.2 (fun q=>c5 (HD.out.1 q).1)],rfl⟩
           · have e3:¬(k:Int)<(Ld:Int):=by omega
             have HD:=zz (show bb=false from Bool.eq_false_iff.2 (fun q=>by
              obtain ⟨d,h1,_⟩:=HBB.out.1 q;have:=(List.getElem?_eq_some_iff.1 h1).1;rw [HLL.out.2] at this;omega))
             go_wp2_with fail
             go_meet
             exact ⟨by rw [HD.out],rfl⟩
          case rest =>
          obtain ⟨rfl,rfl⟩:=hcut;have HPUT:=zz (show ∀(W:World) (D:Option Addr) (dc:Nat),Below w6.heap.size w6 W∨(W=w6.setCell ⟨f,2,none⟩ (.slice D (zaY st k).d.length dc))→wr.heap.size≤f→zx W z (zaY st k) (.slice D (zaY st k).d.length dc) →
              Calls Tryz.prog 22 #[.slice A9 (zbb st t0 k).length c9,.agg (za (zaY st k) D dc)] W fun e w'=>∃A' c',e = .returned (.slice A' (zbb st t0 (k+1)).length c')∧FI w' w'.heap.size A' (zbb st t0 (k+1))∧Below wr.heap.size wr w' from fun W D dc hW hf hd=>by
           have hw:Below wr.heap.size wr W:=by
            rcases hW with q|rfl
            · exact HB6.out.trans (q.mono HB6.out.size)
            · exact HB6.out.setCell (p:=⟨f,2,none⟩) hf _
           have hT:=HFT.out.tree st k;have:=zmL (zbb st t0 k) (zaY st k) A9 D c9 dc W.heap.size W (Nat.le_refl _) ((HF.out.below hw).more hw.size) (hd.more (by have:=hw.size;omega)) (Nat.le_trans hT.2 (by decide)) (zcU hT.check) (by rw [HSF.out];exact Nat.le_trans hps (by decide));rw [←zk0] at this;refine this.mono ?_;rintro _ w' ⟨A',c',rfl,h1,h2⟩;exact ⟨A',c',rfl,h1,hw.trans (h2.mono hw.size)⟩)
          cases bb with
          | true =>
           obtain ⟨d,hd,hd0,hd3⟩:=HBB.out.1 rfl;have c3:k<Ld:=by
            have:=(List.getElem?_eq_some_iff.1 hd).1;rw [HLL.out.2] at this;exact this
           have e3:(k:Int)<(Ld:Int):=by omega
           obtain ⟨dr,hdr⟩:∃dr,v.ds[k]? = some dr:=⟨_,List.getElem?_eq_getElem (by rw [HSI.out.dsl,HLL.out.2];exact c3)⟩;have hrd:=HSI.out.data;rw [HLL.out.2] at hrd;obtain ⟨gd,od,hde,hgd,hcd⟩:=hrd.at0 (by omega) (by omega);have c4:=(HW6.out.cell (p:=⟨gd,od+k,none⟩) (by show gd<z;omega)).trans (hcd k (slB d dr) (by rw [List.getElem?_map,(List.getElem?_zip_eq_some (z:=(d,dr))).2 ⟨hd,hdr⟩];rfl));unfold slB at c4;rw [hde] at c2;have hed:(zaY st k).d=d:=by rw [HSF.out];exact zsr hd hd0 hd3
           have hea:=HSI.out.each k d dr hd hdr;have x2:=HX6.out.cell 2;simp [za] at x2;have x3:=HX6.out.frozen 2;have hX7:=HX6.out.set_ 2 (.slice dr.1 d.length dr.2);have hX8:Blk (w6.setCell ⟨f,2,none⟩ (.slice dr.1 d.length dr.2)) f 70 (za (zaY st k) dr.1 dr.2):=by
            have:za (zaY st k) dr.1 dr.2=(za ⟨px,1,[]⟩ none 0).setIfInBounds 2 (.slice dr.1 d.length dr.2):=by unfold za;rw [hed,HSF.out];rfl
            rw [this];exact hX7
           have hlf:(LdF (.pointer (some ⟨f,0,none⟩))).run Tryz.prog (w6.setCell ⟨f,2,none⟩ (.slice dr.1 d.length dr.2)) = .ok (.agg (za (zaY st k) dr.1 dr.2)) (w6.setCell ⟨f,2,none⟩ (.slice dr.1 d.length dr.2)):=zar _ _ (za (zaY st k) dr.1 dr.2) Tryz.underlying70 rfl (by kernel_rfl) (fun j v hj=>by rw [zD,hX8.cell,←hj];simp)
           have hput:=HPUT.out (w6.setCell ⟨f,2,none⟩ (.slice dr.1 d.length dr.2)) dr.1 dr.2 (.inr (by rw [hed])) h15 (by
            refine ⟨dr.1,dr.2,rfl,?_⟩;rw [hed];exact ⟨hea.1,hea.2.1,(hea.2.2.more hB).below (HW6.out.setCell (p:=⟨f,2,none⟩) (by show z≤f;omega) _)⟩)
           have HP:=zz hput;clear hrd hcd hd hdr hde hed hea hX7 hX8 hput HPUT hd0 hd3
           go_wp2_with (go_at_call 22;(with_reducible refine HP.out.mono ?_);rintro _ w7 ⟨A7,c7,rfl,hf7,hb7⟩;have HF7:=zz hf7;have HB7:=zz hb7;clear hf7 hb7)
           have HBR:=zz (HBQ.out.trans (HB7.out.mono hzq));have hz7:zn≤w7.heap.size:=Nat.le_trans hzq HB7.out.size;clear HP HX6 HB6 HW6 hlf c4 c2 x2 x3 HBQ HF HWW HB7
           go_roundg (K-(k+1))
           case measure=>omega
           case rel=>exact ⟨k+1,A7,c7,by go_num,rfl,by omega,Nat.le_refl _,HF7,HBR,hz7⟩
          | false =>
           have hed:(zaY st k).d=[]:=by
            rw [HSF.out];exact zml (fun q=>by have:=HBB.out.2 q;cases this)
           have hse:za (zaY st k) none 0=za ⟨px,1,[]⟩ none 0:=by unfold za;rw [hed,HSF.out]
           have hlf:(LdF (.pointer (some ⟨f,0,none⟩))).run Tryz.prog w6 = .ok (.agg (za (zaY st k) none 0)) w6:=by
            rw [hse];exact zar _ _ (za ⟨px,1,[]⟩ none 0) Tryz.underlying70 rfl (by kernel_rfl) (fun j v hj=>by rw [zD,HX6.out.cell,←hj];simp)
           have hput:=HPUT.out w6 none 0 (.inl (Below.refl _ _)) h15 (by
            refine ⟨none,0,rfl,?_⟩;rw [hed];exact ⟨Nat.le_refl _,Nat.zero_le _,ze.none_⟩)
           have HP:=zz hput;clear hed hse hput HPUT c2
           go_wp2_with (go_at_call 22;(with_reducible refine HP.out.mono ?_);rintro _ w7 ⟨A7,c7,rfl,hf7,hb7⟩;have HF7:=zz hf7;have HB7:=zz hb7;clear hf7 hb7)
           have HBR:=zz (HBQ.out.trans (HB7.out.mono hzq));have hz7:zn≤w7.heap.size:=Nat.le_trans hzq HB7.out.size;clear HP HX6 HB6 HW6 hlf HBQ HF HWW HB7
           go_roundg (K-(k+1))
           case measure=>omega
           case rel=>exact ⟨k+1,A7,c7,by go_num,rfl,by omega,Nat.le_refl _,HF7,HBR,hz7⟩
        · rw [decide_eq_false hkl];obtain rfl:k=K:=by omega
          have hbw:Below w8.heap.size w8 wr:=by rw [HZN.out];exact HBQ.out
          have hg9:=HG8.out.below hbw HG8.out.lt;have ho9:=HO8.out.below hbw;obtain ⟨A9',c9',w9,hap,t0',t3,hfin⟩:=zr1 (A8:=A9) (c8:=c9) hg9 ho9 HF.out (by omega);have x2:=(hg9.cell 2).trans rfl;have x3:=((hg9.alloc (.cells #[.slice A9 (zbb st t0 k).length c9] 37)).cell 2).trans rfl;have HFF:=zz hfin;have HB2:=zz ((HB8.out).trans (hbw.mono (by omega)));clear hbw hg9 ho9 hfin;go_upto_region 10 with fail
          have HG9:=zz HFF.out.1;have HO9:=HFF.out.2.1;rw [←HTS.out] at HO9;have HO9:=zz HO9;have HB9:=zz (HB2.out.trans HFF.out.2.2.1);have hz9:=HFF.out.2.2.2;generalize w9.setCell ⟨s,2,none⟩ (.slice A9' (n+1) c9')=w10 at *;clear HFF hap t0' t3 x2 x3 HB2 HF HBQ HG8 HO8 HB8
          go_wp2_with fail
          go_roundg (N-(n+1))
          case measure=>omega
          case rel=>exact ⟨n+1,A9',c9',ts++[(A9,c9)],by go_num,by omega,Nat.le_refl _,HG9,HO9,HB9,hz9⟩
     · obtain rfl:n=N:=by omega
       have HR8:=zz (HR7.out.below HB.out);have HTL:=zz (zmq R rs AP cP n s HRN.out hN16 HR4.out HRL.out wr.drew (by show s≤wr.heap.size;omega) (HR8.out.below (Below.refl _ wr).drew));have d0:wr.drew.cell? ⟨s,2,none⟩=some (.slice AT n cT):=(HG.out.cell 2).trans rfl;have HA5:=zz (show ∀w5,Below wr.drew.heap.size wr.drew w5→w5.cell? ⟨s,2,none⟩=some (.slice AT n cT) from fun w5 h5=>((HG.out.drew.below h5 HG.out.lt).cell 2).trans rfl);go_upto_region 22 with fail
       go_region_law (first|(go_simp;go_at_call 23;(with_reducible refine HTL.out.mono ?_);rintro _ w5 ⟨g5,rfl,hb5,_,hgr⟩;have HGR:=zz hgr;have HB5:=zz hb5;clear hgr;have e5:=HA5.out w5 hb5;clear hb5)|(refine zu rfl rfl (cs:=#[.pointer (some ⟨g5,0,none⟩),.slice AT n cT,.int .i64 0]) rfl ?_))
       all_goals
        have hb6:Below w5.heap.size w5 (w5.alloc (.cells #[.pointer (some ⟨g5,0,none⟩),.slice AT n cT,.int .i64 0] 31)):=(Below.refl _ w5).alloc (Nat.le_refl _) _;have hb5:Below wr.heap.size wr (w5.alloc (.cells #[.pointer (some ⟨g5,0,none⟩),.slice AT n cT,.int .i64 0] 31)):=(show Below wr.heap.size wr w5 from (Below.refl _ wr).drew.trans HB5.out).trans (hb6.mono HB5.out.size);have HB6:=zz hb5;have HB7:=zz hb6;clear hb5 hb6 d0 e5
        go_wp2_with fail
        go_ret2
        obtain ⟨GA,Gc,Gv,hgr⟩:=HGR.out;exact ⟨s,w5.heap.size,g5,AP,AT,cP,cT,rs,ts,rfl,HG.out.below HB6.out HG.out.lt,HR8.out.below (HB6.out.mono (by omega)),((HO.out.below HB6.out).tri),Blk.new w5 31 #[.pointer (some ⟨g5,0,none⟩),.slice AT n cT,.int .i64 0],hzs,HK7.out.trans ((HB.out.mono hzs).trans (HB6.out.mono (by omega))),GA,Gc,Gv,(hgr.below HB7.out).more HB7.out.size⟩
end
end Go.Proofs.YtmkmbbjgepcioaaGreatDoor
