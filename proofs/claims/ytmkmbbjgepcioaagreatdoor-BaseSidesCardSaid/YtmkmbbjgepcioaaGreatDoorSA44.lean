/- Contract of law 11's Told: it hands back the rows' graph. No statement of the seat is proved here. -/
import Derived.Test.YtmkmbbjgepcioaaGreatDoorSAHq
import Derived.Test.YtmkmbbjgepcioaaGreatDoorSAEr
import Derived.Test.YtmkmbbjgepcioaaGreatDoorSA43
import Derived.Test.YtmkmbbjgepcioaaGreatDoorSA39
import Derived.Test.YtmkmbbjgepcioaaGreatDoorSA38
import Derived.Test.YtmkmbbjgepcioaaGreatDoorSA02
import Derived.BigRegion
namespace Go.Proofs.YtmkmbbjgepcioaaGreatDoor
set_option maxHeartbeats 4000000
set_option maxRecDepth 100000
section
open Go.RowKit
def zbv (x:List Int×SlA):Value := .slice x.2.1 x.1.length x.2.2
structure RawI (w:World) (B:Nat) (A:Option Addr) (ls:List (List Int)) (vs:List SlA):Prop where
 len:vs.length=ls.length
 row:ze w B 1 A ls.length ((ls.zip vs).map zbv)
 each:∀(i:Nat) l v,ls[i]? = some l→vs[i]? = some v→ze w B 1 v.1 l.length (i64L l)∧l.length≤v.2∧v.2≤maxLen∧zcO l
theorem RawI.below {w w':World} {B:Nat} {A:Option Addr} {ls:List (List Int)} {vs:List SlA} (h:RawI w B A ls vs) (hb:Below B w w'):RawI w' B A ls vs :=
 ⟨h.len,h.row.below hb,fun i l v h1 h2=>⟨(h.each i l v h1 h2).1.below hb,(h.each i l v h1 h2).2⟩⟩
def zbR (ls:List (List Int)) (n:Nat):Rw:=(List.range n).map fun i=>rowP i ((ls[i]?).getD [])
theorem zot (ls:List (List Int)) (n:Nat):zbR ls (n+1)=zbR ls n++[rowP n ((ls[n]?).getD [])]:=by
 unfold zbR;rw [List.range_succ,List.map_append];rfl
theorem zc4 (ls:List (List Int)) (n:Nat):(zbR ls n).length=n:=by simp [zbR]
structure RwO (w:World) (z:Nat) (A:Option Addr) (n c:Nat) (R:Rw) (rs:List SlA):Prop where
 len:rs.length=R.length
 num:R.length=n
 row:Own w z 57 1 A n c ((R.zip rs).map fun x=>slR x.1 x.2)
 each:∀(i:Nat) p r,R[i]? = some p→rs[i]? = some r→Own w z 3 1 r.1 p.length r.2 (p.map nvI)
theorem RwO.below {w w':World} {z n c:Nat} {A:Option Addr} {R:Rw} {rs:List SlA} (h:RwO w z A n c R rs) (hb:Below w.heap.size w w'):RwO w' z A n c R rs :=
 ⟨h.len,h.num,h.row.kept (Kept.ofBelow (base:=0) (E:=[]) (G:=[]) hb) (by simp) (by simp),fun i p r h1 h2=>(h.each i p r h1 h2).kept (Kept.ofBelow (base:=0) (E:=[]) (G:=[]) hb) (by simp) (by simp)⟩
theorem RwO.rwi {w:World} {z n c:Nat} {A:Option Addr} {R:Rw} {rs:List SlA} (h:RwO w z A n c R rs):RwI w w.heap.size A R rs :=
 ⟨h.len,by rw [h.num];exact h.row.reads,fun i p r h1 h2=>(h.each i p r h1 h2).reads⟩
theorem zgL:Elem Tryz.prog 62 57 1 24:=by
 refine ⟨Tryz.underlying62,?_,by decide⟩;obtain ⟨i,hi,h1,h2,h3⟩:=info_parts (show (Tryz.prog.info? 57).map (fun i=>(i.zero,i.size,i.bytes))=some (some (.slice none 0 0),1,24) by kernel_rfl);exact ⟨i,_,hi,h1,h2,h3,rfl⟩
theorem zue:Elem Tryz.prog 57 3 1 8:=by
 refine ⟨Tryz.underlying57,?_,by decide⟩;obtain ⟨i,hi,h1,h2,h3⟩:=info_parts (show (Tryz.prog.info? 3).map (fun i=>(i.zero,i.size,i.bytes))=some (some (.int .i64 0),1,8) by kernel_rfl);exact ⟨i,_,hi,h1,h2,h3,rfl⟩
theorem ztz {n:Nat} {l:List Int} {k:Nat} {x:Int} (h:l[k]? = some x) (_:0<n):(l.take (k+1)).foldl (zbe n) []=zbe n ((l.take k).foldl (zbe n) []) x:=by
 rw [List.take_add_one,h,List.foldl_append];rfl
theorem zsH {n k:Nat} {l:List Int} (h:¬(k<l.length∧k<4∧0<n)) (hk:k≤4) (h0:n=0→k=0):(l.take k).foldl (zbe n) []=rowP n l:=by
 unfold rowP;by_cases hn:n=0
 · rw [if_pos hn,h0 hn];rfl
 · rw [if_neg hn];have:l.take k=l.take 4:=by
    rcases Nat.lt_or_ge k 4 with q|q
    · rw [List.take_of_length_le (by omega),List.take_of_length_le (by omega)]
    · rw [show k=4 by omega]
   rw [this]
theorem zn9 (ls:List (List Int)) (vs:List SlA) (A:Option Addr) (c M B:Nat) (hM:ls.length=M) (hM2:M≤16) (w:World) (hB:B≤w.heap.size) (hr:RawI w B A ls vs) :Calls Tryz.prog 20 #[.slice A M c] w fun e w'=>∃A' c' rs,e = .returned (.slice A' M c')∧RwI w' w'.heap.size A' (zaQ ls) rs∧Below w.heap.size w w':=by
 obtain ⟨z,hz⟩:∃z,w.heap.size=z:=⟨_,rfl⟩;have HMM:=zz hM;have HR:=zz hr;have HB0:=zz (Below.refl z w);have HE:=zz (show zaQ ls=zbR ls M from by unfold zaQ zbR;rw [hM,Nat.min_eq_left (by omega)]);have hz0:z≤w.heap.size:=by omega
 rw [hz,HE.out];rw [hz] at hB;clear hr hM HE;go_enter Tryz.func20,Tryz.ntmps20
 go_wp2_with fail
 go_loopg [3,4] M (fun kx s3 s4 wr=>∃(n:Nat) (A1:Option Addr) (c1:Nat) (rs:List SlA),s4 = .int .i64 n∧s3 = .slice A1 n c1∧n≤M∧M-n≤kx∧Hid (RwO wr z A1 n c1 (zbR ls n) rs)∧Hid (Below z w wr)∧z≤wr.heap.size)
 case atStart=>exact ⟨0,none,0,[],rfl,rfl,Nat.zero_le _,Nat.le_refl _,zz ⟨rfl,rfl,Own.nil _ _ _ _,fun i p r h _=>by cases h⟩,HB0,hz0⟩
 case round =>
  clear HB0 hz0;obtain ⟨n,A1,c1,rs,rfl,rfl,hnM,hkx,HO,HB,hzr⟩:=hrel;by_cases hlt:n<M
  · obtain ⟨l,hl⟩:∃l,ls[n]? = some l:=⟨_,List.getElem?_eq_getElem (by rw [HMM.out];exact hlt)⟩;obtain ⟨v,hv⟩:∃v,vs[n]? = some v:=⟨_,List.getElem?_eq_getElem (by rw [HR.out.len,HMM.out];exact hlt)⟩;have hltz:(n:Int)<(M:Int):=by omega
    have hlt40:(n:Int)<40:=by omega
    have hn0:(0:Int)≤(n:Int):=by omega
    obtain ⟨L,hL⟩:∃L,l.length=L:=⟨_,rfl⟩;have hrow:=HR.out.row;rw [HMM.out] at hrow;obtain ⟨gP,oP,rfl,hgP,hcP⟩:=hrow.at0 (by omega) (by omega);have hcn:=hcP n (zbv (l,v)) (by rw [List.getElem?_map,(List.getElem?_zip_eq_some (z:=(l,v))).2 ⟨hl,hv⟩];rfl);unfold zbv at hcn;simp only at hcn;rw [hL] at hcn;obtain ⟨hre,hvc1,hvc2,hfit⟩:=HR.out.each n l v hl hv;rw [hL] at hre hvc1;have HCN:=zz hcn;have HRE:=zz hre;have HLL:=zz (And.intro hl (And.intro hL hfit));obtain ⟨zn,hzn⟩:∃zn,wr.heap.size=zn:=⟨_,rfl⟩;have HWN:=zz (Below.refl zn wr);have hzn0:zn≤wr.heap.size:=by omega
    clear hrow hcP hcn hre hfit hl hv hL;go_upto_region 7 with fail
    generalize wr=wn at *
    go_loopg [5,6] 4 (fun kk s5 s6 wq=>∃(k:Nat) (p:List Nat) (A2:Option Addr) (c2:Nat),s6 = .int .i64 k∧s5 = .slice A2 p.length c2∧k≤4∧(n=0→k=0)∧4-k≤kk∧Hid (p=(l.take k).foldl (zbe n) [])∧p.length≤4∧Hid (∀x∈p,x<16)∧Hid (Own wq zn 3 1 A2 p.length c2 (p.map nvI))∧Hid (Below zn wn wq)∧zn≤wq.heap.size)
    case atStart=>exact ⟨0,[],none,0,rfl,rfl,Nat.zero_le _,fun _=>rfl,Nat.le_refl _,zz rfl,by simp,zz (by simp),zz (Own.nil _ _ _ _),HWN,hzn0⟩
    case round =>
     clear HWN hzn0;obtain ⟨k,p,A2,c2,rfl,rfl,hk4,hk0,hkk,HP,hp4,HP16,HOP,HBQ,hzq⟩:=hrel;have b1:=((HB.out.trans (HBQ.out.mono (by omega))).cell (p:=⟨gP,oP+n,none⟩) (by show gP<z;omega)).trans HCN.out;have hkz:(0:Int)≤(k:Int):=by omega
     go_upto_region 7 with fail
     go_cut [34] (fun s34 wx=>s34 = .bool (decide (k<L∧k<4∧0<n))∧wr=wx)
     case first =>
      by_cases c1:k<L
      · have e1:(k:Int)<(L:Int):=by omega
        by_cases c2:k<4
        · have e2:(k:Int)<4:=by omega
          by_cases c3:0<n
          · have e3:(0:Int)<(n:Int):=by omega
            go_wp2_with fail
            go_meet
            exact ⟨by rw [decide_eq_true ⟨c1,c2,c3⟩],rfl⟩
          · have e3:¬(0:Int)<(n:Int):=by omega
            go_wp2_with fail
            go_meet
            exact ⟨by rw [decide_eq_false (fun h=>c3 h.2.2)],rfl⟩
        · have e2:¬(k:Int)<4:=by omega
          go_wp2_with fail
          go_meet
          exact ⟨by rw [decide_eq_false (fun h=>c2 h.2.1)],rfl⟩
      · have e1:¬(k:Int)<(L:Int):=by omega
        go_wp2_with fail
        go_meet
        exact ⟨by rw [decide_eq_false (fun h=>c1 h.1)],rfl⟩
     case rest =>
      obtain ⟨rfl,rfl⟩:=hcut;by_cases hc:k<L∧k<4∧0<n
      · rw [decide_eq_true hc];obtain ⟨c1',c2',c3'⟩:=hc;have e1:(k:Int)<(L:Int):=by omega
        obtain ⟨x,hx⟩:∃x,l[k]? = some x:=⟨_,List.getElem?_eq_getElem (by rw [HLL.out.2.1];exact c1')⟩;obtain ⟨gl,ol,hve,hgl,hcl⟩:=HRE.out.at0 (by omega) (by omega);have b2:=((HB.out.trans (HBQ.out.mono (by omega))).cell (p:=⟨gl,ol+k,none⟩) (by show gl<z;omega)).trans (hcl k (.int .i64 x) (by unfold i64L;rw [List.getElem?_map,hx];rfl));obtain ⟨v1,v2⟩:=v;simp only at hve b1;subst hve;have hq0:=Int.emod_nonneg x (show (n:Int)≠0 by omega);have hq1:=Int.emod_lt_of_pos x (show (0:Int)<n by omega);obtain ⟨q,hq⟩:∃q:Nat,x%(n:Int)=(q:Int):=⟨(x%n).toNat,by omega⟩
        have HWI:=zz (fun W=>zsF x (n:Int) W (by omega) (by omega));rw [hq] at HWI;have hqn:q<n:=by omega
        have HQ:=zz (show (x%(n:Int)).toNat=q from by rw [hq];rfl);clear hcl hq0 hq1;go_upto_region 10 with (go_at_call 34;(with_reducible refine (HWI.out _).mono ?_);rintro _ w5 ⟨rfl,rfl⟩)
        clear HWI b1 b2 hq;go_upto_region 12 with fail
        go_loopg [8,9] p.length (fun kj s8 s9 wx=>∃(j:Nat),s9 = .int .i64 j∧s8 = .bool (decide (q∈p.take j))∧j≤p.length∧p.length-j≤kj∧wr=wx)
        case atStart=>exact ⟨0,rfl,by simp,Nat.zero_le _,Nat.le_refl _,rfl⟩
        case round =>
         obtain ⟨j,rfl,rfl,hjp,hkj,rfl⟩:=hrel;have hj0:(0:Int)≤(j:Int):=by omega
         by_cases hjl:j<p.length
         · obtain ⟨y,hy⟩:∃y,p[j]? = some y:=⟨_,List.getElem?_eq_getElem hjl⟩;have e4:(j:Int)<(p.length:Int):=by omega
           obtain ⟨g2,o2,hA2,hg2,hc2⟩:=HOP.out.reads.at0 (by omega) (by omega);subst hA2;have b3:=hc2 j (nvI y) (by rw [List.getElem?_map,hy];rfl);unfold nvI at b3;have htk:p.take (j+1)=p.take j++[y]:=by rw [List.take_add_one,hy];rfl
           have HTK:=zz htk;clear hc2 htk;by_cases hin:q∈p.take j
           · have HN:=zz (show decide (q∈p.take (j+1))=true from decide_eq_true (by rw [HTK.out];exact List.mem_append.2 (.inl hin)));rw [decide_eq_true hin]
             go_wp2_with fail
             go_roundg (p.length-(j+1))
             case measure=>omega
             case rel=>exact ⟨j+1,by go_num,by rw [HN.out],by omega,Nat.le_refl _,rfl⟩
           · rw [decide_eq_false hin];by_cases hyq:y=q
             · have e5:((y:Int)==(q:Int))=true:=beq_iff_eq.2 (by omega);have HN:=zz (show decide (q∈p.take (j+1))=true from decide_eq_true (by rw [HTK.out,hyq];simp));clear hyq
               go_wp2_with fail
               go_roundg (p.length-(j+1))
               case measure=>omega
               case rel=>exact ⟨j+1,by go_num,by rw [HN.out],by omega,Nat.le_refl _,rfl⟩
             · have e5:((y:Int)==(q:Int))=false:=beq_eq_false_iff_ne.2 (by omega);have HN:=zz (show decide (q∈p.take (j+1))=false from decide_eq_false (by rw [HTK.out,List.mem_append,List.mem_singleton];rintro (h|h);exact hin h;exact hyq h.symm))
               go_wp2_with fail
               go_roundg (p.length-(j+1))
               case measure=>omega
               case rel=>exact ⟨j+1,by go_num,by rw [HN.out],by omega,Nat.le_refl _,rfl⟩
         · obtain rfl:j=p.length:=by omega
           rw [List.take_length];have HRT:=zz (ztz hx c3');by_cases hin:q∈p
           · rw [decide_eq_true hin];have HP2:=zz (show p=(l.take (k+1)).foldl (zbe n) [] from by
              rw [HRT.out,←HP.out];unfold zbe;rw [HQ.out,if_pos (List.contains_iff_mem.2 hin)])
             go_wp2_with fail
             go_roundg (4-(k+1))
             case measure=>omega
             case rel=>exact ⟨k+1,p,A2,c2,by go_num,rfl,by omega,fun h=>by omega,Nat.le_refl _,HP2,hp4,HP16,HOP,HBQ,hzq⟩
           · rw [decide_eq_false hin];have HP2:=zz (show p++[q]=(l.take (k+1)).foldl (zbe n) [] from by
              rw [HRT.out,←HP.out];unfold zbe;rw [HQ.out,if_neg (fun h=>hin (List.contains_iff_mem.1 h))])
             have HO3:=zz (HOP.out.alloc (.cells #[.int .i64 (q:Nat)] 3));have hnew:=heap_alloc_new wr (.cells #[.int .i64 (q:Nat)] 3);have HRN:=zz (ze.of_cellsF (n:=1) (size:=1) (xs:=[.int .i64 (q:Nat)]) hnew rfl rfl);have hm1:p.length+1≤maxLen:=by unfold maxLen;omega
             have hm2:(p.length+1)*8≤140737488355328:=by omega
             have hz3:zn≤(wr.alloc (.cells #[.int .i64 (q:Nat)] 3)).heap.size:=by simp;omega
             have HB3:=zz (HBQ.out.alloc hzq (.cells #[.int .i64 (q:Nat)] 3));have hpl:p.length≤k:=by
              rw [HP.out];refine Nat.le_trans (zgq (n:=n) (l.take k) []) ?_;rw [List.length_take,List.length_nil];omega
             clear hnew
             go_wp2_with (refine zH rfl zue rfl rfl HO3.out rfl HRN.out (by intro u hu;rw [List.mem_singleton] at hu;subst hu;rfl) hm1 hm2 hz3 ?_;intro A6 c6 w6 ho6 hk6;have HO6:=zz ho6;have HK6:=zz hk6;clear ho6 hk6)
             have hl6:(p++[q]).length=p.length+1:=by simp
             have HO7:=zz (show Own w6 zn 3 1 A6 (p++[q]).length c6 ((p++[q]).map nvI) from by
              rw [hl6,List.map_append];exact HO6.out)
             have HB6:=zz (HB3.out.trans (HK6.out.below (Nat.le_refl _) hz3 (by simp)));have hz6:zn≤w6.heap.size:=Nat.le_trans hz3 HK6.out.size;have HP6:=zz (show ∀y∈p++[q],y<16 from fun y hy=>by
              rcases List.mem_append.1 hy with h|h
              · exact HP16.out y h
              · rw [List.mem_singleton.1 h];omega)
             rw [←hl6];clear HO6 HK6 HO3 HB3 HRN
             go_roundg (4-(k+1))
             case measure=>omega
             case rel=>exact ⟨k+1,p++[q],A6,c6,by go_num,by rw [hl6],by omega,fun h=>by omega,Nat.le_refl _,HP2,by rw [hl6];omega,HP6,HO7,HB6,hz6⟩
      · have HPD:=zz (show p=rowP n l from by rw [HP.out];exact zsH (by rw [HLL.out.2.1];exact hc) hk4 hk0);rw [decide_eq_false hc];have ho1:=HO.out.row.kept (Kept.ofBelow (base:=0) (E:=[]) (G:=[]) (by rw [hzn];exact HBQ.out)) (by simp) (by simp);have HO3:=zz (ho1.alloc (.cells #[.slice A2 p.length c2] 57));have hnew:=heap_alloc_new wr (.cells #[.slice A2 p.length c2] 57);have HRN:=zz (ze.of_cellsF (n:=1) (size:=1) (xs:=[.slice A2 p.length c2]) hnew rfl rfl);have hm1:n+1≤maxLen:=by unfold maxLen;omega
        have hm2:(n+1)*24≤140737488355328:=by omega
        have hzz:z≤wr.heap.size:=by omega
        have hz3:z≤(wr.alloc (.cells #[.slice A2 p.length c2] 57)).heap.size:=by simp;omega
        have HB3:=zz ((HB.out.trans (HBQ.out.mono (by omega))).alloc hzz (.cells #[.slice A2 p.length c2] 57));clear hnew ho1
        go_wp2_with (refine zH rfl zgL rfl rfl HO3.out rfl HRN.out (by intro u hu;rw [List.mem_singleton] at hu;subst hu;rfl) hm1 hm2 hz3 ?_;intro A6 c6 w6 ho6 hk6;have HO6:=zz ho6;have HK6:=zz hk6;clear ho6 hk6)
        have hRe:zbR ls (n+1)=zbR ls n++[p]:=by rw [zot,HLL.out.1,HPD.out];rfl
        have hlr:rs.length=n:=by rw [HO.out.len,zc4]
        have HO7:=zz (show RwO w6 z A6 (n+1) c6 (zbR ls (n+1)) (rs++[(A2,c2)]) from by
         refine ⟨by rw [zc4,List.length_append,hlr];rfl,zc4 _ _,?_,fun i p' r h1 h2=>?_⟩
         · rw [hRe,List.zip_append (by rw [zc4,hlr]),List.map_append];exact HO6.out
         · have carry:∀{A:Option Addr} {m c:Nat} {xs:List Value} {zb:Nat},z≤zb→Own wr zb 3 1 A m c xs→Own w6 z 3 1 A m c xs:=fun hb h=>((h.alloc _).kept HK6.out (by decide) (by simp)).mono hb;rw [hRe] at h1
           rcases Nat.lt_or_ge i n with q|q
           · rw [List.getElem?_append_left (by rw [zc4];exact q)] at h1;rw [List.getElem?_append_left (by omega)] at h2;exact carry (Nat.le_refl z) ((HO.out.each i p' r h1 h2).kept (Kept.ofBelow (base:=0) (E:=[]) (G:=[]) (by rw [hzn];exact HBQ.out)) (by simp) (by simp))
           · rw [List.getElem?_append_right (by rw [zc4];exact q),zc4] at h1;rw [List.getElem?_append_right (by omega),hlr] at h2;have hi:i-n=0:=by
              have:=(List.getElem?_eq_some_iff.1 h1).1;simp at this;omega
             rw [hi] at h1 h2;simp at h1 h2;subst h1 h2;exact carry (by omega) HOP.out)
        have HB6:=zz (HB3.out.trans (HK6.out.below (Nat.le_refl _) hz3 (by simp)));have hz6:z≤w6.heap.size:=Nat.le_trans hz3 HK6.out.size;clear HO6 HK6 HO3 HB3 HRN
        go_roundg (M-(n+1))
        case measure=>omega
        case rel=>exact ⟨n+1,A6,c6,rs++[(A2,c2)],by go_num,rfl,by omega,Nat.le_refl _,HO7,HB6,hz6⟩
  · obtain rfl:n=M:=by omega
    have HF:=zz (And.intro HO.out.rwi HB.out);clear HO HB
    go_wp2_with fail
    go_ret
    exact ⟨A1,c1,rs,rfl,HF.out⟩
end
section
open Go.RowKit
attribute [local go_sem ↓] zr8 zsx ziI zqA zmY ztY zqq zom zoK
theorem zui (R:Rw) (rs:List SlA) (A:Option Addr) (c N B:Nat) (hN:R.length=N) (hN2:N≤16) (hp4:∀n,(par R n).length≤4) (hpl:∀n,∀p∈par R n,p<200) (w:World) (hB:B≤w.heap.size) (hR:RwI w B A R rs) :Calls Tryz.prog 23 #[.slice A N c] w fun e w'=>∃g,e = .returned (.pointer (some ⟨g,0,none⟩))∧Below w.heap.size w w'∧w.heap.size≤g∧∃A c vs,GrI w' w'.heap.size g R N A c vs:=by
 obtain ⟨z,hz⟩:∃z,w.heap.size=z:=⟨_,rfl⟩;have HN:=zz hN;have hb0:Below z w (w.alloc (.cells #[.slice none 0 0] 99)):=(Below.refl z w).alloc (by omega) _;have hg0:=Blk.new w 99 #[.slice none 0 0];rw [hz] at hg0;have hz1:(w.alloc (.cells #[.slice none 0 0] 99)).heap.size=z+1:=by rw [←hz];simp
 have HG0:=zz hg0;have HB0:=zz hb0;have HR:=zz hR;rw [hz] at hB;rw [hz];clear hb0 hg0 hR hN;go_enter Tryz.func23,Tryz.ntmps23
 go_upto_region 2 with (refine zC rfl rfl (cs:=#[.slice none 0 0]) rfl ?_)
 generalize w.alloc (.cells #[.slice none 0 0] 99)=w1 at *;have hz1':z+1≤w1.heap.size:=by omega
 clear hz1
 go_wp2_with fail
 go_loopg [4] N (fun kx s4 wr=>∃(n:Nat) (A1:Option Addr) (c1:Nat) (vs:List (Option Addr×Nat)),s4 = .int .i64 n∧n≤N∧N-n≤kx∧Hid (Blk wr z 99 #[.slice A1 n c1])∧Hid (Own wr (z+1) 101 33 A1 n c1 (zce R vs))∧vs.length=n∧Hid (∀(i:Nat) v,vs[i]? = some v→Own wr (z+1) 33 32 v.1 (par R i).length v.2 (idsV (par R i)))∧Hid (Below z w wr)∧z+1≤wr.heap.size)
 case atStart=>exact ⟨0,none,0,[],rfl,Nat.zero_le _,Nat.le_refl _,HG0,zz (Own.nil _ _ _ _),rfl,zz (fun i v h=>by simp at h),HB0,hz1'⟩
 case round =>
  clear HG0 HB0 hz1';obtain ⟨n,A1,c1,vs,rfl,hnN,hkx,HG,HO,hvn,HE,HB,hzr⟩:=hrel;by_cases hlt:n<N
  · obtain ⟨p,hp⟩:∃p,R[n]? = some p:=⟨_,List.getElem?_eq_getElem (by rw [HN.out];exact hlt)⟩;obtain ⟨r,hr⟩:∃r,rs[n]? = some r:=⟨_,List.getElem?_eq_getElem (by rw [HR.out.len,HN.out];exact hlt)⟩;have hpp:par R n=p:=by unfold par;rw [hp];rfl
    have hl4:=hp4 n;have hpl':=hpl n;rw [hpp] at hl4 hpl';have HPP:=zz hpp;have hltz:(n:Int)<(N:Int):=by omega
    have hrow:=HR.out.row;rw [HN.out] at hrow;obtain ⟨gP,oP,rfl,hgP,hcP⟩:=hrow.at0 (by omega) (by omega);have hcn:=hcP n (slR p r) (by rw [List.getElem?_map,(List.getElem?_zip_eq_some (z:=(p,r))).2 ⟨hp,hr⟩];rfl);unfold slR at hcn;obtain ⟨rA,rc⟩:=r;simp only at hcn;have HEC:=zz (HR.out.each n p (rA,rc) hp hr);have HCN:=zz hcn;obtain ⟨L,hL⟩:∃L,p.length=L:=⟨_,rfl⟩;rw [hL] at hl4;have HL:=zz hL;have HID:=zz (zca n (by omega) wr);clear hcP hrow hcn hp hr hpp;go_upto_region 6 with (first|(go_at_call 9;(with_reducible refine HID.out.mono ?_);rintro _ w5 ⟨rfl,hb5⟩;have HB5:=zz hb5;clear hb5)|(refine zcr rfl rfl (zii _) ?_)|(refine zO rfl rfl (vs:=zaq n (.slice none 0 0)) rfl rfl (Blk.new _ _ _) (by simp [zy,zdQ]) (by rw [zdQ];exact zk7) (zjk _ _ _ _) ?_;intro w6 hb6 hk6 hs6))
    simp only [Act.put,List.setIfInBounds_toArray,List.set]
    obtain ⟨zn,hzn⟩:∃zn,w5.heap.size=zn:=⟨_,rfl⟩;rw [hzn] at hb6 hk6 ⊢;have b56:Below zn w5 w6:=((Below.refl zn w5).alloc (by omega) _).trans (hk6.below (by simp;omega) (fun i hi h=>by unfold Only at h;omega));have h5:=HB5.out.size;have b06:Below wr.heap.size wr w6:=HB5.out.trans (b56.mono (by omega));have hz6:zn+1≤w6.heap.size:=by have:=hb6.lt;omega
    have HG6:=zz (HG.out.below b06 (by omega));have HO6:=zz (HO.out.kept (Kept.ofBelow (base:=0) (E:=[]) (G:=[]) b06) (by simp) (by simp));have HB6:=zz (HB.out.trans (b06.mono (by omega)));have HX6:=zz hb6;have HBW:=zz (Below.refl zn w6);have hzz:z+1≤zn:=by omega
    have HA1:=zz (show ∀a,A1=some a→a.block<zn from fun a ha=>by
     subst ha;have:=(HO.out.blockAt a.block (by simp [Value.ownBlock])).2.1;omega)
    have HE6:=zz (fun (i:Nat) v (h:vs[i]? = some v)=>show Own w6 (z+1) 33 32 v.1 (par R i).length v.2 (idsV (par R i))∧∀a,v.1=some a→a.block<zn from ⟨(HE.out i v h).kept (Kept.ofBelow (base:=0) (E:=[]) (G:=[]) b06) (by simp) (by simp),fun a ha=>by
     have:=((HE.out i v h).blockAt a.block (by simp [Value.ownBlock,ha])).2.1;omega⟩)
    clear b56 b06 hb6 hk6 hs6 HG HO HB HB5 h5 HID hzn HE
    go_wp2_with fail
    go_loopg [6] L (fun kk s6 wq=>∃(k:Nat) (A2:Option Addr) (c2:Nat),s6 = .int .i64 k∧k≤L∧L-k≤kk∧Hid (Blk wq zn 101 (zaq n (.slice A2 k c2)))∧Hid (Own wq (zn+1) 33 32 A2 k c2 (idsV (p.take k)))∧Hid (Below zn w6 wq)∧zn+1≤wq.heap.size)
    case atStart=>exact ⟨0,none,0,rfl,Nat.zero_le _,Nat.le_refl _,HX6,zz (Own.nil _ _ _ _),HBW,hz6⟩
    case round =>
     clear HX6 HBW hz6;obtain ⟨k,A2,c2,rfl,hkL,hkk,HX,HP,HBQ,hzq⟩:=hrel;have b1:=((HB6.out.trans (HBQ.out.mono (by omega))).cell (p:=⟨gP,oP+n,none⟩) (by show gP<z;omega)).trans HCN.out;rw [HL.out] at b1;by_cases hkl:k<L
     · obtain ⟨y,hy⟩:∃y,p[k]? = some y:=⟨_,List.getElem?_eq_getElem (by rw [HL.out];exact hkl)⟩;have hklz:(k:Int)<(L:Int):=by omega
       have hec:=HEC.out;rw [HL.out] at hec;obtain ⟨gr,or,rfl,hgr,hcr⟩:=hec.at0 (by omega) (by omega);have b2:=((HB6.out.trans (HBQ.out.mono (by omega))).cell (p:=⟨gr,or+k,none⟩) (by show gr<z;omega)).trans (hcr k (nvI y) (by rw [List.getElem?_map,hy];rfl));unfold nvI at b2;have hy2:y<200:=hpl' y (List.mem_of_getElem? hy);have HIDY:=zz (zca y (by omega) wr.drew);have b3:=(HX.out.cell 32).trans (zfq _ _);have HAF:=zz (show ∀w7,Below wr.drew.heap.size wr.drew w7→w7.cell? ⟨zn,32,none⟩=some (.slice A2 k c2)∧(w7.alloc (.cells (idC (idN y)) 33)).cell? ⟨zn,32,none⟩=some (.slice A2 k c2)∧∃A9 c9 w8,(ApIq #[.slice A2 k c2,.slice (some ⟨w7.heap.size,0,none⟩) 1 1]).run Tryz.prog (w7.alloc (.cells (idC (idN y)) 33)) = .ok (.slice A9 (k+1) c9) w8∧w8.cell? ⟨zn,32,none⟩=some (.slice A2 k c2)∧w8.frozen? ⟨zn,32,none⟩=false∧Hid (Blk (w8.setCell ⟨zn,32,none⟩ (.slice A9 (k+1) c9)) zn 101 (zaq n (.slice A9 (k+1) c9))∧Own (w8.setCell ⟨zn,32,none⟩ (.slice A9 (k+1) c9)) (zn+1) 33 32 A9 (k+1) c9 (idsV (p.take (k+1)))∧Below zn w6 (w8.setCell ⟨zn,32,none⟩ (.slice A9 (k+1) c9))∧zn+1≤(w8.setCell ⟨zn,32,none⟩ (.slice A9 (k+1) c9)).heap.size) from fun w7 h7=>by
        have hx7:=HX.out.drew.below h7 HX.out.lt;have hx8:=hx7.alloc (.cells (idC (idN y)) 33);have ho7:Own w7 (zn+1) 33 32 A2 k c2 (idsV (p.take k)):=HP.out.drew.kept (Kept.ofBelow (base:=0) (E:=[]) (G:=[]) h7) (by simp) (by simp);have h7s:wr.heap.size≤w7.heap.size:=h7.size;have hzw:zn+1≤(w7.alloc (.cells (idC (idN y)) 33)).heap.size:=by simp;omega
        obtain ⟨A9,c9,w8,hrun,ho8,hk8⟩:=zeX (P:=Tryz.prog) (ty:=36) (d:=1) zbT (ho7.alloc (.cells (idC (idN y)) 33)) (m:=1) (ze.of_cellsF (n:=1) (size:=32) (xs:=idL (idN y)) (heap_alloc_new w7 (.cells (idC (idN y)) 33)) (by simp [idC]) (by rw [za2])) (zbq _) (by unfold maxLen;omega) (by omega) hzw;have hx9:=hk8.blk hx8 (by simp) (by decide);rw [show idsV (p.take k)++idL (idN y)=idsV (p.take (k+1)) from by rw [List.take_add_one,hy];simp [idsV]] at ho8
        refine ⟨(hx7.cell 32).trans (zfq _ _),(hx8.cell 32).trans (zfq _ _),A9,c9,w8,hrun,(hx9.cell 32).trans (zfq _ _),hx9.frozen 32,zz ⟨?_,ho8.setCell hx9 (by decide) _,?_,?_⟩⟩
        · have:=hx9.set_ 32 (.slice A9 (k+1) c9)
          rwa [znl] at this
        · exact (((HBQ.out.drew.trans (h7.mono (by show zn≤wr.heap.size;omega))).alloc (by omega) _).trans (hk8.below (by omega) (by simp;omega) (by simp))).setCell (p:=⟨zn,32,none⟩) (Nat.le_refl _) _
        · have:=hk8.size;simp [World.setCell];omega)
       clear hcr hy hec;go_upto_region 9 with fail
       have d1:wr.drew.cell? ⟨gP,oP+n,none⟩=_:=b1;have d2:wr.drew.cell? ⟨gr,or+k,none⟩=_:=b2;have d3:wr.drew.cell? ⟨zn,32,none⟩=_:=b3;have hsl:=fun W=>zqW (idN y) W
       go_region_law (first|(go_simp;go_at_call 9;(with_reducible refine HIDY.out.mono ?_);rintro _ w7 ⟨rfl,hb7⟩;have haf:=HAF.out w7 hb7;clear hb7;obtain ⟨e3,f3,A9,c9,w8,hap,g3,g4,HFF⟩:=haf))
       all_goals
        have HX9:=zz HFF.out.1;have HP9:=zz HFF.out.2.1;have HB9:=zz HFF.out.2.2.1;have hz9:=HFF.out.2.2.2;generalize w8.setCell ⟨zn,32,none⟩ (.slice A9 (k+1) c9)=w9 at *;clear HAF HIDY HX HP HBQ b1 b2 b3 HFF hap g3 g4 e3 f3
        go_wp2_with fail
        go_roundg (L-(k+1))
        case measure=>omega
        case rel=>exact ⟨k+1,A9,c9,by go_num,by omega,Nat.le_refl _,HX9,HP9,HB9,hz9⟩
     · obtain rfl:k=L:=by omega
       clear hkk hkL;have hGr:=HG6.out.below (HBQ.out) (by omega);have hOr:Own wr (z+1) 101 33 A1 n c1 (zce R vs):=HO6.out.sameAt fun a ha=>HBQ.out.block _ (HA1.out a ha);have hBr:=HB6.out.trans (HBQ.out.mono (by omega));have hzw:z+1≤(wr.alloc (.cells (zaq n (.slice A2 k c2)) 101)).drew.heap.size:=by show z+1≤(wr.alloc _).heap.size;simp;omega
       obtain ⟨A9,c9,w9,hrun,ho9,hk9⟩:=zeX (P:=Tryz.prog) (w:=(wr.alloc (.cells (zaq n (.slice A2 k c2)) 101)).drew) (ty:=97) (d:=1) zju (hOr.alloc (.cells (zaq n (.slice A2 k c2)) 101)) (m:=1) (ze.of_cellsF (n:=1) (size:=33) (xs:=(zaq n (.slice A2 k c2)).toList) (heap_alloc_new wr (.cells (zaq n (.slice A2 k c2)) 101)) rfl (by rw [Array.length_toList,zdQ])) (zjk _ _ _ _) (by unfold maxLen;omega) (by omega) hzw;rw [ziI] at hrun;have hpl:p.take k=p:=List.take_of_length_le (by rw [HL.out];exact Nat.le_refl _);have hnl:zce R vs++(zaq n (.slice A2 k c2)).toList=zce R (vs++[(A2,c2)]):=by rw [zqH,hvn,HPP.out,HL.out]
       rw [hnl] at ho9;have hG9:=hk9.blk (hGr.alloc _).drew (by simp) (by decide);have d0:wr.drew.cell? ⟨z,0,none⟩=some (.slice A1 n c1):=(hGr.cell 0).trans rfl;have a0:∀o,(wr.alloc o).drew.cell? ⟨z,0,none⟩=some (.slice A1 n c1):=fun o=>(World.cell?_alloc_lt wr o _ hGr.lt).trans ((hGr.cell 0).trans rfl);have d1:=LdNd.blk HX.out.drew (zdQ _ _);have a1:=fun o=>LdNd.blk (HX.out.alloc o).drew (zdQ _ _);have hsl:=zo1 (zaq n (.slice A2 k c2)) (zdQ _ _);have t0:w9.cell? ⟨z,0,none⟩=some (.slice A1 n c1):=(hG9.cell 0).trans rfl;have t3:=hG9.frozen 0;have he9:∀(i:Nat) v,(vs++[(A2,c2)])[i]? = some v→Own (w9.setCell ⟨z,0,none⟩ (.slice A9 (n+1) c9)) (z+1) 33 32 v.1 (par R i).length v.2 (idsV (par R i)):=by
        intro i v hv;have ho:Own wr (z+1) 33 32 v.1 (par R i).length v.2 (idsV (par R i)):=by
         rcases Nat.lt_or_ge i vs.length with hi|hi
         · rw [List.getElem?_append_left hi] at hv;exact (HE6.out i v hv).1.sameAt (fun a ha=>HBQ.out.block _ ((HE6.out i v hv).2 a ha))
         · rw [List.getElem?_append_right hi] at hv;obtain rfl:i=n:=by
            have:=(List.getElem?_eq_some_iff.1 hv).1;simp at this;omega
           rw [hvn,Nat.sub_self] at hv;injection hv with hv;subst hv;rw [HPP.out,HL.out];have:=HP.out.mono (show z+1≤zn+1 by omega)
           rwa [hpl] at this
        exact ((ho.alloc (.cells (zaq n (.slice A2 k c2)) 101)).drew.kept hk9 (by decide) (by simp)).setCell hG9 (by decide) _
       have HE9:=zz he9;have HF:=zz (show Blk (w9.setCell ⟨z,0,none⟩ (.slice A9 (n+1) c9)) z 99 #[.slice A9 (n+1) c9]∧Own (w9.setCell ⟨z,0,none⟩ (.slice A9 (n+1) c9)) (z+1) 101 33 A9 (n+1) c9 (zce R (vs++[(A2,c2)]))∧Below z w (w9.setCell ⟨z,0,none⟩ (.slice A9 (n+1) c9))∧z+1≤(w9.setCell ⟨z,0,none⟩ (.slice A9 (n+1) c9)).heap.size from
        ⟨hG9.set_ 0 _,ho9.setCell hG9 (by decide) _,((((hBr.alloc (by omega) _).drew).trans (hk9.below (by omega) (Nat.le_trans (by omega) hzw) (by simp)))).setCell (p:=⟨z,0,none⟩) (Nat.le_refl _) _,by have:=hk9.size;simp [World.setCell] at this ⊢;omega⟩)
       clear hGr hOr hBr hzw ho9 hk9 hG9 he9 hnl hpl;go_upto_region 10 with fail
       clear b1
       go_region
       all_goals
        have HG9:=zz HF.out.1;have HO9:=zz HF.out.2.1;have HB9:=zz HF.out.2.2.1;have hz9:=HF.out.2.2.2;generalize w9.setCell ⟨z,0,none⟩ (.slice A9 (n+1) c9)=w10 at *;clear HF d0 a0 d1 a1 hsl t0 t3 hrun
        go_wp2_with fail
        go_roundg (N-(n+1))
        case measure=>omega
        case rel=>exact ⟨n+1,A9,c9,vs++[(A2,c2)],by go_num,by omega,Nat.le_refl _,HG9,HO9,by rw [List.length_append,hvn];rfl,HE9,HB9,hz9⟩
  · obtain rfl:n=N:=by omega
    have HF:=zz (show Below z w wr∧z≤z∧∃A c vs,GrI wr wr.heap.size z R n A c vs from ⟨HB.out,Nat.le_refl _,A1,c1,vs,⟨HG.out,by omega,hvn,HO.out.reads,fun i v hv=>⟨(HE.out i v hv).reads,(HE.out i v hv).cap_le⟩⟩⟩);clear HG HO HE
    go_wp2_with fail
    go_ret
    exact ⟨z,rfl,HF.out⟩
end
end Go.Proofs.YtmkmbbjgepcioaaGreatDoor
