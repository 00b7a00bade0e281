/- Contract of graph.all. No statement of the seat is proved here. -/
import Derived.Test.YtmkmbbjgepcioaaGreatDoorSAHq
import Derived.Test.YtmkmbbjgepcioaaGreatDoorSA38
import Derived.Test.YtmkmbbjgepcioaaGreatDoorSAEa
import Derived.Deep.LoopGhost
import Derived.Deep.RegionHeld3
import Derived.Deep.CutBlock
import Derived.BigRegion
import Derived.BigQuiet
import Derived.Deep.QuietTactic
import Derived.WalkSmall
import Derived.Test.YtmkmbbjgepcioaaGreatDoorSA02
namespace Go.Proofs.YtmkmbbjgepcioaaGreatDoor
set_option maxHeartbeats 2000000
set_option maxRecDepth 100000
section
open Go.RowKit
def nvI (n:Nat):Value := .int .i64 n
def slR (p:List Nat) (r:Option Addr×Nat):Value := .slice r.1 p.length r.2
def LdId (v:Value):Sem Value:=Instr.loadAt 33 v
theorem zbM (v:Value):Instr.loadAt 33 v=LdId v:=rfl
theorem LdId.blk {w:World} {g:Nat} {t:TypeId} {i:Id} (h:Blk w g t (idC i)):(LdId (.pointer (some ⟨g,0,none⟩))).run Tryz.prog w = .ok (idV i) w:=zm0 h
structure RwI (w:World) (B:Nat) (A:Option Addr) (R:Rw) (rs:List (Option Addr×Nat)):Prop where
 len:rs.length=R.length
 row:ze w B 1 A R.length ((R.zip rs).map fun x=>slR x.1 x.2)
 each:∀(i:Nat) (p:List Nat) (r:Option Addr×Nat),R[i]? = some p→rs[i]? = some r→ze w B 1 r.1 p.length (p.map nvI)
theorem RwI.below {w w':World} {B:Nat} {A:Option Addr} {R:Rw} {rs:List (Option Addr×Nat)} (h:RwI w B A R rs) (hb:Below B w w'):RwI w' B A R rs :=
 ⟨h.len,h.row.below hb,fun i p r hp hr=>(h.each i p r hp hr).below hb⟩
theorem Keep.thenBelow {S:Nat→Prop} {a w w':World} {B:Nat} (h:Keep S a w) (k:Below B w w') (hB:a.heap.size≤B):Keep S a w' :=
 ⟨k.os.trans h.os,k.tape.trans h.tape,k.output.trans h.output,Nat.le_trans h.size k.size,fun i hi hn=>(k.block i (by omega)).trans (h.block i hi hn)⟩
attribute [local go_sem ↓] zbM
theorem zsB (R:Rw) (rs:List (Option Addr×Nat)) (AP:Option Addr) (cP:Nat) (TV:Value) (q:Int) (x s B N:Nat) (hN:R.length=N) (hN2:N<200) (hx:x<N) (w:World) (hB:B≤s) (hs:Blk w s 67 #[.slice AP N cP,.int .i64 q,TV]) (hR:RwI w B AP R rs) (hp4:∀n,(par R n).length<200) (hpl:∀n,∀p∈par R n,p<200) :Calls Tryz.prog 314 #[.pointer (some ⟨s,0,none⟩),idV (idN x)] w fun e w'=>∃A c q',e = .returned (.tuple #[.slice A (par R x).length c,.nilIface])∧Own w' w.heap.size 33 32 A (par R x).length c (((par R x).map idN).flatMap idL)∧Keep (Only s) w w'∧Blk w' s 67 #[.slice AP N cP,.int .i64 q',TV]:=by
 have hsz:=hs.lt;obtain ⟨p,hp⟩:∃p,R[x]? = some p:=⟨_,List.getElem?_eq_getElem (by rw [hN];omega)⟩;obtain ⟨r,hr⟩:∃r,rs[x]? = some r:=⟨_,List.getElem?_eq_getElem (by rw [hR.len,hN];omega)⟩;have hpp:par R x=p:=by unfold par;rw [hp];rfl
 have hl4:=hp4 x;have hpl':=hpl x;rw [hpp] at hl4 hpl' ⊢;obtain ⟨L,hL⟩:∃L,p.length=L:=⟨_,rfl⟩;rw [hL] at hl4 ⊢;have HL:=zz hL;obtain ⟨z,hz⟩:∃z,w.heap.size=z:=⟨_,rfl⟩;rw [hz];rw [hz] at hsz;have hs0:=hs.alloc (.cells (idC (idN x)) 33);have hb0:Blk (w.alloc (.cells (idC (idN x)) 33)) w.heap.size 33 (idC (idN x)):=Blk.new _ _ _;rw [hz] at hb0;have hR0:RwI (w.alloc (.cells (idC (idN x)) 33)) B AP R rs:=hR.below ((Below.refl B w).alloc (by omega) _);have hk0:Keep (Only s) w (w.alloc (.cells (idC (idN x)) 33)):=(Keep.refl _ w).alloc _;have c0:=hs0.cell 0;have c1:=hs0.cell 1;have f1:=hs0.frozen 1;simp at c0 c1;have HN:=zz hN;have HS:=zz hs;have HRW:=zz hR;clear hs hR hN;go_enter Tryz.func314,Tryz.ntmps314
 go_upto_region 2 with (first|(refine zC rfl rfl (cs:=idC (idN x)) rfl ?_))
 have hsc:(w.setCell ⟨s,1,none⟩ (.int .i64 (wrap64 (q+1)))).heap.size=z:=by rw [←hz];simp [World.setCell]
 have hs1:Blk ((w.setCell ⟨s,1,none⟩ (.int .i64 (wrap64 (q+1)))).alloc (.cells (idC (idN x)) 33)) s 67 #[.slice AP N cP,.int .i64 (wrap64 (q+1)),TV]:=(HS.out.set_ 1 _).alloc _;have hb1:Blk ((w.setCell ⟨s,1,none⟩ (.int .i64 (wrap64 (q+1)))).alloc (.cells (idC (idN x)) 33)) z 33 (idC (idN x)):=by rw [←hsc];exact Blk.new _ _ _
 have hk1:Keep (Only s) w ((w.setCell ⟨s,1,none⟩ (.int .i64 (wrap64 (q+1)))).alloc (.cells (idC (idN x)) 33)):=((Keep.refl (Only s) w).setCell (p:=⟨s,1,none⟩) (.inl rfl) _).alloc _;have hR1:RwI ((w.setCell ⟨s,1,none⟩ (.int .i64 (wrap64 (q+1)))).alloc (.cells (idC (idN x)) 33)) B AP R rs:=HRW.out.below (((Below.refl B w).setCell (p:=⟨s,1,none⟩) hB _).alloc (by rw [hsc];omega) _);have hz1:z+1=((w.setCell ⟨s,1,none⟩ (.int .i64 (wrap64 (q+1)))).alloc (.cells (idC (idN x)) 33)).heap.size:=by rw [←hsc];simp
 generalize wrap64 (q+1)=q1 at *;have hrow:=hR1.row;have hech:=hR1.each x p r hp hr;rw [HN.out] at hrow;rw [hL] at hech;obtain ⟨gP,oP,rfl,hgP,hcP⟩:=hrow.at0 (by omega) (by omega);have hcn:=hcP x (slR p r) (by rw [List.getElem?_map,(List.getElem?_zip_eq_some (z:=(p,r))).2 ⟨hp,hr⟩];rfl);unfold slR at hcn;rw [hL] at hcn;obtain ⟨rA,rc⟩:=r;simp only at hcn hech;have HCN:=zz hcn;have HEC:=zz hech;clear hcP hrow hcn hech hp hr hL hpp hpl hp4;have HK1:=zz hk1;have HR1:=zz hR1;have HB1:=zz hb1;have HS1:=zz hs1;clear hk1 hR1 hb1 hs1 hs0 hb0 hR0 hk0 c0 c1 f1 HS HRW hsc;generalize (w.setCell ⟨s,1,none⟩ (.int .i64 q1)).alloc (.cells (idC (idN x)) 33)=w1 at *;have HBW:Hid (Below (z+1) w1 w1):=zz (Below.refl _ _);have hzw:z+1≤w1.heap.size:=by omega
 go_upto_region 3 with fail
 go_loopg [6] x (fun kx s6 wr=>∃(n:Nat),s6 = .int .i64 n∧n≤x∧x-n≤kx∧Hid (Below (z+1) w1 wr)∧z+1≤wr.heap.size)
 case atStart=>exact ⟨0,rfl,Nat.zero_le _,Nat.le_refl _,HBW,hzw⟩
 case round =>
  clear HBW hzw;obtain ⟨n,rfl,hnx,hkx,HBW,hzw⟩:=hrel;have hbs:=HS1.out.below HBW.out (by omega);have hbi:=HB1.out.below HBW.out (by omega);have hnN:(n:Int)<(N:Int):=by omega
  have c0:=hbs.cell 0;simp at c0;have HBI:=zz hbi;have HBS:=zz hbs;have d2:=LdId.blk hbi.drew;have HID:=zz (fun W=>zca n (by omega) W);have G:=fun (a b:Operand) (W:World)=>zfg .eql a b (idN n) (idN x) W;by_cases he:n=x
  · subst he;have E:∀W:World,(binOp .eql 33 (idV (idN n)) (idV (idN n))).run Tryz.prog W = .ok (.bool true) W:=fun W=>by rw [zdD];simp
    clear hbs hbi;go_upto_region 5 with fail
    go_cut [28] (fun s28 wx=>s28 = .bool true∧Hid (Below (z+1) w1 wx)∧z+1≤wx.heap.size)
    case first =>
     go_region_law (first|(go_simp;go_at_call 9;(with_reducible refine (HID.out _).mono ?_);rintro _ w5 ⟨rfl,hb5⟩;have e5:=LdId.blk (HBI.out.drew.below hb5 HBI.out.drew.lt);have B5:=zz (HBW.out.drew.trans (hb5.mono hzw))))
     all_goals
      go_wp2_with fail
      go_meet
      exact ⟨rfl,B5,by have:=B5.out.size;omega⟩
    case rest =>
     obtain ⟨rfl,HBX,hzx⟩:=hcut;clear HBI HBS d2 HID G E c0 HBW hzw;generalize wc=w2 at *;go_upto_region 8 with fail
     go_loopg [7,8] L (fun kx s7 s8 wx=>∃(k:Nat) (A1:Option Addr) (c1:Nat),s8 = .int .i64 k∧s7 = .slice A1 k c1∧k≤L∧L-k≤kx∧Hid (Own wx (z+1) 33 32 A1 k c1 (((p.take k).map idN).flatMap idL))∧Hid (Below (z+1) w1 wx)∧z+1≤wx.heap.size)
     case atStart=>exact ⟨0,none,0,rfl,rfl,Nat.zero_le _,Nat.le_refl _,zz (Own.nil _ _ _ _),HBX,hzx⟩
     case round =>
      clear HBX hzx;obtain ⟨k,A1,c1,rfl,rfl,hkL,hkx2,HO,HBX,hzx⟩:=hrel;have b0:=(HS1.out.below HBX.out (by omega)).cell 0;simp at b0;have b1:=(HBX.out.cell (p:=⟨gP,oP+n,none⟩) (by show gP<z+1;omega)).trans HCN.out;by_cases hlt:k<L
      · have hltz:(k:Int)<(L:Int):=by omega
        obtain ⟨y,hy⟩:∃y,p[k]? = some y:=⟨_,List.getElem?_eq_getElem (by rw [HL.out];exact hlt)⟩;obtain ⟨gr,or,rfl,hgr,hcr⟩:=HEC.out.at0 (by omega) (by omega);have b2:=(HBX.out.cell (p:=⟨gr,or+k,none⟩) (by show gr<z+1;omega)).trans (hcr k (nvI y) (by rw [List.getElem?_map,hy];rfl));unfold nvI at b2;have hy2:y<200:=hpl' y (List.mem_of_getElem? hy);have HIDY:=zz (fun W=>zca y (by omega) W);have HTK:=zz (show p.take (k+1)=p.take k++[y] by rw [List.take_add_one,hy];rfl);have hm1:k+1≤maxLen:=by unfold maxLen;omega
        have hm2:(k+1)*32≤140737488355328:=by omega
        clear hcr hy
        go_upto_region 9 with (first
         | (go_at_call 9;(with_reducible refine (HIDY.out _).mono ?_);rintro _ w5 ⟨rfl,hb5⟩;have HB5:=zz (HBX.out.trans (hb5.mono hzx));have HO5:=zz (HO.out.kept (Kept.ofBelow (base:=0) (E:=[]) (G:=[]) hb5) (by simp) (by simp));have hz5:z+1≤w5.heap.size:=Nat.le_trans hzx hb5.size;clear hb5)
         | (refine zbi rfl zbT rfl zbF (zy _) (zy _) (by omega) rfl ?_)
         | (refine zH rfl zbT rfl rfl (HO5.out.alloc _) rfl (ze.of_cells (xs:=idL (idN y)) (heap_alloc_new _ _) rfl (by rw [za2])) (zbq _) hm1 hm2 (by simp;omega) ?_;intro A6 c6 w6 ho6 hk6;have HO6:=zz ho6;have HB6:=zz (HB5.out.trans (((Below.refl (z+1) w5).alloc hz5 _).trans (hk6.below (Nat.le_refl _) (by simp;omega) (by simp))));clear ho6 hk6))
        have HO7:=zz (show Own w6 (z+1) 33 32 A6 (k+1) c6 (((p.take (k+1)).map idN).flatMap idL) by
         rw [HTK.out,List.map_append,List.flatMap_append];simpa using HO6.out)
        have hz6:z+1≤w6.heap.size:=by have:=HB6.out.size;omega
        clear HO6 HO5 HB5 HO HBX b0 b1 b2
        go_wp2_with fail
        go_roundg (L-(k+1))
        case measure=>omega
        case rel=>exact ⟨k+1,A6,c6,by go_num,rfl,by omega,Nat.le_refl _,HO7,HB6,hz6⟩
      · obtain rfl:k=L:=by omega
        clear hlt;have hot:=HO.out;rw [List.take_of_length_le (by rw [HL.out];exact Nat.le_refl _)] at hot;have HF:=zz (And.intro (hot.mono (base':=z) (by omega)) (And.intro (HK1.out.thenBelow HBX.out (by omega)) (HS1.out.below HBX.out (by omega))));clear hot
        go_wp2_with fail
        go_ret2
        exact ⟨A1,c1,q1,rfl,HF.out⟩
  · have E:∀W:World,(binOp .eql 33 (idV (idN n)) (idV (idN x))).run Tryz.prog W = .ok (.bool false) W:=fun W=>by rw [zdD,zlu (by omega) (by omega) he]
    clear hbs hbi;go_upto_region 5 with fail
    go_cut [28] (fun s28 wx=>s28 = .bool false∧Hid (Below (z+1) w1 wx)∧z+1≤wx.heap.size)
    case first =>
     go_region_law (first|(go_simp;go_at_call 9;(with_reducible refine (HID.out _).mono ?_);rintro _ w5 ⟨rfl,hb5⟩;have e5:=LdId.blk (HBI.out.drew.below hb5 HBI.out.drew.lt);have B5:=zz (HBW.out.drew.trans (hb5.mono hzw))))
     all_goals
      go_wp2_with fail
      go_meet
      exact ⟨rfl,B5,by have:=B5.out.size;omega⟩
    case rest =>
     obtain ⟨rfl,HBX,hzx⟩:=hcut;clear HBI HBS d2 HID G E c0 HBW hzw;generalize wc=w2 at *
     go_wp2_with fail
     go_roundg (x-(n+1))
     case measure=>omega
     case rel=>exact ⟨n+1,by go_num,by omega,Nat.le_refl _,HBX,hzx⟩
end
section
open Go.RowKit
abbrev idsV (ls:List Nat):List Value:=(ls.map idN).flatMap idL
attribute [local go_sem ↓] zbM
end
section
open Go.RowKit
def zce (R:Rw) (vs:List (Option Addr×Nat)):List Value:=vs.zipIdx.flatMap fun x=>(zaq x.2 (.slice x.1.1 (par R x.2).length x.1.2)).toList
theorem zqH (R:Rw) (vs:List (Option Addr×Nat)) (v:Option Addr×Nat):zce R (vs++[v])=zce R vs++(zaq vs.length (.slice v.1 (par R vs.length).length v.2)).toList:=by
 simp [zce,List.zipIdx_append]
structure GrI (w:World) (B g:Nat) (R:Rw) (N:Nat) (A:Option Addr) (c:Nat) (vs:List (Option Addr×Nat)):Prop where
 graph:Blk w g 99 #[.slice A N c]
 gB:g<B
 len:vs.length=N
 rows:ze w B 33 A N (zce R vs)
 each:∀(i:Nat) v,vs[i]? = some v→ze w B 32 v.1 (par R i).length (idsV (par R i))∧(par R i).length≤v.2∧v.2≤maxLen
theorem GrI.below {w w':World} {B g N c:Nat} {R:Rw} {A:Option Addr} {vs:List (Option Addr×Nat)} (h:GrI w B g R N A c vs) (hb:Below B w w'):GrI w' B g R N A c vs :=
 ⟨h.graph.below hb h.gB,h.gB,h.len,h.rows.below hb,fun i v hv=>⟨(h.each i v hv).1.below hb,(h.each i v hv).2⟩⟩
theorem GrI.more {w:World} {B B' g N c:Nat} {R:Rw} {A:Option Addr} {vs:List (Option Addr×Nat)} (h:GrI w B g R N A c vs) (hB:B≤B'):GrI w B' g R N A c vs :=
 ⟨h.graph,Nat.lt_of_lt_of_le h.gB hB,h.len,h.rows.more hB,fun i v hv=>⟨(h.each i v hv).1.more hB,(h.each i v hv).2⟩⟩
theorem GrI.drew {w:World} {B g N c:Nat} {R:Rw} {A:Option Addr} {vs:List (Option Addr×Nat)} (h:GrI w B g R N A c vs):GrI w.drew B g R N A c vs:=h.below (Below.refl B w).drew
attribute [local go_sem ↓] zbM
end
section
open Go.RowKit
structure CmI (w:World) (B m:Nat) (R:Rw) (dom:List Nat):Prop where
 map:∃n f,VI w m n f∧∀x∈dom,∃A c,f (idN x)=some (.slice A (par R x).length c)∧ze w B 32 A (par R x).length (((par R x).map idN).flatMap idL)
structure KeyI (w:World) (m n:Nat) (out:List Nat):Prop where
 map:∃f,VI w m n f∧∀i,(f i).isSome=true↔∃x∈out,i=idN x
theorem KeyI.made (w:World):KeyI (w.alloc (.map #[] 0)) w.heap.size 0 [] :=
 ⟨⟨zfi,VI.made w,fun i=>Iff.intro (fun h=>by cases h) (fun ⟨x,hx,_⟩=>by cases hx)⟩⟩
theorem zeH (l:List Id):(l.flatMap idL).length=l.length*32:=by
 induction l with
 | nil=>rfl
 | cons i l ih=>rw [List.flatMap_cons,List.length_append,ih,za2,List.length_cons];omega
theorem Own.pop32 {w:World} {base:Nat} {A:Option Addr} {n c:Nat} {xs last:List Value} (hx:xs.length=n*32) (h:Own w base 33 32 A (n+1) c (xs++last)):Own w base 33 32 A n c xs∧∃g,A=some ⟨g,0,none⟩∧base≤g∧g<w.heap.size:=by
 obtain ⟨g,rfl,h1,h2⟩:∃g,A=some ⟨g,0,none⟩∧base≤g∧g<w.heap.size:=by
  rcases h.2 with ⟨h0,_⟩|⟨g,cap,cur,hv,hg,hh,_⟩
  · cases h0
  · injection hv with hv _ _;exact ⟨g,hv,hg,(Array.getElem?_eq_some_iff.1 hh).1⟩
 exact ⟨ownsRow_pop hx h,g,rfl,h1,h2⟩
attribute [local go_sem ↓] zbM
theorem zjH (R:Rw) (hw:WfR R) (dom start:List Nat) (N n m B:Nat) (hN:R.length=N) (hN2:N<200) (hs:∀s∈start,s<N) (hd:∀s∈start,∀x,Rch R s x→x∈dom) (hp4:∀x,(par R x).length≤4) (hn:start.length=n) (hn2:n≤1000) (A:Option Addr) (c:Nat) (w:World) (hr:ze w B 32 A n ((start.map idN).flatMap idL)) (hB:B≤w.heap.size) (hm:m<B) (hc:CmI w B m R dom) :Calls Tryz.prog 59 #[.map (some m),.slice A n c] w fun e w'=>∃k m' out,e = .returned (.map (some m'))∧KeyI w' m' k out∧k≤N∧out.Nodup∧(∀x,x∈out↔∃s∈start,Rch R s x)∧Below w.heap.size w w'∧w.heap.size≤m':=by
 obtain ⟨z,hz⟩:∃z,w.heap.size=z:=⟨_,rfl⟩;have hm0:=KeyI.made w;rw [hz] at hm0;have b0:=(Below.refl z w).alloc (by omega) (.map #[] 0);have HCL:=zz (zlZ (start.map idN) n (by rw [List.length_map,hn]) A c B (w.alloc (.map #[] 0)) (hr.below (b0.mono (by omega))) (by simp;omega) (by omega));have HM0:=zz hm0;have HB0:=zz b0;have HC:=zz hc;have HZ:=zz hz;have hmm:=@run_makeMap Tryz.prog;rw [hz];clear hm0 b0 hc hr;go_enter Tryz.func59,Tryz.ntmps59
 go_upto_region 3 with (go_at_call 94;(with_reducible refine HCL.out.mono ?_);rintro _ w2 ⟨A2,c2,rfl,ho2,hb2⟩;have HO2:=zz ho2;have HB2:=zz hb2;clear ho2 hb2)
 have hz2 : z + 1 ≤ w2.heap.size := by have := HB2.out.size; have h1 : (w.alloc (.map #[] 0)).heap.size = z + 1 := by rw [← HZ.out]; simp
                                       omega
 have HM2:=zz (show KeyI w2 z 0 [] from by
  obtain ⟨f,hv,hf⟩:=HM0.out.map;exact ⟨⟨f,hv.block (HB2.out.block z hv.lt),hf⟩⟩)
 have HBW:=zz (HB0.out.trans (HB2.out.mono (by simp;omega)));have HO3:=zz (HO2.out.mono (base':=z+1) (by rw [←HZ.out];simp));have HV:=zz (Vis.begin R start);clear HM0 HB0 HB2 HO2 HCL hmm
 go_loopg [6] (5*N+n) (fun kx s6 wr=>∃(row out:List Nat) (r k:Nat) (A1:Option Addr) (c1:Nat),s6 = .slice A1 r c1∧row.length=r∧Hid (Own wr (z+1) 33 32 A1 r c1 ((row.map idN).flatMap idL))∧Hid (KeyI wr z k out)∧k≤out.length∧Hid (Vis R start out row)∧5*(N-out.length)+r≤kx∧5*(N-out.length)+r≤2000∧Hid (Below z w wr)∧z+1≤wr.heap.size)
 case atStart=>exact ⟨start,[],n,0,A2,c2,rfl,hn,HO3,HM2,Nat.le_refl _,HV,by simp,by simp;omega,HBW,hz2⟩
 case round =>
  clear HM2 HO3 HV HBW hz2;obtain ⟨row,out,r,k,A1,c1,rfl,hrl,HO,HM,hkl,HV,hkx,hr2,HBW,hzw⟩:=hrel
  rcases Nat.eq_zero_or_pos r with h0|h0
  · subst h0;obtain rfl:row=[]:=List.eq_nil_of_length_eq_zero hrl;have hkN:k≤N:=by have:=HV.out.len;omega
    go_wp2_with fail
    go_ret
    exact ⟨k,z,out,rfl,HM.out,hkN,HV.out.nd,HV.out.done,HBW.out,Nat.le_refl _⟩
  · obtain ⟨r',rfl⟩:∃r',r=r'+1:=⟨r-1,by omega⟩;obtain ⟨row',x,rfl⟩:∃row' x,row=row'++[x]:=by
     rcases List.eq_nil_or_concat row with q|⟨l,y,q⟩
     · subst q;simp at hrl
     · exact ⟨l,y,by simpa using q⟩
    have hrl':row'.length=r':=by simpa using hrl
    have ho:=HO.out;rw [List.map_append,List.flatMap_append] at ho;obtain ⟨hop,g,rfl,hg1,hg2⟩:=ho.pop32 (by rw [zeH,List.length_map,hrl']);have hcl:∀j v,(idL (idN x))[j]? = some v→wr.cell? ⟨g,r'*32+j,none⟩=some v:=fun j v hj=>by
     obtain ⟨g',o',e,_,hc⟩:=ho.reads.at0 (by omega) (by omega);injection e with e;injection e with e1 e2;subst e1 e2;have hlen:((row'.map idN).flatMap idL).length=r'*32:=by rw [zeH,List.length_map,hrl']
     have:=hc (r'*32+j) v (by
      rw [List.getElem?_append_right (by omega),hlen,Nat.add_sub_cancel_left];simpa using hj)
     simpa using this
    have hld:(LdId (.pointer (some ⟨g,r'*32,none⟩))).run Tryz.prog wr = .ok (idV (idN x)) wr:=by
     refine zaE wr _ (idC (idN x)) Tryz.underlying33 rfl (by rw [zy];exact zaN) (fun j v hj=>?_);rw [zJ];exact hcl j v (by simpa [idC] using hj)
    have HOP:=zz hop;have hpos:(0:Int)<(r':Int)+1:=by omega
    clear ho hop hcl HO;go_upto_region 5 with (first|(refine zcr rfl rfl (zbF _) ?_)|(refine zO rfl rfl (vs:=idC (idN x)) rfl rfl (Blk.new _ _ _) (by rw [zy,zy]) (by rw [zy];exact zaN) (zbq _) ?_;intro w3 hb3 hk3 hs3))
    have b3:Below wr.heap.size wr w3:=((Below.refl _ wr).alloc (Nat.le_refl _) _).trans (hk3.below (by simp) (by unfold Only;intro i hi h;omega));have HW3:=zz (HBW.out.trans (b3.mono (by omega)));have HO3:=zz (HOP.out.kept (Kept.ofBelow (base:=0) (E:=[]) (G:=[]) b3) (by simp) (by simp));have hm3:KeyI w3 z k out:=by
     obtain ⟨f,hv,hf⟩:=HM.out.map;exact ⟨⟨f,hv.block (b3.block z hv.lt),hf⟩⟩
    have hz3:z+1≤w3.heap.size:=by have:=b3.size;omega
    have HM3:=zz hm3;have HQ3:=zz hb3;have hcap:=HOP.out.cap_le;obtain ⟨hcap1,hcap2⟩:=hcap;unfold maxLen at hcap2;obtain ⟨v,hlk⟩:∃v,(Instr.lookup 141 (.map (some z)) (idV (idN x)) true).run Tryz.prog w3 = .ok (.tuple #[v,.bool (decide (x∈out))]) w3:=by
     obtain ⟨f,hv,hf⟩:=hm3.map;have h0:=hv.look_ok (s:=idN x) Tryz.underlying141 (z := .int .i64 0) (by kernel_rfl);have:(f (idN x)).isSome=decide (x∈out):=by
      rw [Bool.eq_iff_iff,hf,decide_eq_true_iff];constructor
      · rintro ⟨y,hy,e⟩;have hx1:x<256:=by have:=HV.out.row_lt hw (fun s h=>by rw [hN];exact hs s h) (x:=x) (by simp);omega
        have hy1:y<256:=by have:=HV.out.outL y hy;omega
        rw [zbh hx1 hy1 e];exact hy
      · exact fun h=>⟨x,h,rfl⟩
     rw [this] at h0;exact ⟨_,h0⟩
    have hlq:=LdId.blk hb3;clear hb3 hk3 hs3 b3 hm3 HM HOP HBW hld;go_upto_region 7 with fail
    by_cases hxo:x∈out
    · rw [decide_eq_true hxo];have HV2:=zz (HV.out.skip (row':=row') hxo (fun y hy=>by
       rcases List.mem_append.1 hy with q|q
       · exact .inr q
       · exact .inl (List.mem_singleton.1 q)) (fun y hy=>List.mem_append.2 (.inl hy)))
      have HO4:=zz (show Own w3 (z+1) 33 32 (some ⟨g,0,none⟩) r' c1 ((row'.map idN).flatMap idL) from HO3.out);clear hlk hlq HQ3 HO3
      go_wp2_with fail
      go_roundg (5*(N-out.length)+r')
      case measure=>omega
      case rel=>exact ⟨row',out,r',k,_,c1,rfl,hrl',HO4,HM3,hkl,HV2,Nat.le_refl _,by omega,HW3,hz3⟩
    · rw [decide_eq_false hxo];have hxL:x<N:=by have:=HV.out.row_lt hw (fun s h=>by rw [hN];exact hs s h) (x:=x) (by simp);omega
      obtain ⟨f,hv,hf⟩:=HM3.out.map;have hfn:f (idN x)=none:=by
       cases e:f (idN x) with
       | none=>rfl
       | some v =>
        obtain ⟨y,hy,e2⟩:=(hf (idN x)).1 (by rw [e];rfl);have hy1:y<256:=by have:=HV.out.outL y hy;omega
        rw [zbh (by omega) hy1 e2] at hxo;exact absurd hy hxo
      have hkN:k≤200:=by have:=HV.out.len;omega
      have hln:=fun ty=>hv.len Tryz.underlying141 ty;obtain ⟨w4,hst,hv4,hk4,hs4⟩:=hv.store Tryz.underlying141 (by unfold maxLen;omega) (s:=idN x) (.int .i64 k);rw [hfn] at hv4;have hm4:KeyI w4 z (k+1) (out++[x]):=⟨⟨_,hv4,fun i=>by
       unfold iput;by_cases e:i=idN x
       · rw [if_pos e];exact ⟨fun _=>⟨x,by simp,e⟩,fun _=>rfl⟩
       · rw [if_neg e,hf];constructor
         · rintro ⟨y,hy,h⟩;exact ⟨y,List.mem_append.2 (.inl hy),h⟩
         · rintro ⟨y,hy,h⟩
           rcases List.mem_append.1 hy with q|q
           · exact ⟨y,q,h⟩
           · rw [List.mem_singleton] at q;subst q;exact absurd h e⟩⟩
      have ho4:Own w4 (z+1) 33 32 (some ⟨g,0,none⟩) r' c1 ((row'.map idN).flatMap idL):=HO3.out.same fun j hj hlt _=>hk4.block j hlt (by unfold Only;omega);have b4:Below z w w4:=HW3.out.trans (hk4.below (by omega) (by unfold Only;intro i hi h;omega));have hlq4:=LdId.blk (HQ3.out.keep hk4 (by unfold Only;omega));have hxd:x∈dom:=by
       obtain ⟨s0,h1,h2⟩:=HV.out.rowR x (by simp);exact hd s0 h1 x h2
      obtain ⟨nm,fm,hvm,hfm⟩:=HC.out.map;obtain ⟨Ap,cp,hfx,hrp⟩:=hfm x hxd;have hzw':=HZ.out;have hvm4:=hvm.block (b4.block m (by omega));have hlk2:=hvm4.look Tryz.underlying138 (z := .slice none 0 0) (by kernel_rfl) (s:=idN x);rw [hfx] at hlk2;have hrp4:=hrp.below (b4.mono (by omega:B≤z))
      have HV4:=zz (HV.out.meet (row':=row'++par R x) hxo (by simp) (by rw [hN];exact hxL) (fun y hy=>by
       rcases List.mem_append.1 hy with q|q
       · exact .inr (List.mem_append.2 (.inl q))
       · exact .inl (List.mem_singleton.1 q)) (fun p hp=>List.mem_append.2 (.inr hp)) (fun y hy=>by
       rcases List.mem_append.1 hy with q|q
       · exact .inl (List.mem_append.2 (.inl q))
       · exact .inr q))
      have hl4:=hp4 x;obtain ⟨L,hL⟩:∃L,(par R x).length=L:=⟨_,rfl⟩;rw [hL] at hl4 hlk2 hrp4;have hm1:r'+L≤maxLen:=by unfold maxLen;omega
      have hm2:(r'+L)*32≤140737488355328:=by omega
      have hz4:z+1≤w4.heap.size:=by omega
      have HM4:=zz hm4;have HB4:=zz b4;have HO4:=zz ho4;have hol:out.length<N:=by have:=HV.out.len_lt hxo (by rw [hN];exact hxL);omega
      clear hm4 b4 ho4 hv4 hk4 hf hfn hv hvm hfm hvm4 hfx hrp HQ3 HO3 HM3 HW3 hlk;have HRL:=zz hrl';have HPL:=zz hL
      go_wp2_with (refine zH rfl zbT rfl rfl HO4.out rfl hrp4 (zdY _) hm1 hm2 hz4 ?_;intro A6 c6 w6 ho6 hk6;have HO6:=zz ho6;have HK6:=zz hk6;clear ho6 hk6)
      have hm6:KeyI w6 z (k+1) (out++[x]):=by
       obtain ⟨f6,hv6,hf6⟩:=HM4.out.map;exact ⟨⟨f6,hv6.block ((HK6.out.below (B:=z+1) (Nat.le_refl _) hz4 (by simp)).block z (by omega)),hf6⟩⟩
      have ho7:Own w6 (z+1) 33 32 A6 (r'+L) c6 (((row'++par R x).map idN).flatMap idL):=by
       rw [List.map_append,List.flatMap_append];exact HO6.out
      have hb7:Below z w w6:=HB4.out.trans ((HK6.out.below (B:=z+1) (Nat.le_refl _) hz4 (by simp)).mono (by omega));have hz7:z+1≤w6.heap.size:=Nat.le_trans hz4 HK6.out.size;have hl7:(row'++par R x).length=r'+L:=by rw [List.length_append,HRL.out,HPL.out]
      have hlo:(out++[x]).length=out.length+1:=by simp
      go_roundg (5*(N-(out++[x]).length)+(r'+L))
      case measure=>rw [hlo];omega
      case rel=>exact ⟨row'++par R x,out++[x],r'+L,k+1,A6,c6,rfl,hl7,zz ho7,zz hm6,by omega,HV4,Nat.le_refl _,by rw [hlo];omega,zz hb7,hz7⟩
end
section
open Go.RowKit
attribute [local go_sem ↓] zbM
structure ComJ (w:World) (z k:Nat) (R:Rw) (out:List Nat) (A1:Option Addr):Prop where
 map:∃f,VI w z k f∧(∀i,(f i).isSome=true↔∃x∈out,i=idN x)∧∀x∈out,∃A c,f (idN x)=some (.slice A (par R x).length c)∧ze w w.heap.size 32 A (par R x).length (((par R x).map idN).flatMap idL)∧∀a,A=some a→z<a.block∧a.block<w.heap.size∧FarA A1 a.block
theorem ze.carry {w w':World} {B B' size n:Nat} {A:Option Addr} {xs:List Value} (h:ze w B size A n xs) (hk:∀a,A=some a→a.block<B'∧w'.heap[a.block]? = w.heap[a.block]?):ze w' B' size A n xs :=
 ⟨h.1,fun hn=>by
  obtain ⟨ad,e,_,hc⟩:=h.2 hn;obtain ⟨k1,k2⟩:=hk ad e;refine ⟨ad,e,k1,fun j u hj=>?_⟩;rw [←hc j u hj];exact World.cell?_of_block (w:=w) (by rw [zfD];exact k2)⟩
theorem ComJ.step {w w':World} {z k:Nat} {R:Rw} {out:List Nat} {A1 A2:Option Addr} {S:Nat→Prop} (h:ComJ w z k R out A1) (hk:Keep S w w') (hz:¬S z) (hS:∀b,z<b→b<w.heap.size→FarA A1 b→¬S b) (hf:∀b,b<w.heap.size→FarA A1 b→FarA A2 b):ComJ w' z k R out A2:=by
 obtain ⟨f,h1,h2,h3⟩:=h.map;refine ⟨f,h1.keep hk hz,h2,fun x hx=>?_⟩;obtain ⟨A,c,e,hr,ha⟩:=h3 x hx
 refine ⟨A,c,e,hr.carry fun a q=>?_,fun a q=>?_⟩
 · obtain ⟨q1,q2,q3⟩:=ha a q;exact ⟨Nat.lt_of_lt_of_le q2 hk.size,hk.block _ q2 (hS _ q1 q2 q3)⟩
 · obtain ⟨q1,q2,q3⟩:=ha a q;exact ⟨q1,Nat.lt_of_lt_of_le q2 hk.size,hf _ q2 q3⟩
theorem ComJ.cm {w:World} {z k:Nat} {R:Rw} {out:List Nat} {A1:Option Addr} (h:ComJ w z k R out A1):CmI w w.heap.size z R out:=by
 obtain ⟨f,h1,h2,h3⟩:=h.map;exact ⟨k,f,h1,fun x hx=>by
  obtain ⟨A,c,e,hr,_⟩:=h3 x hx;exact ⟨A,c,e,hr⟩⟩
theorem ComJ.put {w:World} {z k x:Nat} {R:Rw} {out:List Nat} {A1 A:Option Addr} {c:Nat} (h:ComJ w z k R out A1) (hx:x∉out) (hlt:∀y∈out,y<256) (hx2:x<256) (hm:k<maxLen) (hr:ze w w.heap.size 32 A (par R x).length (((par R x).map idN).flatMap idL)) (ha:∀a,A=some a→z<a.block∧a.block<w.heap.size∧FarA A1 a.block) :∃w',(Instr.mapUpdate 138 (.map (some z)) (idV (idN x)) (.slice A (par R x).length c)).run Tryz.prog w = .ok () w'∧ComJ w' z (k+1) R (out++[x]) A1∧Keep (Only z) w w'∧w'.heap.size=w.heap.size:=by
 obtain ⟨f,h1,h2,h3⟩:=h.map;have hfn:f (idN x)=none:=by
  cases e:f (idN x) with
  | none=>rfl
  | some v =>
   obtain ⟨y,hy,e2⟩:=(h2 (idN x)).1 (by rw [e];rfl);rw [zbh hx2 (hlt y hy) e2] at hx;exact absurd hy hx
 obtain ⟨w',hrun,hv,hk,hs⟩:=h1.store Tryz.underlying138 hm (s:=idN x) (.slice A (par R x).length c);rw [hfn] at hv
 refine ⟨w',hrun,⟨_,hv,fun i=>?_,fun y hy=>?_⟩,hk,hs⟩
 · unfold iput;by_cases e:i=idN x
   · rw [if_pos e];exact ⟨fun _=>⟨x,by simp,e⟩,fun _=>rfl⟩
   · rw [if_neg e,h2];constructor
     · rintro ⟨y,hy,q⟩;exact ⟨y,List.mem_append.2 (.inl hy),q⟩
     · rintro ⟨y,hy,q⟩
       rcases List.mem_append.1 hy with q2|q2
       · exact ⟨y,q2,q⟩
       · rw [List.mem_singleton] at q2;subst q2;exact absurd q e
 · have carry:∀{B:Option Addr} {n:Nat} {xs:List Value},ze w w.heap.size 32 B n xs→(∀a,B=some a→z<a.block∧a.block<w.heap.size∧FarA A1 a.block)→ze w' w'.heap.size 32 B n xs∧∀a,B=some a→z<a.block∧a.block<w'.heap.size∧FarA A1 a.block:=fun hr ha =>
    ⟨hr.carry fun a q=>⟨by rw [hs];exact (ha a q).2.1,hk.block _ (ha a q).2.1 (by have:=(ha a q).1;unfold Only;omega)⟩,fun a q=>by rw [hs];exact ha a q⟩
   unfold iput;by_cases e:y=x
   · subst e;rw [if_pos rfl];exact ⟨A,c,rfl,carry hr ha⟩
   · have hyo:y∈out:=by
      rcases List.mem_append.1 hy with q|q
      · exact q
      · exact absurd (List.mem_singleton.1 q) e
     rw [if_neg (fun q=>e (zbh (hlt y hyo) hx2 q))];obtain ⟨B,d,e2,hr2,ha2⟩:=h3 y hyo;exact ⟨B,d,e2,carry hr2 ha2⟩
theorem zqy (R:Rw) (hw:WfR R) (rs:List (Option Addr×Nat)) (AP:Option Addr) (cP:Nat) (TV:Value) (q:Int) (start:List Nat) (N n s g B:Nat) (hN:R.length=N) (hN2:N<200) (hst:∀x∈start,x<N) (hp4:∀x,(par R x).length≤4) (hn:start.length=n) (hn2:n≤1000) (A:Option Addr) (c:Nat) (AL:Addr) (cL:Nat) (w:World) (hl:w.cell? AL=some (.slice A n c)) (hr:ze w w.heap.size 32 A n ((start.map idN).flatMap idL)) (hB:B≤s) (hg:w.cell? ⟨g,0,none⟩=some (.iface 24 (.pointer (some ⟨s,0,none⟩)))) (hgs:g≠s) (hs:Blk w s 67 #[.slice AP N cP,.int .i64 q,TV]) (hR:RwI w B AP R rs) :Calls Tryz.prog 58 #[.iface 76 (.pointer (some ⟨g,0,none⟩)),.slice (some AL) 1 cL] w fun e w'=>∃m q' out,e = .returned (.tuple #[.map (some m),.nilIface])∧CmI w' w'.heap.size m R out∧m<w'.heap.size∧(∀x,x∈out↔∃y∈start,Rch R y x)∧Keep (Only s) w w'∧Blk w' s 67 #[.slice AP N cP,.int .i64 q',TV]:=by
 obtain ⟨z,hz⟩:∃z,w.heap.size=z:=⟨_,rfl⟩;have hmm:=@run_makeMap Tryz.prog;have hsw:=hs.lt;have HR9:=zz (hR.below ((Below.refl B w).alloc (by omega) (.map #[] 0)));clear hR;have hl0:(w.alloc (.map #[] 0)).cell? AL=some (.slice A n c):=by
  rw [World.cell?_alloc_lt _ _ AL (World.block_lt_of_cell? w AL hl)];exact hl
 have hs1:=hs.alloc (.map #[] 0);have b1:=(Below.refl z w).alloc (by omega) (.map #[] 0);have hz1:(w.alloc (.map #[] 0)).heap.size=z+1:=by rw [←hz];simp
 have hr1:=hr.below (w':=w.alloc (.map #[] 0)) (by rw [hz];exact b1);rw [hz] at hr1;have hc1:VI (w.alloc (.map #[] 0)) z 0 zfi:=by rw [←hz];exact VI.made w
 have HZ:=zz hz;have HS1:=zz hs1;have HB1:=zz b1;have HC1:=zz hc1;have HGS:=zz hg;have hm1:0+n≤maxLen:=by unfold maxLen;omega
 have hm2:(0+n)*32≤140737488355328:=by omega
 have hn0:0+n=n:=Nat.zero_add _;have HR1:=zz hr1;clear hs hr hl hg hs1 b1 hr1 hc1;go_enter Tryz.func58,Tryz.ntmps58
 go_wp2_with fail
 go_step3
 go_wp2_with fail
 clear hmm;have HKW:=zz ((Keep.refl (Only s) w).alloc (.map #[] 0));have HG1:=zz ((World.cell?_alloc_lt w (.map #[] 0) _ (World.block_lt_of_cell? w _ HGS.out)).trans HGS.out);have hsz0:s<z:=by omega
 have hgz:g<z:=by have:g<w.heap.size:=World.block_lt_of_cell? w _ HGS.out;omega
 generalize w.alloc (.map #[] 0)=w1 at *
 go_loopg [7,18] 1 (fun kx s7 s18 wr=>(s18 = .int .i64 0∧s7 = .slice none 0 0∧kx=1∧wr=w1)∨(s18 = .int .i64 1∧∃A1 c1,s7 = .slice A1 n c1∧Hid (Own wr (z+1) 33 32 A1 n c1 ((start.map idN).flatMap idL))∧Hid (Below (z+1) w1 wr)∧z+1≤wr.heap.size))
 case atStart=>exact .inl ⟨rfl,rfl,rfl,rfl⟩
 case round =>
  rcases hrel with ⟨rfl,rfl,hk1,rfl⟩|⟨rfl,A1,c1,rfl,HO,HBW,hzw⟩
  · go_wp2_with (refine zH rfl zbT rfl rfl (Own.nil _ (z+1) _ _) rfl HR1.out (zdY _) hm1 hm2 (by omega) ?_;rw [hn0];intro A6 c6 w6 ho6 hk6;have HO6:=zz ho6;have HK6:=zz hk6;clear ho6 hk6)
    have hbz:Below (z+1) wr w6:=HK6.out.below (Nat.le_refl _) (by omega) (by simp);have hz6:z+1≤w6.heap.size:=by have:=hbz.size;omega
    go_roundg 0
    case measure=>omega
    case rel=>exact .inr ⟨rfl,A6,c6,rfl,by simpa using HO6,zz hbz,hz6⟩
  · go_wp2_with fail
    go_step3
    go_wp2_with fail
    have hsz:s<z+1:=by have:=HS1.out.lt;omega
    have HS2:=zz (HS1.out.below HBW.out hsz);have HG2:=zz ((HBW.out.cell (p:=⟨g,0,none⟩) (by show g<z+1;omega)).trans HG1.out);have HK2:=zz (HKW.out.thenBelow HBW.out (by have:=HZ.out;omega));have HR2:=zz (HR9.out.below (HBW.out.mono (by omega)));have HV:=zz (Vis.begin R start);have HC2:=zz (show ComJ wr z 0 R [] A1 from ⟨⟨zfi,HC1.out.block (HBW.out.block z (by omega)),fun i=>Iff.intro (fun h=>by cases h) (fun ⟨x,hx,_⟩=>by cases hx),fun x hx=>by cases hx⟩⟩)
    go_loopg [7] (5*N+n) (fun kx s7 wx=>∃(row out:List Nat) (r k:Nat) (A2:Option Addr) (c2:Nat) (q2:Int),s7 = .slice A2 r c2∧row.length=r∧Hid (Own wx (z+1) 33 32 A2 r c2 ((row.map idN).flatMap idL))∧Hid (ComJ wx z k R out A2)∧k≤out.length∧Hid (Vis R start out row)∧5*(N-out.length)+r≤kx∧5*(N-out.length)+r≤2000∧Hid (Keep (Only s) w wx)∧Hid (Blk wx s 67 #[.slice AP N cP,.int .i64 q2,TV])∧Hid (RwI wx B AP R rs)∧Hid (wx.cell? ⟨g,0,none⟩=some (.iface 24 (.pointer (some ⟨s,0,none⟩))))∧z+1≤wx.heap.size)
    case atStart=>exact ⟨start,[],n,0,A1,c1,q,rfl,hn,HO,HC2,Nat.le_refl _,HV,by simp,by simp;omega,HK2,HS2,HR2,HG2,hzw⟩
    case round =>
     clear HO HC2 HV HK2 HS2 HR2 HG2 hzw HBW HKW HG1 HR9 HS1 HC1;obtain ⟨row,out,r,k,A2,c2,q2,rfl,hrl,HO,HC,hkl,HV,hkx,hr2,HK,HS,HR,HG,hzw⟩:=hrel
     rcases Nat.eq_zero_or_pos r with h0|h0
     · subst h0;obtain rfl:row=[]:=List.eq_nil_of_length_eq_zero hrl;have HF:=zz (And.intro HC.out.cm (And.intro (show z<wr.heap.size by omega) (And.intro HV.out.done (And.intro HK.out HS.out))))
       go_wp2_with fail
       rw [Exit.noGoto_ret]
       go_ret2
       exact ⟨z,q2,out,rfl,HF.out⟩
     · obtain ⟨r',rfl⟩:∃r',r=r'+1:=⟨r-1,by omega⟩;obtain ⟨row',x,rfl⟩:∃row' x,row=row'++[x]:=by
        rcases List.eq_nil_or_concat row with q|⟨l,y,q⟩
        · subst q;simp at hrl
        · exact ⟨l,y,by simpa using q⟩
       have hrl':row'.length=r':=by simpa using hrl
       have ho:=HO.out;rw [List.map_append,List.flatMap_append] at ho;obtain ⟨hop,gr,rfl,hg1,hg2⟩:=ho.pop32 (by rw [zeH,List.length_map,hrl']);have hcl:∀j v,(idL (idN x))[j]? = some v→wr.cell? ⟨gr,r'*32+j,none⟩=some v:=fun j v hj=>by
        obtain ⟨g',o',e,_,hc⟩:=ho.reads.at0 (by omega) (by omega);injection e with e;injection e with e1 e2;subst e1 e2;have hlen:((row'.map idN).flatMap idL).length=r'*32:=by rw [zeH,List.length_map,hrl']
        have:=hc (r'*32+j) v (by
         rw [List.getElem?_append_right (by omega),hlen,Nat.add_sub_cancel_left];simpa using hj)
        simpa using this
       have hld:(LdId (.pointer (some ⟨gr,r'*32,none⟩))).run Tryz.prog wr = .ok (idV (idN x)) wr:=by
        refine zaE wr _ (idC (idN x)) Tryz.underlying33 rfl (by rw [zy];exact zaN) (fun j v hj=>?_);rw [zJ];exact hcl j v (by simpa [idC] using hj)
       have HOP:=zz hop;have hpos:(0:Int)<(r':Int)+1:=by omega
       clear ho hop hcl HO;go_upto_region 10 with (first|(refine zcr rfl rfl (zbF _) ?_)|(refine zO rfl rfl (vs:=idC (idN x)) rfl rfl (Blk.new _ _ _) (by rw [zy,zy]) (by rw [zy];exact zaN) (zbq _) ?_;intro w3 hb3 hk3 hs3))
       have b3:Below wr.heap.size wr w3:=((Below.refl _ wr).alloc (Nat.le_refl _) _).trans (hk3.below (by simp) (by unfold Only;intro i hi h;omega));have HO3:=zz (HOP.out.kept (Kept.ofBelow (base:=0) (E:=[]) (G:=[]) b3) (by simp) (by simp));have HC3:=zz (HC.out.step (S:=zl) (Below.keep_ b3 _) (fun q=>q) (fun _ _ _ _ q=>q) (fun _ _ h=>h));have hz3:z+1≤w3.heap.size:=by have:=b3.size;omega
       have HQ3:=zz hb3;have HQZ:=zz (show z<wr.heap.size by omega);have HK3:=zz (HK.out.thenBelow b3 (HK.out.size));have HS3:=zz (HS.out.below b3 HS.out.lt);have HG3:=zz ((b3.cell (p:=⟨g,0,none⟩) (by show g<wr.heap.size;omega)).trans HG.out);have HR3:=zz (HR.out.below (b3.mono (by have:=HS.out.lt;omega)));have hcap:=HOP.out.cap_le;obtain ⟨hcap1,hcap2⟩:=hcap;unfold maxLen at hcap2;obtain ⟨v,hlk⟩:∃v,(Instr.lookup 138 (.map (some z)) (idV (idN x)) true).run Tryz.prog w3 = .ok (.tuple #[v,.bool (decide (x∈out))]) w3:=by
        obtain ⟨f,hv,hf,_⟩:=HC3.out.map;have h0:=hv.look_ok (s:=idN x) Tryz.underlying138 (z := .slice none 0 0) (by kernel_rfl);have:(f (idN x)).isSome=decide (x∈out):=by
         rw [Bool.eq_iff_iff,hf,decide_eq_true_iff];constructor
         · rintro ⟨y,hy,e⟩;have hx1:x<256:=by have:=HV.out.row_lt hw (fun s h=>by rw [hN];exact hst s h) (x:=x) (by simp);omega
           have hy1:y<256:=by have:=HV.out.outL y hy;omega
           rw [zbh hx1 hy1 e];exact hy
         · exact fun h=>⟨x,h,rfl⟩
        rw [this] at h0;exact ⟨_,h0⟩
       have hlq:=LdId.blk hb3;clear hb3 hk3 hs3 b3 HC HOP hld HK HS HG HR;go_upto_region 12 with fail
       by_cases hxo:x∈out
       · rw [decide_eq_true hxo];have HV2:=zz (HV.out.skip (row':=row') hxo (fun y hy=>by
          rcases List.mem_append.1 hy with q|q
          · exact .inr q
          · exact .inl (List.mem_singleton.1 q)) (fun y hy=>List.mem_append.2 (.inl hy)))
         have HO4:=zz (show Own w3 (z+1) 33 32 (some ⟨gr,0,none⟩) r' c2 ((row'.map idN).flatMap idL) from HO3.out);have HC4:=zz (HC3.out);clear hlk hlq HQ3 HO3 HC3
         go_wp2_with fail
         go_roundg (5*(N-out.length)+r')
         case measure=>omega
         case rel=>exact ⟨row',out,r',k,_,c2,q2,rfl,hrl',HO4,HC4,hkl,HV2,Nat.le_refl _,by omega,HK3,HS3,HR3,HG3,hz3⟩
       · rw [decide_eq_false hxo];have hxL:x<N:=by have:=HV.out.row_lt hw (fun s h=>by rw [hN];exact hst s h) (x:=x) (by simp);omega
         have hkN:k≤200:=by have:=HV.out.len;omega
         obtain ⟨fm,hvm,_⟩:=HC3.out.map;have hln:=fun ty=>hvm.len Tryz.underlying138 ty;have h50:((k:Int)==5000)=false:=beq_eq_false_iff_ne.2 (by omega);have hmeth:=zmw g s w3 HG3.out;have HPA:=zz (zsB R rs AP cP TV q2 x s B N hN hN2 hxL w3 hB HS3.out HR3.out (fun y=>by have:=hp4 y;omega) (fun y p hp=>by have h1:=hw y p hp;have h2:=znW hp;omega));go_upto_region 15 with fail
         clear hln hvm hlk;go_upto_region 16 with (go_at_call 314;(with_reducible refine HPA.out.mono ?_);rintro _ w5 ⟨A5,c5,q5,rfl,ho5,hk5,hs5⟩;have HO5:=zz ho5;have HK5:=zz hk5;have HS5:=zz hs5;clear ho5 hk5 hs5)
         clear hmeth hlq;have hq5:=HQ3.out.keep HK5.out (by unfold Only;have:=HQZ.out;omega);have HQ5:=zz hq5;have hp4x:=hp4 x;have HC5:=zz (HC3.out.step (S:=Only s) HK5.out (by unfold Only;omega) (fun b h1 _ _=>by unfold Only;omega) (fun _ _ h=>h));have hz5:z+1≤w5.heap.size:=Nat.le_trans hz3 HK5.out.size;have HO9:=zz (Own.keepOnly HO3.out HK5.out HS3.out (by decide));have HG5:=zz ((HK5.out.cell (p:=⟨g,0,none⟩) (by show g<w3.heap.size;omega) (by show ¬g=s;exact hgs)).trans HG3.out);have HR5:=zz (HR3.out.below (HK5.out.below (B:=B) (by omega) (fun i hi h=>by unfold Only at h;omega)));have HKW5:=zz (HK3.out.trans HK5.out);have hgr5:gr<w5.heap.size:=by have:=HK5.out.size;have:=HO3.out.blockAt gr (by simp [Value.ownBlock]);omega
         have HCL:=zz (zlZ ((par R x).map idN) (par R x).length (by simp) A5 c5 w5.drew.heap.size w5.drew HO5.out.drew.reads (Nat.le_refl _) (by omega))
         have HV4:=zz (HV.out.meet (row':=row'++par R x) hxo (by simp) (by rw [hN];exact hxL) (fun y hy=>by
          rcases List.mem_append.1 hy with q|q
          · exact .inr (List.mem_append.2 (.inl q))
          · exact .inl (List.mem_singleton.1 q)) (fun p hp=>List.mem_append.2 (.inr hp)) (fun y hy=>by
          rcases List.mem_append.1 hy with q|q
          · exact .inl (List.mem_append.2 (.inl q))
          · exact .inr q))
         have hol:out.length<N:=by have:=HV.out.len_lt hxo (by rw [hN];exact hxL);omega
         have HLT:=zz (show ∀y∈out,y<256 from fun y hy=>by have:=HV.out.outL y hy;omega);clear hq5 HPA HC3 HQ3 HO3 HS3 HG3 HR3 HK3 HV hp4 hst;go_upto_region 18 with fail
         go_cut [] (fun wx=>Hid (ComJ wx z (k+1) R (out++[x]) (some ⟨gr,0,none⟩))∧Hid (Keep (Only z) w5 wx))
         case first =>
          have d5:=LdId.blk HQ5.out.drew
          go_region_law (first|(go_simp;go_at_call 94;(with_reducible refine HCL.out.mono ?_);rintro _ w6 ⟨A6,c6,rfl,ho6,hb6⟩;have e6:=LdId.blk (HQ5.out.drew.below hb6 HQ5.out.drew.lt);have hg6:=ho6.blockAt;have hc6:=HC5.out.step (w':=w6) (S:=zl) (Keep.ofDrewN (n:=1) (Below.keep_ hb6 _)) (fun q=>q) (fun _ _ _ _ q=>q) (fun _ _ h=>h);have hp6:=hc6.put (A:=A6) (c:=c6) hxo HLT.out (by omega) (by unfold maxLen;omega) ho6.reads (fun a ha=>(by subst ha;obtain ⟨q1,q2,_⟩:=hg6 a.block (by simp [Value.ownBlock]);have q1:w5.heap.size≤a.block:=q1;exact ⟨by omega,q2,FarA.some_ (by omega)⟩));obtain ⟨w7,hst7,hc7,hk7,hs7⟩:=hp6;have HC7:=zz hc7;have HK7:=zz (show Keep (Only z) w5 w7 from (Keep.ofDrewN (n:=1) (Below.keep_ hb6 _)).trans hk7);clear hg6 hc6 hc7 hk7 hs7 hb6 ho6))
          all_goals
           go_wp2_with fail
           go_meet
           exact ⟨HC7,HK7⟩
         case rest =>
          obtain ⟨HC7,HK7⟩:=hcut;clear HCL HC5 HQ5;generalize wc=w7 at *;have hz7:z+1≤w7.heap.size:=Nat.le_trans hz5 HK7.out.size;have hrp:=HO5.out.reads.carry (w':=w7) (B':=w7.heap.size) (fun a ha=>by
           subst ha;obtain ⟨q1,q2,_⟩:=HO5.out.blockAt a.block (by simp [Value.ownBlock]);exact ⟨Nat.lt_of_lt_of_le q2 HK7.out.size,HK7.out.block _ q2 (by unfold Only;omega)⟩)
          have HO7:=zz (show Own w7 (z+1) 33 32 (some ⟨gr,0,none⟩) r' c2 ((row'.map idN).flatMap idL) from HO9.out.same fun j hj hlt _=>HK7.out.block j hlt (by unfold Only;omega));have hm1:r'+(par R x).length≤maxLen:=by unfold maxLen;omega
          have hm2:(r'+(par R x).length)*32≤140737488355328:=by omega
          go_wp2_with (refine znh rfl zbT rfl rfl HO7.out rfl hrp (zdY _) hm1 hm2 hz7 ?_;intro A8 c8 w8 ho8 hk8 hf8;have HO8:=zz ho8;have HK8:=zz hk8;have HF8:=zz hf8;clear ho8 hk8 hf8)
          have hb8:=HK8.out.below (B:=z+1) (Nat.le_refl _) hz7 (by simp);have HKF:=zz (show Keep (fun b=>¬FarA (some ⟨gr,0,none⟩) b) w7 w8 from ⟨HK8.out.os,HK8.out.tape,HK8.out.output,HK8.out.size,fun k hk hn=>(HF8.out k hk (Classical.byContradiction hn)).1⟩);have HC8:=zz (HC7.out.step HKF.out (fun q=>q (FarA.some_ (by omega))) (fun _ _ _ h q=>q h) (fun b hb h=>(HF8.out b hb h).2));have b57:Below z w5 w8:=(HK7.out.below (by omega) (fun i hi h=>by unfold Only at h;omega)).trans (hb8.mono (by omega));have HS8:=zz (HS5.out.below b57 hsz0);have HG8:=zz ((b57.cell (p:=⟨g,0,none⟩) (by show g<z;omega)).trans HG5.out);have HR8:=zz (HR5.out.below (b57.mono (by omega)));have HK88:=zz (HKW5.out.thenBelow b57 (by have:=HZ.out;omega));have HO88:=zz (show Own w8 (z+1) 33 32 A8 (r'+(par R x).length) c8 (((row'++par R x).map idN).flatMap idL) by
           rw [List.map_append,List.flatMap_append];exact HO8.out)
          have hz8:z+1≤w8.heap.size:=Nat.le_trans hz7 HK8.out.size;have hl8:(row'++par R x).length=r'+(par R x).length:=by rw [List.length_append,hrl']
          have hlo:(out++[x]).length=out.length+1:=by simp
          clear HO8 HK8 HF8 hb8 HKF HC7 HO7 HK7
          go_roundg (5*(N-(out++[x]).length)+(r'+(par R x).length))
          case measure=>rw [hlo];omega
          case rel=>exact ⟨row'++par R x,out++[x],r'+(par R x).length,k+1,A8,c8,q5,rfl,hl8,HO88,HC8,by omega,HV4,Nat.le_refl _,by rw [hlo];omega,HK88,HS8,HR8,HG8,hz8⟩
end
end Go.Proofs.YtmkmbbjgepcioaaGreatDoor
