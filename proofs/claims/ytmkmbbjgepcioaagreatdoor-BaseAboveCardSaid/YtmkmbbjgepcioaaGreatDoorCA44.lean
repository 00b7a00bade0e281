/- Contract of the reference's Above. No statement of the seat is proved here. -/
import Derived.Test.YtmkmbbjgepcioaaGreatDoorCAHq
import Derived.Test.YtmkmbbjgepcioaaGreatDoorCA39
import Derived.Test.YtmkmbbjgepcioaaGreatDoorCA38
import Derived.BigRegion
import Derived.Test.YtmkmbbjgepcioaaGreatDoorCA03
namespace Go.Proofs.YtmkmbbjgepcioaaGreatDoor
set_option maxHeartbeats 1000000
set_option maxRecDepth 100000
section
open Go.RowKit
abbrev idsV (ls:List Nat):List Value:=(ls.map idN).flatMap idL
theorem zgM {w:World} {g off:Nat} {ls:List Nat} {i x:Nat} (h:∀j u,(idsV ls)[j]? = some u→w.cell? ⟨g,off+j,none⟩=some u) (hx:ls[i]? = some x) :(LdId (.pointer (some ⟨g,off+i*32,none⟩))).run Tryz.prog w = .ok (idV (idN x)) w :=
 zar w _ (idC (idN x)) Tryz.underlying33 rfl (by rw [zt];exact zas) (fun j v hj=>by
  rw [zD,Nat.add_assoc];refine h _ _ (zaD (f:=idL) (C:=32) (fun _=>zae _) (ls.map idN) i j (idN x) (by rw [List.getElem?_map,hx];rfl) v ?_);rw [←hj];simp [idC])
theorem zkG {x y:Nat} (hx:x<256) (hy:y<256):(idN x==idN y)=decide (x=y):=by
 by_cases h:x=y
 · subst h;simp
 · rw [zed hx hy h];simp [h]
attribute [local go_sem ↓] za6
theorem ziP (ls:List Nat) (x:Nat) (A:Option Addr) (c B:Nat) (w:World) (hB:B≤w.heap.size) (h1:ze w B 32 A ls.length (idsV ls)) (hl:ls.length≤100000) (hx:x<256) (hls:∀y∈ls,y<256) :Calls Tryz.prog 29 #[.slice A ls.length c,idV (idN x)] w fun e w'=>e = .returned (.bool (decide (x∈ls)))∧Below w.heap.size w w':=by
 obtain ⟨z,hz⟩:∃z,w.heap.size=z:=⟨_,rfl⟩;rw [hz];rw [hz] at hB;obtain ⟨L,hL⟩:∃L,ls.length=L:=⟨_,rfl⟩;rw [hL] at h1 hl ⊢;have HL:=zz hL;have H1:=zz h1;have HS:=zz hls;have HX:=zz (show Blk (w.alloc (.cells (idC (idN x)) 33)) z 33 (idC (idN x)) from hz▸Blk.new w 33 (idC (idN x)));have HB:=zz (show Below z w (w.alloc (.cells (idC (idN x)) 33)) from (Below.refl z w).alloc (by omega) _);have hz0:z≤(w.alloc (.cells (idC (idN x)) 33)).heap.size:=by simp;omega
 clear h1 hL hls;go_enter Tryz.func29,Tryz.ntmps29
 go_wp2_with (refine zu rfl rfl (cs:=idC (idN x)) rfl ?_)
 clear hz;generalize w.alloc (.cells (idC (idN x)) 33)=w1 at *
 go_loopg [5] L (fun kx s5 wr=>∃(i:Nat),s5 = .int .i64 i∧i≤L∧L-i≤kx∧Hid (x∉ls.take i)∧Hid (Blk wr z 33 (idC (idN x)))∧Hid (Below z w wr)∧z≤wr.heap.size)
 case atStart=>exact ⟨0,rfl,Nat.zero_le _,Nat.le_refl _,zz (by simp),HX,HB,hz0⟩
 case round =>
  clear HX HB hz0;obtain ⟨i,rfl,hiL,hkx,HN,HX,HB,hzr⟩:=hrel;by_cases hlt:i<L
  · obtain ⟨y,hy⟩:∃y,ls[i]? = some y:=⟨_,List.getElem?_eq_getElem (by rw [HL.out];exact hlt)⟩;have hltz:(i:Int)<(L:Int):=by omega
    obtain ⟨g1,o1,rfl,hg1,hc1⟩:=H1.out.at0 (by omega) (by omega);have hcl:∀j u,(idsV ls)[j]? = some u→wr.cell? ⟨g1,o1+j,none⟩=some u:=fun j u hj=>(HB.out.cell (p:=⟨g1,o1+j,none⟩) (by show g1<z;omega)).trans (hc1 j u hj);have d1:=LdId.blk HX.out.drew;have d2:=zgM (w:=wr.drew) (fun j u hj=>hcl j u hj) hy;have E:∀W:World,(binOp .eql 33 (idV (idN y)) (idV (idN x))).run Tryz.prog W = .ok (.bool (decide (y=x))) W:=fun W=>by rw [zcz,zkG (HS.out y (List.mem_of_getElem? hy)) hx]
    have G:=fun (a b:Operand) (W:World)=>zdl .eql a b (idN y) (idN x) W;have HY:=zz hy;clear hc1 hy hcl;by_cases hyx:y=x
    · subst hyx;have E2:∀W:World,(binOp .eql 33 (idV (idN y)) (idV (idN y))).run Tryz.prog W = .ok (.bool true) W:=fun W=>by rw [E];simp
      clear E;go_upto_region 4 with fail
      go_region_law (fail)
      all_goals
       go_wp2_with fail
       go_ret
       exact ⟨by show Ending.returned (.bool true)=_;rw [decide_eq_true (List.mem_of_getElem? HY.out)],HB.out.drew⟩
    · rw [decide_eq_false hyx] at E;have HN2:=zz (show x∉ls.take (i+1) from fun h=>by
       rw [List.take_add_one,HY.out] at h
       rcases List.mem_append.1 h with h|h
       · exact HN.out h
       · simp at h;exact hyx h.symm)
      have HX2:=zz HX.out.drew;have HB2:=zz HB.out.drew;go_upto_region 4 with fail
      go_region_law (fail)
      all_goals
       go_wp2_with fail
       go_roundg (L-(i+1))
       case measure=>omega
       case rel=>exact ⟨i+1,by go_num,by omega,Nat.le_refl _,HN2,HX2,HB2,hzr⟩
  · obtain rfl:i=L:=by omega
    go_wp2_with fail
    go_ret
    exact ⟨by show Ending.returned (.bool false)=_;rw [decide_eq_false (by have:=HN.out;rwa [List.take_of_length_le (by rw [HL.out];exact Nat.le_refl _)] at this)],HB.out⟩
end
section
open Go.RowKit
def zb0 (R:Rw) (vs:List (Option Addr×Nat)):List Value:=vs.zipIdx.flatMap fun x=>(zaa x.2 (.slice x.1.1 (par R x.2).length x.1.2)).toList
theorem zod (R:Rw) (vs:List (Option Addr×Nat)) (v:Option Addr×Nat):zb0 R (vs++[v])=zb0 R vs++(zaa vs.length (.slice v.1 (par R vs.length).length v.2)).toList:=by
 simp [zb0,List.zipIdx_append]
theorem zrd {R:Rw} {vs:List (Option Addr×Nat)} {i j:Nat} {v:Option Addr×Nat} {u:Value} (hv:vs[i]? = some v) (hu:(zaa i (.slice v.1 (par R i).length v.2)).toList[j]? = some u):(zb0 R vs)[i*33+j]? = some u :=
 zaD (f:=fun x:(Option Addr×Nat)×Nat=>(zaa x.2 (.slice x.1.1 (par R x.2).length x.1.2)).toList) (C:=33) (fun x=>by rw [Array.length_toList,zc0]) vs.zipIdx i j (v,i) (by simp [List.getElem?_zipIdx,hv]) u hu
structure GrI (w:World) (B g:Nat) (R:Rw) (N:Nat) (A:Option Addr) (c:Nat) (vs:List (Option Addr×Nat)):Prop where
 graph:Blk w g 99 #[.slice A N c]
 gB:g<B
 len:vs.length=N
 rows:ze w B 33 A N (zb0 R vs)
 each:∀(i:Nat) v,vs[i]? = some v→ze w B 32 v.1 (par R i).length (idsV (par R i))∧(par R i).length≤v.2∧v.2≤maxLen
theorem GrI.below {w w':World} {B g N c:Nat} {R:Rw} {A:Option Addr} {vs:List (Option Addr×Nat)} (h:GrI w B g R N A c vs) (hb:Below B w w'):GrI w' B g R N A c vs :=
 ⟨h.graph.below hb h.gB,h.gB,h.len,h.rows.below hb,fun i v hv=>⟨(h.each i v hv).1.below hb,(h.each i v hv).2⟩⟩
theorem GrI.more {w:World} {B B' g N c:Nat} {R:Rw} {A:Option Addr} {vs:List (Option Addr×Nat)} (h:GrI w B g R N A c vs) (hB:B≤B'):GrI w B' g R N A c vs :=
 ⟨h.graph,Nat.lt_of_lt_of_le h.gB hB,h.len,h.rows.more hB,fun i v hv=>⟨(h.each i v hv).1.more hB,(h.each i v hv).2⟩⟩
theorem GrI.drew {w:World} {B g N c:Nat} {R:Rw} {A:Option Addr} {vs:List (Option Addr×Nat)} (h:GrI w B g R N A c vs):GrI w.drew B g R N A c vs:=h.below (Below.refl B w).drew
attribute [local go_sem ↓] za6
theorem znY (R:Rw) (N x g B:Nat) (A:Option Addr) (c:Nat) (vs:List (Option Addr×Nat)) (hN:N≤200) (hx:x<N) (w:World) (hB:B≤w.heap.size) (hg:GrI w B g R N A c vs) :Calls Tryz.prog 39 #[.pointer (some ⟨g,0,none⟩),idV (idN x)] w fun e w'=>∃v,vs[x]? = some v∧e = .returned (.tuple #[.slice v.1 (par R x).length v.2,.bool true])∧Below w.heap.size w w':=by
 obtain ⟨z,hz⟩:∃z,w.heap.size=z:=⟨_,rfl⟩;rw [hz];rw [hz] at hB;have HX:=zz (show Blk (w.alloc (.cells (idC (idN x)) 33)) z 33 (idC (idN x)) from hz▸Blk.new w 33 (idC (idN x)));have HB:=zz (show Below z w (w.alloc (.cells (idC (idN x)) 33)) from (Below.refl z w).alloc (by omega) _);have hz0:z≤(w.alloc (.cells (idC (idN x)) 33)).heap.size:=by simp;omega
 have HG:=zz hg;clear hg;go_enter Tryz.func39,Tryz.ntmps39
 go_wp2_with (first|(refine zu rfl rfl (cs:=idC (idN x)) rfl ?_))
 clear hz;generalize w.alloc (.cells (idC (idN x)) 33)=w1 at *
 go_loopg [6] N (fun kx s6 wr=>∃(k:Nat),s6 = .int .i64 k∧k≤x∧N-k≤kx∧Hid (Blk wr z 33 (idC (idN x)))∧Hid (Below z w wr)∧z≤wr.heap.size)
 case atStart=>exact ⟨0,rfl,Nat.zero_le _,Nat.le_refl _,HX,HB,hz0⟩
 case round =>
  clear HX HB hz0;obtain ⟨k,rfl,hkx,hkg,HX,HB,hzr⟩:=hrel;have hkN:k<N:=by omega
  have hkz:(k:Int)<(N:Int):=by omega
  have hgr:=HG.out.below (HB.out.mono hB);obtain ⟨v,hv⟩:∃v,vs[k]? = some v:=⟨_,List.getElem?_eq_getElem (by rw [HG.out.len];exact hkN)⟩;have d0:wr.cell? ⟨g,0,none⟩=some (.slice A N c):=(hgr.graph.cell 0).trans rfl;obtain ⟨gA,oA,rfl,hgA,hcA⟩:=hgr.rows.at0 (by omega) (by omega);have hnd:∀j u,(zaa k (.slice v.1 (par R k).length v.2)).toList[j]? = some u→wr.cell? ⟨gA,oA+(k*33+j),none⟩=some u:=fun j u hj=>hcA _ _ (zrd hv hj)
  have d1:(LdId (.pointer (some ⟨gA,oA+k*33,none⟩))).run Tryz.prog wr.drew = .ok (idV (idN k)) wr.drew:=zar wr.drew _ (idC (idN k)) Tryz.underlying33 rfl (by rw [zt];exact zas) (fun j u hj=>by
   rw [zD,Nat.add_assoc];refine hnd j u ?_;have hjl:j<(idL (idN k)).length:=by
    rcases Nat.lt_or_ge j (idL (idN k)).length with h|h
    · exact h
    · simp [idC,List.getElem?_eq_none h] at hj
   unfold zaa;rw [List.toList_toArray,List.getElem?_append_left hjl];simpa [idC] using hj)
  have d2:=LdId.blk HX.out.drew;have d3:wr.drew.cell? ⟨gA,oA+k*33+32,none⟩=some (.slice v.1 (par R k).length v.2):=by
   rw [Nat.add_assoc];exact hnd 32 _ (by simpa using zdN k (.slice v.1 (par R k).length v.2))
  have d4:wr.drew.cell? ⟨g,0,none⟩=some (.slice (some ⟨gA,oA,none⟩) N c):=d0;have E:∀W:World,(binOp .eql 33 (idV (idN k)) (idV (idN x))).run Tryz.prog W = .ok (.bool (decide (k=x))) W:=fun W=>by rw [zcz,zkG (by omega) (by omega)]
  have G:=fun (a b:Operand) (W:World)=>zdl .eql a b (idN k) (idN x) W;have HV:=zz hv;have HX2:=zz HX.out.drew;have HB2:=zz HB.out.drew;clear hnd hcA hv hgr;go_upto_region 4 with fail
  refine wp_region_still_tail 9 (by kernel_rfl) (by kernel_rfl) ?_;simp only [List.take_succ_cons,List.take_zero,List.drop_succ_cons,List.drop_zero];repeat (first|((with_reducible refine wpStill_step (fun K hK=>?_));go_simp;with_reducible refine hK _ ?_;clear hK K)|((with_reducible refine wpStill_skip ?_ ?_);(focus rfl)))
  (with_reducible refine wpStill_nil ?_);change wpList _ _ _ _ _ wr.drew
  by_cases hke:k=x
  · subst hke;have E2:∀W:World,(binOp .eql 33 (idV (idN k)) (idV (idN k))).run Tryz.prog W = .ok (.bool true) W:=fun W=>by rw [E];simp
    clear E
    go_wp2_with fail
    go_ret2
    exact ⟨v,HV.out,rfl,HB2.out⟩
  · rw [decide_eq_false hke] at E
    go_wp2_with fail
    go_roundg (N-(k+1))
    case measure=>omega
    case rel=>exact ⟨k+1,by go_num,by omega,Nat.le_refl _,HX2,HB2,hzr⟩
end
section
open Go.RowKit
attribute [local go_sem ↓] za6
theorem zrA (i j:Id) (w:World) :Calls Tryz.prog 82 #[idV i,idV j] w fun e w'=>(∃b,e = .returned (.bool b))∧Below w.heap.size w w':=by
 obtain ⟨z,hz⟩:∃z,w.heap.size=z:=⟨_,rfl⟩;rw [hz];have hz1:(w.alloc (.cells (idC i) 33)).heap.size=z+1:=by simp [hz]
 have HX:=zz (show Blk ((w.alloc (.cells (idC i) 33)).alloc (.cells (idC j) 33)) z 33 (idC i) from (hz▸Blk.new w 33 (idC i)).alloc _);have HY:=zz (show Blk ((w.alloc (.cells (idC i) 33)).alloc (.cells (idC j) 33)) (z+1) 33 (idC j) from hz1▸Blk.new (w.alloc (.cells (idC i) 33)) 33 (idC j));have HB:=zz (show Below z w ((w.alloc (.cells (idC i) 33)).alloc (.cells (idC j) 33)) from ((Below.refl z w).alloc (by omega) _).alloc (by omega) _);clear hz1;go_enter Tryz.func82,Tryz.ntmps82
 go_wp2_with (first|(refine zu rfl rfl (cs:=idC i) rfl ?_)|(refine zu rfl rfl (cs:=idC j) rfl ?_))
 clear hz;generalize (w.alloc (.cells (idC i) 33)).alloc (.cells (idC j) 33)=w1 at *
 go_loopg [5] 32 (fun kx s5 wr=>∃(k:Nat),s5 = .int .i64 k∧k≤32∧32-k≤kx∧Hid (Blk wr z 33 (idC i))∧Hid (Blk wr (z+1) 33 (idC j))∧Hid (Below z w wr))
 case atStart=>exact ⟨0,rfl,Nat.zero_le _,Nat.le_refl _,HX,HY,HB⟩
 case round =>
  clear HX HY HB;obtain ⟨k,rfl,hk,hkx,HX,HY,HB⟩:=hrel;by_cases hlt:k<32
  · have hltz:(k:Int)<32:=by omega
    obtain ⟨x,hx⟩:∃x,(idC i)[k]? = some (.int .u8 x):=⟨((i.1[k]'(by rw [i.2];exact hlt)).toNat:Int),by
     have:k<i.1.length:=by rw [i.2];exact hlt
     simp [idC,idL,bv,this]⟩
    obtain ⟨y,hy⟩:∃y,(idC j)[k]? = some (.int .u8 y):=⟨((j.1[k]'(by rw [j.2];exact hlt)).toNat:Int),by
     have:k<j.1.length:=by rw [j.2];exact hlt
     simp [idC,idL,bv,this]⟩
    have c1:=(HX.out.cell k).trans hx;have c2:=(HY.out.cell k).trans hy;have d1:=(HX.out.drew.cell k).trans hx;have d2:=(HY.out.drew.cell k).trans hy;have e1:=(HX.out.drew.drew.cell k).trans hx;have e2:=(HY.out.drew.drew.cell k).trans hy;have HX2:=zz HX.out.drew;have HY2:=zz HY.out.drew;have HB2:=zz HB.out.drew;clear hx hy;by_cases hxy:x=y
    · subst hxy;go_upto_region 4 with fail
      go_region_law (fail)
      all_goals
       go_wp2_with fail
       go_roundg (32-(k+1))
       case measure=>omega
       case rel=>exact ⟨k+1,by go_num,by omega,Nat.le_refl _,HX2,HY2,HB2⟩
    · have hxb:(x==y)=false:=beq_eq_false_iff_ne.2 hxy;go_upto_region 4 with fail
      go_region_law (fail)
      all_goals
       go_upto_region 5 with fail
       go_region_law (fail)
       all_goals
        go_wp2_with fail
        go_ret
        exact ⟨⟨_,rfl⟩,HB2.out.drew⟩
  · obtain rfl:k=32:=by omega
    go_wp2_with fail
    go_ret
    exact ⟨⟨_,rfl⟩,HB.out⟩
end
section
open Go.RowKit
def SlIw (n:Nat) (ps:Array (Nat×Value)):Sem Value:=Instr.buildSlice 36 n ps
theorem zhX (n:Nat) (ps:Array (Nat×Value)):Instr.buildSlice 36 n ps=SlIw n ps:=rfl
theorem zjB (i:Id) (w:World):(SlIw 1 #[(0,idV i)]).run Tryz.prog w = .ok (.slice (some ⟨w.heap.size,0,none⟩) 1 1) (w.alloc (.cells (idC i) 33)) :=
 zbC zaO zbh (zt _) (zt _) (by omega) w
theorem zeK (ls:List Nat):∀u∈idsV ls,u.oneCell'=true:=fun u hu=>by
 obtain ⟨i,_,hi⟩:=List.mem_flatMap.1 hu;exact za5 i u hi
theorem zlP (ls:List Nat) (k:Nat):(idsV ls).take (k*32)=idsV (ls.take k):=by
 unfold idsV
 induction ls generalizing k with
 | nil=>simp
 | cons x l ih =>
  cases k with
  | zero=>simp
  | succ k =>
   rw [List.take_succ_cons,List.map_cons,List.map_cons,List.flatMap_cons,List.flatMap_cons,←ih,Nat.add_mul,Nat.one_mul,Nat.add_comm,List.take_append,zae,Nat.add_sub_cancel_left,List.take_of_length_le (by rw [zae];omega)]
theorem zl8 (ls:List Nat) (k:Nat):(idsV ls).drop (k*32)=idsV (ls.drop k):=by
 unfold idsV
 induction ls generalizing k with
 | nil=>simp
 | cons x l ih =>
  cases k with
  | zero=>simp
  | succ k =>
   rw [List.drop_succ_cons,List.map_cons,List.flatMap_cons,←ih,Nat.add_mul,Nat.one_mul,Nat.add_comm,List.drop_append,zae,Nat.add_sub_cancel_left,List.drop_eq_nil_of_le (by rw [zae];omega),List.nil_append]
attribute [local go_sem ↓] za6 zhX zjB
theorem zmG (ls:List Nat) (x:Nat) (A:Option Addr) (c B:Nat) (w:World) (hB:B≤w.heap.size) (h1:ze w B 32 A ls.length (idsV ls)) (hl:ls.length≤1000) (hcap:ls.length≤c∧c≤maxLen) (hx:x<256) (hls:∀y∈ls,y<256) (hn:x∉ls) :Calls Tryz.prog 40 #[.slice A ls.length c,idV (idN x)] w fun e w'=>∃(k:Nat) (A':Option Addr) (c':Nat),e = .returned (.slice A' (ls.length+1) c')∧Own w' w.heap.size 33 32 A' (ls.length+1) c' (idsV (ls.take k++x::ls.drop k))∧Below w.heap.size w w':=by
 obtain ⟨z,hz⟩:∃z,w.heap.size=z:=⟨_,rfl⟩;rw [hz];rw [hz] at hB;obtain ⟨L,hL⟩:∃L,ls.length=L:=⟨_,rfl⟩;rw [hL] at h1 hl hcap ⊢;have HL:=zz hL;have H1:=zz h1;have HS:=zz (And.intro hls hn);have HX:=zz (show Blk (w.alloc (.cells (idC (idN x)) 33)) z 33 (idC (idN x)) from hz▸Blk.new w 33 (idC (idN x)));have HB:=zz (show Below z w (w.alloc (.cells (idC (idN x)) 33)) from (Below.refl z w).alloc (by omega) _);have hz0:z+1≤(w.alloc (.cells (idC (idN x)) 33)).heap.size:=by simp;omega
 obtain ⟨hc1,hc2⟩:=hcap;unfold maxLen at hc2;clear h1 hL hls hn;go_enter Tryz.func40,Tryz.ntmps40
 go_wp2_with (first|(refine zu rfl rfl (cs:=idC (idN x)) rfl ?_))
 clear hz;generalize w.alloc (.cells (idC (idN x)) 33)=w1 at *
 go_loopg [5] L (fun kx s5 wr=>∃(k:Nat),s5 = .int .i64 k∧k≤L∧L-k≤kx∧Hid (Blk wr z 33 (idC (idN x)))∧Hid (Below z w wr)∧z+1≤wr.heap.size)
 case atStart=>exact ⟨0,rfl,Nat.zero_le _,Nat.le_refl _,HX,HB,hz0⟩
 case round =>
  clear HX HB hz0;obtain ⟨k,rfl,hkL,hkx,HX,HB,hzr⟩:=hrel;go_upto_region 2 with fail
  go_cut [18] (fun s18 wx=>∃b:Bool,s18 = .bool b∧(b=true→k<L)∧Hid (Blk wx z 33 (idC (idN x)))∧Hid (Below z w wx)∧z+1≤wx.heap.size)
  case first =>
   by_cases hlt:k<L
   · obtain ⟨y,hy⟩:∃y,ls[k]? = some y:=⟨_,List.getElem?_eq_getElem (by rw [HL.out];exact hlt)⟩;have hltz:(k:Int)<(L:Int):=by omega
     obtain ⟨g1,o1,rfl,hg1,hc3⟩:=H1.out.at0 (by omega) (by omega);have d1:=LdId.blk HX.out.drew;have d2:=zgM (w:=wr.drew) (fun j u hj=>(HB.out.cell (p:=⟨g1,o1+j,none⟩) (by show g1<z;omega)).trans (hc3 j u hj)) hy;have HLS:=zz (zrA (idN y) (idN x) wr.drew);clear hc3 hy
     go_region_law (first|(go_simp;go_at_call 82;(with_reducible refine HLS.out.mono ?_);rintro _ w2 ⟨⟨b,rfl⟩,hb2⟩))
     all_goals
      go_wp2_with fail
      go_meet
      exact ⟨b,rfl,fun _=>hlt,zz (HX.out.drew.below hb2 HX.out.lt),zz (HB.out.drew.trans (hb2.mono (by show z≤wr.heap.size;omega))),Nat.le_trans hzr hb2.size⟩
   · obtain rfl:k=L:=by omega
     go_region
     all_goals
      go_wp2_with fail
      go_meet
      exact ⟨false,rfl,fun h=>(by cases h),zz HX.out.drew,zz HB.out.drew,hzr⟩
  case rest =>
   obtain ⟨b,rfl,hbk,HX,HB,hzr⟩:=hcut
   cases b with
   | true =>
    have hlt:=hbk rfl
    go_wp2_with fail
    go_roundg (L-(k+1))
    case measure=>omega
    case rel=>exact ⟨k+1,by go_num,by omega,Nat.le_refl _,HX,HB,hzr⟩
   | false =>
    generalize wc=w2 at *;clear hbk;go_upto_region 4 with fail
    go_cut [32] (fun s32 wx=>s32 = .bool false∧Hid (Blk wx z 33 (idC (idN x)))∧Hid (Below z w wx)∧z+1≤wx.heap.size)
    case first =>
     by_cases hlt:k<L
     · obtain ⟨y,hy⟩:∃y,ls[k]? = some y:=⟨_,List.getElem?_eq_getElem (by rw [HL.out];exact hlt)⟩;have hltz:(k:Int)<(L:Int):=by omega
       obtain ⟨g1,o1,rfl,hg1,hc3⟩:=H1.out.at0 (by omega) (by omega);have d1:=LdId.blk HX.out.drew;have d2:=zgM (w:=w2.drew) (fun j u hj=>(HB.out.cell (p:=⟨g1,o1+j,none⟩) (by show g1<z;omega)).trans (hc3 j u hj)) hy;have hyl:=List.mem_of_getElem? hy;have hne:y≠x:=fun e=>HS.out.2 (e▸hyl);have E:∀W:World,(binOp .eql 33 (idV (idN y)) (idV (idN x))).run Tryz.prog W = .ok (.bool false) W:=fun W=>by rw [zcz,zed (HS.out.1 y hyl) hx hne]
       have G:=fun (a b:Operand) (W:World)=>zdl .eql a b (idN y) (idN x) W;clear hc3 hy hyl;refine wp_region_still_tail 10 (by kernel_rfl) (by kernel_rfl) ?_;simp only [List.take_succ_cons,List.take_zero,List.drop_succ_cons,List.drop_zero];repeat (first|((with_reducible refine wpStill_step (fun K hK=>?_));go_simp;with_reducible refine hK _ ?_;clear hK K)|((with_reducible refine wpStill_skip ?_ ?_);(focus rfl)))
       (with_reducible refine wpStill_nil ?_);change wpList _ _ _ _ _ w2.drew
       go_wp2_with fail
       go_meet
       exact ⟨rfl,zz HX.out.drew,zz HB.out.drew,hzr⟩
     · obtain rfl:k=L:=by omega
       refine wp_region_still_tail 10 (by kernel_rfl) (by kernel_rfl) ?_;simp only [List.take_succ_cons,List.take_zero,List.drop_succ_cons,List.drop_zero];repeat (first|((with_reducible refine wpStill_step (fun K hK=>?_));go_simp;with_reducible refine hK _ ?_;clear hK K)|((with_reducible refine wpStill_skip ?_ ?_);(focus rfl)))
       (with_reducible refine wpStill_nil ?_);change wpList _ _ _ _ _ w2.drew
       go_wp2_with fail
       go_meet
       exact ⟨rfl,zz HX.out.drew,zz HB.out.drew,hzr⟩
    case rest =>
     obtain ⟨rfl,HX,HB,hzr⟩:=hcut;generalize wc=w3 at *;have hk1:(k:Int)≤(L:Int):=by omega
     have hk2:(k:Int)≤(c:Int):=by omega
     have hk3:(L:Int)≤(c:Int):=by omega
     have hra:=(H1.out.front hkL).below (HB.out.mono hB);have hrb:=(H1.out.cut hkL hc1);have hld:=LdId.blk HX.out;have HRA:=zz hra;have hzw:z≤w3.heap.size:=by omega
     go_upto_region 8 with (first
      | (at_builtin;refine zy rfl zaO rfl rfl (n:=0) (xs:=[]) (Own.nil _ (z+1) _ _) rfl HRA.out (fun u hu=>zeK _ u (List.mem_of_mem_take hu)) (by unfold maxLen;omega) (by omega) hzr ?_;intro A4 c4 w4 o4 k4;have O4:=zz o4;have K4:=zz k4;clear o4 k4))
     have hz4:z+1≤w4.heap.size:=Nat.le_trans hzr K4.out.size;have o4:=O4.out;rw [Nat.zero_add,List.nil_append,zlP] at o4;have O4:=zz o4;have hb4:Below (z+1) w3 w4:=K4.out.below (Nat.le_refl _) hzr (by simp);have hld:=LdId.blk (HX.out.below hb4 (Nat.lt_succ_self _));have HB4:=zz (HB.out.trans (hb4.mono (by omega)));have HW4:=zz (show Below z w (w4.alloc (.cells (idC (idN x)) 33)) from HB4.out.alloc (by omega) _);have hz5:z+1≤(w4.alloc (.cells (idC (idN x)) 33)).heap.size:=by simp;omega
     clear hra hrb o4 K4 hb4
     go_upto_region 9 with (first
      | (at_builtin;refine zy rfl zaO rfl rfl (n:=k) (xs:=idsV (ls.take k)) (O4.out.alloc _) rfl (m:=1) (ze.of_blk (n:=1) (size:=32) (xs:=idL (idN x)) (heap_alloc_new _ _) (by simp [idC]) (by rw [zae])) (za5 _) (by unfold maxLen;omega) (by omega) hz5 ?_;intro A5 c5 w5 o5 k5;have O5:=zz o5;have HB5:=zz (HW4.out.trans (k5.below (by omega) (by omega) (by simp)));have hz6:=Nat.le_trans hz5 k5.size;clear o5 k5))
     have hrb:=((H1.out.cut hkL hc1).below (HB5.out.mono hB));have HRB:=zz hrb;have hkc:L-k+(k+1)=L+1:=by omega
     clear hrb
     go_wp2_with (first
      | (at_builtin;refine zy rfl zaO rfl rfl (n:=k+1) (xs:=idsV (ls.take k)++idL (idN x)) O5.out rfl (m:=L-k) HRB.out (fun u hu=>zeK _ u (List.mem_of_mem_drop hu)) (by unfold maxLen;omega) (by omega) hz6 ?_;intro A6 c6 w6 o6 k6;have O6:=zz o6;have HB6:=zz (HB5.out.trans (k6.below (by omega) (by omega) (by simp)));clear o6 k6))
     all_goals
      go_ret
      have o6:=O6.out;have e1:k+1+(L-k)=L+1:=by omega
      rw [e1,zl8,List.append_assoc,show idL (idN x)++idsV (ls.drop k)=idsV (x::ls.drop k) from rfl,show idsV (ls.take k)++idsV (x::ls.drop k)=idsV (ls.take k++x::ls.drop k) from by simp [idsV]] at o6;exact ⟨k,A6,c6,by show Ending.returned (.slice A6 (k+1+(L-k)) c6)=_;rw [e1],o6.mono (by omega),HB6.out⟩
end
section
open Go.RowKit
section
variable {P:Program}
theorem Own.farOld {w:World} {b:Nat} {e:TypeId} {size:Nat} {A:Option Addr} {n c:Nat} {xs:List Value} (h:Own w b e size A n c xs) {p:Nat} (hp:p<b):FarA A p:=fun a ha=>by
 subst ha;have:=(h.blockAt a.block (by simp [Value.ownBlock])).1;omega
theorem zqH {w:World} {t e ty:TypeId} {size bytes:Nat} (H:Elem P t e size bytes) {base:Nat} {A:Option Addr} {n c:Nat} {xs:List Value} (hown:OwnQ w base e size A n c xs) {B:Nat} {S:Option Addr} {m d:Nat} {news:List Value} (hr:ze w B size S m news) (h1:∀u∈news,u.oneCell'=true) (h63:n+m≤maxLen) (hbytes:(n+m)*bytes≤140737488355328) (hbase:base≤w.heap.size) :∃A' c' w',(Builtin.append_ #[t,t] ty #[.slice A n c,.slice S m d]).run P w = .ok (.slice A' (n+m) c') w'∧OwnQ w' base e size A' (n+m) c' (xs++news)∧Kept base [e] [] w w'∧∀p,p<w.heap.size→FarA A p→w'.heap[p]? = w.heap[p]?∧FarA A' p:=by
 have H0:=H;obtain ⟨ht,⟨i,z,hi,hz,hsize,hby,hzs⟩,hpos⟩:=H;have hl:=hown.1;have hnc:=hown.2.1
 rcases hown.2.2 with ⟨rfl,rfl⟩|⟨g,o,cur,rfl,hb,hg,hc,hx⟩
 · obtain rfl:n=0:=by omega
   obtain rfl:xs=[]:=List.eq_nil_of_length_eq_zero (by omega);obtain ⟨A',c',w',h2,h3,h4,h5⟩:=zjU (ty:=ty) (d:=d) H0 (Own.nil w base e size) hr h1 h63 hbytes hbase;exact ⟨A',c',w',h2,OwnQ.of h3,h4,h5⟩
 · rcases S with _|ad
   · have hm:m=0:=by
      rcases Nat.eq_zero_or_pos m with h0|h0
      · exact h0
      · obtain ⟨ad,h,_⟩:=hr.2 h0;cases h
     subst hm;have hn:news=[]:=List.eq_nil_of_length_eq_zero (by simpa using hr.1);subst hn;refine ⟨some ⟨g,o,none⟩,c,w,?_,by simpa using hown,Kept.refl _ _ _ _,fun p _ h=>⟨rfl,h⟩⟩;simp [Builtin.append_,run_underlying ht,sizeOf,typeInfo,hi,Builtin.lenOf,Builtin.firstCells,hnc,storeCells]
   · have hcells:∀j u,news[j]? = some u→w.cell? (ad.add j)=some u:=by
      intro j u hu
      rcases Nat.eq_zero_or_pos m with h0|h0
      · subst h0;have hn:news=[]:=List.eq_nil_of_length_eq_zero (by simpa using hr.1);subst hn;simp at hu
      · obtain ⟨ad',h,_,hc⟩:=hr.2 h0;injection h with h;subst h;exact hc j u hu
     have hml:=hr.1;have hll:(xs++news).length=(n+m)*size:=by rw [List.length_append,hl,hml,Nat.add_mul]
     by_cases hroom:n+m≤c
     · have hfit:(n+m)*size≤c*size:=Nat.mul_le_mul_right _ hroom;rw [Nat.add_mul] at hfit;have hrun:=zo8 (P:=P) w t ty e i ht hi g o n c cur hg ad m d news (by rw [hsize];exact hml) hcells h1 hroom (by rw [hsize,hml];omega);rw [hsize] at hrun
       refine ⟨_,_,_,hrun,⟨hll,hroom,.inr ⟨g,o,_,rfl,hb,setRow_heap w g cur _ e _ hg,?_,?_⟩⟩,Keep.grown (Keep.refl _ _) (row:=some g) ⟨rfl,rfl,rfl,by simp,fun k _ hk=>setRow_other w g k _ (fun e=>hk (by simp [e]))⟩ (fun k hk=>by injection hk with hk;subst hk;exact .inl (.inr ⟨hb,e,by simp,cur,_,hg⟩)),fun p _ hf=>⟨setRow_other w g p _ (fun q=>hf _ rfl q.symm),fun a ha=>hf a ha⟩⟩
       · simp only [List.size_toArray,List.length_append,List.length_take,List.length_drop,Array.length_toList]
         omega
       · intro j u hj;have hcl:cur.toList.length=cur.size:=Array.length_toList;rw [List.getElem?_toArray,List.append_assoc];by_cases hjn:j<n*size
         · rw [List.getElem?_append_left (by rw [List.length_take,hcl];omega),List.getElem?_take,if_pos (by omega)];rw [List.getElem?_append_left (by omega)] at hj;have:=hx j u hj;simpa using this
         · have hjl:j<(xs++news).length:=(List.getElem?_eq_some_iff.1 hj).1;rw [hll,Nat.add_mul] at hjl;have hjs:o+j-(o+n*size)=j-n*size:=by omega
           rw [List.getElem?_append_right (by omega),hl] at hj;rw [List.getElem?_append_right (by rw [List.length_take,hcl];omega),List.length_take,hcl,Nat.min_eq_left (by omega),hjs,List.getElem?_append_left (by omega)];exact hj
     · obtain ⟨v',w',hrun,h2,h3⟩:=run_append_arg_grows (P:=P) w t ty e i z size bytes ht hi hz hsize hby hzs hpos ⟨g,o,none⟩ n c xs hl (fun j u hj=>by rw [zD,cell_of_row w g (o+j) cur e (0,0) hg];exact hx j u hj) ad m d news hml hcells (by omega) h63 hbytes;obtain ⟨A',c',rfl⟩:=zb5 h2;exact ⟨A',c',w',hrun,OwnQ.of (Own.mono h2 hbase),Keep.grown (Keep.refl _ _) h3 (fun k hk=>by cases hk),fun p hp _=>⟨h3.block p hp (fun e=>by cases e),Own.farOld h2 hp⟩⟩
theorem zsI {ops:Array Oper} {rest:List Oper} {o:Oper} {a:Act} {w:World} {Q:Exit→Act→World→Prop} (hgd:o.guard=none) {s x:Operand} {t e:TypeId} {size bytes:Nat} (H:Elem P t e size bytes) (ho:o.op = .call { callee := .builtin .append,args:=#[s,x],argTypes:=#[t,t] }) {base:Nat} {A:Option Addr} {n c:Nat} {xs:List Value} (hs:a.eval s = .slice A n c) (hown:OwnQ w base e size A n c xs) {B:Nat} {S:Option Addr} {m d:Nat} {news:List Value} (hx:a.eval x = .slice S m d) (hr:ze w B size S m news) (h1:∀u∈news,u.oneCell'=true) (h63:n+m≤maxLen) (hbytes:(n+m)*bytes≤140737488355328) (hbase:base≤w.heap.size) (h:∀A' c' w',OwnQ w' base e size A' (n+m) c' (xs++news)→Kept base [e] [] w w'→(∀p,p<w.heap.size→FarA A p→w'.heap[p]? = w.heap[p]?∧FarA A' p)→wpList P ops Q rest (a.put o.dst (.slice A' (n+m) c')) w'):wpList P ops Q (o::rest) a w:=by
 obtain ⟨A',c',w',hrun,h2,h3,h4⟩:=zqH (ty:=o.type) (d:=d) H hown hr h1 h63 hbytes hbase;exact wpList_plain hgd fun _ hK=>zb9 ho hs hx hrun (hK _ _ (h A' c' w' h2 h3 h4))
end
theorem Vis.perm {R:Rw} {start out out' row:List Nat} (h:Vis R start out row) (hp:out'.Perm out):Vis R start out' row where
 nd:=hp.nodup_iff.2 h.nd
 outL x hx:=h.outL x (hp.mem_iff.1 hx)
 outR x hx:=h.outR x (hp.mem_iff.1 hx)
 rowR:=h.rowR
 all s hs:=(h.all s hs).imp hp.mem_iff.2 id
 up x hx p hq:=(h.up x (hp.mem_iff.1 hx) p hq).imp hp.mem_iff.2 id
attribute [local go_sem ↓] za6
theorem zim (R:Rw) (hw:WfR R) (N g B:Nat) (A:Option Addr) (c:Nat) (vs:List (Option Addr×Nat)) (hRN:R.length=N) (hN:N≤200) (hp4:∀n,(par R n).length≤4) (fl:List Nat) (F:Option Addr) (cF:Nat) (hfl:∀y∈fl,y<N) (hfn:fl.length≤100) (w:World) (hB:B≤w.heap.size) (hg:GrI w B g R N A c vs) (hf:ze w B 32 F fl.length (idsV fl)) :Calls Tryz.prog 28 #[.pointer (some ⟨g,0,none⟩),.slice F fl.length cF] w fun e w'=>∃(out:List Nat) (A':Option Addr) (c':Nat),e = .returned (.tuple #[.slice A' out.length c',.int .i64 0])∧ze w' w'.heap.size 32 A' out.length (idsV out)∧out.length≤N∧(∀m,m∈out↔∃s∈fl,Rch R s m)∧Below w.heap.size w w':=by
 obtain ⟨z,hz⟩:∃z,w.heap.size=z:=⟨_,rfl⟩;rw [hz];rw [hz] at hB;have hfb:=hf.below ((Below.refl B w).alloc (by omega) (.cells #[] 33));have HF0:=zz (show Own (w.alloc (.cells #[] 33)) z 33 32 (some ⟨z,0,none⟩) 0 0 [] from Own.fresh0 (hz▸heap_alloc_new _ _) (Nat.le_refl _));have hz1:z≤(w.alloc (.cells #[] 33)).heap.size:=by simp;omega
 have HB0:=zz ((Below.refl z w).alloc (by omega) (.cells #[] 33));obtain ⟨L,hL⟩:∃L,fl.length=L:=⟨_,rfl⟩;rw [hL] at hfb hfn;rw [hL];have HFB:=zz hfb;have HG:=zz hg;have HV0:=zz (Vis.begin R fl);have HFL:=zz (And.intro hfl hRN);clear hf hfb hg hfl hRN;go_enter Tryz.func28,Tryz.ntmps28
 go_wp2_with (first|(at_builtin;refine zy rfl zaO rfl rfl (n:=0) (xs:=[]) HF0.out rfl HFB.out (zeK _) (by unfold maxLen;omega) (by omega) hz1 ?_;intro A1 c1 w1 o1 k1;have O1:=zz o1;have HB1:=zz (HB0.out.trans (k1.below (Nat.le_refl _) hz1 (by simp)));clear o1 k1))
 have HQ:=zz (OwnQ.of O1.out);rw [Nat.zero_add,List.nil_append] at HQ;have HZ:=zz hz;clear O1 HF0 HFB HB0 hz1 hz
 go_loopg [6,7] (5*N+L) (fun kx s6 s7 wr=>∃(out row:List Nat) (k n:Nat) (As A1:Option Addr) (cs c1:Nat),s6 = .slice As k cs∧s7 = .slice A1 n c1∧out.length=k∧row.length=n∧Hid (Own wr z 33 32 As k cs (idsV out))∧Hid (OwnQ wr z 33 32 A1 n c1 (idsV row))∧Hid (∀a,As=some a→FarA A1 a.block)∧Hid (Vis R fl out row)∧5*(N-k)+n≤kx∧5*(N-k)+n≤2000∧Hid (Below z w wr))
 case atStart=>exact ⟨[],fl,0,L,none,A1,0,c1,rfl,rfl,rfl,hL,zz (Own.nil _ _ _ _),HQ,zz (fun _ h=>by cases h),HV0,by omega,by omega,HB1⟩
 case round =>
  clear HQ HV0 HB1;obtain ⟨out,row,k,n,As,A1,cs,c1,rfl,rfl,hok,hrn,HS,HQ,HFA,HV,hkx,hk2,HB⟩:=hrel;have hzr:z≤wr.heap.size:=by have:=HB.out.size;have:=HZ.out;omega
  cases row with
  | nil =>
   obtain rfl:n=0:=by simpa using hrn.symm
   go_wp2_with fail
   go_ret2
   subst hok
   exact ⟨out,As,cs,rfl,HS.out.reads,by have:=HV.out.len;rw [HFL.out.2] at this;exact this,HV.out.done,HB.out⟩
  | cons x row =>
   obtain ⟨m,rfl⟩:∃m,n=m+1:=⟨n-1,by simp at hrn;omega⟩;have hrm:row.length=m:=by simpa using hrn
   obtain ⟨g2,o2,c',rfl,rfl,hzg,hg2,hcell,hq1,hq2⟩:=(show OwnQ wr z 33 32 A1 (m+1) c1 (idL (idN x)++idsV row) from HQ.out).pop (zae _)
   have hld:(LdId (.pointer (some ⟨g2,o2,none⟩))).run Tryz.prog wr = .ok (idV (idN x)) wr:=zar wr _ (idC (idN x)) Tryz.underlying33 rfl (by rw [zt];exact zas) (fun j v hj=>by
    rw [zD];exact hcell j v (by simpa [idC] using hj))
   have hxN:x<N:=by have:=HV.out.row_lt hw (fun s h=>by rw [HFL.out.2];exact HFL.out.1 s h) (x:=x) List.mem_cons_self;rw [HFL.out.2] at this;exact this
   have hkN:k≤N:=by have:=HV.out.len;rw [HFL.out.2] at this;omega
   have ho256:∀y∈out,y<256:=fun y hy=>by have:=HV.out.outL y hy;have:=HFL.out.2;omega
   have HQ1:=zz hq1;have HQ2:=zz hq2;have hpos:(0:Int)<(m:Int)+1:=by omega
   have hcm:=hq1.2.1;clear hq1 hq2 hcell HQ;have hfar:∀a,As=some a→a.block≠g2:=fun a ha e=>HFA.out a ha _ rfl e.symm;have HFR:=zz hfar;clear hfar HFA;go_upto_region 5 with (first|(refine zbV rfl rfl (zbh _) ?_)|(refine zG rfl rfl (vs:=idC (idN x)) rfl rfl (Blk.new _ _ _) (by rw [zt,zt]) (by rw [zt];exact zas) (za5 _) ?_;intro w3 hb3 hk3 hs3))
   have b3:Below wr.heap.size wr w3:=((Below.refl _ wr).alloc (Nat.le_refl _) _).trans (hk3.below (by simp) (by unfold Only;intro i hi h;omega));have hz3:wr.heap.size≤w3.heap.size:=b3.size;have HS3:=zz (HS.out.kept (Kept.ofBelow (base:=0) (E:=[]) (G:=[]) b3) (by simp) (by simp));have HQ3:=zz (HQ1.out.kept (Kept.ofBelow (base:=0) (E:=[]) (G:=[]) b3) (by simp) (by simp));have HQ4:=zz (fun h0=>(HQ2.out h0).kept (Kept.ofBelow (base:=0) (E:=[]) (G:=[]) b3) (by simp) (by simp));have HX3:=zz hb3;have HB3:=zz (HB.out.trans (b3.mono hzr));have hlx:=LdId.blk hb3;clear hld HS HQ1 HQ2 b3 hb3 hk3 hs3 HB;have HHS:=zz (by have:=ziP out x As cs w3.heap.size w3 (Nat.le_refl _) (by rw [hok];exact HS3.out.reads) (by omega) (by omega) ho256;rwa [hok] at this);obtain ⟨o3,HQM,HO3⟩:∃o3,Hid (OwnQ w3 z 33 32 (some ⟨g2,o3,none⟩) m c' (idsV row))∧Hid ((if c'=0 then some (⟨g2,o2,none⟩:Addr) else some ⟨g2,o2+32,none⟩)=some ⟨g2,o3,none⟩):=by
    by_cases h0:c'=0
    · exact ⟨o2,zz (HQ4.out h0),zz (by rw [if_pos h0])⟩
    · exact ⟨o2+32,HQ3,zz (by rw [if_neg h0])⟩
   clear HQ3 HQ4;go_upto_region 6 with fail
   rw [HO3.out];clear HO3;by_cases hxo:x∈out
   · have HV2:=zz (HV.out.skip (row':=row) hxo (fun y hy=>(List.mem_cons.1 hy)) (fun y hy=>List.mem_cons_of_mem _ hy));rw [decide_eq_true hxo] at HHS
     go_wp2_with (go_at_call 29;(with_reducible refine HHS.out.mono ?_);rintro _ w4 ⟨rfl,hb4⟩;have HB4:=zz hb4;clear hb4)
     have k4:=Kept.ofBelow (base:=0) (E:=[]) (G:=[]) HB4.out;have HS4:=zz (HS3.out.kept k4 (by simp) (by simp));have HQ4:=zz (HQM.out.kept k4 (by simp) (by simp));have HB5:=zz (HB3.out.trans (HB4.out.mono (by omega)));have HF4:=zz (show ∀a,As=some a→FarA (some ⟨g2,o3,none⟩) a.block from fun a ha=>FarA.some_ (fun e=>HFR.out a ha e.symm));clear k4 HS3 HQM HB3 HB4 HHS HFR
     go_roundg (5*(N-k)+m)
     case measure=>omega
     case rel=>exact ⟨out,row,k,m,As,some ⟨g2,o3,none⟩,cs,c',rfl,rfl,hok,hrm,HS4,HQ4,HF4,HV2,Nat.le_refl _,by omega,HB5⟩
   · rw [decide_eq_false hxo] at HHS;have HV2:=zz (HV.out.meet (row':=row++par R x) hxo List.mem_cons_self (by rw [HFL.out.2];exact hxN) (fun y hy=>(List.mem_cons.1 hy).imp id (fun h=>List.mem_append.2 (.inl h))) (fun p hp=>List.mem_append.2 (.inr hp)) (fun y hy=>(List.mem_append.1 hy).imp (fun h=>List.mem_cons_of_mem _ h) id));have hkl:k<N:=by have:=HV.out.len_lt hxo (by rw [HFL.out.2];exact hxN);rw [HFL.out.2] at this;omega
     have HGP:=zz (fun W (hW:Below w3.heap.size w3 W)=>znY R N x g B A c vs hN hxN W (by have:=hW.size;omega) (HG.out.below ((HB3.out.mono hB).trans (hW.mono (by omega)))));have HWT:=zz (fun W (hW:Below w3.heap.size w3 W)=>zmG out x As cs w3.heap.size W hW.size ((HS3.out.reads).below hW |> fun h=>by rw [hok];exact h) (by omega) (by rw [hok];exact HS3.out.cap_le) (by omega) ho256 hxo)
     go_upto_region 10 with (first
      | (go_at_call 29;(with_reducible refine HHS.out.mono ?_);rintro _ w4 ⟨rfl,hb4⟩;have HB4:=zz hb4;have hlx4:=LdId.blk (HX3.out.below hb4 HX3.out.lt);clear hb4)
      | (go_at_call 39;(with_reducible refine (HGP.out w4 HB4.out).mono ?_);rintro _ w5 ⟨v,hv5,rfl,hb5⟩;have HV5:=zz hv5;have HB5:=zz (HB4.out.trans (hb5.mono HB4.out.size));have hlx5:=LdId.blk (HX3.out.below HB5.out HX3.out.lt);clear hb5 hv5))
     have hz5:w3.heap.size≤w5.heap.size:=HB5.out.size;have HGV:=zz ((HG.out.below (HB3.out.mono hB)).each x v HV5.out);have HWW:=zz (HWT.out w5 HB5.out);rw [hok] at HWW;clear HWT HGP HHS HG HV hlx hlx4;have hk5:¬(5000:Int)<(k:Int)+1:=by omega
     go_upto_region 13 with (go_at_call 40;(with_reducible refine HWW.out.mono ?_);rintro _ w6 ⟨i6,A6,c6,rfl,ho6,hb6⟩;have HO6:=zz ho6;have HB6:=zz hb6;clear ho6 hb6)
     have h36:=HB5.out.trans (HB6.out.mono hz5);have HQ6:=zz (HQM.out.kept (Kept.ofBelow (base:=0) (E:=[]) (G:=[]) h36) (by simp) (by simp));have HP6:=zz (HGV.out.1.below (h36.mono (by omega)));have h6s:w5.heap.size≤w6.heap.size:=HB6.out.size;have hz6:z≤w6.heap.size:=by omega
     have hp:=hp4 x;clear HQM HGV h36 HFR
     go_wp2_with (at_builtin;refine zsI rfl zaO rfl rfl HQ6.out rfl HP6.out (zeK _) (by unfold maxLen;omega) (by omega) hz6 ?_;intro A7 c7 w7 o7 k7 f7;have O7:=zz o7;have K7:=zz k7;have F7:=zz f7;clear o7 k7 f7)
     have hb7:Below z w w7:=(HB3.out.trans (HB5.out.mono (by omega))).trans ((HB6.out.mono (by omega)).trans (K7.out.below (Nat.le_refl _) hz6 (by simp)));have hbk:∀a,A6=some a→w7.heap[a.block]? = w6.heap[a.block]?∧FarA A7 a.block:=fun a ha=>by
      subst ha;obtain ⟨q1,q2,_⟩:=HO6.out.blockAt a.block (by simp [Value.ownBlock]);exact F7.out a.block q2 (FarA.some_ (by omega))
     have hs7:=(HO6.out.sameAt (fun a ha=>(hbk a ha).1)).mono (show z≤w5.heap.size by omega);have HS7:=zz hs7;have HF7:=zz (fun a ha=>(hbk a ha).2);have hq7:=O7.out;rw [show idsV row++idsV (par R x)=idsV (row++par R x) from by simp [idsV]] at hq7;have HQ7:=zz hq7;have hpm:(out.take i6++x::out.drop i6).Perm (out++[x]):=(List.perm_middle.trans (by rw [List.take_append_drop])).trans (List.perm_append_singleton x out).symm;have HV7:=zz (HV2.out.perm hpm);have hlen7:(out.take i6++x::out.drop i6).length=k+1:=by rw [hpm.length_eq,List.length_append,hok];rfl
     have HB7:=zz hb7;clear hbk hs7 hq7 hb7 HO6 HB6 HQ6 HP6 K7 F7 O7 HB3 HB5 HV2 hpm HS3 HX3 HWW hlx5
     go_roundg (5*(N-(k+1))+(m+(par R x).length))
     case measure=>omega
     case rel=>exact ⟨out.take i6++x::out.drop i6,row++par R x,k+1,m+(par R x).length,A6,A7,c6,c7,rfl,rfl,hlen7,by rw [List.length_append,hrm],HS7,HQ7,HF7,HV7,Nat.le_refl _,by omega,HB7⟩
end
section
open Go.RowKit
theorem zpp (i j:Id) (w:World):(SlIw 2 #[(0,idV i),(1,idV j)]).run Tryz.prog w = .ok (.slice (some ⟨w.heap.size,0,none⟩) 2 2) (w.alloc (.cells (idC i++idC j) 33)) :=
 zgF zaO zbh (zt _) (zt _) (zt _) (by omega) w
theorem ze.of_alloc {w:World} {cs:Array Value} {t:TypeId} {size n:Nat} {xs:List Value} (hx:cs.toList=xs) (hl:xs.length=n*size):ze (w.alloc (.cells cs t)) (w.heap.size+1) size (some ⟨w.heap.size,0,none⟩) n xs :=
 ze.of_blk (heap_alloc_new w (.cells cs t)) hx hl
attribute [local go_sem ↓] za6 zhX zjB zpp
theorem zso (R:Rw) (hw:WfR R) (N g B:Nat) (A:Option Addr) (c:Nat) (vs:List (Option Addr×Nat)) (hRN:R.length=N) (hN:N≤200) (hp4:∀n,(par R n).length≤4) (x y:Nat) (hx:x<N) (hy:y<N) (w:World) (hB:B≤w.heap.size) (hg:GrI w B g R N A c vs) :Calls Tryz.prog 16 #[.pointer (some ⟨g,0,none⟩),idV (idN x),idV (idN y)] w fun e w'=>∃u:Bool,e = .returned (.tuple #[.bool u,.int .i64 0])∧(u=true↔Rch R y x)∧Below w.heap.size w w':=by
 obtain ⟨z,hz⟩:∃z,w.heap.size=z:=⟨_,rfl⟩;rw [hz];rw [hz] at hB;have hz1:(w.alloc (.cells (idC (idN x)) 33)).heap.size=z+1:=by simp [hz]
 have HX:=zz (show Blk ((w.alloc (.cells (idC (idN x)) 33)).alloc (.cells (idC (idN y)) 33)) z 33 (idC (idN x)) from (hz▸Blk.new w 33 (idC (idN x))).alloc _);have HY:=zz (show Blk ((w.alloc (.cells (idC (idN x)) 33)).alloc (.cells (idC (idN y)) 33)) (z+1) 33 (idC (idN y)) from hz1▸Blk.new (w.alloc (.cells (idC (idN x)) 33)) 33 (idC (idN y)));have HB:=zz (show Below z w ((w.alloc (.cells (idC (idN x)) 33)).alloc (.cells (idC (idN y)) 33)) from ((Below.refl z w).alloc (by omega) _).alloc (by omega) _);have hz2:((w.alloc (.cells (idC (idN x)) 33)).alloc (.cells (idC (idN y)) 33)).heap.size=z+2:=by simp [hz]
 have HG:=zz hg;clear hz1 hg;go_enter Tryz.func16,Tryz.ntmps16
 go_upto_region 1 with (first|(refine zu rfl rfl (cs:=idC (idN x)) rfl ?_)|(refine zu rfl rfl (cs:=idC (idN y)) rfl ?_))
 clear hz;generalize (w.alloc (.cells (idC (idN x)) 33)).alloc (.cells (idC (idN y)) 33)=w1 at *;have d1:=LdId.blk HX.out;have d2:=LdId.blk HY.out;have HU:=zz (zim R hw N g (w1.heap.size+1) A c vs hRN hN hp4 [x,y] (some ⟨w1.heap.size,0,none⟩) 2 (fun i hi=>by simp at hi;rcases hi with rfl|rfl <;> assumption) (by simp) (w1.alloc (.cells (idC (idN x)++idC (idN y)) 33)) (by simp) ((HG.out.below ((HB.out.mono hB).alloc (by omega) _)).more (by omega)) (ze.of_alloc (by simp [idsV,idC]) (by simp [idsV,zae])));have hn1:(w1.alloc (.cells (idC (idN x)++idC (idN y)) 33)).heap.size=w1.heap.size+1:=by simp
 rw [hn1,hz2,show [x,y].length=2 from rfl] at HU;have HB2:=zz ((Below.refl w1.heap.size w1).alloc (Nat.le_refl _) (.cells (idC (idN x)++idC (idN y)) 33));go_upto_region 4 with (go_at_call 28;(with_reducible refine HU.out.mono ?_);rintro _ w2 ⟨out2,A2,c2,rfl,hr2,hl2,hm2,hb2⟩;have HB3:=zz (HB2.out.trans (hb2.mono (by rw [hz2];omega)));clear hr2 hl2 hm2 hb2)
 clear HU HB2 hn1;have hs2:w1.heap.size≤w2.heap.size:=HB3.out.size;have hx2:=HX.out.below HB3.out HX.out.lt;have hy2:=HY.out.below HB3.out HY.out.lt;have HX2:=zz hx2;have d3:=LdId.blk hy2;have HB4:=zz (HB.out.trans (HB3.out.mono (by omega)));have HU:=zz (zim R hw N g (w2.heap.size+1) A c vs hRN hN hp4 [y] (some ⟨w2.heap.size,0,none⟩) 1 (fun i hi=>by simp at hi;rcases hi with rfl;assumption) (by simp) (w2.alloc (.cells (idC (idN y)) 33)) (by simp) ((HG.out.below ((HB4.out.mono hB).alloc (by omega) _)).more (by omega)) (ze.of_alloc (by simp [idsV,idC]) (by simp [idsV,zae])));have hn1:(w2.alloc (.cells (idC (idN y)) 33)).heap.size=w2.heap.size+1:=by simp
 rw [hn1,show [y].length=1 from rfl] at HU;have HB5:=zz ((Below.refl w2.heap.size w2).alloc (Nat.le_refl _) (.cells (idC (idN y)) 33));clear d1 d2 HX HY HB HB3 hx2 hy2;go_upto_region 5 with (go_at_call 28;(with_reducible refine HU.out.mono ?_);rintro _ w3 ⟨out3,A3,c3,rfl,hr3,hl3,hm3,hb3⟩;have HR3:=zz hr3;have HM3:=zz hm3;have HB6:=zz (HB5.out.trans (hb3.mono (by omega)));clear hr3 hm3 hb3)
 have hs3:w2.heap.size≤w3.heap.size:=HB6.out.size;have hl9:∀m∈out3,m<256:=fun m hm=>by
  obtain ⟨s,h1,h2⟩:=(HM3.out m).1 hm;simp at h1;subst h1;have:=h2.le hw;omega
 have d4:=LdId.blk (HX2.out.below HB6.out HX2.out.lt);have HH:=zz (ziP out3 x A3 c3 w3.heap.size w3 (Nat.le_refl _) HR3.out (by omega) (by omega) hl9);have HB7:=zz (HB4.out.trans (HB6.out.mono (by omega)));clear HU HB5 d3
 go_wp2_with (go_at_call 29;(with_reducible refine HH.out.mono ?_);rintro _ w4 ⟨rfl,hb4⟩;have HB8:=zz (HB7.out.trans (hb4.mono (by omega)));clear hb4)
 go_ret2
 refine ⟨_,rfl,?_,HB8.out⟩;rw [decide_eq_true_iff,HM3.out];constructor
 · rintro ⟨s,h1,h2⟩;simp at h1;subst h1;exact h2
 · exact fun h=>⟨y,by simp,h⟩
end
end Go.Proofs.YtmkmbbjgepcioaaGreatDoor
