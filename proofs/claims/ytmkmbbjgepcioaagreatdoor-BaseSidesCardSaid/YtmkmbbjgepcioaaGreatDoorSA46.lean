/- Contract of graph.Bases. No statement of the seat is proved here. -/
import Derived.Test.YtmkmbbjgepcioaaGreatDoorSAHq
import Derived.Test.YtmkmbbjgepcioaaGreatDoorSA20
import Derived.Test.YtmkmbbjgepcioaaGreatDoorSAZw
import Derived.Test.YtmkmbbjgepcioaaGreatDoorSADb
import Derived.Shelf.SlIter.Collect
import Derived.Lib.BytesEntry
import Derived.Test.YtmkmbbjgepcioaaGreatDoorSA39
import Derived.Test.YtmkmbbjgepcioaaGreatDoorSA29
namespace Go.Proofs.YtmkmbbjgepcioaaGreatDoor
set_option maxHeartbeats 4000000
set_option maxRecDepth 100000
section
open Go.RowKit Go.Maps Go.Sort Go.Shelf
theorem ziV (l:List Id):∀v∈l.flatMap idL,v.oneCell'=true:=by
 intro v hv;obtain ⟨s,_,hs⟩:=List.mem_flatMap.1 hv;exact zbq s v hs
structure ComeI (D0:DataW Value) (left:Lit→Bool) (ss:List Id):Prop where
 nd:ss.Nodup
 gone:∀s∈ss,left (keyI s)=false
 has_:∀s∈ss,has D0 (keyI s)=true
 all:∀s,has D0 (keyI s)=true→left (keyI s)=false→s∈ss
theorem ComeI.start (D0:DataW Value):ComeI D0 (has D0) []:=⟨List.nodup_nil,fun _ h=>(by cases h),fun _ h=>(by cases h),fun s h1 h2=>(by rw [h1] at h2;cases h2)⟩
theorem ComeI.step {D0:DataW Value} {left:Lit→Bool} {ss:List Id} (h:ComeI D0 left ss) {s:Id} (hl:left (keyI s)=true) (hh:has D0 (keyI s)=true):ComeI D0 (fun z=>left z&&!z.sameKey (keyI s)) (ss++[s]) where
 nd:=by
  rw [List.nodup_append];refine ⟨h.nd,by simp,fun a ha b hb e=>?_⟩;rw [List.mem_singleton] at hb;subst hb e;have:=h.gone _ ha;rw [hl] at this;cases this
 gone t ht:=by
  simp only [zg7]
  rcases List.mem_append.1 ht with q|q
  · rw [h.gone t q];rfl
  · rw [List.mem_singleton] at q;subst q;simp
 has_ t ht:=by
  rcases List.mem_append.1 ht with q|q
  · exact h.has_ t q
  · rw [List.mem_singleton] at q;subst q;exact hh
 all t h1 h2:=by
  simp only [zg7] at h2;by_cases e:t=s
  · subst e;simp
  · rw [decide_eq_false e] at h2;simp at h2;exact List.mem_append.2 (.inl (h.all t h1 h2))
theorem zlt:(Tryz.prog.info? 33).map (fun i=>(i.zero,i.size,i.bytes))=some (some (.agg (idC noId)),32,32):=by kernel_rfl
theorem zrX:Elem Tryz.prog 36 33 32 32:=by
 refine ⟨Tryz.underlying36,?_,by decide⟩;obtain ⟨i,hi,h1,h2,h3⟩:=info_parts zlt;exact ⟨i,_,hi,h1,h2,h3,rfl⟩
theorem zqd (w:World):(zeroValue 33).run Tryz.prog w = .ok (.agg (idC noId)) w:=by kernel_rfl
def SlId (n:Nat) (ps:Array (Nat×Value)):Sem Value:=Instr.buildSlice 36 n ps
theorem znK (n:Nat) (ps:Array (Nat×Value)):Instr.buildSlice 36 n ps=SlId n ps:=rfl
theorem zsg (s:Id) (w:World):(SlId 1 #[(0,idV s)]).run Tryz.prog w = .ok (.slice (some ⟨w.heap.size,0,none⟩) 1 1) (w.alloc (.cells (idL s).toArray 33)) :=
 zbU zrX zqd (zy _) (zy _) (by omega) w
theorem zmg (w:World) (xs:List Value) (t:TypeId):∀j u,xs[j]? = some u→(w.alloc (.cells xs.toArray t)).cell? ((⟨w.heap.size,0,none⟩:Addr).add j)=some u:=by
 intro j u h;rw [zJ,Nat.zero_add];rw [(Blk.new w t xs.toArray).cell];simpa using h
def ziE (p v:Value):Sem Unit:=Instr.storeAt 33 p v
theorem ztp (p v:Value):Instr.storeAt 33 p v=ziE p v:=rfl
def zkX (p:Value):Sem Value:=Instr.loadAt 33 p
theorem zqn (p:Value):Instr.loadAt 33 p=zkX p:=rfl
theorem zfy (x:Id):(idL x).toArray.size=32:=by simp [za2]
theorem zoq (x:Id):∀v∈(idL x).toArray.toList,v.oneCell'=true:=by
 intro v hv;exact ziV [x] v (by simpa using hv)
theorem zlv {w:World} {g:Nat} {cs:Array Value} {x:Id} (h:Blk w g 33 cs) (hs:cs.size=32):∃w',(ziE (.pointer (some ⟨g,0,none⟩)) (idV x)).run Tryz.prog w = .ok () w'∧Blk w' g 33 (idL x).toArray∧Keep (Only g) w w':=by
 have h1:=zdn (P:=Tryz.prog) (ty:=33) h 0 (vs:=(idL x).toArray) (by rw [zfy];exact zaN) (by rw [hs,zfy];omega) (zoq x);rw [zdF (by rw [hs,zfy])] at h1;exact ⟨_,h1,h.row _,Keep.setRow (Keep.refl (Only g) w) (.inl rfl) _⟩
theorem zjI {w:World} {g:Nat} {x:Id} (h:Blk w g 33 (idL x).toArray):(zkX (.pointer (some ⟨g,0,none⟩))).run Tryz.prog w = .ok (idV x) w :=
 zaE w _ (idL x).toArray Tryz.underlying33 rfl (by rw [zfy];exact zaN) (fun j v hj=>by rw [zJ,h.cell,←hj];simp)
theorem zl2 {w w':World} {o:Obj} (hk:Keep (Only w.heap.size) (w.alloc o) w'):w.grownBy w' none:=⟨hk.os.trans rfl,hk.tape.trans rfl,hk.output.trans rfl,Nat.le_trans (by simp) hk.size,fun k hk' _=>(hk.block k (by simp;omega) (by simp only [Only];omega)).trans (Below.heap_alloc _ _ k hk')⟩
attribute [local go_sem ↓] znK ztp zqn
theorem zrH (F:Fence) (n:Nat) (h10:F.fn 97) (hro:F.round=none) (hn:1≤n) (l Bm b nn:Nat) (D0:DataW Value) (J:List Id→World→Prop) (hY:∀pre x W,J pre W→pre.length<Maps.size D0→YieldAt F (n-1) Tryz.prog l #[idV x] W fun e W'=>e = .returned (.bool true)∧J (pre++[x]) W'∧KeepsWalks W W') (W:World) (hJ:AbidesFrom W.heap.size J) (hm:W.cell? ⟨Bm,0,none⟩=some (.map (some b))) (hown:W.ownsMap Tryz.prog 33 zak b nn D0) (h0:J [] W) :CallsIn F n Tryz.prog 97 #[.func (.yield l) #[] #[],.pointer (some ⟨Bm,0,none⟩)] W fun e W'=>(∃v,e = .returned v)∧∃ss:List Id,(ss.Nodup∧(∀s,s∈ss↔has D0 (keyI s)=true)∧ss.length≤Maps.size D0)∧J ss W':=by
 refine callsIn_of_wp Tryz.func97 rfl h10 ?_ hro;simp only [Tryz.ntmps97,List.size_toArray,List.length_cons,List.length_nil,Nat.reduceAdd,Nat.reduceSub,Array.replicate_succ,Array.replicate_zero,List.push_toArray,List.append_toArray,List.nil_append,List.cons_append]
 gi_wp2_with (first
  | (gi_at_range;refine wpListIn_range_own _ rfl _ 141 rfl 33 3 zcn Tryz.underlying141 _ b nn _ rfl hown ?_;intro w0 hrg0 hg0 hs0)
  | gi_in)
 go_frame
 gi_loopw [3] (fun _ wr=>∃(left:Lit→Bool) (cnt:Nat) (ss:List Id),wr.ranges Tryz.prog 33 zak b W.heap.size nn D0 left cnt∧ss.length+cnt≤Maps.size D0∧ComeI D0 left ss∧J ss wr)
  (fun _ wr=>wr.rangeLeft b W.heap.size)
 case atStart =>
  exact ⟨_,_,[],hrg0,by simp,ComeI.start D0,hJ [] W w0 none h0 hg0 (fun r e=>by cases e)⟩
 case round =>
  obtain ⟨left,cnt,ss,hrg,hcs,hC,hJs⟩:=hrel
  gi_wp2_with (first
   | (gi_at_next;refine wpListIn_next_ranges _ rfl _ rfl 33 zcn zak idV id (fun key kl hk=>by obtain ⟨x,hx,_⟩:=zeJ hk;exact ⟨x,hx⟩) (fun v _ _=>⟨v,rfl⟩) b W.heap.size nn _ _ _ rfl hrg ?_ ?_)
   | gi_in)
  · intro hc0 hl0
    gi_wp2
    go_end0
    exact ⟨⟨_,rfl⟩,ss,⟨hC.nd,fun s=>⟨hC.has_ s,fun h=>hC.all s h (hl0 _)⟩,by omega⟩,hJs⟩
  · intro xl hx c kl yd yp w2 cnt2 hkey hlk hv hat hrg2 hlt hg2 hs2 hen;generalize (⟨xl,hx⟩:Id)=x at hkey hen ⊢;obtain ⟨x',ex,rfl⟩:=zeJ hkey;obtain rfl:x=x':=zfm (Option.some.inj ((zdg x).symm.trans hkey));have hJ2:J ss w2:=hJ ss wr w2 (some W.heap.size) hJs hg2 (fun r e=>by cases e;exact ⟨Nat.le_refl _,hrg.iter_walk⟩);obtain ⟨w2b,hst,hx2b,hk2b⟩:=zlv (x:=x) (Blk.new w2 33 #[.int .u8 0,.int .u8 0,.int .u8 0,.int .u8 0,.int .u8 0,.int .u8 0,.int .u8 0,.int .u8 0,.int .u8 0,.int .u8 0,.int .u8 0,.int .u8 0,.int .u8 0,.int .u8 0,.int .u8 0,.int .u8 0,.int .u8 0,.int .u8 0,.int .u8 0,.int .u8 0,.int .u8 0,.int .u8 0,.int .u8 0,.int .u8 0,.int .u8 0,.int .u8 0,.int .u8 0,.int .u8 0,.int .u8 0,.int .u8 0,.int .u8 0,.int .u8 0]) rfl;have hg2b:=zl2 hk2b;have hld:=zjI hx2b;have hJ2b:J ss w2b:=hJ ss w2 w2b none hJ2 hg2b (fun r e=>by cases e);have hrg2b:=hrg2.of_walks (KeepsWalks.of_grownBy hg2b (fun j o e _=>by cases e));obtain ⟨fn,tmps,assign,body,hy,hR⟩:=hY ss x w2b hJ2b (by omega);clear hk2b hx2b;clear hs2
    gi_wp2
    refine hR.mono ?_;rintro e W3 ⟨rfl,hJ3,hk3⟩
    gi_wp2
    have hrg3:=hrg2b.of_walks hk3
    go_roundw
    case rel=>exact ⟨_,cnt2,ss++[x],hrg3,by simp;omega,hC.step hlk (has_true_of_atKey hat),hJ3⟩
    case measure=>rw [hrg3.left_eq,hrg.left_eq];exact hlt
theorem zr6 (F:Fence) (n:Nat) (h10:F.fn 97) (hro:F.round=none) (hn:1≤n) (Bm b nn:Nat) (D0:DataW Value) (w:World) (hBm:Bm<w.heap.size) (hm:w.cell? ⟨Bm,0,none⟩=some (.map (some b))) (hown:w.ownsMap Tryz.prog 33 zak b nn D0) :SeqGives F n Tryz.prog 97 #[.pointer (some ⟨Bm,0,none⟩)] idV (fun ss=>ss.Nodup∧(∀s,s∈ss↔has D0 (keyI s)=true)∧ss.length≤Maps.size D0) (Maps.size D0) w:=fun l J W hW hJ hY h0=>by
 have hown':W.ownsMap Tryz.prog 33 zak b nn D0:=by
  have hbl:=hown.lt;obtain ⟨es,clock,hb,Ft,hs,hD⟩:=hown;exact ⟨es,clock,(hW.block b hbl).trans hb,Ft,hs,hD⟩
 exact zrH F n h10 hro hn l Bm b nn D0 J hY W hJ ((hW.cell (p:=⟨Bm,0,none⟩) hBm).trans hm) hown' h0
def zfL:Code:=(Code.region 2 #[{ dst:=some 5,op:=Op.alloc 33,type:=0,pos := "iter.go:51",after:=#[],guard:=none },{ dst:=none,op:=Op.store 33 (Operand.tmp 5) (Operand.tmp 7),type:=0,pos := "iter.go:51",after:=#[{ on:=0,ground:=Ground.data },{ on:=0,ground:=Ground.phase }],guard:=none }] false)
def zhC:Code:=(Code.block 1 (Code.region 3 #[{ dst:=some 8,op:=Op.load 36 (Operand.tmp 2),type:=36,pos := "iter.go:52",after:=#[],guard:=none },{ dst:=some 9,op:=Op.load 33 (Operand.tmp 5),type:=33,pos := "iter.go:52",after:=#[],guard:=none },{ dst:=some 10,op:=Op.buildSlice 36 1 #[(0,Operand.tmp 9)],type:=36,pos := "iter.go:52",after:=#[{ on:=1,ground:=Ground.data }],guard:=none },{ dst:=some 11,op:=Op.call { callee:=Callee.builtin Builtin.append,args:=#[Operand.tmp 8,Operand.tmp 10],argTypes:=#[36,36] },type:=36,pos := "iter.go:52",after:=#[{ on:=0,ground:=Ground.data },{ on:=2,ground:=Ground.data }],guard:=none },{ dst:=none,op:=Op.store 36 (Operand.tmp 2) (Operand.tmp 11),type:=0,pos := "iter.go:52",after:=#[{ on:=3,ground:=Ground.data },{ on:=3,ground:=Ground.chain },{ on:=0,ground:=Ground.phase },{ on:=1,ground:=Ground.phase },{ on:=2,ground:=Ground.phase },{ on:=3,ground:=Ground.phase }],guard:=none }] false))
def zbY (fn:FuncId) (sv:Value) (Bs D:Nat) (st:LoopState) (pend:Option Code):Loop :=
 { state:=st,pending:=pend,fn,tmps:=#[.slice none 0 0,sv,.pointer (some ⟨Bs,0,none⟩),undef,.slice none 0 0,undef,sv,undef,undef,undef,undef,undef,undef],params:=#[7],assign:=zfL,body:=zhC,defers:=D }
structure ApIs (w0:World) (fn:FuncId) (sv:Value) (Bs l D:Nat) (ss:List Id) (W:World):Prop where
 box:∃v,W.heap[Bs]? = some (.cells #[v] 36 (0,0))∧W.ownsRow w0.heap.size 33 32 v ss.length (ss.flatMap idL)∧(v = .slice none 0 0↔ss=[])
 L:W.heap[l]? = some (.loop (zbY fn sv Bs D .ready none))
 K:W.heap[D]? = some (.deferred (some []))
 below:Below w0.heap.size w0 W
theorem zjJ (w0:World) (fn:FuncId) (sv:Value) (Bs l D B:Nat) (hB:w0.heap.size≤B):AbidesFrom B (ApIs w0 fn sv Bs l D):=fun s W W' row h hg hrow=>by
 have hrow':∀r,row=some r→∃o:Obj,W.heap[r]? = some o∧o.isWalk=true:=fun r e=>(hrow r e).2;obtain ⟨v,hv,hr,hn⟩:=h.box;exact ⟨⟨v,(grownBy_keeps hg hrow' hv rfl).trans hv,ownsRow_abides_a hr hg hrow',hn⟩,(grownBy_keeps hg hrow' h.L rfl).trans h.L,(grownBy_keeps hg hrow' h.K rfl).trans h.K,
  h.below.grown hg h.below.size (fun k e=>Nat.le_trans hB (hrow k e).1)⟩
theorem zov (F:Fence) (m:Nat) (w0:World) (fn:FuncId) (hfn:F.fn fn) (sv:Value) (Bs l D:Nat) (hBl:Bs≠l) (hDl:D≠l) (hDB:D≠Bs) (h0B:w0.heap.size≤Bs) (h0l:w0.heap.size≤l) (N:Nat) (hN:N≤maxLen) (hNb:N*32≤140737488355328) (ss:List Id) (x:Id) (W:World) (h:ApIs w0 fn sv Bs l D ss W) (hlen:ss.length<N) :YieldAt F m Tryz.prog l #[idV x] W fun e W'=>e = .returned (.bool true)∧ApIs w0 fn sv Bs l D (ss++[x]) W'∧KeepsWalks W W':=by
 obtain ⟨i0,hi,hz0,hz1,hz2⟩:=info_parts zlt;refine ⟨fn,#[.slice none 0 0,sv,.pointer (some ⟨Bs,0,none⟩),undef,.slice none 0 0,undef,sv,idV x,undef,undef,undef,undef,undef],zfL,zhC,by simpa [zbY] using run_yield (P:=Tryz.prog) (args:=#[idV x]) h.L rfl,roundIn_of_wpIn hfn ?_⟩;obtain ⟨Wb,hst,hxb,hkb⟩:=zlv (x:=x) (Blk.new W 33 #[.int .u8 0,.int .u8 0,.int .u8 0,.int .u8 0,.int .u8 0,.int .u8 0,.int .u8 0,.int .u8 0,.int .u8 0,.int .u8 0,.int .u8 0,.int .u8 0,.int .u8 0,.int .u8 0,.int .u8 0,.int .u8 0,.int .u8 0,.int .u8 0,.int .u8 0,.int .u8 0,.int .u8 0,.int .u8 0,.int .u8 0,.int .u8 0,.int .u8 0,.int .u8 0,.int .u8 0,.int .u8 0,.int .u8 0,.int .u8 0,.int .u8 0,.int .u8 0]) rfl;have hgb:=zl2 hkb;have h':=zjJ w0 fn sv Bs l D w0.heap.size (Nat.le_refl _) ss W Wb none h hgb (fun r e=>by cases e);have hkw:KeepsWalks W Wb:=KeepsWalks.of_grownBy hgb (fun j o e _=>by cases e);have hlW:l<W.heap.size:=(Array.getElem?_eq_some_iff.1 h.L).1;obtain ⟨v,hv,hrow,_⟩:=h'.box;have hl:l<Wb.heap.size:=(Array.getElem?_eq_some_iff.1 h'.L).1;have hbr:=run_beginRound (P:=Tryz.prog) h'.L rfl;obtain ⟨W2,hW2⟩:∃W2,Wb.putObj l (.loop { zbY fn sv Bs D .ready none with state := .busy })=W2:=⟨_,rfl⟩;rw [hW2] at hbr;have hg2:Wb.grownBy W2 (some l):=by rw [←hW2];exact grownBy_putObj_a _ _ _
 have hk2:KeepsWalks W W2:=hkw.trans (by rw [←hW2];exact KeepsWalks.putObj _ h'.L rfl);have hv2:W2.heap[Bs]? = some (.cells #[v] 36 (0,0)):=by rw [←hW2];exact (World.putObj_heap_other hBl).trans hv
 have hK2:W2.heap[D]? = some (.deferred (some [])):=by rw [←hW2];exact (World.putObj_heap_other hDl).trans h'.K
 have hL2:W2.heap[l]? = some (.loop { zbY fn sv Bs D .ready none with state := .busy }):=by rw [←hW2];exact World.putObj_heap_same hl
 have hx2:Blk W2 W.heap.size 33 (idL x).toArray:=by rw [←hW2];exact (World.putObj_heap_other (by omega)).trans hxb
 have hld:=zjI hx2;have hrow2:W2.ownsRow w0.heap.size 33 32 v ss.length (ss.flatMap idL):=hrow.kept hg2 (ownsRow_ne_a hrow h'.L (fun cur e=>by cases e));have hb2:Below w0.heap.size w0 W2:=h'.below.grown hg2 h'.below.size (fun k e=>by cases e;exact h0l);obtain ⟨hc2,hf2⟩:=cell_of_box_a hv2;have hBlt:Bs<W2.heap.size:=(Array.getElem?_eq_some_iff.1 hv2).1;have hl2:l<W2.heap.size:=(Array.getElem?_eq_some_iff.1 hL2).1;have hDlt:D<W2.heap.size:=(Array.getElem?_eq_some_iff.1 hK2).1;have ne_of:∀{j:Nat} {o:Obj},W2.heap[j]? = some o→(∀cur,o≠.cells cur 33 (0,0))→some j≠v.ownBlock:=fun hj hno=>by
  rcases ownsRow_ne_a hrow2 hj hno with e|e
  · rw [e];simp
  · exact fun e'=>e e'.symm
 have hbs:=zsg x;clear hW2 hxb hkb hx2;unfold zfL
 gi_wp2_with gi_round_op_a
 unfold zhC
 gi_wp2_with (first
  | (gi_at_builtin;refine wpListIn_append_own _ rfl _ _ 36 rfl w0.heap.size 33 i0 (.agg (idC noId)) 32 32 Tryz.underlying36 hi hz0 hz1 hz2 (zy noId) (by decide) _ _ _ rfl (hrow2.alloc _) ⟨W2.heap.size,0,none⟩ 1 1 (idL x) rfl (by rw [za2]) (zmg _ _ _) (fun u hu=>by have:=ziV [x] u (by simpa using hu);exact this) (by omega) (by omega) (by have:=hb2.size;simp;omega) ?_;intro v' w3 hown' hg3 hnil3
     have hv3:w3.heap[Bs]? = some (.cells #[v] 36 (0,0)):=(hg3.block Bs (by simp;omega) (ne_of hv2 (fun cur e=>by cases e))).trans ((Below.heap_alloc _ _ Bs hBlt).trans hv2);obtain ⟨hc3,hf3⟩:=cell_of_box_a hv3;obtain ⟨g',cap',cur',rfl,hbase',hgb',hr1,hr2,hr3,hr4⟩:∃g' cap' cur',v' = .slice (some ⟨g',0,none⟩) (ss.length+1) cap'∧w0.heap.size≤g'∧w3.heap[g']? = some (.cells cur' 33 (0,0))∧ss.length+1≤cap'∧cap'≤maxLen∧cur'.size=cap'*32∧cur'.toList.take ((ss.length+1)*32)=ss.flatMap idL++idL x:=by
      rcases hown'.2 with ⟨_,h0⟩|h'
      · exact absurd h0 (by omega)
      · exact h'
     go_frame)
  | gi_round_op_a)
 have hg3':(W2.alloc (.cells (idL x).toArray 33)).grownBy w3 v.ownBlock:=hg3;have hL3:w3.heap[l]? = some (.loop { zbY fn sv Bs D .ready none with state := .busy }):=(hg3'.block l (by simp;omega) (ne_of hL2 (fun cur e=>by cases e))).trans ((Below.heap_alloc _ _ l hl2).trans hL2);have hK3:w3.heap[D]? = some (.deferred (some [])):=(hg3'.block D (by simp;omega) (ne_of hK2 (fun cur e=>by cases e))).trans ((Below.heap_alloc _ _ D hDlt).trans hK2);obtain ⟨w4,hw4⟩:∃w4,w3.setCell ⟨Bs,0,none⟩ (.slice (some ⟨g',0,none⟩) (ss.length+1) cap')=w4:=⟨_,rfl⟩;rw [hw4];have hg4:w3.grownBy w4 (some Bs):=by rw [←hw4];exact grownBy_setCell0_a _ _ _
 have hv4:w4.heap[Bs]? = some (.cells #[.slice (some ⟨g',0,none⟩) (ss.length+1) cap'] 36 (0,0)):=by rw [←hw4];exact heap_setCell_box_a _ hv3
 have hL4:w4.heap[l]? = some (.loop { zbY fn sv Bs D .ready none with state := .busy }):=(hg4.block l (Array.getElem?_eq_some_iff.1 hL3).1 (fun e=>hBl (by cases e;rfl))).trans hL3;have hK4:w4.heap[D]? = some (.deferred (some [])):=(hg4.block D (Array.getElem?_eq_some_iff.1 hK3).1 (fun e=>hDB (by cases e;rfl))).trans hK3;have hrow4:=hown'.kept hg4 (ownsRow_ne_a hown' hv3 (fun cur e=>by cases e));have hl4:l<w4.heap.size:=(Array.getElem?_eq_some_iff.1 hL4).1;have hb3:Below w0.heap.size w0 w3:=(hb2.alloc hb2.size _).grown hg3' (by have:=hb2.size;simp;omega) (fun k e=>(hrow2.lt k e).1);have hb4:Below w0.heap.size w0 w4:=hb3.grown hg4 hb3.size (fun k e=>by cases e;exact h0B);have hk4:KeepsWalks W w4:=((hk2.trans (KeepsWalks.alloc _ _)).trans (KeepsWalks.of_grownBy hg3' (ownsRow_not_walk_a (hrow2.alloc _)))).trans (by rw [←hw4];exact KeepsWalks.setCell _ _ _);clear hw4;refine ⟨_,_,run_endRound none hL4,rfl,⟨⟨_,(World.putObj_heap_other hBl).trans hv4,?_,by simp⟩,World.putObj_heap_same hl4,(World.putObj_heap_other hDl).trans hK4,hb4.grown (grownBy_putObj_a _ _ _) hb4.size (fun k e=>by cases e;exact h0l)⟩,hk4.trans (KeepsWalks.putObj _ hL4 rfl)⟩;have:=hrow4.kept (grownBy_putObj_a w4 l (.loop { { zbY fn sv Bs D .ready none with state := .busy } with state:=if (none:Option Code).isNone then .ready else .done,pending:=none })) (ownsRow_ne_a hrow4 hL4 (fun cur e=>by cases e));simpa using this
theorem zmT (F:Fence) (n:Nat) (h11:F.fn 133) (hro:F.round=none) (hn:2≤n) (g:Nat) (lb:Array Value) (hFg:F.fn g) (eg:∀args w,(callFunc g args).run Tryz.prog w = .ok (.enter g args) w) (S:List Id→Prop) (N:Nat) (hN:N≤maxLen) (hNb:N*32≤140737488355328) (w:World) (hseq:SeqGives F (n-1) Tryz.prog g lb idV S N w) :CallsIn F n Tryz.prog 133 #[.slice none 0 0,.func (.func g) #[] lb] w fun e w'=>∃(v:Value) (ss:List Id),e = .returned v∧S ss∧w'.ownsRow w.heap.size 33 32 v ss.length (ss.flatMap idL)∧(v = .slice none 0 0↔ss=[])∧Below w.heap.size w w':=by
 have h1:1≤n:=by omega
 refine callsIn_of_wp_marks Tryz.func133 rfl h11 ?_ hro;simp only [Tryz.ntmps133,List.size_toArray,List.length_cons,List.length_nil,Nat.reduceAdd,Nat.reduceSub,Array.replicate_succ,Array.replicate_zero,List.push_toArray,List.append_toArray,List.nil_append,List.cons_append]
 gi_wp2
 refine wpIn_rangeFunc ?_;intro fn hfn;rw [hro];obtain ⟨W0,hW0⟩:∃W0,w.alloc (.cells #[.slice none 0 0] 36)=W0:=⟨_,rfl⟩;have hs0:W0.heap.size=w.heap.size+1:=by rw [←hW0];simp
 have hv0:W0.heap[w.heap.size]? = some (.cells #[.slice none 0 0] 36 (0,0)):=by rw [←hW0];exact World.alloc_heap_new w _
 have hb0:Below w.heap.size w W0:=by rw [←hW0];exact (Below.refl _ w).alloc (Nat.le_refl _) _
 rw [hW0];obtain ⟨W1,hW1⟩:∃W1,(W0.alloc (.deferred (some []))).alloc (.loop (zbY fn (.func (.func g) #[] lb) w.heap.size W0.heap.size .ready none))=W1:=⟨_,rfl⟩;have hold:∀k,k<W0.heap.size→W1.heap[k]? = W0.heap[k]?:=fun k hk=>by
  rw [←hW1];exact (Below.heap_alloc _ _ k (by simp;omega)).trans (Below.heap_alloc _ _ k hk)
 have hb1:Below w.heap.size w W1:=by rw [←hW1];exact (hb0.alloc hb0.size _).alloc (by have:=hb0.size;simp;omega) _
 have hs1:W1.heap.size=W0.heap.size+2:=by rw [←hW1];simp
 have hM:ApIs w fn (.func (.func g) #[] lb) w.heap.size (W0.heap.size+1) W0.heap.size [] W1 :=
  ⟨⟨_,(hold w.heap.size (by omega)).trans hv0,⟨rfl,.inl ⟨rfl,rfl⟩⟩,by simp⟩,
   by rw [←hW1];have:=World.alloc_heap_new (W0.alloc (.deferred (some []))) (.loop (zbY fn (.func (.func g) #[] lb) w.heap.size W0.heap.size .ready none));rwa [World.size_alloc] at this,
   by rw [←hW1];exact (Below.heap_alloc _ _ _ (by simp)).trans (World.alloc_heap_new W0 _),hb1⟩
 refine ⟨W0.heap.size+1,[{ target := .collected W0.heap.size,args:=#[] }],W1,{ target := .fn (.func g) lb,args:=#[.func (.yield (W0.heap.size+1)) #[] #[]] },W1,g,
  #[.func (.yield (W0.heap.size+1)) #[] #[]]++lb,W1,?_,?_,?_,?_,fun _=>h1,?_⟩
 · rw [←hW1];exact run_enterLoop_outer _ _ _ _ _
 · simp [resolve,go_sem]
 · intro f' hf';simp [Target.leads] at hf';subst hf';exact hFg
 · simp [invoke,go_sem,eg]
 · refine (hseq (W0.heap.size+1) (ApIs w fn (.func (.func g) #[] lb) w.heap.size (W0.heap.size+1) W0.heap.size) W1 hb1 (zjJ _ _ _ _ _ _ _ hb1.size)
    (fun pre x W hJ hl=>zov F (n-1-1) w fn hfn _ w.heap.size (W0.heap.size+1) W0.heap.size (by omega) (by omega) (by omega) (Nat.le_refl _) (by omega) N hN hNb pre x W hJ hl) hM).mono ?_
   rintro e W2 ⟨⟨v0,rfl⟩,ss,hS,h2⟩;obtain ⟨v,hv,hrow,hnil⟩:=h2.box;have hend:=run_endLoop (P:=Tryz.prog) h2.L (by simp [zbY]);obtain ⟨W3,hW3⟩:∃W3,W2.putObj (W0.heap.size+1) (.loop { zbY fn (.func (.func g) #[] lb) w.heap.size W0.heap.size .ready none with state := .exhausted })=W3:=⟨_,rfl⟩;rw [hW3] at hend;have hg3:W2.grownBy W3 (some (W0.heap.size+1)):=by rw [←hW3];exact grownBy_putObj_a _ _ _
   have hv3:W3.heap[w.heap.size]? = some (.cells #[v] 36 (0,0)):=by rw [←hW3];exact (World.putObj_heap_other (by omega)).trans hv
   have hK3:W3.heap[W0.heap.size]? = some (.deferred (some [])):=by rw [←hW3];exact (World.putObj_heap_other (by omega)).trans h2.K
   have hrow3:=hrow.kept hg3 (ownsRow_ne_a hrow h2.L (fun cur e=>by cases e));have hb3:Below w.heap.size w W3:=h2.below.grown hg3 h2.below.size (fun k e=>by cases e;omega);obtain ⟨hc3,hf3⟩:=cell_of_box_a hv3;clear hW3;refine ⟨none,W3,hend,?_⟩
   gi_wp2
   rw [←hs0];refine ⟨by simp,.inl ⟨_,_,rfl,run_takeDeferred hK3,?_⟩⟩;exact ⟨_,results_tmp rfl _ _ _,v,ss,rfl,hS,hrow3.kept (grownBy_putObj_a _ _ _) (ownsRow_ne_a hrow3 hK3 (fun cur e=>by cases e)),hnil,hb3.grown (grownBy_putObj_a _ _ _) hb3.size (fun k e=>by cases e;omega)⟩
theorem znG (F:Fence) (n:Nat) (h8:F.fn 95) (h11:F.fn 133) (hro:F.round=none) (hn:3≤n) (g:Nat) (lb:Array Value) (hFg:F.fn g) (eg:∀args w,(callFunc g args).run Tryz.prog w = .ok (.enter g args) w) (S:List Id→Prop) (N:Nat) (hN:N≤maxLen) (hNb:N*32≤140737488355328) (w:World) (hseq:SeqGives F (n-1-1) Tryz.prog g lb idV S N w) :CallsIn F n Tryz.prog 95 #[.func (.func g) #[] lb] w fun e w'=>∃(v:Value) (ss:List Id),e = .returned v∧S ss∧w'.ownsRow w.heap.size 33 32 v ss.length (ss.flatMap idL)∧(v = .slice none 0 0↔ss=[])∧Below w.heap.size w w':=by
 have h1:1≤n:=by omega
 refine callsIn_of_wp Tryz.func95 rfl h8 ?_ hro;simp only [Tryz.ntmps95,List.size_toArray,List.length_cons,List.length_nil,Nat.reduceAdd,Nat.reduceSub,Array.replicate_succ,Array.replicate_zero,List.push_toArray,List.append_toArray,List.nil_append,List.cons_append]
 gi_wp2_with (gi_at_call 133;refine (zmT F (n-1) h11 hro (by omega) g lb hFg eg S N hN hNb _ hseq).mono ?_;rintro e w' ⟨v,ss,rfl,hS,hrow,hnil,hb⟩)
 go_ret
 exact ⟨v,ss,rfl,hS,hrow,hnil,hb⟩
theorem zpD (l:List UInt8):Lib.bytesOf (l.map fun b=>(b.toNat:Int))=l:=by
 unfold Lib.bytesOf;rw [List.map_map];refine (List.map_congr_left fun b _=>?_).trans (List.map_id l);simp
theorem znA {P:Program} {w:World} {a b:Addr} {x y:List UInt8} {c d:Nat} (hx:∀j v,(x.map bv)[j]? = some v→w.cell? (a.add j)=some v) (hy:∀j v,(y.map bv)[j]? = some v→w.cell? (b.add j)=some v) :(Extern.BytealgCompare.compare #[.slice (some a) x.length c,.slice (some b) y.length d]).run P w = .ok (.int .i64 (cmpS x y)) w:=by
 have key:∀(l:List UInt8) (p:Addr),(∀j v,(l.map bv)[j]? = some v→w.cell? (p.add j)=some v)→(Extern.Bytes.loadBytes p l.length .empty).run P w = .ok ⟨l.toArray⟩ w:=fun l p h=>by
  have:=Lib.run_loadBytesX (P:=P) w (l.map fun b=>(b.toNat:Int)) p .empty (fun j u hu=>h j _ (by
   rw [List.getElem?_map] at hu ⊢
   cases q:l[j]? with
   | none=>rw [q] at hu;cases hu
   | some z=>rw [q] at hu;injection hu with hu;rw [←hu];rfl))
  rw [List.length_map,zpD] at this;rw [this]
  congr 1
  apply ByteArray.ext;show ByteArray.empty.data++l.toArray=l.toArray;simp
 change Sem.run P (do pure (goInt (Extern.BytealgCompare.cmp (←Extern.Bytes.bytesOf (.slice (some a) x.length c)) (←Extern.Bytes.bytesOf (.slice (some b) y.length d))))) w=_
 simp only [Extern.Bytes.bytesOf,Sem.run_bind,Sem.run_pure,Result.andThen,key x a hx,key y b hy]
 rw [Lib.cmp_eq];show Result.ok (Value.int .i64 (Lib.compareBytes x y)) w=_;rw [zf4]
theorem zpW (a b:Addr) (x y:List UInt8) (c d:Nat) (w:World) (hx:∀j v,(x.map bv)[j]? = some v→w.cell? (a.add j)=some v) (hy:∀j v,(y.map bv)[j]? = some v→w.cell? (b.add j)=some v) :Calls Tryz.prog 98 #[.slice (some a) x.length c,.slice (some b) y.length d] w fun e w'=>e = .returned (.int .i64 (cmpS x y))∧w=w':=by
 have HC:=zz (znA (P:=Tryz.prog) (c:=c) (d:=d) hx hy);clear hx hy;go_enter Tryz.func98,Tryz.ntmps98
 go_wp2
 rw [run_callFunc_extern Tryz.func135 (by kernel_rfl) (by kernel_rfl) (by kernel_rfl) (e:=Extern.BytealgCompare.compare) (by kernel_rfl),HC.out];simp only [Result.andThen]
 rw [Oper.upon_value]
 go_wp2
 go_ret
 exact ⟨rfl,rfl⟩
theorem ztU (W:World) (x y:Id):Calls Tryz.prog 62 #[.agg (idL x).toArray,.agg (idL y).toArray] W fun e w'=>e = .returned (.int .i64 (cmpS x.1 y.1))∧∃q os',w'=grow (W.drewN q) os':=by
 have HG:=zz (show ∃q os',((W.alloc (.cells (idL x).toArray 33)).alloc (.cells (idL y).toArray 33)).drew=grow (W.drewN q) os' from ⟨1,#[.cells (idL x).toArray 33,.cells (idL y).toArray 33],by show ((W.drewN 1).alloc _).alloc _=_;rw [alloc_eq_grow,alloc_eq_grow,grow_grow];rfl⟩);have hx:=(Blk.new W 33 (idL x).toArray).alloc (.cells (idL y).toArray 33);have hy:=Blk.new (W.alloc (.cells (idL x).toArray 33)) 33 (idL y).toArray;rw [show (W.alloc (.cells (idL x).toArray 33)).heap.size=W.heap.size+1 from by simp] at hy;have hxd:∀k,(((W.alloc (.cells (idL x).toArray 33)).alloc (.cells (idL y).toArray 33)).drew).cell? ⟨W.heap.size,k,none⟩=(idL x).toArray[k]?:=fun k=>hx.cell k;have hyd:∀k,(((W.alloc (.cells (idL x).toArray 33)).alloc (.cells (idL y).toArray 33)).drew).cell? ⟨W.heap.size+1,k,none⟩=(idL y).toArray[k]?:=fun k=>hy.cell k;have HC:=zz (zpW ⟨W.heap.size,0,none⟩ ⟨W.heap.size+1,0,none⟩ x.1 y.1 32 32 ((W.alloc (.cells (idL x).toArray 33)).alloc (.cells (idL y).toArray 33)).drew (fun j v hj=>by rw [zJ,hxd,Nat.zero_add,←hj];simp [idL]) (fun j v hj=>by rw [zJ,hyd,Nat.zero_add,←hj];simp [idL]));rw [x.2,y.2] at HC;clear hx hy hxd hyd;go_enter Tryz.func62,Tryz.ntmps62
 go_wp2_with (first
  | (refine zC rfl rfl (cs:=(idL x).toArray) rfl ?_)
  | (refine zC rfl rfl (cs:=(idL y).toArray) rfl ?_;generalize (W.alloc (.cells (idL x).toArray 33)).alloc (.cells (idL y).toArray 33)=w1 at *))
 go_region_law (go_simp;go_at_call 98;(with_reducible refine HC.out.mono ?_);rintro _ w2 ⟨rfl,hw2⟩;have HW2:=zz hw2;clear hw2)
 all_goals
  go_wp2_with fail
  go_ret
  exact ⟨rfl,by rw [←HW2.out];exact HG.out⟩
theorem zjh:ltOf (fun x y:Id=>cmpS x.1 y.1)=fun a b=>decide (a.1<b.1):=by
 funext a b
 exact zdG _ _
theorem zoQ {base:Nat} {A:Option Addr} {n c:Nat} (d:List Id) (w:World) (hn:d.length=n) (hn2:n≤1000000000) (hown:Own w base 33 32 A n c (d.flatMap idL)) :Calls Tryz.prog 96 #[.slice A n c,.func (.func 62) #[] #[]] w fun e w'=>e = .returned (.tuple #[])∧∃d':List Id,d'.Perm d∧(d'.Pairwise fun a b=>¬b.1<a.1)∧Own w' base 33 32 A n c (d'.flatMap idL)∧Kept base [33] [] w w':=by
 haveI:Inhabited Id:=⟨noId⟩
 have:=zen Tryz.sortFId (k:=32) (fun w=>by kernel_rfl) (fun w=>by kernel_rfl) idL za2 zbq (fun x y:Id=>cmpS x.1 y.1) (by rw [zjh];exact (zcs (fun x:Id=>x.1)).swo) 62 (enters_of Tryz.func62 (by kernel_rfl) rfl) ztU d w hn (by omega) hown;refine this.mono ?_;rintro e w' ⟨h1,d',hp,hs,ho,hk⟩;rw [zjh] at hs;exact ⟨h1,d',hp,hs.imp fun h=>of_decide_eq_false h,ho,hk⟩
theorem zr3 {w:World} {b n:Nat} {f:Mi} (h:VI w b n f) (hn:n≤100000000) :Calls Tryz.prog 60 #[.func (.func 97) #[] #[.pointer (some ⟨w.heap.size,0,none⟩)],.func (.func 62) #[] #[]] (w.alloc (.cells #[.map (some b)] 141)) fun e w'=>∃(A:Option Addr) (c:Nat) (ks:List Id),e = .returned (.slice A ks.length c)∧(ks.Nodup∧(∀s,s∈ks↔(f s).isSome=true)∧ks.length≤n∧ks.Pairwise fun a b=>¬b.1<a.1)∧Own w' w.heap.size 33 32 A ks.length c (ks.flatMap idL)∧Below w.heap.size w w':=by
 obtain ⟨D,hown,hsz,hd⟩:=h;have hbl:=hown.lt;have hmax:Maps.size D≤maxLen:=by rw [hsz];unfold maxLen;omega
 have hbytes:Maps.size D*32≤140737488355328:=by rw [hsz];omega
 have hseq:SeqGives Fence.wide 3 Tryz.prog 97 #[.pointer (some ⟨w.heap.size,0,none⟩)] idV (fun ss=>ss.Nodup∧(∀s,s∈ss↔has D (keyI s)=true)∧ss.length≤Maps.size D) (Maps.size D) (w.alloc (.cells #[.map (some b)] 141)) :=
  zr6 Fence.wide _ trivial rfl (by omega) w.heap.size b n D _ (by simp) (by simp) (by
   obtain ⟨es,clock,hb,Ft,hs,hD⟩:=hown;exact ⟨es,clock,(Below.heap_alloc _ _ b hbl).trans hb,Ft,hs,hD⟩)
 have HC:=zz (callsIn_wide.1 (znG Fence.wide 5 trivial trivial rfl (by omega) 97 #[.pointer (some ⟨w.heap.size,0,none⟩)] trivial (enters_of Tryz.func97 (by kernel_rfl) rfl) _ _ hmax hbytes _ hseq));have hbw:Below w.heap.size w (w.alloc (.cells #[.map (some b)] 141)):=(Below.refl _ w).alloc (Nat.le_refl _) _;have hsw:(w.alloc (.cells #[.map (some b)] 141)).heap.size=w.heap.size+1:=by simp
 generalize w.alloc (.cells #[.map (some b)] 141)=W at *;have HB:=zz (And.intro hbw hsw);have HK:=zz (fun (ss:List Id) (h:ss.Nodup∧(∀s,s∈ss↔has D (keyI s)=true)∧ss.length≤Maps.size D)=>show ss.Nodup∧(∀s,s∈ss↔(f s).isSome=true)∧ss.length≤n from ⟨h.1,fun s=>by rw [h.2.1,hd.has],by rw [←hsz];exact h.2.2⟩);clear hseq hbw hsw hown hd hmax hbytes hbl hsz;go_enter Tryz.func60,Tryz.ntmps60
 go_upto_region 2 with (go_at_call 95;refine HC.out.mono ?_)
 rintro _ w1 ⟨v,ss,rfl,hS,hrow,_,hb1⟩;obtain ⟨A,c,rfl⟩:=zcC hrow;obtain ⟨k1,k2,k3⟩:=HK.out ss hS;have HS:=zz (zoQ ss w1 rfl (by omega) (Own.mono hrow (show w.heap.size≤W.heap.size from HB.out.1.size)));have HB1:=zz hb1;have HK5:=zz (And.intro k1 (And.intro k2 k3));clear hrow hb1 k1 k2 k3 hS HK HC
 go_wp2_with (go_at_call 96;refine HS.out.mono ?_)
 rintro _ w2 ⟨rfl,d',hp,hsr,ho,hk⟩;have HSR:=zz hsr;clear hsr;have HO:=zz ho;have HK2:=zz hk;have HP:=zz hp;clear ho hk hp
 go_wp2
 go_ret
 have h1:Below w.heap.size w w1:=HB.out.1.trans (HB1.out.mono HB.out.1.size);have hl:=HP.out.length_eq;refine ⟨A,c,d',by rw [hl];rfl,⟨HP.out.nodup_iff.2 HK5.out.1,fun s=>by rw [HP.out.mem_iff];exact HK5.out.2.1 s,by rw [hl];exact HK5.out.2.2,HSR.out⟩,by rw [hl];exact HO.out,?_⟩;exact h1.trans (HK2.out.below (Nat.le_refl _) h1.size (by simp))
theorem zty (mb:Option Nat) (W:World):Calls Tryz.prog 61 #[.map mb] W fun e w'=>e = .returned (.func (.func 97) #[] #[.pointer (some ⟨W.heap.size,0,none⟩)])∧w'=W.alloc (.cells #[.map mb] 141):=by
 go_enter Tryz.func61,Tryz.ntmps61
 go_wp2_with (refine zC rfl rfl (cs:=#[.map mb]) rfl ?_)
 go_ret
 exact ⟨rfl,rfl⟩
end
section
open Go.RowKit Go.WideMaps Go.Maps
def zeL (f:Mi) (s:Id):Mi:=fun t=>if t=s then none else f t
theorem DatI.del {D:DataW Value} {f:Mi} (h:DatI D f) (s:Id):DatI (D.del (keyI s)) (zeL f s):=by
 refine ⟨h.1.del _,fun t=>?_⟩;unfold zeL;by_cases e:t=s
 · subst e;rw [if_pos rfl];exact ⟨fun _=>has_del_same,fun u hu=>by cases hu⟩
 · rw [if_neg e];have hne:keyI t≠keyI s:=fun q=>e (zfm q);obtain ⟨h1,h2⟩:=h.2 t;exact ⟨fun q=>by rw [has_del_other hne];exact h1 q,fun u hu=>⟨by rw [has_del_other hne];exact (h2 u hu).1,fun z=>by rw [atKey_del_other hne];exact (h2 u hu).2 z⟩⟩
theorem VI.drop {w:World} {b n:Nat} {f:Mi} {t e:TypeId} (h:VI w b n f) (ht:Tryz.prog.underlying t=some (.map 33 e)) (s:Id) (ty:TypeId) :∃w' n',(Builtin.delete_ #[t,33] ty #[.map (some b),idV s]).run Tryz.prog w = .ok (.tuple #[]) w'∧VI w' b n' (zeL f s)∧n'≤n∧Keep (Only b) w w'∧w'.heap.size=w.heap.size:=by
 obtain ⟨D,h1,h2,h3⟩:=h;obtain ⟨w',hrun,q1,q2⟩:=h1.drop zcn ht (zdg s) ty;refine ⟨w',Maps.size (D.del (keyI s)),hrun,⟨_,zlA q1,rfl,h3.del s⟩,?_,zci q2.grown,?_⟩
 · have:=size_del (k:=keyI s) h3.1;omega
 · obtain ⟨es,clock,es',clock',_,rfl⟩:=q2;simp [ChangeMaps.setBlock]
theorem KeyI.keep {w w':World} {m n:Nat} {out:List Nat} {S:Nat→Prop} (h:KeyI w m n out) (hk:Keep S w w') (hm:¬S m):KeyI w' m n out:=by
 obtain ⟨f,h1,h2⟩:=h.map;exact ⟨⟨f,h1.keep hk hm,h2⟩⟩
theorem KeyI.below {w w':World} {m n B:Nat} {out:List Nat} (h:KeyI w m n out) (hb:Below B w w') (hm:m<B):KeyI w' m n out:=by
 obtain ⟨f,h1,h2⟩:=h.map;exact ⟨⟨f,h1.block (hb.block m hm),h2⟩⟩
theorem KeyI.put {w:World} {m n x:Nat} {out:List Nat} (h:KeyI w m n out) (hx:x∉out) (hlt:∀y∈out,y<256) (hx2:x<256) (hn:n<maxLen) (v:Value) :∃w',(Instr.mapUpdate 141 (.map (some m)) (idV (idN x)) v).run Tryz.prog w = .ok () w'∧KeyI w' m (n+1) (out++[x])∧Keep (Only m) w w'∧w'.heap.size=w.heap.size:=by
 obtain ⟨f,hv,hf⟩:=h.map;have hfn:f (idN x)=none:=by
  cases e:f (idN x) with
  | none=>rfl
  | some v =>
   obtain ⟨y,hy,e2⟩:=(hf (idN x)).1 (by rw [e];rfl);rw [zbh hx2 (hlt y hy) e2] at hx;exact absurd hy hx
 obtain ⟨w',hst,hv',hk,hs⟩:=hv.store Tryz.underlying141 hn (s:=idN x) v;rw [hfn] at hv';refine ⟨w',hst,⟨⟨_,hv',fun i=>?_⟩⟩,hk,hs⟩;unfold iput;by_cases e:i=idN x
 · rw [if_pos e];exact ⟨fun _=>⟨x,by simp,e⟩,fun _=>rfl⟩
 · rw [if_neg e,hf];constructor
   · rintro ⟨y,hy,h⟩;exact ⟨y,List.mem_append.2 (.inl hy),h⟩
   · rintro ⟨y,hy,h⟩
     rcases List.mem_append.1 hy with q|q
     · exact ⟨y,q,h⟩
     · rw [List.mem_singleton] at q;subst q;exact absurd h e
theorem KeyI.drop {w:World} {m n x:Nat} {out:List Nat} (h:KeyI w m n out) (hlt:∀y∈out,y<256) (hx2:x<256) (ty:TypeId) :∃w' n',(Builtin.delete_ #[141,33] ty #[.map (some m),idV (idN x)]).run Tryz.prog w = .ok (.tuple #[]) w'∧KeyI w' m n' (out.filter fun y=>y !=x)∧n'≤n∧Keep (Only m) w w'∧w'.heap.size=w.heap.size:=by
 obtain ⟨f,hv,hf⟩:=h.map;obtain ⟨w',n',hst,hv',hn,hk,hs⟩:=hv.drop Tryz.underlying141 (idN x) ty;refine ⟨w',n',hst,⟨⟨_,hv',fun i=>?_⟩⟩,hn,hk,hs⟩;unfold zeL;by_cases e:i=idN x
 · rw [if_pos e];refine ⟨fun q=>(by cases q),?_⟩;rintro ⟨y,hy,h⟩;rw [List.mem_filter] at hy;have:x=y:=zbh hx2 (hlt y hy.1) (e.symm.trans h);subst this;simp at hy
 · rw [if_neg e,hf];constructor
   · rintro ⟨y,hy,h⟩;refine ⟨y,List.mem_filter.2 ⟨hy,bne_iff_ne.2 fun q=>?_⟩,h⟩;subst q;exact e h
   · rintro ⟨y,hy,h⟩;exact ⟨y,(List.mem_filter.1 hy).1,h⟩
theorem keepB {w w':World} {B:Nat} (h:Below B w w'):Keep (fun k=>B≤k) w w':=⟨h.os,h.tape,h.output,h.size,fun k _ hn=>h.block k (by omega)⟩
theorem zjs:∀(ks:List Id),(∀i∈ks,∃x,x<256∧i=idN x)→∃ls:List Nat,ks=ls.map idN∧∀x∈ls,x<256
 | [],_=>⟨[],rfl,by simp⟩
 | i::ks,h=>by
  obtain ⟨x,hx,rfl⟩:=h i List.mem_cons_self;obtain ⟨ls,rfl,hl⟩:=zjs ks fun j hj=>h j (List.mem_cons_of_mem _ hj);exact ⟨x::ls,rfl,fun y hy=>by
   rcases List.mem_cons.1 hy with q|q
   · subst q;exact hx
   · exact hl y q⟩
theorem zpa {R:Rw} {a b:Nat} {ls:List Nat} (hlt:∀x∈ls,x<256) (hn:(ls.map idN).Nodup) (hs:(ls.map idN).Pairwise fun i j=>¬j.1<i.1) (hm:∀x,x∈ls↔Low R a b x):BaseL R a b ls:=by
 have hnd:ls.Nodup:=List.Pairwise.of_map idN (fun x y q e=>q (by rw [e])) hn;refine ⟨hnd,hm,?_⟩;rw [List.pairwise_map] at hs;have:=(List.Pairwise.and hs hnd).imp_of_mem (S:=fun x y=>idB x<idB y) (fun {x y} hx hy h=>by
  rcases zbp (idB x) (idB y) with q|q|q
  · exact q
  · exact absurd (zbh (hlt x hx) (hlt y hy) (Subtype.ext q)) h.2
  · exact absurd q h.1)
 exact this
theorem zdV {w:World} {g:Nat} {i:Id} {t:TypeId} (h:Blk w g t (idC i)):ze w w.heap.size 32 (some ⟨g,0,none⟩) 1 (([i]:List Id).flatMap idL):=by
 have:=(ze.of_cells (n:=1) (size:=32) (xs:=idL i) h (by simp [idC]) (by rw [za2])).more h.lt;simpa using this
def SlI (n:Nat) (ps:Array (Nat×Value)):Sem Value:=Instr.buildSlice 36 n ps
theorem sl_i (n:Nat) (ps:Array (Nat×Value)):Instr.buildSlice 36 n ps=SlI n ps:=rfl
theorem zmq (i j:Id) (w:World):(SlI 2 #[(0,idV i),(1,idV j)]).run Tryz.prog w = .ok (.slice (some ⟨w.heap.size,0,none⟩) 2 2) (w.alloc (.cells (idC i++idC j) 33)) :=
 zlU zbT zbF (zy _) (zy _) (zy _) (by omega) w
theorem zsU (i:Id) (w:World):(SlI 1 #[(0,idV i)]).run Tryz.prog w = .ok (.slice (some ⟨w.heap.size,0,none⟩) 1 1) (w.alloc (.cells (idC i) 33)) :=
 zbU zbT zbF (zy _) (zy _) (by omega) w
attribute [local go_sem ↓] zbM sl_i zmq zsU
theorem zrN (R:Rw) (hw:WfR R) (rs:List (Option Addr×Nat)) (AP:Option Addr) (cP:Nat) (TV:Value) (q:Int) (a b N s g B:Nat) (hN:R.length=N) (hN2:N≤16) (ha:a<N) (hb:b<N) (hp4:∀x,(par R x).length≤4) (w:World) (hB:B≤s) (hg:w.cell? ⟨g,0,none⟩=some (.iface 24 (.pointer (some ⟨s,0,none⟩)))) (hgs:g≠s) (hs:Blk w s 67 #[.slice AP N cP,.int .i64 q,TV]) (hR:RwI w B AP R rs) :Calls Tryz.prog 36 #[.iface 76 (.pointer (some ⟨g,0,none⟩)),idV (idN a),idV (idN b)] w fun e w'=>∃A c q' ls,e = .returned (.tuple #[.slice A ls.length c,.nilIface])∧BaseL R a b ls∧Own w' w.heap.size 33 32 A ls.length c ((ls.map idN).flatMap idL)∧Keep (Only s) w w'∧Blk w' s 67 #[.slice AP N cP,.int .i64 q',TV]:=by
 obtain ⟨z,hz⟩:∃z,w.heap.size=z:=⟨_,rfl⟩;have hmm:=@run_makeMap Tryz.prog;have hsw:=hs.lt;have hgw:g<w.heap.size:=World.block_lt_of_cell? w _ hg;have h0:Below z w ((w.alloc (.cells (idC (idN a)) 33)).alloc (.cells (idC (idN b)) 33)):=((Below.refl z w).alloc (by omega) _).alloc (by simp;omega) _;have hA:=(Blk.new w 33 (idC (idN a))).alloc (.cells (idC (idN b)) 33);have hBb:=Blk.new (w.alloc (.cells (idC (idN a)) 33)) 33 (idC (idN b));rw [show (w.alloc (.cells (idC (idN a)) 33)).heap.size=z+1 from by rw [←hz];simp] at hBb;rw [hz] at hA;have hz1:((w.alloc (.cells (idC (idN a)) 33)).alloc (.cells (idC (idN b)) 33)).heap.size=z+2:=by rw [←hz];simp
 have HZ:=zz hz;have HS0:=zz (hs.below h0 (by omega));have HG0:=zz ((h0.cell (p:=⟨g,0,none⟩) (by show g<z;omega)).trans hg);have HR0:=zz (hR.below (h0.mono (by omega)));have HA0:=zz hA;have HB0:=zz hBb;have H0:=zz h0;rw [hz] at hsw hgw;rw [hz];clear hs hg hR hA hBb h0;go_enter Tryz.func36,Tryz.ntmps36
 go_upto_region 1 with (first|(refine zC rfl rfl (cs:=idC (idN a)) rfl ?_)|(refine zC rfl rfl (cs:=idC (idN b)) rfl ?_))
 generalize (w.alloc (.cells (idC (idN a)) 33)).alloc (.cells (idC (idN b)) 33)=w0 at *;have d1:=LdId.blk HA0.out;have d2:=LdId.blk HB0.out;have hz2:((w0.alloc (.cells (idC (idN a)++idC (idN b)) 33)).alloc (.cells #[.slice (some ⟨z+2,0,none⟩) 2 2] 36)).heap.size=z+4:=by simp [hz1]
 have k0:Below (z+2) w0 ((w0.alloc (.cells (idC (idN a)++idC (idN b)) 33)).alloc (.cells #[.slice (some ⟨z+2,0,none⟩) 2 2] 36)):=((Below.refl (z+2) w0).alloc (by omega) _).alloc (by simp [hz1]) _;have hrow:Blk (w0.alloc (.cells (idC (idN a)++idC (idN b)) 33)) w0.heap.size 33 (idC (idN a)++idC (idN b)):=Blk.new _ _ _;have hrow2:=hrow.alloc (.cells #[.slice (some ⟨z+2,0,none⟩) 2 2] 36);rw [hz1] at hrow2;have hlst:=Blk.new (w0.alloc (.cells (idC (idN a)++idC (idN b)) 33)) 36 #[.slice (some ⟨z+2,0,none⟩) 2 2];rw [show (w0.alloc (.cells (idC (idN a)++idC (idN b)) 33)).heap.size=z+2+1 from by simp [hz1]] at hlst;have hrd:ze ((w0.alloc (.cells (idC (idN a)++idC (idN b)) 33)).alloc (.cells #[.slice (some ⟨z+2,0,none⟩) 2 2] 36)) ((w0.alloc (.cells (idC (idN a)++idC (idN b)) 33)).alloc (.cells #[.slice (some ⟨z+2,0,none⟩) 2 2] 36)).heap.size 32 (some ⟨z+2,0,none⟩) 2 (([a,b].map idN).flatMap idL) :=
  (ze.of_cells (n:=2) (size:=32) hrow2 (by simp [idC]) (by simp [za2])).more hrow2.lt
 have HALL:=zz (zqy R hw rs AP cP TV q [a,b] N 2 s g B hN (by omega) (fun x hx=>by simp at hx;rcases hx with rfl|rfl <;> assumption) hp4 rfl (by omega) (some ⟨z+2,0,none⟩) 2 ⟨z+2+1,0,none⟩ 1 ((w0.alloc (.cells (idC (idN a)++idC (idN b)) 33)).alloc (.cells #[.slice (some ⟨z+2,0,none⟩) 2 2] 36)) ((hlst.cell 0).trans rfl) hrd hB ((k0.cell (p:=⟨g,0,none⟩) (by show g<z+2;omega)).trans HG0.out) hgs (HS0.out.below k0 (by omega)) (HR0.out.below (k0.mono (by omega))));have HK0:=zz k0;have HZ2:=zz hz2;clear hrow hrow2 hlst hrd k0 hz2;go_upto_region 2 with (go_at_call 58;(with_reducible refine HALL.out.mono ?_);rintro _ w3 ⟨m,q3,out,rfl,hc3,hm3,ho3,hk3,hs3⟩;have HC3:=zz hc3;have HO3:=zz ho3;have HK3:=zz hk3;have HS3:=zz hs3;clear hc3 ho3 hk3 hs3)
 have hz3:z+4≤w3.heap.size:=by have:=HK3.out.size;have:=HZ2.out;omega
 have HA3:=zz ((HA0.out.below HK0.out (by omega)).keep HK3.out (by unfold Only;omega));have HB3:=zz ((HB0.out.below HK0.out (by omega)).keep HK3.out (by unfold Only;omega));have HKW3:=zz (show Keep (Only s) w w3 from ((Below.keep_ (show Below w.heap.size w w0 from by rw [HZ.out];exact H0.out) _).thenBelow (B:=z) (HK0.out.mono (by omega)) (by have:=HZ.out;omega)).trans HK3.out);clear HALL HA0 HB0 HK0 HZ2 HK3 HS0 HG0 HR0 d1 d2 hz1 H0;generalize hz4:w3.heap.size=z3 at *;have hm3':m<w3.heap.size:=by omega
 have HAB:=zz (show ∀(x:Nat),x<N→(∀y,Rch R x y→y∈out)→∀(W:World) (A:Option Addr) (c:Nat),Below w3.heap.size w3 W→ze W W.heap.size 32 A 1 (([idN x]:List Id).flatMap idL)→Calls Tryz.prog 59 #[.map (some m),.slice A 1 c] W fun e w'=>∃k m' out',e = .returned (.map (some m'))∧KeyI w' m' k out'∧k≤N∧out'.Nodup∧(∀y,y∈out'↔Rch R x y)∧Below W.heap.size W w'∧m'<w'.heap.size from fun x hx hd W A c hb hr=>by
  have hcm:=HC3.out
  have:=zjH R hw out [x] N 1 m W.heap.size hN (by omega) (fun y hy=>by simp at hy;omega) (fun y hy u hu=>by simp at hy;subst hy;exact hd u hu) hp4 rfl (by omega) A c W hr (Nat.le_refl _) (Nat.lt_of_lt_of_le hm3' hb.size) (by
   obtain ⟨n,f,h1,h2⟩:=hcm.map;exact ⟨n,f,h1.block (hb.block m hm3'),fun y hy=>by
    obtain ⟨A,c,e,h3⟩:=h2 y hy;exact ⟨A,c,e,(h3.below (hb.mono (by omega))).more (by have:=hb.size;omega)⟩⟩)
  refine this.mono ?_;rintro e w' ⟨k,m',out',rfl,h1,h2,h3,h4,h5,_⟩
  refine ⟨k,m',out',rfl,h1,h2,h3,fun y=>(h4 y).trans ⟨fun ⟨u,hu,hru⟩=>?_,fun hr=>⟨x,by simp,hr⟩⟩,h5,?_⟩
  · simp at hu;subst hu;exact hru
  · obtain ⟨f,hv,_⟩:=h1.map;exact hv.lt)
 have HDA:=zz (show ∀y,Rch R a y→y∈out from fun y h=>(HO3.out y).2 ⟨a,by simp,h⟩);have HDB:=zz (show ∀y,Rch R b y→y∈out from fun y h=>(HO3.out y).2 ⟨b,by simp,h⟩);have HLD:=zz (show ∀W,Below w3.heap.size w3 W→(LdId (.pointer (some ⟨z,0,none⟩))).run Tryz.prog W = .ok (idV (idN a)) W∧(LdId (.pointer (some ⟨z+1,0,none⟩))).run Tryz.prog W = .ok (idV (idN b)) W from fun W h=>⟨LdId.blk (HA3.out.below h (by omega)),LdId.blk (HB3.out.below h (by omega))⟩);have hbd:Below w3.heap.size w3 w3.drew:=(Below.refl _ w3).drew;obtain ⟨S1,S2⟩:=HLD.out _ hbd;have hrA1:Blk (w3.alloc (.cells (idC (idN a)) 33)) z3 33 (idC (idN a)):=hz4▸Blk.new w3 33 (idC (idN a));have hrA2:=hrA1.alloc (.cells (idC (idN b)) 33);have hrB2:Blk ((w3.alloc (.cells (idC (idN a)) 33)).alloc (.cells (idC (idN b)) 33)) (z3+1) 33 (idC (idN b)):=by
  have:=Blk.new (w3.alloc (.cells (idC (idN a)) 33)) 33 (idC (idN b));rw [show (w3.alloc (.cells (idC (idN a)) 33)).heap.size=z3+1 from by simp [hz4]] at this;exact this
 have hrB1:Blk (w3.alloc (.cells (idC (idN b)) 33)) z3 33 (idC (idN b)):=hz4▸Blk.new w3 33 (idC (idN b));have hrB3:=hrB1.alloc (.cells (idC (idN a)) 33);have hrA3:Blk ((w3.alloc (.cells (idC (idN b)) 33)).alloc (.cells (idC (idN a)) 33)) (z3+1) 33 (idC (idN a)):=by
  have:=Blk.new (w3.alloc (.cells (idC (idN b)) 33)) 33 (idC (idN a));rw [show (w3.alloc (.cells (idC (idN b)) 33)).heap.size=z3+1 from by simp [hz4]] at this;exact this
 have HRW:=zz (And.intro hrA1 (And.intro hrA2 (And.intro hrB2 (And.intro hrB3 hrA3))));clear hrA1 hrA2 hrB2 hrB1 hrB3 hrA3;have HBL:=zz (show Below w3.heap.size w3 (w3.alloc (.cells (idC (idN a)) 33)).drew∧Below w3.heap.size w3 ((w3.alloc (.cells (idC (idN a)) 33)).alloc (.cells (idC (idN b)) 33)).drew∧Below w3.heap.size w3 ((w3.alloc (.cells (idC (idN b)) 33)).alloc (.cells (idC (idN a)) 33)).drew from ⟨((Below.refl w3.heap.size w3).alloc (Nat.le_refl _) _).drew,(((Below.refl w3.heap.size w3).alloc (Nat.le_refl _) _).alloc (by simp) _).drew,(((Below.refl w3.heap.size w3).alloc (Nat.le_refl _) _).alloc (by simp) _).drew⟩);have KA1:=zz (HAB.out a ha HDA.out (w3.alloc (.cells (idC (idN a)) 33)).drew (some ⟨z3,0,none⟩) 1 HBL.out.1 (zdV HRW.out.1.drew));have KA2:=zz (HAB.out a ha HDA.out ((w3.alloc (.cells (idC (idN a)) 33)).alloc (.cells (idC (idN b)) 33)).drew (some ⟨z3,0,none⟩) 1 HBL.out.2.1 (zdV HRW.out.2.1.drew));have KA3:=zz (HAB.out a ha HDA.out ((w3.alloc (.cells (idC (idN b)) 33)).alloc (.cells (idC (idN a)) 33)).drew (some ⟨z3+1,0,none⟩) 1 HBL.out.2.2 (zdV HRW.out.2.2.2.2.drew));obtain ⟨S3,S4⟩:=HLD.out _ HBL.out.1;obtain ⟨S5,S6⟩:=HLD.out (w3.alloc (.cells (idC (idN b)) 33)).drew ((Below.refl w3.heap.size w3).alloc (Nat.le_refl _) _).drew;obtain ⟨S7,S8⟩:=HLD.out _ HBL.out.2.1;obtain ⟨S9,S10⟩:=HLD.out _ HBL.out.2.2;go_upto_region 4 with fail
 go_cut [10,11] (fun s10 s11 wx=>∃m1 n1 o1 m2 n2 o2,s10 = .map (some m1)∧s11 = .map (some m2)∧Hid (KeyI wx m1 n1 o1)∧Hid (KeyI wx m2 n2 o2)∧Hid (o1.Nodup∧(∀y,y∈o1↔Rch R a y)∧(∀y,y∈o2↔Rch R b y)∧Below w3.heap.size w3 wx))
 case first =>
  go_region_law (first
   | (go_simp;go_at_call 59;(with_reducible refine KA1.out.mono ?_);rintro _ w5 ⟨k1,m1,o1,rfl,hi1,hk1,hn1,ho1,hb1,hm1⟩;have b5:Below w3.heap.size w3 w5:=HBL.out.1.trans (hb1.mono HBL.out.1.size);have e5:=(HLD.out w5 b5).2;have H5:=zz (And.intro hi1 (And.intro hn1 (And.intro ho1 (And.intro b5 hm1))));have HB5:Hid True:=zz trivial;clear hi1 hn1 ho1 b5)
   | (go_simp;go_at_call 59;(with_reducible refine KA2.out.mono ?_);rintro _ w5 ⟨k1,m1,o1,rfl,hi1,hk1,hn1,ho1,hb1,hm1⟩;have b5:Below w3.heap.size w3 w5:=HBL.out.2.1.trans (hb1.mono HBL.out.2.1.size);have e5:=(HLD.out w5 b5).2;have H5:=zz (And.intro hi1 (And.intro hn1 (And.intro ho1 (And.intro b5 hm1))));have HB5:=zz (HRW.out.2.2.1.drew.below hb1 HRW.out.2.2.1.lt);clear hi1 hn1 ho1 b5)
   | (go_simp;go_at_call 59;(with_reducible refine KA3.out.mono ?_);rintro _ w5 ⟨k1,m1,o1,rfl,hi1,hk1,hn1,ho1,hb1,hm1⟩;have b5:Below w3.heap.size w3 w5:=HBL.out.2.2.trans (hb1.mono HBL.out.2.2.size);have e5:=(HLD.out w5 b5).2;have H5:=zz (And.intro hi1 (And.intro hn1 (And.intro ho1 (And.intro b5 hm1))));have HB5:=zz (HRW.out.2.2.2.1.drew.below hb1 HRW.out.2.2.2.1.lt);clear hi1 hn1 ho1 b5)
   | (go_simp;go_at_call 59;(with_reducible refine (HAB.out b hb HDB.out (w5.alloc (.cells (idC (idN b)) 33)) _ _ (by exact H5.out.2.2.2.1.alloc (by have:=H5.out.2.2.2.1.size;omega) _) (by exact zdV (Blk.new w5 _ (idC (idN b))))).mono ?_);rintro _ w6 ⟨k2,m2,o2,rfl,hi2,hk2,hn2,ho2,hb2,hm2⟩;have H6:=zz (And.intro hi2 ho2);have HI6:=zz (And.intro (H5.out.1.below (((Below.refl w5.heap.size w5).alloc (Nat.le_refl _) _).trans (hb2.mono (by simp))) H5.out.2.2.2.2) (H5.out.2.2.2.1.trans (((Below.refl w3.heap.size w5).alloc H5.out.2.2.2.1.size _).trans (hb2.mono (by have:=H5.out.2.2.2.1.size;simp;omega)))));clear hi2 ho2 hb2)
   | (go_simp;go_at_call 59;(with_reducible refine (HAB.out b hb HDB.out w5 _ _ (by exact H5.out.2.2.2.1) (by exact zdV HB5.out)).mono ?_);rintro _ w6 ⟨k2,m2,o2,rfl,hi2,hk2,hn2,ho2,hb2,hm2⟩;have H6:=zz (And.intro hi2 ho2);have HI6:=zz (And.intro (H5.out.1.below hb2 H5.out.2.2.2.2) (H5.out.2.2.2.1.trans (hb2.mono H5.out.2.2.2.1.size)));clear hi2 ho2 hb2))
  all_goals
   go_wp2_with fail
   go_meet
   exact ⟨m1,k1,o1,m2,k2,o2,rfl,rfl,zz HI6.out.1,zz H6.out.1,zz ⟨H5.out.2.1,H5.out.2.2.1,H6.out.2,HI6.out.2⟩⟩
 case rest =>
  obtain ⟨m1,n1,o1,m2,n2,o2,rfl,rfl,HI1,HI2,HX⟩:=hcut;clear S1 S2 S3 S4 S5 S6 S7 S8 S9 S10 KA1 KA2 KA3 HBL HRW HAB HLD hbd HA3 HB3;generalize wc=w4 at *;obtain ⟨y,hy⟩:∃y,w4.heap.size=y:=⟨_,rfl⟩;have hm0:=KeyI.made w4;rw [hy] at hm0;have b5:Below y w4 (w4.alloc (.map #[] 0)):=(Below.refl y w4).alloc (by omega) _;obtain ⟨f1,hv1,hf1⟩:=HI1.out.map;obtain ⟨f2,hv2,hf2⟩:=HI2.out.map;have hm1:m1<y:=by have:=hv1.lt;omega
  have hm2:m2<y:=by have:=hv2.lt;omega
  have hs5:(w4.alloc (.map #[] 0)).heap.size=y+1:=by simp [hy]
  obtain ⟨w6,hrg,hvr,hk6,hz6⟩:=(hv1.block (b5.block m1 hm1)).range Tryz.underlying141;rw [hs5] at hrg hvr hz6;have HVR:=zz hvr;have HM6:=zz (hm0.keep hk6 (fun q=>q));have HB6:=zz (show Below y w4 w6 from b5.trans (hk6.below (by omega) (fun _ _ q=>q)));have HV2:=zz hv2;have HF1:=zz hf1;have HF2:=zz hf2;have HO1:=zz (show ∀x∈o1,x<N from fun x hx=>by
   have:=((HX.out.2.1 x).1 hx).lt hw (by rw [hN];exact ha);omega)
  have HO2:=zz (show ∀x∈o2,x<N from fun x hx=>by
   have:=((HX.out.2.2.1 x).1 hx).lt hw (by rw [hN];exact hb);omega)
  have hz34:=HX.out.2.2.2.size;clear hm0 b5 hv1 hv2 hf1 hf2 hvr hk6 HI1 HI2;go_upto_region 7 with fail
  clear hrg hmm hs5
  go_loopw [] (fun wq=>∃(left:Id→Bool) (cnt k:Nat) (dn:List Nat),Hid (VIR wq m1 (y+1) n1 f1 left cnt)∧Hid (KeyI wq y k dn)∧Hid (∀x,x∈dn↔(x∈o1∧left (idN x)=false)∧x∈o2)∧Hid (dn.Nodup)∧k≤dn.length∧Hid (Below y w4 wq)) (fun wq=>wq.rangeLeft m1 (y+1))
  case atStart =>
   refine ⟨_,n1,0,[],HVR,HM6,zz (fun x=>Iff.intro (fun h=>?_) ?_),zz List.nodup_nil,Nat.le_refl _,HB6⟩
   · cases h
   · rintro ⟨⟨h1,h2⟩,_⟩;have:=(HF1.out (idN x)).2 ⟨x,h1,rfl⟩;rw [h2] at this;cases this
  case round =>
   clear HVR HM6 HB6 hz6;obtain ⟨left,cnt,k,dn,HVQ,HM,HD,HN,hkd,HBQ⟩:=hrel;have hml:=HVQ.out.left_eq
   rcases HVQ.out.next 0 with ⟨_,q2,hnx⟩|⟨i,v,w7,cnt',q1,q2,hnx,q4,q5,q6,q7,hent⟩
   · have HD1:=zz (show ∀x,x∈dn↔x∈o1∧x∈o2 from fun x=>(HD.out x).trans ⟨fun h=>⟨h.1.1,h.2⟩,fun h=>⟨⟨h.1,q2 _⟩,h.2⟩⟩);have hkN:k≤16:=by
      have:=zc5 N dn HN.out (fun u hu=>HO1.out u ((HD1.out u).1 hu).1);omega
     obtain ⟨f3,hv3,hf3⟩:=HM.out.map;obtain ⟨w8,hrg,hvr,hk8,hz8⟩:=hv3.range Tryz.underlying141;obtain ⟨r2,hr2⟩:∃r2,wr.heap.size=r2:=⟨_,rfl⟩;rw [hr2] at hrg hvr hz8;have hyr:y<r2:=by have:=hv3.lt;omega
     have HVR:=zz hvr;have HF3:=zz hf3;have HV3:=zz hv3;have HB8:=zz (show Below r2 wr w8 from hk8.below (by omega) (fun _ _ q=>q));have hz8':r2+1≤w8.heap.size:=by omega
     clear hml q2 hk8 hv3 hf3 hvr HVQ HM HD hz8;go_upto_region 14 with fail
     clear hrg hnx;generalize wr=wA at *
     go_loopw [16] (fun s16 wq=>∃(left:Id→Bool) (cnt n:Nat) (A:Option Addr) (c:Nat) (ps:List Nat),s16 = .slice A n c∧ps.length=n∧Hid (VIR wq y r2 k f3 left cnt)∧Hid (Own wq (r2+1) 33 32 A n c ((ps.map idN).flatMap idL))∧Hid (∀p,p∈ps↔∃j∈dn,left (idN j)=false∧p∈par R j)∧n+4*cnt≤64∧Hid (Below r2 wA wq)∧r2+1≤wq.heap.size) (fun _ wq=>wq.rangeLeft y r2)
     case atStart =>
      refine ⟨_,k,0,none,0,[],rfl,rfl,HVR,zz (Own.nil _ _ _ _),zz (fun p=>Iff.intro (fun h=>?_) ?_),by omega,HB8,hz8'⟩
      · cases h
      · rintro ⟨j,h1,h2,_⟩;have:=(HF3.out (idN j)).2 ⟨j,h1,rfl⟩;rw [h2] at this;cases this
     case round =>
      clear HVR HB8 hz8';obtain ⟨left,cnt,n,A,c,ps,rfl,hpl,HVQ,HO,HP,hn4,HBQ2,hzq⟩:=hrel;have hml:=HVQ.out.left_eq
      rcases HVQ.out.next 0 with ⟨_,q2,hnx⟩|⟨i,v,w7,cnt',q1,q2,hnx,q4,q5,q6,q7,hent⟩
      · have HP1:=zz (show ∀p,p∈ps↔∃j∈dn,p∈par R j from fun p=>(HP.out p).trans ⟨fun ⟨j,h1,_,h3⟩=>⟨j,h1,h3⟩,fun ⟨j,h1,h3⟩=>⟨j,h1,q2 _,h3⟩⟩);have hRa:∀p∈ps,Rch R a p:=fun p hp=>by
         obtain ⟨j,h1,h2⟩:=(HP1.out p).1 hp;exact ((HX.out.2.1 j).1 ((HD1.out j).1 h1).1).trans (.up h2 (.refl p))
        have b3r:Below z3 w3 wr:=by
         have h1:=HX.out.2.2.2;rw [hz4] at h1;exact h1.trans ((HBQ.out.mono (by omega)).trans (HBQ2.out.mono (by omega)))
        have HAB:=zz (zjH R hw out ps N n m wr.heap.size hN (by omega) (fun p hp=>by have:=(hRa p hp).lt hw (by rw [hN];exact ha);omega) (fun p hp x hx=>HDA.out x ((hRa p hp).trans hx)) hp4 hpl (by omega) A c wr HO.out.reads (Nat.le_refl _) (by omega) (by
         obtain ⟨n,f,h1,h2⟩:=HC3.out.map;exact ⟨n,f,h1.block (b3r.block m hm3),fun y hy=>by
          obtain ⟨A,c,e,h3⟩:=h2 y hy;exact ⟨A,c,e,(h3.below b3r).more (by omega)⟩⟩))
        obtain ⟨z9,hz9⟩:∃z9,wr.heap.size=z9:=⟨_,rfl⟩;rw [hz9] at HAB;have HK3:=zz (show KeyI wr y k dn from ⟨⟨f3,HV3.out.block (HBQ2.out.block y hyr),HF3.out⟩⟩);have HWK:=zz (show Below z3 w3 wr from b3r);clear hml q2 b3r hRa HVQ HO HP HC3;go_upto_region 17 with fail
        go_upto_region 18 with (go_at_call 59;(with_reducible refine HAB.out.mono ?_);rintro _ w10 ⟨k4,m4,o4,rfl,hi4,hk4,hn4',ho4,hb10,hm4⟩;obtain ⟨f4,hv4,hf4⟩:=hi4.map;obtain ⟨w11,hrg4,hvr4,hk11,hz11⟩:=hv4.range Tryz.underlying141;have HV4:=zz hv4.lt;have HVR:=zz hvr4;have HK11:=zz hk11;have HF4:=zz hf4;have HB10:=zz hb10;have HO4:=zz ho4;have HZ11:=zz hz11;clear hi4 hv4 hvr4 hk11 hf4 hb10 ho4 hz11)
        clear hrg4 hnx HAB;obtain ⟨r3,hr3⟩:∃r3,w10.heap.size=r3:=⟨_,rfl⟩;have hr39:z9≤r3:=by have:=HB10.out.size;omega
        have HB11:=zz (show Below z9 wr w11 from HB10.out.trans (HK11.out.below (by omega) (fun _ _ q=>q)));have hm43:m4<r3:=by have:=HV4.out;omega
        have HK4:=zz (HK3.out.below HB11.out (by omega));have HVR4:=zz (show VIR w11 m4 r3 k4 f4 (fun s=>(f4 s).isSome) k4 from by rw [←hr3];exact HVR.out);have hz11':r3+1≤w11.heap.size:=by have:=HZ11.out;omega
        rw [hr3];generalize wr=wB at *;clear HVR HK11 HB10 HZ11 HV4 HK3
        go_loopw [] (fun wq=>∃(left:Id→Bool) (cnt k':Nat) (d3:List Nat),Hid (VIR wq m4 r3 k4 f4 left cnt)∧Hid (KeyI wq y k' d3)∧k'≤k∧Hid (∀x,x∈d3↔x∈dn∧¬(x∈o4∧left (idN x)=false))∧Hid (Below y wB wq)∧r3+1≤wq.heap.size) (fun wq=>wq.rangeLeft m4 r3)
        case atStart =>
         refine ⟨_,k4,k,dn,HVR4,HK4,Nat.le_refl _,zz (fun x=>⟨fun h=>⟨h,fun q=>?_⟩,fun h=>h.1⟩),zz (HB11.out.mono (by omega)),hz11'⟩;have:=(HF4.out (idN x)).2 ⟨x,q.1,rfl⟩;rw [q.2] at this;cases this
        case round =>
         clear HVR4 HK4 HB11 hz11';obtain ⟨left,cnt,k',d3,HVQ,HK,hkk,HD3,HBQ3,hzq3⟩:=hrel;have hml:=HVQ.out.left_eq
         rcases HVQ.out.next 0 with ⟨_,q2,hnx⟩|⟨i,v,w12,cnt',q1,q2,hnx,q4,q5,q6,q7,hent⟩
         · have HD4:=zz (show ∀x,x∈d3↔Low R a b x from fun x=>by
            rw [HD3.out,HD1.out,HX.out.2.1,HX.out.2.2.1];constructor
            · rintro ⟨h1,h2⟩;refine ⟨h1,fun ⟨j,⟨hj1,hj2⟩,p,hp,hr⟩=>h2 ⟨(HO4.out x).2 ⟨p,(HP1.out p).2 ⟨j,(HD1.out j).2 ⟨(HX.out.2.1 j).2 hj1,(HX.out.2.2.1 j).2 hj2⟩,hp⟩,hr⟩,q2 _⟩⟩
            · rintro ⟨h1,h2⟩;refine ⟨h1,fun ⟨h3,_⟩=>?_⟩;obtain ⟨p,hp,hr⟩:=(HO4.out x).1 h3;obtain ⟨j,hj,hpj⟩:=(HP1.out p).1 hp;exact h2 ⟨j,⟨(HX.out.2.1 j).1 ((HD1.out j).1 hj).1,(HX.out.2.2.1 j).1 ((HD1.out j).1 hj).2⟩,p,hpj,hr⟩)
           have hk16:decide ((16:Int)<(k':Int))=false:=decide_eq_false (by omega);obtain ⟨f5,hv5,hf5⟩:=HK.out.map;have hln:=fun ty=>hv5.len Tryz.underlying141 ty;have HKY:=zz (zty (some y) wr);have HSD:=zz (zr3 (w:=wr) hv5 (by omega));have HF5:=zz hf5;have HBW:=zz (show Below z3 w3 wr from HWK.out.trans (HBQ3.out.mono (by omega)));clear q2 hml hv5 hf5
           go_wp2_with (first
            | (go_at_call 61;(with_reducible refine HKY.out.mono ?_);rintro _ w20 ⟨rfl,rfl⟩)
            | (go_at_call 60;(with_reducible refine HSD.out.mono ?_);rintro _ w21 ⟨A6,c6,ks,rfl,hks,ho6,hb6⟩;have HKS:=zz hks;have HO6:=zz ho6;have HB6:=zz hb6;clear hks ho6 hb6))
           go_ret2
           obtain ⟨ls,rfl,hls⟩:=zjs ks (fun i hi=>by
            obtain ⟨x,hx,e⟩:=(HF5.out i).1 ((HKS.out.2.1 i).1 hi);exact ⟨x,by have:=HO1.out x ((HD1.out x).1 ((HD3.out x).1 hx).1).1;omega,e⟩)
           have hm5:∀x,x∈ls↔Low R a b x:=fun x=>by
            rw [←HD4.out];constructor
            · intro h;obtain ⟨u,hu,e⟩:=(HF5.out (idN x)).1 ((HKS.out.2.1 (idN x)).1 (List.mem_map.2 ⟨x,h,rfl⟩));rw [zbh (hls x h) (by have:=HO1.out u ((HD1.out u).1 ((HD3.out u).1 hu).1).1;omega) e];exact hu
            · intro h;obtain ⟨u,hu,e⟩:=List.mem_map.1 ((HKS.out.2.1 (idN x)).2 ((HF5.out (idN x)).2 ⟨x,h,rfl⟩));rw [zbh (by have:=HO1.out x ((HD1.out x).1 ((HD3.out x).1 h).1).1;omega) (hls u hu) e.symm];exact hu
           have hsz3:=HBW.out.size;rw [hz4] at hsz3;have hbz:Below z3 w3 w21:=HBW.out.trans (HB6.out.mono hsz3);have hll:ls.length=(ls.map idN).length:=by simp
           exact ⟨A6,c6,q3,ls,(by rw [hll];rfl),zpa hls HKS.out.1 HKS.out.2.2.2 hm5,by have:=HO6.out.mono (base':=z) (by omega);rwa [←hll] at this,HKW3.out.thenBelow hbz (by have:=HKW3.out.size;omega),HS3.out.below hbz (by have:=HS3.out.lt;omega)⟩
         · obtain ⟨x,hx,rfl⟩:=(HF4.out i).1 (by rw [q2];rfl);have hml2:=q4.left_eq;have HML:=zz (show w12.rangeLeft m4 r3<wr.rangeLeft m4 r3 from by rw [hml,hml2];exact q5);have HR12:=zz hml2;have HB12:=zz (HBQ3.out.trans (q6.below (by omega) (fun j hj h=>by unfold Only at h;omega)));have HV12:=zz q4;have HK12:=zz (HK.out.keep q6 (by unfold Only;omega));have hz12:r3+1≤w12.heap.size:=by omega
           have hxN:x<N:=by
            obtain ⟨p,h1,h2⟩:=(HO4.out x).1 hx;obtain ⟨j,h3,h4⟩:=(HP1.out p).1 h1;have:=(((HX.out.2.1 j).1 ((HD1.out j).1 h3).1).trans (.up h4 h2)).lt hw (by rw [hN];exact ha);omega
           clear hml hml2 q1 q2 q4 q5 q6 q7 HVQ HK HBQ3;go_upto_region 20 with (first|(refine zcr rfl rfl (zbF _) ?_)|(refine zO rfl rfl (vs:=idC (idN x)) rfl rfl (Blk.new _ _ _) (by rw [zy,zy]) (by rw [zy];exact zaN) (zbq _) ?_;intro w13 hb13 hk13 hs13))
           have b13:Below w12.heap.size w12 w13:=((Below.refl _ w12).alloc (Nat.le_refl _) _).trans (hk13.below (by simp) (by unfold Only;intro i hi h;omega));have hlq:=LdId.blk hb13;have HV13:=zz (HV12.out.keep (keepB b13) (by omega) (by omega));have hK13:=HK12.out.keep (keepB b13) (by omega);have HB13:=zz (HB12.out.trans (b13.mono (by omega)));obtain ⟨w14,n14,hst,hk14,hn14,hkk14,hs14⟩:=hK13.drop (x:=x) (fun u hu=>by have:=HO1.out u ((HD1.out u).1 ((HD3.out u).1 hu).1).1;omega) (by omega) 0;have HV14:=zz (HV13.out.keep hkk14 (by unfold Only;omega) (by unfold Only;omega));have HK14:=zz hk14;have HB14:=zz (HB13.out.trans (hkk14.below (by have:=HB13.out.size;omega) (fun j hj h=>by unfold Only at h;omega)));have hz14:r3+1≤w14.heap.size:=by have:=b13.size;omega
           have HD14:=zz (show ∀u,u∈d3.filter (fun y=>y !=x)↔u∈dn∧¬(u∈o4∧(left (idN u)&&!decide (idN u=idN x))=false) from fun u=>by
            rw [List.mem_filter,HD3.out,bne_iff_ne];constructor
            · rintro ⟨⟨h1,h2⟩,h3⟩;refine ⟨h1,fun ⟨h4,h5⟩=>?_⟩;have e:idN u≠idN x:=fun e=>h3 (zbh (by have:=HO1.out u ((HD1.out u).1 h1).1;omega) (by omega) e);rw [decide_eq_false e] at h5;exact h2 ⟨h4,by simpa using h5⟩
            · rintro ⟨h1,h2⟩;refine ⟨⟨h1,fun ⟨h4,h5⟩=>h2 ⟨h4,by rw [h5];rfl⟩⟩,fun e=>?_⟩;subst e;exact h2 ⟨hx,by simp⟩)
           clear b13 hK13 hk14 hkk14 hs14 hb13 hk13 hs13 HV12 HK12 HB12 HV13 HB13
           go_wp2_with fail
           refine ⟨⟨_,cnt',n14,_,HV14,HK14,by omega,HD14,HB14,hz14⟩,?_⟩;have h1:=HV14.out.left_eq;have h2:=HML.out;rw [HR12.out] at h2;rw [h1];exact h2
      · obtain ⟨x,hx,rfl⟩:=(HF3.out i).1 (by rw [q2];rfl);have hml2:=q4.left_eq;have HML:=zz (show w7.rangeLeft y r2<wr.rangeLeft y r2 from by rw [hml,hml2];exact q5);have HR7:=zz hml2;have hn5:n+4+4*cnt'≤64:=by omega
        have hz7:r2+1≤w7.heap.size:=by omega
        have HB7:=zz (HBQ2.out.trans (q6.below (by omega) (fun j hj h=>by unfold Only at h;omega)));have HV7:=zz q4;have HO7:=zz (show Own w7 (r2+1) 33 32 A n c ((ps.map idN).flatMap idL) from HO.out.same fun j hj hlt _=>q6.block j hlt (by unfold Only;omega));have hxo1:=((HD1.out x).1 hx).1;have hxN:=HO1.out x hxo1;have hxout:x∈out:=HDA.out x ((HX.out.2.1 x).1 hxo1);clear hml hml2 q1 q2 q4 q5 q6 q7 HVQ HO HBQ2;go_upto_region 16 with (first|(refine zcr rfl rfl (zbF _) ?_)|(refine zO rfl rfl (vs:=idC (idN x)) rfl rfl (Blk.new _ _ _) (by rw [zy,zy]) (by rw [zy];exact zaN) (zbq _) ?_;intro w8 hb8 hk8 hs8))
        have b8:Below w7.heap.size w7 w8:=((Below.refl _ w7).alloc (Nat.le_refl _) _).trans (hk8.below (by simp) (by unfold Only;intro i hi h;omega));have hlq:=LdId.blk hb8;have HV8:=zz (HV7.out.keep (keepB b8) (by have:=HV7.out.owns.lt;omega) (by omega));have HB8:=zz (HB7.out.trans (b8.mono (by omega)));have HO8:=zz (HO7.out.kept (Kept.ofBelow (base:=0) (E:=[]) (G:=[]) b8) (by simp) (by simp));have hz8:r2+1≤w8.heap.size:=by have:=b8.size;omega
        have b38:Below z3 w3 w8:=by
         have h1:=HX.out.2.2.2;rw [hz4] at h1;exact h1.trans ((HBQ.out.mono (by omega)).trans (HB8.out.mono (by omega)))
        obtain ⟨nm,fm,hvm,hfm⟩:=HC3.out.map;obtain ⟨Ap,cp,hfx,hrp⟩:=hfm x hxout;have hlk:=(hvm.block (b38.block m hm3)).look Tryz.underlying138 (z := .slice none 0 0) (by kernel_rfl) (s:=idN x);rw [hfx] at hlk;have hrp8:=hrp.below b38;have hl4:=hp4 x;have hm1:n+(par R x).length≤maxLen:=by unfold maxLen;omega
        have hm2:(n+(par R x).length)*32≤140737488355328:=by omega
        clear b8 b38 hvm hfm hfx hrp hb8 hk8 hs8 HV7 HB7 HO7
        go_wp2_with (refine zH rfl zbT rfl rfl HO8.out rfl hrp8 (zdY _) hm1 hm2 hz8 ?_;intro A6 c6 w9 ho9 hk9;have HO9:=zz ho9;have HK9:=zz hk9;clear ho9 hk9)
        have b9:=HK9.out.below (B:=r2+1) (Nat.le_refl _) hz8 (by simp);have HV9:=zz (HV8.out.keep (keepB b9) (by omega) (by omega));have HB9:=zz (HB8.out.trans (b9.mono (by omega)));have HO99:=zz (show Own w9 (r2+1) 33 32 A6 (n+(par R x).length) c6 (((ps++par R x).map idN).flatMap idL) by
         rw [List.map_append,List.flatMap_append];exact HO9.out)
        have HP9:=zz (show ∀p,p∈ps++par R x↔∃j∈dn,(left (idN j)&&!decide (idN j=idN x))=false∧p∈par R j from fun p=>by
         rw [List.mem_append,HP.out];constructor
         · rintro (⟨j,h1,h2,h3⟩|h)
           · exact ⟨j,h1,by rw [h2];rfl,h3⟩
           · exact ⟨x,hx,by simp,h⟩
         · rintro ⟨j,h1,h2,h3⟩;by_cases e:idN j=idN x
           · rw [zbh (by have:=HO1.out j ((HD1.out j).1 h1).1;omega) (by omega) e] at h3;exact .inr h3
           · rw [decide_eq_false e] at h2;exact .inl ⟨j,h1,by simpa using h2,h3⟩)
        have hz9:r2+1≤w9.heap.size:=by have:=b9.size;omega
        clear HK9 HO9 b9 hlk hlq HV8 HO8 HB8
        go_roundw
        case rel=>exact ⟨_,cnt',n+(par R x).length,A6,c6,ps++par R x,rfl,by rw [List.length_append,hpl],HV9,HO99,HP9,by omega,HB9,hz9⟩
        case measure =>
         have h1:=HV9.out.left_eq;have h2:=HML.out;rw [HR7.out] at h2;rw [h1];exact h2
   · obtain ⟨x,hx,rfl⟩:=(HF1.out i).1 (by rw [q2];rfl);have hml2:=q4.left_eq;have HML:=zz (show w7.rangeLeft m1 (y+1)<wr.rangeLeft m1 (y+1) from by rw [hml,hml2];exact q5);have hy1:y+1<wr.heap.size:=HVQ.out.lt;have HM7:=zz (HM.out.keep q6 (by unfold Only;omega));have HB7:=zz (HBQ.out.trans (q6.below (by have:=HBQ.out.size;omega) (fun j hj h=>by unfold Only at h;omega)));have HV7:=zz q4;have hxN:=HO1.out x hx;have hdn:x∉dn:=fun h=>by
      have:=((HD.out x).1 h).1.2;rw [q1] at this;cases this
     have hkN:k≤16:=by
      have:=zc5 N dn HN.out (fun u hu=>HO1.out u ((HD.out u).1 hu).1.1);omega
     clear hml hml2 q1 q2 q4 q5 q6 q7 HVQ HM HBQ;go_upto_region 9 with (first|(refine zcr rfl rfl (zbF _) ?_)|(refine zO rfl rfl (vs:=idC (idN x)) rfl rfl (Blk.new _ _ _) (by rw [zy,zy]) (by rw [zy];exact zaN) (zbq _) ?_;intro w8 hb8 hk8 hs8))
     have b8:Below w7.heap.size w7 w8:=((Below.refl _ w7).alloc (Nat.le_refl _) _).trans (hk8.below (by simp) (by unfold Only;intro i hi h;omega));have hlq:=LdId.blk hb8;have hy7:y+1<w7.heap.size:=HV7.out.lt;have hx2:VI w8 m2 n2 f2:=HV2.out.block ((HB7.out.trans (b8.mono (by omega))).block m2 hm2);have hlk:(Instr.lookup 141 (.map (some m2)) (idV (idN x)) true).run Tryz.prog w8 = .ok (.tuple #[(f2 (idN x)).getD (.int .i64 0),.bool (decide (x∈o2))]) w8:=by
      have h0:=hx2.look_ok (s:=idN x) Tryz.underlying141 (z := .int .i64 0) (by kernel_rfl);have:(f2 (idN x)).isSome=decide (x∈o2):=by
       rw [Bool.eq_iff_iff,HF2.out,decide_eq_true_iff];constructor
       · rintro ⟨u,hu,e⟩;rw [zbh (by omega) (by have:=HO2.out u hu;omega) e];exact hu
       · exact fun h=>⟨x,h,rfl⟩
      rw [this] at h0;exact h0
     have HV8:=zz (HV7.out.keep (S:=zl) (Below.keep_ b8 _) (fun q=>q) (fun q=>q));have HM8:=zz (HM7.out.keep (S:=zl) (Below.keep_ b8 _) (fun q=>q));have HB8:=zz (HB7.out.trans (b8.mono (by omega)));have HR8:=zz (show w8.rangeLeft m1 (y+1)=cnt' from HV8.out.left_eq);have HR7:=zz (show w7.rangeLeft m1 (y+1)=cnt' from HV7.out.left_eq);clear b8 hx2 HV7 HM7 HB7 hs8 hk8;go_upto_region 10 with fail
     by_cases hxo:x∈o2
     · rw [decide_eq_true hxo];obtain ⟨w9,hst,hm9,hk9,hs9⟩:=HM8.out.put hdn (fun u hu=>by have:=HO1.out u ((HD.out u).1 hu).1.1;omega) (by omega) (by unfold maxLen;omega) (.int .i64 0);have HV9:=zz (HV8.out.keep hk9 (by unfold Only;omega) (by unfold Only;omega));have HM9:=zz hm9;have HB9:=zz (HB8.out.trans (hk9.below (by have:=HB8.out.size;omega) (fun j hj h=>by unfold Only at h;omega)));have HD9:=zz (show ∀u,u∈dn++[x]↔(u∈o1∧(left (idN u)&&!decide (idN u=idN x))=false)∧u∈o2 from fun u=>by
        rw [List.mem_append,HD.out,List.mem_singleton];constructor
        · rintro (⟨⟨h1,h2⟩,h3⟩|rfl)
          · exact ⟨⟨h1,by rw [h2];rfl⟩,h3⟩
          · exact ⟨⟨hx,by simp⟩,hxo⟩
        · rintro ⟨⟨h1,h2⟩,h3⟩;by_cases e:idN u=idN x
          · exact .inr (zbh (by have:=HO1.out u h1;omega) (by omega) e)
          · rw [decide_eq_false e] at h2;exact .inl ⟨⟨h1,by simpa using h2⟩,h3⟩)
       have HN9:=zz (show (dn++[x]).Nodup from by
        rw [List.nodup_append];refine ⟨HN.out,by simp,fun u hu v hv e=>?_⟩;rw [List.mem_singleton] at hv;subst hv e;exact hdn hu)
       clear hm9 hk9 hs9 hlk HM8 HV8
       go_wp2_with fail
       go_roundw
       case rel=>exact ⟨_,cnt',k+1,dn++[x],HV9,HM9,HD9,HN9,by simp;exact hkd,HB9⟩
       case measure =>
        have h1:=HV9.out.left_eq;have h2:=HML.out;rw [HR7.out] at h2;rw [h1];exact h2
     · rw [decide_eq_false hxo];have HD9:=zz (show ∀u,u∈dn↔(u∈o1∧(left (idN u)&&!decide (idN u=idN x))=false)∧u∈o2 from fun u=>by
        rw [HD.out];constructor
        · rintro ⟨⟨h1,h2⟩,h3⟩;exact ⟨⟨h1,by rw [h2];rfl⟩,h3⟩
        · rintro ⟨⟨h1,h2⟩,h3⟩;by_cases e:idN u=idN x
          · rw [zbh (by have:=HO1.out u h1;omega) (by omega) e] at h3;exact absurd h3 hxo
          · rw [decide_eq_false e] at h2;exact ⟨⟨h1,by simpa using h2⟩,h3⟩)
       go_wp2_with fail
       go_roundw
       case rel=>exact ⟨_,cnt',k,dn,HV8,HM8,HD9,HN,hkd,HB8⟩
       case measure =>
        have h2:=HML.out;rw [HR7.out] at h2;rw [HR8.out];exact h2
end
end Go.Proofs.YtmkmbbjgepcioaaGreatDoor
