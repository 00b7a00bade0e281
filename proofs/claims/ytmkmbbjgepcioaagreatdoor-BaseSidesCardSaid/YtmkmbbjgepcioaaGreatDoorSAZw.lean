/- Contracts of slices.AppendSeq, Collect, SortedFunc on the keys of the map of clashes. No statement of the seat is proved here. -/
import Derived.Test.YtmkmbbjgepcioaaGreatDoorSAHq
import Derived.Test.YtmkmbbjgepcioaaGreatDoorSA20
import Derived.Shelf.SlIter.Collect
namespace Go.Proofs.YtmkmbbjgepcioaaGreatDoor
set_option maxHeartbeats 2000000
set_option maxRecDepth 100000
open Go.RowKit Go.Maps Go.Sort Go.Shelf
def clK (s:CK):List Value:=[strC s.1.1,.int .i64 s.1.2]
theorem zkJ (l:List CK):∀v∈l.flatMap clK,v.oneCell'=true:=by
 intro v hv;obtain ⟨s,_,hs⟩:=List.mem_flatMap.1 hv;simp only [clK,strC,List.mem_cons,List.not_mem_nil,or_false] at hs;rcases hs with rfl|rfl <;> rfl
structure ComeK (D0:DataW Value) (left:Lit→Bool) (ss:List CK):Prop where
 nd:ss.Nodup
 gone:∀s∈ss,left (keyC s)=false
 has_:∀s∈ss,has D0 (keyC s)=true
 all:∀s,has D0 (keyC s)=true→left (keyC s)=false→s∈ss
theorem ComeK.start (D0:DataW Value):ComeK D0 (has D0) []:=⟨List.nodup_nil,fun _ h=>(by cases h),fun _ h=>(by cases h),fun s h1 h2=>(by rw [h1] at h2;cases h2)⟩
theorem ComeK.step {D0:DataW Value} {left:Lit→Bool} {ss:List CK} (h:ComeK D0 left ss) {s:CK} (hl:left (keyC s)=true) (hh:has D0 (keyC s)=true):ComeK D0 (fun z=>left z&&!z.sameKey (keyC s)) (ss++[s]) where
 nd:=by
  rw [List.nodup_append];refine ⟨h.nd,by simp,fun a ha b hb e=>?_⟩;rw [List.mem_singleton] at hb;subst hb e;have:=h.gone _ ha;rw [hl] at this;cases this
 gone t ht:=by
  simp only [zgU]
  rcases List.mem_append.1 ht with q|q
  · rw [h.gone t q];rfl
  · rw [List.mem_singleton] at q;subst q;simp
 has_ t ht:=by
  rcases List.mem_append.1 ht with q|q
  · exact h.has_ t q
  · rw [List.mem_singleton] at q;subst q;exact hh
 all t h1 h2:=by
  simp only [zgU] at h2;by_cases e:t=s
  · subst e;simp
  · rw [decide_eq_false e] at h2;simp at h2;exact List.mem_append.2 (.inl (h.all t h1 h2))
theorem zh9:(Tryz.prog.info? 86).map (fun i=>(i.zero,i.size,i.bytes))=some (some (.agg #[.string ⟨#[]⟩,.int .i64 0]),2,24):=by kernel_rfl
theorem zoI:Elem Tryz.prog 42 86 2 24:=by
 refine ⟨Tryz.underlying42,?_,by decide⟩;obtain ⟨i,hi,h1,h2,h3⟩:=info_parts zh9;exact ⟨i,_,hi,h1,h2,h3,rfl⟩
theorem zpl (w:World):(zeroValue 86).run Tryz.prog w = .ok (.agg #[.string ⟨#[]⟩,.int .i64 0]) w:=by kernel_rfl
def SlCl (n:Nat) (ps:Array (Nat×Value)):Sem Value:=Instr.buildSlice 42 n ps
theorem zn0 (n:Nat) (ps:Array (Nat×Value)):Instr.buildSlice 42 n ps=SlCl n ps:=rfl
theorem zse (s:CK) (w:World):(SlCl 1 #[(0,clV s)]).run Tryz.prog w = .ok (.slice (some ⟨w.heap.size,0,none⟩) 1 1) (w.alloc (.cells (clK s).toArray 86)) :=
 zbU zoI zpl rfl rfl (by omega) w
theorem zq7 (w:World) (xs:List Value) (t:TypeId):∀j u,xs[j]? = some u→(w.alloc (.cells xs.toArray t)).cell? ((⟨w.heap.size,0,none⟩:Addr).add j)=some u:=by
 intro j u h;rw [zJ,Nat.zero_add];rw [(Blk.new w t xs.toArray).cell];simpa using h
def StCl (p v:Value):Sem Unit:=Instr.storeAt 86 p v
theorem zn1 (p v:Value):Instr.storeAt 86 p v=StCl p v:=rfl
def LdCl (p:Value):Sem Value:=Instr.loadAt 86 p
theorem zia (p:Value):Instr.loadAt 86 p=LdCl p:=rfl
theorem zhQ:(Tryz.prog.info? 86).map (·.size)=some 2:=by kernel_rfl
theorem zmu (x:CK):∀v∈(clK x).toArray.toList,v.oneCell'=true:=by
 intro v hv;exact zkJ [x] v (by simpa using hv)
theorem zkG {w:World} {g:Nat} {cs:Array Value} {x:CK} (h:Blk w g 86 cs) (hs:cs.size=2:=by rfl):∃w',(StCl (.pointer (some ⟨g,0,none⟩)) (clV x)).run Tryz.prog w = .ok () w'∧Blk w' g 86 (clK x).toArray∧Keep (Only g) w w':=by
 have h1:=zdn (P:=Tryz.prog) (ty:=86) h 0 (vs:=(clK x).toArray) zhQ (by rw [hs];exact Nat.le_refl _) (zmu x);rw [zdF (by rw [hs];rfl)] at h1;exact ⟨_,h1,h.row _,Keep.setRow (Keep.refl (Only g) w) (.inl rfl) _⟩
theorem zjo {w:World} {g:Nat} {x:CK} (h:Blk w g 86 (clK x).toArray):(LdCl (.pointer (some ⟨g,0,none⟩))).run Tryz.prog w = .ok (clV x) w :=
 zaE w _ (clK x).toArray Tryz.underlying86 rfl zhQ (fun j v hj=>by rw [zJ,h.cell,←hj];simp)
theorem zlx {w w':World} {o:Obj} (hk:Keep (Only w.heap.size) (w.alloc o) w'):w.grownBy w' none:=⟨hk.os.trans rfl,hk.tape.trans rfl,hk.output.trans rfl,Nat.le_trans (by simp) hk.size,fun k hk' _=>(hk.block k (by simp;omega) (by simp only [Only];omega)).trans (Below.heap_alloc _ _ k hk')⟩
attribute [local go_sem ↓] zn0 zn1 zia
theorem zqR (F:Fence) (n:Nat) (h10:F.fn 126) (hro:F.round=none) (hn:1≤n) (l Bm b nn:Nat) (D0:DataW Value) (J:List CK→World→Prop) (hY:∀pre x W,J pre W→pre.length<Maps.size D0→YieldAt F (n-1) Tryz.prog l #[clV x] W fun e W'=>e = .returned (.bool true)∧J (pre++[x]) W'∧KeepsWalks W W') (W:World) (hJ:AbidesFrom W.heap.size J) (hm:W.cell? ⟨Bm,0,none⟩=some (.map (some b))) (hown:W.ownsMap Tryz.prog 86 zak b nn D0) (h0:J [] W) :CallsIn F n Tryz.prog 126 #[.func (.yield l) #[] #[],.pointer (some ⟨Bm,0,none⟩)] W fun e W'=>(∃v,e = .returned v)∧∃ss:List CK,(ss.Nodup∧(∀s,s∈ss↔has D0 (keyC s)=true)∧ss.length≤Maps.size D0)∧J ss W':=by
 refine callsIn_of_wp Tryz.func126 rfl h10 ?_ hro;simp only [Tryz.ntmps126,List.size_toArray,List.length_cons,List.length_nil,Nat.reduceAdd,Nat.reduceSub,Array.replicate_succ,Array.replicate_zero,List.push_toArray,List.append_toArray,List.nil_append,List.cons_append]
 gi_wp2_with (first
  | (gi_at_range;refine wpListIn_range_own _ rfl _ 163 rfl 86 3 zcB Tryz.underlying163 _ b nn _ rfl hown ?_;intro w0 hrg0 hg0 hs0)
  | gi_in)
 go_frame
 gi_loopw [3] (fun _ wr=>∃(left:Lit→Bool) (cnt:Nat) (ss:List CK),wr.ranges Tryz.prog 86 zak b W.heap.size nn D0 left cnt∧ss.length+cnt≤Maps.size D0∧ComeK D0 left ss∧J ss wr)
  (fun _ wr=>wr.rangeLeft b W.heap.size)
 case atStart =>
  exact ⟨_,_,[],hrg0,by simp,ComeK.start D0,hJ [] W w0 none h0 hg0 (fun r e=>by cases e)⟩
 case round =>
  obtain ⟨left,cnt,ss,hrg,hcs,hC,hJs⟩:=hrel
  gi_wp2_with (first
   | (gi_at_next;refine wpListIn_next_ranges _ rfl _ rfl 86 zcB zak clV id (fun key kl hk=>by obtain ⟨x,hx,_⟩:=zeQ hk;exact ⟨x,hx⟩) (fun v _ _=>⟨v,rfl⟩) b W.heap.size nn _ _ _ rfl hrg ?_ ?_)
   | gi_in)
  · intro hc0 hl0
    gi_wp2
    go_end0
    exact ⟨⟨_,rfl⟩,ss,⟨hC.nd,fun s=>⟨hC.has_ s,fun h=>hC.all s h (hl0 _)⟩,by omega⟩,hJs⟩
  · intro xp xn hx c kl yd yp w2 cnt2 hkey hlk hv hat hrg2 hlt hg2 hs2 hen;generalize (⟨(xp,xn),hx⟩:CK)=x at hkey hen ⊢;obtain ⟨x',ex,rfl⟩:=zeQ hkey;obtain rfl:x=x':=zgW (Option.some.inj ((zdl x).symm.trans hkey));have hJ2:J ss w2:=hJ ss wr w2 (some W.heap.size) hJs hg2 (fun r e=>by cases e;exact ⟨Nat.le_refl _,hrg.iter_walk⟩);obtain ⟨w2b,hst,hx2b,hk2b⟩:=zkG (x:=x) (Blk.new w2 86 #[.string ⟨#[]⟩,.int .i64 0]);have hg2b:=zlx hk2b;have hld:=zjo hx2b;have hJ2b:J ss w2b:=hJ ss w2 w2b none hJ2 hg2b (fun r e=>by cases e);have hrg2b:=hrg2.of_walks (KeepsWalks.of_grownBy hg2b (fun j o e _=>by cases e));obtain ⟨fn,tmps,assign,body,hy,hR⟩:=hY ss x w2b hJ2b (by omega);clear hk2b hx2b;clear hs2
    gi_wp2
    refine hR.mono ?_;rintro e W3 ⟨rfl,hJ3,hk3⟩
    gi_wp2
    have hrg3:=hrg2b.of_walks hk3
    go_roundw
    case rel=>exact ⟨_,cnt2,ss++[x],hrg3,by simp;omega,hC.step hlk (has_true_of_atKey hat),hJ3⟩
    case measure=>rw [hrg3.left_eq,hrg.left_eq];exact hlt
theorem zpd (F:Fence) (n:Nat) (h10:F.fn 126) (hro:F.round=none) (hn:1≤n) (Bm b nn:Nat) (D0:DataW Value) (w:World) (hBm:Bm<w.heap.size) (hm:w.cell? ⟨Bm,0,none⟩=some (.map (some b))) (hown:w.ownsMap Tryz.prog 86 zak b nn D0) :SeqGives F n Tryz.prog 126 #[.pointer (some ⟨Bm,0,none⟩)] clV (fun ss=>ss.Nodup∧(∀s,s∈ss↔has D0 (keyC s)=true)∧ss.length≤Maps.size D0) (Maps.size D0) w:=fun l J W hW hJ hY h0=>by
 have hown':W.ownsMap Tryz.prog 86 zak b nn D0:=by
  have hbl:=hown.lt;obtain ⟨es,clock,hb,Ft,hs,hD⟩:=hown;exact ⟨es,clock,(hW.block b hbl).trans hb,Ft,hs,hD⟩
 exact zqR F n h10 hro hn l Bm b nn D0 J hY W hJ ((hW.cell (p:=⟨Bm,0,none⟩) hBm).trans hm) hown' h0
def zgM:Code:=(Code.region 2 #[{ dst:=some 5,op:=Op.alloc 86,type:=0,pos := "iter.go:51",after:=#[],guard:=none },{ dst:=none,op:=Op.store 86 (Operand.tmp 5) (Operand.tmp 7),type:=0,pos := "iter.go:51",after:=#[{ on:=0,ground:=Ground.data },{ on:=0,ground:=Ground.phase }],guard:=none }] false)
def zfS:Code:=(Code.block 1 (Code.region 3 #[{ dst:=some 8,op:=Op.load 42 (Operand.tmp 2),type:=42,pos := "iter.go:52",after:=#[],guard:=none },{ dst:=some 9,op:=Op.load 86 (Operand.tmp 5),type:=86,pos := "iter.go:52",after:=#[],guard:=none },{ dst:=some 10,op:=Op.buildSlice 42 1 #[(0,Operand.tmp 9)],type:=42,pos := "iter.go:52",after:=#[{ on:=1,ground:=Ground.data }],guard:=none },{ dst:=some 11,op:=Op.call { callee:=Callee.builtin Builtin.append,args:=#[Operand.tmp 8,Operand.tmp 10],argTypes:=#[42,42] },type:=42,pos := "iter.go:52",after:=#[{ on:=0,ground:=Ground.data },{ on:=2,ground:=Ground.data }],guard:=none },{ dst:=none,op:=Op.store 42 (Operand.tmp 2) (Operand.tmp 11),type:=0,pos := "iter.go:52",after:=#[{ on:=3,ground:=Ground.data },{ on:=3,ground:=Ground.chain },{ on:=0,ground:=Ground.phase },{ on:=1,ground:=Ground.phase },{ on:=2,ground:=Ground.phase },{ on:=3,ground:=Ground.phase }],guard:=none }] false))
def zbZ (fn:FuncId) (sv:Value) (Bs D:Nat) (st:LoopState) (pend:Option Code):Loop :=
 { state:=st,pending:=pend,fn,tmps:=#[.slice none 0 0,sv,.pointer (some ⟨Bs,0,none⟩),undef,.slice none 0 0,undef,sv,undef,undef,undef,undef,undef,undef],params:=#[7],assign:=zgM,body:=zfS,defers:=D }
structure ApC (w0:World) (fn:FuncId) (sv:Value) (Bs l D:Nat) (ss:List CK) (W:World):Prop where
 box:∃v,W.heap[Bs]? = some (.cells #[v] 42 (0,0))∧W.ownsRow w0.heap.size 86 2 v ss.length (ss.flatMap clK)∧(v = .slice none 0 0↔ss=[])
 L:W.heap[l]? = some (.loop (zbZ fn sv Bs D .ready none))
 K:W.heap[D]? = some (.deferred (some []))
 below:Below w0.heap.size w0 W
theorem zh8 (w0:World) (fn:FuncId) (sv:Value) (Bs l D B:Nat) (hB:w0.heap.size≤B):AbidesFrom B (ApC w0 fn sv Bs l D):=fun s W W' row h hg hrow=>by
 have hrow':∀r,row=some r→∃o:Obj,W.heap[r]? = some o∧o.isWalk=true:=fun r e=>(hrow r e).2;obtain ⟨v,hv,hr,hn⟩:=h.box;exact ⟨⟨v,(grownBy_keeps hg hrow' hv rfl).trans hv,ownsRow_abides_a hr hg hrow',hn⟩,(grownBy_keeps hg hrow' h.L rfl).trans h.L,(grownBy_keeps hg hrow' h.K rfl).trans h.K,
  h.below.grown hg h.below.size (fun k e=>Nat.le_trans hB (hrow k e).1)⟩
theorem zsQ (F:Fence) (m:Nat) (w0:World) (fn:FuncId) (hfn:F.fn fn) (sv:Value) (Bs l D:Nat) (hBl:Bs≠l) (hDl:D≠l) (hDB:D≠Bs) (h0B:w0.heap.size≤Bs) (h0l:w0.heap.size≤l) (N:Nat) (hN:N≤maxLen) (hNb:N*24≤140737488355328) (ss:List CK) (x:CK) (W:World) (h:ApC w0 fn sv Bs l D ss W) (hlen:ss.length<N) :YieldAt F m Tryz.prog l #[clV x] W fun e W'=>e = .returned (.bool true)∧ApC w0 fn sv Bs l D (ss++[x]) W'∧KeepsWalks W W':=by
 obtain ⟨i0,hi,hz0,hz1,hz2⟩:=info_parts zh9;refine ⟨fn,#[.slice none 0 0,sv,.pointer (some ⟨Bs,0,none⟩),undef,.slice none 0 0,undef,sv,clV x,undef,undef,undef,undef,undef],zgM,zfS,by simpa [zbZ] using run_yield (P:=Tryz.prog) (args:=#[clV x]) h.L rfl,roundIn_of_wpIn hfn ?_⟩;obtain ⟨Wb,hst,hxb,hkb⟩:=zkG (x:=x) (Blk.new W 86 #[.string ⟨#[]⟩,.int .i64 0]);have hgb:=zlx hkb;have h':=zh8 w0 fn sv Bs l D w0.heap.size (Nat.le_refl _) ss W Wb none h hgb (fun r e=>by cases e);have hkw:KeepsWalks W Wb:=KeepsWalks.of_grownBy hgb (fun j o e _=>by cases e);have hlW:l<W.heap.size:=(Array.getElem?_eq_some_iff.1 h.L).1;obtain ⟨v,hv,hrow,_⟩:=h'.box;have hl:l<Wb.heap.size:=(Array.getElem?_eq_some_iff.1 h'.L).1;have hbr:=run_beginRound (P:=Tryz.prog) h'.L rfl;obtain ⟨W2,hW2⟩:∃W2,Wb.putObj l (.loop { zbZ fn sv Bs D .ready none with state := .busy })=W2:=⟨_,rfl⟩;rw [hW2] at hbr;have hg2:Wb.grownBy W2 (some l):=by rw [←hW2];exact grownBy_putObj_a _ _ _
 have hk2:KeepsWalks W W2:=hkw.trans (by rw [←hW2];exact KeepsWalks.putObj _ h'.L rfl);have hv2:W2.heap[Bs]? = some (.cells #[v] 42 (0,0)):=by rw [←hW2];exact (World.putObj_heap_other hBl).trans hv
 have hK2:W2.heap[D]? = some (.deferred (some [])):=by rw [←hW2];exact (World.putObj_heap_other hDl).trans h'.K
 have hL2:W2.heap[l]? = some (.loop { zbZ fn sv Bs D .ready none with state := .busy }):=by rw [←hW2];exact World.putObj_heap_same hl
 have hx2:Blk W2 W.heap.size 86 (clK x).toArray:=by rw [←hW2];exact (World.putObj_heap_other (by omega)).trans hxb
 have hld:=zjo hx2;have hrow2:W2.ownsRow w0.heap.size 86 2 v ss.length (ss.flatMap clK):=hrow.kept hg2 (ownsRow_ne_a hrow h'.L (fun cur e=>by cases e));have hb2:Below w0.heap.size w0 W2:=h'.below.grown hg2 h'.below.size (fun k e=>by cases e;exact h0l);obtain ⟨hc2,hf2⟩:=cell_of_box_a hv2;have hBlt:Bs<W2.heap.size:=(Array.getElem?_eq_some_iff.1 hv2).1;have hl2:l<W2.heap.size:=(Array.getElem?_eq_some_iff.1 hL2).1;have hDlt:D<W2.heap.size:=(Array.getElem?_eq_some_iff.1 hK2).1;have ne_of:∀{j:Nat} {o:Obj},W2.heap[j]? = some o→(∀cur,o≠.cells cur 86 (0,0))→some j≠v.ownBlock:=fun hj hno=>by
  rcases ownsRow_ne_a hrow2 hj hno with e|e
  · rw [e];simp
  · exact fun e'=>e e'.symm
 have hbs:=zse x;clear hW2 hxb hkb hx2;unfold zgM
 gi_wp2_with gi_round_op_a
 unfold zfS
 gi_wp2_with (first
  | (gi_at_builtin;refine wpListIn_append_own _ rfl _ _ 42 rfl w0.heap.size 86 i0 (.agg #[.string ⟨#[]⟩,.int .i64 0]) 2 24 Tryz.underlying42 hi hz0 hz1 hz2 rfl (by decide) _ _ _ rfl (hrow2.alloc _) ⟨W2.heap.size,0,none⟩ 1 1 (clK x) rfl rfl (zq7 _ _ _) (fun u hu=>by have:=zkJ [x] u (by simpa using hu);exact this) (by omega) (by omega) (by have:=hb2.size;simp;omega) ?_;intro v' w3 hown' hg3 hnil3
     have hv3:w3.heap[Bs]? = some (.cells #[v] 42 (0,0)):=(hg3.block Bs (by simp;omega) (ne_of hv2 (fun cur e=>by cases e))).trans ((Below.heap_alloc _ _ Bs hBlt).trans hv2);obtain ⟨hc3,hf3⟩:=cell_of_box_a hv3;obtain ⟨g',cap',cur',rfl,hbase',hgb',hr1,hr2,hr3,hr4⟩:∃g' cap' cur',v' = .slice (some ⟨g',0,none⟩) (ss.length+1) cap'∧w0.heap.size≤g'∧w3.heap[g']? = some (.cells cur' 86 (0,0))∧ss.length+1≤cap'∧cap'≤maxLen∧cur'.size=cap'*2∧cur'.toList.take ((ss.length+1)*2)=ss.flatMap clK++clK x:=by
      rcases hown'.2 with ⟨_,h0⟩|h'
      · exact absurd h0 (by omega)
      · exact h'
     go_frame)
  | gi_round_op_a)
 have hg3':(W2.alloc (.cells (clK x).toArray 86)).grownBy w3 v.ownBlock:=hg3;have hL3:w3.heap[l]? = some (.loop { zbZ fn sv Bs D .ready none with state := .busy }):=(hg3'.block l (by simp;omega) (ne_of hL2 (fun cur e=>by cases e))).trans ((Below.heap_alloc _ _ l hl2).trans hL2);have hK3:w3.heap[D]? = some (.deferred (some [])):=(hg3'.block D (by simp;omega) (ne_of hK2 (fun cur e=>by cases e))).trans ((Below.heap_alloc _ _ D hDlt).trans hK2);obtain ⟨w4,hw4⟩:∃w4,w3.setCell ⟨Bs,0,none⟩ (.slice (some ⟨g',0,none⟩) (ss.length+1) cap')=w4:=⟨_,rfl⟩;rw [hw4];have hg4:w3.grownBy w4 (some Bs):=by rw [←hw4];exact grownBy_setCell0_a _ _ _
 have hv4:w4.heap[Bs]? = some (.cells #[.slice (some ⟨g',0,none⟩) (ss.length+1) cap'] 42 (0,0)):=by rw [←hw4];exact heap_setCell_box_a _ hv3
 have hL4:w4.heap[l]? = some (.loop { zbZ fn sv Bs D .ready none with state := .busy }):=(hg4.block l (Array.getElem?_eq_some_iff.1 hL3).1 (fun e=>hBl (by cases e;rfl))).trans hL3;have hK4:w4.heap[D]? = some (.deferred (some [])):=(hg4.block D (Array.getElem?_eq_some_iff.1 hK3).1 (fun e=>hDB (by cases e;rfl))).trans hK3;have hrow4:=hown'.kept hg4 (ownsRow_ne_a hown' hv3 (fun cur e=>by cases e));have hl4:l<w4.heap.size:=(Array.getElem?_eq_some_iff.1 hL4).1;have hb3:Below w0.heap.size w0 w3:=(hb2.alloc hb2.size _).grown hg3' (by have:=hb2.size;simp;omega) (fun k e=>(hrow2.lt k e).1);have hb4:Below w0.heap.size w0 w4:=hb3.grown hg4 hb3.size (fun k e=>by cases e;exact h0B);have hk4:KeepsWalks W w4:=((hk2.trans (KeepsWalks.alloc _ _)).trans (KeepsWalks.of_grownBy hg3' (ownsRow_not_walk_a (hrow2.alloc _)))).trans (by rw [←hw4];exact KeepsWalks.setCell _ _ _);clear hw4;refine ⟨_,_,run_endRound none hL4,rfl,⟨⟨_,(World.putObj_heap_other hBl).trans hv4,?_,by simp⟩,World.putObj_heap_same hl4,(World.putObj_heap_other hDl).trans hK4,hb4.grown (grownBy_putObj_a _ _ _) hb4.size (fun k e=>by cases e;exact h0l)⟩,hk4.trans (KeepsWalks.putObj _ hL4 rfl)⟩;have:=hrow4.kept (grownBy_putObj_a w4 l (.loop { { zbZ fn sv Bs D .ready none with state := .busy } with state:=if (none:Option Code).isNone then .ready else .done,pending:=none })) (ownsRow_ne_a hrow4 hL4 (fun cur e=>by cases e));simpa using this
theorem zqQ (F:Fence) (n:Nat) (h11:F.fn 168) (hro:F.round=none) (hn:2≤n) (g:Nat) (lb:Array Value) (hFg:F.fn g) (eg:∀args w,(callFunc g args).run Tryz.prog w = .ok (.enter g args) w) (S:List CK→Prop) (N:Nat) (hN:N≤maxLen) (hNb:N*24≤140737488355328) (w:World) (hseq:SeqGives F (n-1) Tryz.prog g lb clV S N w) :CallsIn F n Tryz.prog 168 #[.slice none 0 0,.func (.func g) #[] lb] w fun e w'=>∃(v:Value) (ss:List CK),e = .returned v∧S ss∧w'.ownsRow w.heap.size 86 2 v ss.length (ss.flatMap clK)∧(v = .slice none 0 0↔ss=[])∧Below w.heap.size w w':=by
 have h1:1≤n:=by omega
 refine callsIn_of_wp_marks Tryz.func168 rfl h11 ?_ hro;simp only [Tryz.ntmps168,List.size_toArray,List.length_cons,List.length_nil,Nat.reduceAdd,Nat.reduceSub,Array.replicate_succ,Array.replicate_zero,List.push_toArray,List.append_toArray,List.nil_append,List.cons_append]
 gi_wp2
 refine wpIn_rangeFunc ?_;intro fn hfn;rw [hro];obtain ⟨W0,hW0⟩:∃W0,w.alloc (.cells #[.slice none 0 0] 42)=W0:=⟨_,rfl⟩;have hs0:W0.heap.size=w.heap.size+1:=by rw [←hW0];simp
 have hv0:W0.heap[w.heap.size]? = some (.cells #[.slice none 0 0] 42 (0,0)):=by rw [←hW0];exact World.alloc_heap_new w _
 have hb0:Below w.heap.size w W0:=by rw [←hW0];exact (Below.refl _ w).alloc (Nat.le_refl _) _
 rw [hW0];obtain ⟨W1,hW1⟩:∃W1,(W0.alloc (.deferred (some []))).alloc (.loop (zbZ fn (.func (.func g) #[] lb) w.heap.size W0.heap.size .ready none))=W1:=⟨_,rfl⟩;have hold:∀k,k<W0.heap.size→W1.heap[k]? = W0.heap[k]?:=fun k hk=>by
  rw [←hW1];exact (Below.heap_alloc _ _ k (by simp;omega)).trans (Below.heap_alloc _ _ k hk)
 have hb1:Below w.heap.size w W1:=by rw [←hW1];exact (hb0.alloc hb0.size _).alloc (by have:=hb0.size;simp;omega) _
 have hs1:W1.heap.size=W0.heap.size+2:=by rw [←hW1];simp
 have hM:ApC w fn (.func (.func g) #[] lb) w.heap.size (W0.heap.size+1) W0.heap.size [] W1 :=
  ⟨⟨_,(hold w.heap.size (by omega)).trans hv0,⟨rfl,.inl ⟨rfl,rfl⟩⟩,by simp⟩,
   by rw [←hW1];have:=World.alloc_heap_new (W0.alloc (.deferred (some []))) (.loop (zbZ fn (.func (.func g) #[] lb) w.heap.size W0.heap.size .ready none));rwa [World.size_alloc] at this,
   by rw [←hW1];exact (Below.heap_alloc _ _ _ (by simp)).trans (World.alloc_heap_new W0 _),hb1⟩
 refine ⟨W0.heap.size+1,[{ target := .collected W0.heap.size,args:=#[] }],W1,{ target := .fn (.func g) lb,args:=#[.func (.yield (W0.heap.size+1)) #[] #[]] },W1,g,
  #[.func (.yield (W0.heap.size+1)) #[] #[]]++lb,W1,?_,?_,?_,?_,fun _=>h1,?_⟩
 · rw [←hW1];exact run_enterLoop_outer _ _ _ _ _
 · simp [resolve,go_sem]
 · intro f' hf';simp [Target.leads] at hf';subst hf';exact hFg
 · simp [invoke,go_sem,eg]
 · refine (hseq (W0.heap.size+1) (ApC w fn (.func (.func g) #[] lb) w.heap.size (W0.heap.size+1) W0.heap.size) W1 hb1 (zh8 _ _ _ _ _ _ _ hb1.size)
    (fun pre x W hJ hl=>zsQ F (n-1-1) w fn hfn _ w.heap.size (W0.heap.size+1) W0.heap.size (by omega) (by omega) (by omega) (Nat.le_refl _) (by omega) N hN hNb pre x W hJ hl) hM).mono ?_
   rintro e W2 ⟨⟨v0,rfl⟩,ss,hS,h2⟩;obtain ⟨v,hv,hrow,hnil⟩:=h2.box;have hend:=run_endLoop (P:=Tryz.prog) h2.L (by simp [zbZ]);obtain ⟨W3,hW3⟩:∃W3,W2.putObj (W0.heap.size+1) (.loop { zbZ fn (.func (.func g) #[] lb) w.heap.size W0.heap.size .ready none with state := .exhausted })=W3:=⟨_,rfl⟩;rw [hW3] at hend;have hg3:W2.grownBy W3 (some (W0.heap.size+1)):=by rw [←hW3];exact grownBy_putObj_a _ _ _
   have hv3:W3.heap[w.heap.size]? = some (.cells #[v] 42 (0,0)):=by rw [←hW3];exact (World.putObj_heap_other (by omega)).trans hv
   have hK3:W3.heap[W0.heap.size]? = some (.deferred (some [])):=by rw [←hW3];exact (World.putObj_heap_other (by omega)).trans h2.K
   have hrow3:=hrow.kept hg3 (ownsRow_ne_a hrow h2.L (fun cur e=>by cases e));have hb3:Below w.heap.size w W3:=h2.below.grown hg3 h2.below.size (fun k e=>by cases e;omega);obtain ⟨hc3,hf3⟩:=cell_of_box_a hv3;clear hW3;refine ⟨none,W3,hend,?_⟩
   gi_wp2
   rw [←hs0];refine ⟨by simp,.inl ⟨_,_,rfl,run_takeDeferred hK3,?_⟩⟩;exact ⟨_,results_tmp rfl _ _ _,v,ss,rfl,hS,hrow3.kept (grownBy_putObj_a _ _ _) (ownsRow_ne_a hrow3 hK3 (fun cur e=>by cases e)),hnil,hb3.grown (grownBy_putObj_a _ _ _) hb3.size (fun k e=>by cases e;omega)⟩
theorem zsp (F:Fence) (n:Nat) (h8:F.fn 124) (h11:F.fn 168) (hro:F.round=none) (hn:3≤n) (g:Nat) (lb:Array Value) (hFg:F.fn g) (eg:∀args w,(callFunc g args).run Tryz.prog w = .ok (.enter g args) w) (S:List CK→Prop) (N:Nat) (hN:N≤maxLen) (hNb:N*24≤140737488355328) (w:World) (hseq:SeqGives F (n-1-1) Tryz.prog g lb clV S N w) :CallsIn F n Tryz.prog 124 #[.func (.func g) #[] lb] w fun e w'=>∃(v:Value) (ss:List CK),e = .returned v∧S ss∧w'.ownsRow w.heap.size 86 2 v ss.length (ss.flatMap clK)∧(v = .slice none 0 0↔ss=[])∧Below w.heap.size w w':=by
 have h1:1≤n:=by omega
 refine callsIn_of_wp Tryz.func124 rfl h8 ?_ hro;simp only [Tryz.ntmps124,List.size_toArray,List.length_cons,List.length_nil,Nat.reduceAdd,Nat.reduceSub,Array.replicate_succ,Array.replicate_zero,List.push_toArray,List.append_toArray,List.nil_append,List.cons_append]
 gi_wp2_with (gi_at_call 168;refine (zqQ F (n-1) h11 hro (by omega) g lb hFg eg S N hN hNb _ hseq).mono ?_;rintro e w' ⟨v,ss,rfl,hS,hrow,hnil,hb⟩)
 go_ret
 exact ⟨v,ss,rfl,hS,hrow,hnil,hb⟩
def ckD (s:CK):ClashD:=⟨s.1.1,s.1.2.toNat⟩
theorem zr2 (n:Nat) (h:n≤1000):(Lit.int .i64 (n:Int)).wf=true:=Go.WalkArith.wf_i64 (by omega)
theorem zix {x:ClashD}:∀{l:List ClashD},x∉l→(insC x l).length=l.length+1
 | [],_=>rfl
 | y::l,h=>by
  unfold insC;rw [if_neg fun e=>h (by rw [e];exact List.mem_cons_self ..)]
  split
  · rfl
  · rw [List.length_cons,zix fun q=>h (List.mem_cons_of_mem _ q),List.length_cons]
theorem zjg:∀{l:List ClashD},l.Nodup→(zaY l).length=l.length
 | [],_=>rfl
 | x::l,h=>by
  rw [List.nodup_cons] at h;show (insC x (zaY l)).length=_;rw [zix (fun q=>h.1 (zcp.1 q)),zjg h.2,List.length_cons]
theorem zjj {l:List ClashD} {f:Mc} {D:DataW Value} (hd:DatC D f) (hc:CMap l f) (hl:∀x∈l,x.p.length≤maxLen∧x.why≤1000) {ss:List CK} (h1:ss.Nodup) (h2:∀s,s∈ss↔has D (keyC s)=true) :ss.flatMap clK=(ss.map ckD).flatMap zN∧(ss.map ckD).Nodup∧zaY (ss.map ckD)=zaY l:=by
 have h3:∀s∈ss,∃x∈l,x.p=s.1.1∧(x.why:Int)=s.1.2:=fun s hs=>(hc s).1 (by rw [←hd.has];exact (h2 s).1 hs);have h4:∀s∈ss,((s.1.2.toNat:Nat):Int)=s.1.2:=fun s hs=>by
  obtain ⟨x,_,_,e⟩:=h3 s hs;omega
 refine ⟨?_,?_,zeM (zcQ _) (zcQ _) fun x=>?_⟩
 · clear h1 h2 h3
   induction ss with
   | nil=>rfl
   | cons s ss ih =>
    rw [List.flatMap_cons,List.map_cons,List.flatMap_cons,ih fun t ht=>h4 t (List.mem_cons_of_mem _ ht)]
    congr 1
    unfold clK zN ckD;rw [h4 s (List.mem_cons_self ..)]
 · rw [List.nodup_iff_pairwise_ne,List.pairwise_map];refine List.Pairwise.imp_of_mem (fun {s t} hs ht hne e=>hne ?_) h1;unfold ckD at e;injection e with e1 e2;have:=h4 s hs;have:=h4 t ht;exact Subtype.ext (Prod.ext e1 (by omega))
 · rw [zcp,zcp,List.mem_map];constructor
   · rintro ⟨s,hs,rfl⟩;obtain ⟨x,hx,e1,e2⟩:=h3 s hs;have:ckD s=x:=by
      unfold ckD;rw [←e1,←e2];rfl
     rw [this];exact hx
   · intro hx;obtain ⟨q1,q2⟩:=hl x hx;refine ⟨⟨(x.p,(x.why:Int)),q1,zr2 _ q2⟩,(h2 _).2 ?_,rfl⟩;rw [hd.has];exact (hc _).2 ⟨x,hx,rfl,rfl⟩
theorem zqj {w:World} {b n:Nat} {f:Mc} {l:List ClashD} (h:VC w b n f) (hc:CMap l f) (hn:n≤100000000) (hl:∀x∈l,x.p.length≤maxLen∧x.why≤1000) :Calls Tryz.prog 80 #[.func (.func 126) #[] #[.pointer (some ⟨w.heap.size,0,none⟩)],.func (.func 76) #[] #[]] (w.alloc (.cells #[.map (some b)] 163)) fun e w'=>∃A c,e = .returned (.slice A (zaY l).length c)∧Own w' w.heap.size 86 2 A (zaY l).length c ((zaY l).flatMap zN)∧Below w.heap.size w w':=by
 obtain ⟨D,hown,hsz,hd⟩:=h;have hbl:=hown.lt;have hmax:Maps.size D≤maxLen:=by rw [hsz];unfold maxLen;omega
 have hbytes:Maps.size D*24≤140737488355328:=by rw [hsz];omega
 have hseq:SeqGives Fence.wide 3 Tryz.prog 126 #[.pointer (some ⟨w.heap.size,0,none⟩)] clV (fun ss=>ss.Nodup∧(∀s,s∈ss↔has D (keyC s)=true)∧ss.length≤Maps.size D) (Maps.size D) (w.alloc (.cells #[.map (some b)] 163)) :=
  zpd Fence.wide _ trivial rfl (by omega) w.heap.size b n D _ (by simp) (by simp) (by
   obtain ⟨es,clock,hb,Ft,hs,hD⟩:=hown;exact ⟨es,clock,(Below.heap_alloc _ _ b hbl).trans hb,Ft,hs,hD⟩)
 have HC:=zz (callsIn_wide.1 (zsp Fence.wide 5 trivial trivial rfl (by omega) 126 #[.pointer (some ⟨w.heap.size,0,none⟩)] trivial (enters_of Tryz.func126 (by kernel_rfl) rfl) _ _ hmax hbytes _ hseq));have hbw:Below w.heap.size w (w.alloc (.cells #[.map (some b)] 163)):=(Below.refl _ w).alloc (Nat.le_refl _) _;have hsw:(w.alloc (.cells #[.map (some b)] 163)).heap.size=w.heap.size+1:=by simp
 generalize w.alloc (.cells #[.map (some b)] 163)=W at *;have HB:=zz (And.intro hbw hsw);have HK:=zz (fun (ss:List CK) (h:ss.Nodup∧(∀s,s∈ss↔has D (keyC s)=true)∧ss.length≤Maps.size D)=>And.intro (zjj hd hc hl h.1 h.2.1) (show ss.length≤100000000∧(zaY l).length=ss.length from by
  have h3:=zjj hd hc hl h.1 h.2.1;have h4:=h.2.2;exact ⟨by omega,by rw [←h3.2.2,zjg h3.2.1,List.length_map]⟩))
 clear hseq hbw hsw hown hd hc hl hmax hbytes hbl hsz;go_enter Tryz.func80,Tryz.ntmps80
 go_upto_region 2 with (go_at_call 124;refine HC.out.mono ?_)
 rintro _ w1 ⟨v,ss,rfl,hS,hrow,_,hb1⟩;obtain ⟨A,c,rfl⟩:=zcC hrow;obtain ⟨⟨k1,k2,k3⟩,k4,k5⟩:=HK.out ss hS;rw [k1] at hrow;have HS:=zz (zml (ss.map ckD) w1 (by rw [List.length_map]) (by omega) k2 (Own.mono hrow (show w.heap.size≤W.heap.size from HB.out.1.size)));have HB1:=zz hb1;have HK5:=zz (And.intro k3 k5);clear hrow hb1 k1 k2 k3 k4 k5 hS HK HC
 go_wp2_with (go_at_call 125;refine HS.out.mono ?_)
 rintro _ w2 ⟨rfl,ho,hk⟩;have HO:=zz ho;have HK2:=zz hk;clear ho hk
 go_wp2
 go_ret
 refine ⟨A,c,by rw [HK5.out.2];rfl,by rw [HK5.out.2,←HK5.out.1];exact HO.out,?_⟩;have h1:Below w.heap.size w w1:=HB.out.1.trans (HB1.out.mono HB.out.1.size);exact h1.trans (HK2.out.below (Nat.le_refl _) h1.size (by simp))
end Go.Proofs.YtmkmbbjgepcioaaGreatDoor
