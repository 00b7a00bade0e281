/- Which methods the calls through base.Source and graph.Source come to. No statement of the seat is proved here. -/
import Derived.Test.YtmkmbbjgepcioaaGreatDoorSADb
import Derived.Test.YtmkmbbjgepcioaaGreatDoorSA01
import Derived.Test.YtmkmbbjgepcioaaGreatDoorSA02
import Derived.Deep.DeepCutAuto
import Derived.WalkSpells
namespace Go.Proofs.YtmkmbbjgepcioaaGreatDoor
set_option maxHeartbeats 1000000
set_option maxRecDepth 100000
section
open Go.RowKit
def idN (n:Nat):Id:=⟨UInt8.ofNat (n*37)::UInt8.ofNat n::UInt8.ofNat (n / 256)::List.replicate 29 0,by simp⟩
theorem zbh {n m:Nat} (hn:n<256) (hm:m<256) (h:idN n=idN m):n=m:=by
 have h1:UInt8.ofNat n=UInt8.ofNat m:=by
  have:=congrArg (fun i:Id=>i.1[1]?) h;simpa [idN] using this
 have h2:=congrArg UInt8.toNat h1;rw [UInt8.toNat_ofNat',UInt8.toNat_ofNat'] at h2;omega
theorem zlu {n m:Nat} (hn:n<256) (hm:m<256) (h:n≠m):(idN n==idN m)=false:=by
 rw [beq_eq_false_iff_ne];exact fun e=>h (zbh hn hm e)
theorem bvN (k:Nat):bv (UInt8.ofNat k) = .int .u8 ((k%256:Nat):Int):=by
 unfold bv;rw [UInt8.toNat_ofNat']
theorem zpF (n:Nat) (hn:n<256):idV (idN n) = .agg (.int .u8 ((n:Int)*37%256) :: .int .u8 (n:Int) :: .int .u8 ((n:Int) / 256)::List.replicate 29 (.int .u8 0)).toArray:=by
 unfold idV idC idL idN;rw [List.map_cons,List.map_cons,List.map_cons,bvN,bvN,bvN,List.map_replicate];have h1:((n*37%256:Nat):Int)=(n:Int)*37%256:=by omega
 have h2:((n%256:Nat):Int)=(n:Int):=by omega
 have h3:((n / 256%256:Nat):Int)=(n:Int) / 256:=by omega
 rw [h1,h2,h3];rfl
theorem zca (n:Nat) (hn:n<256) (w:World):Calls Tryz.prog 9 #[.int .i64 n] w fun e w'=>e = .returned (idV (idN n))∧Below w.heap.size w w':=by
 go_enter Tryz.func9,Tryz.ntmps9
 go_upto_region 1 with (refine zcr rfl rfl (zbF _) ?_)
 go_wp2_with (refine zO rfl rfl (vs:=idC (idN n)) rfl (zpF n hn).symm (Blk.new _ _ _) (by rw [zy,zy]) (by rw [zy];exact zaN) (zbq _) ?_;intro w2 hb2 hk2 hs2)
 have bw:Below w.heap.size w w2:=((Below.refl _ w).alloc (Nat.le_refl _) _).trans (hk2.below (by simp) (by unfold Only;intro i hi h;omega));refine bodyPost_ret (zh0 rfl _ _ rfl (zho w2 _ (idC (idN n)) Tryz.underlying33 rfl (by rw [zy];exact zaN) (fun j v hj=>by rw [zJ,hb2.cell,←hj];simp))) rfl ⟨rfl,bw⟩
theorem ze.of_cells {w:World} {g:Nat} {cs:Array Value} {t:TypeId} {fz:Nat×Nat} {size n:Nat} {xs:List Value} (h:w.heap[g]? = some (.cells cs t fz)) (hx:cs.toList=xs) (hl:xs.length=n*size):ze w (g+1) size (some ⟨g,0,none⟩) n xs:=by
 refine ⟨hl,fun _=>⟨_,rfl,Nat.lt_succ_self _,fun j u hj=>?_⟩⟩;rw [zJ,cell_of_row w g (0+j) cs t fz h,Nat.zero_add,←hj,←hx];simp
theorem zbT:Elem Tryz.prog 36 33 32 32:=by
 refine ⟨Tryz.underlying36,?_,by decide⟩;obtain ⟨i,hi,h1,h2,h3⟩:=info_parts (show (Tryz.prog.info? 33).map (fun i=>(i.zero,i.size,i.bytes))=some (some (idV noId),32,32) by kernel_rfl);exact ⟨i,_,hi,h1,h2,h3,zy _⟩
end
section
open Go.RowKit
theorem zq5 (w:World) (n c:Nat):(binOp .eql 36 (.slice none n c) (.slice none 0 0)).run Tryz.prog w = .ok (.bool true) w:=by kernel_rfl
theorem zqb (w:World) (a:Addr) (n c:Nat):(binOp .eql 36 (.slice (some a) n c) (.slice none 0 0)).run Tryz.prog w = .ok (.bool false) w:=by kernel_rfl
theorem zih (w:World) (x y:Operand) (A:Option Addr) (n c:Nat):(eqGuard .eql 36 x y (.slice A n c) (.slice none 0 0)).run Tryz.prog w = .ok () w:=by kernel_rfl
theorem Own.fresh0 {w:World} {g base:Nat} {e:TypeId} {size:Nat} (h:w.heap[g]? = some (.cells #[] e (0,0))) (hb:base≤g):Own w base e size (some ⟨g,0,none⟩) 0 0 [] :=
 ⟨by simp,.inr ⟨g,0,#[],rfl,hb,h,Nat.le_refl _,Nat.zero_le _,by simp,by simp⟩⟩
theorem zdY (l:List Id):∀v∈l.flatMap idL,v.oneCell'=true:=by
 intro v hv;obtain ⟨i,_,hi⟩:=List.mem_flatMap.1 hv;exact zbq i v hi
theorem zlZ (l:List Id) (n:Nat) (hn:l.length=n) (A:Option Addr) (c:Nat) (B:Nat) (w:World) (hr:ze w B 32 A n (l.flatMap idL)) (hB:B≤w.heap.size) (hl:n≤1000000) :Calls Tryz.prog 94 #[.slice A n c] w fun e w'=>∃A c,e = .returned (.slice A n c)∧Own w' w.heap.size 33 32 A n c (l.flatMap idL)∧Below w.heap.size w w':=by
 cases A with
 | none =>
  have h0:n=0:=by
   rcases Nat.eq_zero_or_pos n with h|h
   · exact h
   · obtain ⟨ad,e,_⟩:=hr.2 h;cases e
  subst h0;have h1:l=[]:=List.eq_nil_of_length_eq_zero hn;subst h1;go_enter Tryz.func94,Tryz.ntmps94
  go_wp2_with (first|(refine zlJ rfl rfl rfl rfl (zih _ _ _ _ _ _) (zq5 _ _ _) ?_))
  go_ret
  exact ⟨none,0,rfl,Own.nil _ _ _ _,Below.refl _ _⟩
 | some ad =>
  have hra:=hr.below ((Below.refl B w).alloc hB (.cells #[] 33));have hm1:0+n≤maxLen:=by unfold maxLen;omega
  have hm2:(0+n)*32≤140737488355328:=by omega
  have hf:Own (w.alloc (.cells #[] 33)) w.heap.size 33 32 (some ⟨w.heap.size,0,none⟩) 0 0 []:=Own.fresh0 (heap_alloc_new _ _) (Nat.le_refl _);have hz:w.heap.size≤(w.alloc (.cells #[] 33)).heap.size:=by simp
  have hbw:=(Below.refl w.heap.size w).alloc (Nat.le_refl _) (.cells #[] 33);have hn0:0+n=n:=Nat.zero_add _;go_enter Tryz.func94,Tryz.ntmps94
  go_wp2_with (first|(refine zlJ (o:=⟨some 4,_,_,_,_,_⟩) rfl rfl rfl rfl (zih _ _ _ _ _ _) (zqb _ _ _ _) ?_)|(refine zH rfl zbT rfl rfl hf rfl hra (zdY l) hm1 hm2 hz ?_;rw [hn0];intro A2 c2 w2 ho2 hk2))
  go_ret
  exact ⟨A2,c2,rfl,by simpa using ho2,hbw.trans (hk2.below (Nat.le_refl _) hz (by simp))⟩
end
section
open Go.RowKit
def zaq (n:Nat) (v:Value):Array Value:=(idL (idN n)++[v]).toArray
theorem zdQ (n:Nat) (v:Value):(zaq n v).size=33:=by simp [zaq,za2]
theorem zjk (n:Nat) (A:Option Addr) (k c:Nat):∀u∈(zaq n (.slice A k c)).toList,u.oneCell'=true:=by
 intro u hu;simp only [zaq,List.mem_append,List.mem_singleton] at hu
 rcases hu with h|rfl
 · exact zbq _ u h
 · rfl
theorem zfq (n:Nat) (v:Value):(zaq n v)[32]? = some v:=by
 unfold zaq;rw [List.getElem?_toArray,List.getElem?_append_right (by rw [za2];omega),za2];rfl
theorem znl (n:Nat) (v u:Value):(zaq n v).setIfInBounds 32 u=zaq n u:=by
 apply Array.toList_inj.1;unfold zaq;rw [List.setIfInBounds_toArray,List.set_append_right _ _ (by rw [za2];omega),za2];rfl
theorem zog:(Tryz.prog.info? 101).map (fun i=>(i.zero,i.size,i.bytes))=some (some (.agg (idC noId++#[.slice none 0 0])),33,56):=by kernel_rfl
theorem zk7:(Tryz.prog.info? 101).map (·.size)=some 33:=by kernel_rfl
theorem zii (w:World):(zeroValue 101).run Tryz.prog w = .ok (.agg (idC noId++#[.slice none 0 0])) w:=by kernel_rfl
theorem zju:Elem Tryz.prog 97 101 33 56:=by
 refine ⟨Tryz.underlying97,?_,by decide⟩;obtain ⟨i,hi,h1,h2,h3⟩:=info_parts zog;exact ⟨i,_,hi,h1,h2,h3,by simp [Value.cells,zy]⟩
theorem zrI (n:Nat) (w:World):(Instr.build 101 #[(0,idV (idN n))]).run Tryz.prog w = .ok (.agg (zaq n (.slice none 0 0))) w:=by kernel_rfl
theorem zs5 (w:World):(Instr.build 99 #[]).run Tryz.prog w = .ok (.agg #[.slice none 0 0]) w:=by kernel_rfl
def LdNd (v:Value):Sem Value:=Instr.loadAt 101 v
theorem zr8 (v:Value):Instr.loadAt 101 v=LdNd v:=rfl
theorem LdNd.blk {w:World} {g:Nat} {cs:Array Value} (h:Blk w g 101 cs) (hs:cs.size=33):(LdNd (.pointer (some ⟨g,0,none⟩))).run Tryz.prog w = .ok (.agg cs) w :=
 zaE w _ cs Tryz.underlying101 rfl (by rw [hs];exact zk7) (fun j v hj=>by rw [zJ,h.cell,←hj];simp)
def SlNd (n:Nat) (ps:Array (Nat×Value)):Sem Value:=Instr.buildSlice 97 n ps
theorem zsx (n:Nat) (ps:Array (Nat×Value)):Instr.buildSlice 97 n ps=SlNd n ps:=rfl
theorem zo1 (cs:Array Value) (hs:cs.size=33) (w:World):(SlNd 1 #[(0,.agg cs)]).run Tryz.prog w = .ok (.slice (some ⟨w.heap.size,0,none⟩) 1 1) (w.alloc (.cells cs 101)) :=
 zbU zju zii (by simp [zy]) hs (by omega) w
def ApNd (vs:Array Value):Sem Value:=Builtin.append_ #[97,97] 97 vs
theorem ziI (vs:Array Value):Builtin.append_ #[97,97] 97 vs=ApNd vs:=rfl
def ApIq (vs:Array Value):Sem Value:=Builtin.append_ #[36,36] 36 vs
theorem zqA (vs:Array Value):Builtin.append_ #[36,36] 36 vs=ApIq vs:=rfl
def SlIq (n:Nat) (ps:Array (Nat×Value)):Sem Value:=Instr.buildSlice 36 n ps
theorem zmY (n:Nat) (ps:Array (Nat×Value)):Instr.buildSlice 36 n ps=SlIq n ps:=rfl
theorem zqW (i:Id) (w:World):(SlIq 1 #[(0,idV i)]).run Tryz.prog w = .ok (.slice (some ⟨w.heap.size,0,none⟩) 1 1) (w.alloc (.cells (idC i) 33)) :=
 zbU zbT zbF (zy _) (zy _) (by omega) w
def BdNd (ps:Array (Nat×Value)):Sem Value:=Instr.build 101 ps
theorem ztY (ps:Array (Nat×Value)):Instr.build 101 ps=BdNd ps:=rfl
theorem zqq (n:Nat) (w:World):(BdNd #[(0,idV (idN n))]).run Tryz.prog w = .ok (.agg (zaq n (.slice none 0 0))) w:=zrI n w
def BdGr (ps:Array (Nat×Value)):Sem Value:=Instr.build 99 ps
theorem zom (ps:Array (Nat×Value)):Instr.build 99 ps=BdGr ps:=rfl
theorem zoK (w:World):(BdGr #[]).run Tryz.prog w = .ok (.agg #[.slice none 0 0]) w:=zs5 w
theorem Own.sameAt {w w':World} {base:Nat} {e:TypeId} {size:Nat} {A:Option Addr} {n c:Nat} {xs:List Value} (h:Own w base e size A n c xs) (hk:∀a,A=some a→w'.heap[a.block]? = w.heap[a.block]?):Own w' base e size A n c xs:=by
 refine ⟨h.1,?_⟩
 rcases h.2 with hv|⟨g,cap,cur,hv,hbg,hg,hr⟩
 · exact .inl hv
 · refine .inr ⟨g,cap,cur,hv,hbg,?_,hr⟩;injection hv with h1 _ _;exact (hk _ h1).trans hg
end
section
open Go.RowKit
theorem zfo (s:Nat) (W:World):(Go.method 530 24 (.pointer (some ⟨s,0,none⟩)) "Tree").run Tryz.prog W = .ok (315,.pointer (some ⟨s,0,none⟩)) W:=by kernel_rfl
theorem zo9 (s:Nat) (W:World):(Go.method 529 24 (.pointer (some ⟨s,0,none⟩)) "Parents").run Tryz.prog W = .ok (314,.pointer (some ⟨s,0,none⟩)) W:=by kernel_rfl
theorem zmA (g:Nat) (W:World):(Go.method 530 76 (.pointer (some ⟨g,0,none⟩)) "Parents").run Tryz.prog W=((Place.get 75 (.var ⟨g,0,none⟩)) >>= fun v=>match v with
    | .iface t' v'=>Go.method 529 t' v' "Parents"
    | .nilIface=>runtimePanic .nilDeref
    | _=>stuck "method row: interface value expected").run Tryz.prog W:=by kernel_rfl
theorem zsG (g:Nat) (v:Value) (W:World) (h:W.cell? ⟨g,0,none⟩=some v):(Place.get 75 (.var ⟨g,0,none⟩)).run Tryz.prog W = .ok v W:=by
 show (loadVar 75 ⟨g,0,none⟩).run Tryz.prog W = .ok v W;simp [loadVar,isAgg,underlying,Tryz.underlying75,h,Result.andThen]
theorem zmw (g s:Nat) (W:World) (h:W.cell? ⟨g,0,none⟩=some (.iface 24 (.pointer (some ⟨s,0,none⟩)))):(Go.method 530 76 (.pointer (some ⟨g,0,none⟩)) "Parents").run Tryz.prog W = .ok (314,.pointer (some ⟨s,0,none⟩)) W:=by
 rw [zmA,Sem.run_bind,zsG g _ W h,Result.andThen_ok];exact zo9 s W
end
end Go.Proofs.YtmkmbbjgepcioaaGreatDoor
