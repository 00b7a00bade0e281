/- The rows of law 18: a world that meets what they list; the library's variable of the type error. No statement of the seat is proved here. -/
import Derived.Test.YtmkmbbjgepcioaaGreatDoorSA42
import Derived.Test.YtmkmbbjgepcioaaGreatDoorRows
import Derived.ProofKit
import Derived.OpenShut
import Derived.Deep.Slices
import Derived.Test.YtmkmbbjgepcioaaGreatDoorSA29
import Derived.Test.YtmkmbbjgepcioaaGreatDoorTie
import Derived.Test.YtmkmbbjgepcioaaGreatDoorCards
import Derived.LaidMore
import Derived.LaidSub
import Derived.Lay
import Derived.Deep.DeepHandedRow
import Derived.LaidHandle
namespace Go.Proofs.YtmkmbbjgepcioaaGreatDoor
set_option maxRecDepth 100000
section
open Go.ChangeShapes Go.WideShapes Go.ChangeAt Go.RowKit Go.Deep
section
variable {H:Type}
theorem znw (d:DataW H):1≤Rows.uptoBulk d:=by
 cases d with
 | lit l=>cases l <;> simp [Rows.uptoBulk]
 | nil=>simp [Rows.uptoBulk]
 | ptr d=>simp [Rows.uptoBulk]
 | slice elems spare=>simp [Rows.uptoBulk]
 | agg parts=>simp [Rows.uptoBulk]
 | iface t d=>simp [Rows.uptoBulk]
 | map entries=>simp [Rows.uptoBulk]
 | held h=>simp [Rows.uptoBulk]
theorem zh7 {d:DataW H}:∀{l:List (DataW H)},d∈l→Rows.uptoBulk d≤Rows.uptoBulkAll l
 | [],h=>by cases h
 | x::r,h=>by
  simp only [Rows.uptoBulkAll]
  rcases List.mem_cons.1 h with e|e
  · subst e;omega
  · have:=zh7 e;omega
theorem zhW:∀l:List (DataW H),l.length≤Rows.uptoBulkAll l
 | []=>by simp [Rows.uptoBulkAll]
 | x::r=>by have:=znw x;have:=zhW r;simp only [Rows.uptoBulkAll,List.length_cons];omega
end
theorem ze1 {H:Type} {enc:TypeId×Value→H} {w:World} {base:Nat} {spare:Nat→Bool} {held:Bool} {α:Type} {f:α→List Value} {C N:Nat} {V:α→Prop} {t e:TypeId} {A:Option Addr} {len cap:Nat} {fuel:Nat} {x:DataW H×List MemPlace} (ht:Tryz.prog.underlying t=some (.slice e)) (hC:Tryz.prog.cellsOf e=C) (hpos:0<C) (hf:∀a,(f a).length=C) (hopen:∀(n:Nat) (cs:List Value) (y:DataW H×List MemPlace),DataW.trod enc Tryz.prog w base spare held n e cs=some y→Rows.uptoBulk y.1≤N→∃a,cs=f a∧V a) (h:DataW.trod enc Tryz.prog w base spare held fuel t [.slice A len cap]=some x) (hb:Rows.uptoBulk x.1≤N):∃l:List α,l.length=len∧ze w w.heap.size C A len (l.flatMap f)∧len≤cap∧cap≤maxLen∧len≤N∧∀a∈l,V a:=by
 rcases open_slice ht h with ⟨hcs,hx⟩|⟨a,len',cap',m,n,D,Pl,hcs,_,hl,hm,hmm,hxx,hi⟩
 · simp at hcs;obtain ⟨rfl,rfl,rfl⟩:=hcs;exact ⟨[],rfl,ze.none_,Nat.le_refl _,Nat.zero_le _,Nat.zero_le _,by simp⟩
 · simp at hcs;obtain ⟨rfl,rfl,rfl⟩:=hcs;rw [hC] at hi;have hlm:len≤m:=by rw [hmm];split <;> omega
   have hbA:Rows.uptoBulkAll ((List.range len).map D)≤N:=by
    rw [hxx] at hb;simp only [Rows.uptoBulk] at hb;omega
   have hlN:len≤N:=by have:=zhW ((List.range len).map D);simp at this;omega
   have hbD:∀i,i<len→Rows.uptoBulk (D i)≤N:=fun i hi=>Nat.le_trans (zh7 (List.mem_map.2 ⟨i,List.mem_range.2 hi,rfl⟩)) hbA;have key:∀k,k≤len→∃l:List α,l.length=k∧(∀i b,l[i]? = some b→V b∧∀r u,(f b)[r]? = some u→w.cell? (a.add (i*C+r))=some u):=by
    intro k
    induction k with
    | zero=>exact fun _=>⟨[],rfl,by simp⟩
    | succ k ih =>
     intro hk;obtain ⟨l,hlen,hall⟩:=ih (by omega);obtain ⟨cs',hcells,htr⟩:=hi k (by omega);obtain ⟨b,rfl,hV⟩:=hopen n cs' _ htr (hbD k (by omega));obtain ⟨_,_,hat⟩:=World.cells?_some hcells;refine ⟨l++[b],by simp [hlen],fun i b' hb'=>?_⟩
     rcases Nat.lt_or_ge i l.length with hlt|hge
     · rw [List.getElem?_append_left hlt] at hb';exact hall i b' hb'
     · rw [List.getElem?_append_right hge] at hb';have h0:i-l.length=0:=by
        rcases Nat.eq_zero_or_pos (i-l.length) with q|q
        · exact q
        · rw [List.getElem?_eq_none (by simp;omega)] at hb';cases hb'
       rw [h0] at hb';simp at hb';subst hb';refine ⟨hV,fun r u hr=>?_⟩;have hik:i=k:=by omega
       subst hik;have hrC:r<C:=by
        rcases Nat.lt_or_ge r C with q|q
        · exact q
        · rw [List.getElem?_eq_none (by rw [hf];exact q)] at hr;cases hr
       rw [←zjc,hat r hrC];exact hr
   obtain ⟨l,hlen,hall⟩:=key len (Nat.le_refl _)
   refine ⟨l,hlen,⟨by rw [zcj hf,hlen],fun hn=>?_⟩,hl,hm,hlN,fun b hb=>?_⟩
   · have hcell:∀j u,(l.flatMap f)[j]? = some u→w.cell? (a.add j)=some u:=by
      intro j u hj;have hjl:j<l.length*C:=by rw [←zcj hf];exact (List.getElem?_eq_some_iff.1 hj).1
      have hd:j / C<l.length:=Nat.div_lt_of_lt_mul (by rw [Nat.mul_comm];exact hjl);have hfa:=zaV hf l (j / C) (j%C) l[j / C] (List.getElem?_eq_getElem hd) ((f l[j / C])[j%C]'(by rw [hf];exact Nat.mod_lt _ hpos)) (List.getElem?_eq_getElem _);rw [Nat.mul_comm,Nat.div_add_mod] at hfa;have hu:=hj.symm.trans hfa;have:=(hall _ _ (List.getElem?_eq_getElem hd)).2 (j%C) u (by rw [hu];exact List.getElem?_eq_getElem _)
      rwa [Nat.mul_comm,Nat.div_add_mod] at this
     refine ⟨a,rfl,?_,hcell⟩;have h0:0<(l.flatMap f).length:=by rw [zcj hf,hlen];exact Nat.mul_pos hn hpos
     have:=World.block_lt_of_cell? w _ (hcell 0 _ (List.getElem?_eq_getElem h0))
     rwa [zfD] at this
   · obtain ⟨i,hi',rfl⟩:=List.mem_iff_getElem.1 hb;exact (hall i _ (List.getElem?_eq_getElem hi')).1
section
variable {H:Type} {enc:TypeId×Value→H} {w:World} {base:Nat} {spare:Nat→Bool} {held:Bool}
theorem zgg {cs:List Value} {i k:Nat} {l:List Value} (h:(cs.drop i).take k=l):cs.drop i=l++cs.drop (i+k):=by
 rw [←h,←List.drop_drop,List.take_append_drop]
theorem zqB:Tryz.prog.cellsOf 5=1:=by kernel_rfl
theorem zox:Tryz.prog.cellsOf 58=1:=by kernel_rfl
theorem zqc:Tryz.prog.cellsOf 3=1:=by kernel_rfl
theorem zqV (l:List UInt8):l.flatMap (fun a=>[zh a])=l.map zh:=by
 induction l with
 | nil=>rfl
 | cons a l ih=>rw [List.flatMap_cons,ih];rfl
theorem zqk {n:Nat} {cs:List Value} {y:DataW H×List MemPlace} (h:DataW.trod enc Tryz.prog w base spare held n 5 cs=some y):∃x:UInt8,cs=[zh x]:=by
 obtain ⟨a,e,a1,a2⟩:=DataW.trod_int Tryz.underlying5 h;have hb:0≤a∧a≤255:=by simpa [Lit.wf,IntKind.min,IntKind.max,IntKind.signed,IntKind.bits] using a2
 obtain ⟨k,rfl⟩:=Int.eq_ofNat_of_zero_le hb.1;refine ⟨UInt8.ofNat k,?_⟩;unfold zh;rw [e,UInt8.toNat_ofNat',Nat.mod_eq_of_lt (by omega)]
end
end
section
open Go.ChangeShapes Go.WideShapes Go.ChangeAt Go.RowKit
section
variable {H:Type} {enc:TypeId×Value→H} {w:World} {base:Nat} {spare:Nat→Bool} {held:Bool}
theorem ztj (l:List Int):l.flatMap (fun a=>[Value.int .i64 a])=l.map (Value.int .i64):=by
 induction l with
 | nil=>rfl
 | cons a l ih=>rw [List.flatMap_cons,ih];rfl
end
end
section
open Go.ChangeShapes Go.WideShapes Go.ChangeAt Go.RowKit Go.Deep
abbrev SlA:=Option Addr×Nat
structure StV where
 a:SlA
 b:SlA
 c:SlA
 ds:List SlA
def slB (d:List UInt8) (r:SlA):Value := .slice r.1 d.length r.2
def zcV (x:StepD×StV):List Value:=[.slice x.2.a.1 x.1.pars.length x.2.a.2,.slice x.2.b.1 x.1.paths.length x.2.b.2,.slice x.2.c.1 x.1.data.length x.2.c.2]
def i64L (l:List Int):List Value:=l.map (Value.int .i64)
def zcO (l:List Int):Prop:=∀x∈l,-9223372036854775808≤x∧x≤9223372036854775807
structure StepI (w:World) (B:Nat) (s:StepD) (v:StV):Prop where
 pars:ze w B 1 v.a.1 s.pars.length (i64L s.pars)
 parsC:s.pars.length≤v.a.2∧v.a.2≤maxLen
 paths:ze w B 1 v.b.1 s.paths.length (i64L s.paths)
 pathsC:s.paths.length≤v.b.2∧v.b.2≤maxLen
 data:ze w B 1 v.c.1 s.data.length ((s.data.zip v.ds).map fun x=>slB x.1 x.2)
 dataC:s.data.length≤v.c.2∧v.c.2≤maxLen
 dsl:v.ds.length=s.data.length
 each:∀(i:Nat) (d:List UInt8) (r:SlA),s.data[i]? = some d→v.ds[i]? = some r→d.length≤r.2∧r.2≤maxLen∧ze w B 1 r.1 d.length (d.map zh)
 fitP:zcO s.pars
 fitQ:zcO s.paths
theorem StepI.below {w w':World} {B:Nat} {s:StepD} {v:StV} (h:StepI w B s v) (hb:Below B w w'):StepI w' B s v :=
 ⟨h.pars.below hb,h.parsC,h.paths.below hb,h.pathsC,h.data.below hb,h.dataC,h.dsl,fun i d r h1 h2=>⟨(h.each i d r h1 h2).1,(h.each i d r h1 h2).2.1,(h.each i d r h1 h2).2.2.below hb⟩,h.fitP,h.fitQ⟩
structure StI (w:World) (B:Nat) (A:Option Addr) (ss:List StepD) (vs:List StV):Prop where
 len:vs.length=ss.length
 row:ze w B 3 A ss.length ((ss.zip vs).flatMap zcV)
 each:∀(i:Nat) s v,ss[i]? = some s→vs[i]? = some v→StepI w B s v
theorem StI.below {w w':World} {B:Nat} {A:Option Addr} {ss:List StepD} {vs:List StV} (h:StI w B A ss vs) (hb:Below B w w'):StI w' B A ss vs :=
 ⟨h.len,h.row.below hb,fun i s v h1 h2=>(h.each i s v h1 h2).below hb⟩
section
variable {H:Type} {enc:TypeId×Value→H} {w:World} {base:Nat} {spare:Nat→Bool} {held:Bool}
theorem zt4:Tryz.prog.cellsOf 57=1:=by kernel_rfl
theorem zmM:Tryz.prog.cellsOf 56=1:=by kernel_rfl
theorem zh6:Tryz.prog.cellsOf 60=3:=by kernel_rfl
theorem zlH {n:Nat} {A:Option Addr} {len cap:Nat} {y:DataW H×List MemPlace} (hf:DataW.trod enc Tryz.prog w base spare held n 57 [.slice A len cap]=some y) :∃l:List Int,l.length=len∧ze w w.heap.size 1 A l.length (i64L l)∧(l.length≤cap∧cap≤maxLen)∧zcO l:=by
 obtain ⟨l,h1,h2,h3,h4,_,h5⟩:=ze1 (N:=Rows.uptoBulk y.1) (f:=fun a:Int=>[Value.int .i64 a]) (V:=fun a=>-9223372036854775808≤a∧a≤9223372036854775807) Tryz.underlying57 zqc (by decide) (fun _=>rfl) (fun _ _ _ h _=>by
  obtain ⟨a,e,_,a2⟩:=DataW.trod_int Tryz.underlying3 h;exact ⟨a,e,by simpa [Lit.wf,IntKind.min,IntKind.max,IntKind.signed,IntKind.bits] using a2⟩) hf (Nat.le_refl _)
 subst h1;rw [ztj] at h2;exact ⟨l,rfl,h2,⟨h3,h4⟩,h5⟩
theorem zft {t e:TypeId} {fuel:Nat} {cs:List Value} {x:DataW H×List MemPlace} (ht:Tryz.prog.underlying t=some (.slice e)) (h:DataW.trod enc Tryz.prog w base spare held fuel t cs=some x):∃A len cap,cs=[.slice A len cap]:=by
 rcases open_slice ht h with ⟨hcs,_⟩|⟨a,len,cap,m,n,D,Pl,hcs,_⟩
 · exact ⟨_,_,_,hcs⟩
 · exact ⟨_,_,_,hcs⟩
theorem zsM {n:Nat} {cs:List Value} {y:DataW H×List MemPlace} (hf:DataW.trod enc Tryz.prog w base spare held n 58 cs=some y) :∃x:List UInt8×SlA,cs=[slB x.1 x.2]∧x.1.length≤x.2.2∧x.2.2≤maxLen∧ze w w.heap.size 1 x.2.1 x.1.length (x.1.map zh):=by
 obtain ⟨A,dl,dc,rfl⟩:=zft Tryz.underlying58 hf;obtain ⟨l,h1,h2,h3,h4,_⟩:=ze1 (N:=Rows.uptoBulk y.1) (f:=fun a:UInt8=>[zh a]) (V:=fun _=>True) Tryz.underlying58 zqB (by decide) (fun _=>rfl) (fun _ _ _ h _=>by obtain ⟨x,hx⟩:=zqk h;exact ⟨x,hx,trivial⟩) hf (Nat.le_refl _);subst h1;rw [zqV] at h2;exact ⟨(l,(A,dc)),rfl,h3,h4,h2⟩
theorem zpt (l:List (List UInt8×SlA)):l.flatMap (fun x=>[slB x.1 x.2])=l.map fun x=>slB x.1 x.2:=by
 induction l with
 | nil=>rfl
 | cons a l ih=>rw [List.flatMap_cons,ih];rfl
theorem zk5 {α β:Type} (l:List (α×β)):(l.map (·.1)).zip (l.map (·.2))=l:=by
 induction l with
 | nil=>rfl
 | cons x l ih=>simp [ih]
theorem zlW {α β:Type} {l:List (α×β)} {i:Nat} {x:α} {y:β} (h1:(l.map (·.1))[i]? = some x) (h2:(l.map (·.2))[i]? = some y):l[i]? = some (x,y):=by
 rw [List.getElem?_map,Option.map_eq_some_iff] at h1 h2;obtain ⟨u,e3,rfl⟩:=h1;obtain ⟨v,e4,rfl⟩:=h2;rw [e3] at e4;injection e4 with e4;subst e4;exact e3
theorem zpK {n:Nat} {A:Option Addr} {len cap:Nat} {y:DataW H×List MemPlace} (hf:DataW.trod enc Tryz.prog w base spare held n 56 [.slice A len cap]=some y) :∃l:List (List UInt8×SlA),l.length=len∧ze w w.heap.size 1 A l.length (l.map fun x=>slB x.1 x.2)∧(l.length≤cap∧cap≤maxLen)∧∀x∈l,x.1.length≤x.2.2∧x.2.2≤maxLen∧ze w w.heap.size 1 x.2.1 x.1.length (x.1.map zh):=by
 obtain ⟨l,h1,h2,h3,h4,_,h5⟩:=ze1 (N:=Rows.uptoBulk y.1) (f:=fun x:List UInt8×SlA=>[slB x.1 x.2]) (V:=fun x=>x.1.length≤x.2.2∧x.2.2≤maxLen∧ze w w.heap.size 1 x.2.1 x.1.length (x.1.map zh)) Tryz.underlying56 zox (by decide) (fun _=>rfl) (fun _ _ _ h _=>zsM h) hf (Nat.le_refl _);subst h1;rw [zpt] at h2;exact ⟨l,rfl,h2,⟨h3,h4⟩,h5⟩
theorem zoH {n:Nat} {cs:List Value} {y:DataW H×List MemPlace} (h:DataW.trod enc Tryz.prog w base spare held n 60 cs=some y):∃x:StepD×StV,cs=zcV x∧StepI w w.heap.size x.1 x.2:=by
 obtain ⟨xs,m,_,hy,hlen,hxl,hx⟩:=DataW.trod_struct Tryz.underlying60 h;rw [zh6] at hlen;have h0:=hx 0 _ rfl;have h1:=hx 1 _ rfl;have h2:=hx 2 _ rfl;have hxl':xs.length=3:=hxl;rw [List.getElem?_eq_getElem (by omega)] at h0 h1 h2;have h0:DataW.trod enc Tryz.prog w base spare held m 57 ((cs.drop 0).take (Tryz.prog.cellsOf 57))=_:=h0;have h1:DataW.trod enc Tryz.prog w base spare held m 57 ((cs.drop 1).take (Tryz.prog.cellsOf 57))=_:=h1;have h2:DataW.trod enc Tryz.prog w base spare held m 56 ((cs.drop 2).take (Tryz.prog.cellsOf 56))=_:=h2;rw [zt4] at h0 h1;rw [zmM] at h2;obtain ⟨A0,l0,c0,e0⟩:=zft Tryz.underlying57 h0;obtain ⟨A1,l1,c1,e1⟩:=zft Tryz.underlying57 h1;obtain ⟨A2,l2,c2,e2⟩:=zft Tryz.underlying56 h2;rw [e0] at h0;rw [e1] at h1;rw [e2] at h2;obtain ⟨ps,rfl,r0,b0,f0⟩:=zlH h0;obtain ⟨qs,rfl,r1,b1,f1⟩:=zlH h1;obtain ⟨ds,rfl,r2,b2,f2⟩:=zpK h2
 refine ⟨(⟨ps,qs,ds.map (·.1)⟩,⟨(A0,c0),(A1,c1),(A2,c2),ds.map (·.2)⟩),?_,⟨r0,b0,r1,b1,?_,?_,?_,fun i d r q1 q2=>?_,f0,f1⟩⟩
 · have d0:=zgg e0;have d1:=zgg e1;have d2:=zgg e2;rw [List.drop_of_length_le (show cs.length≤2+1 by omega),List.append_nil] at d2;have:cs=cs.drop 0:=rfl;rw [this,d0,d1,d2];simp [zcV]
 · simp only
   rw [zk5,List.length_map];exact r2
 · simp only [List.length_map]
   exact b2
 · simp
 · exact f2 (d,r) (List.mem_of_getElem? (zlW q1 q2))
theorem znb {A:Option Addr} {len cap:Nat} {d:DataW H} {p:List MemPlace} (h:DataW.Trod enc Tryz.prog w base spare held 22 (.slice A len cap) d p) :∃(ss:List StepD) (vs:List StV),ss.length=len∧StI w w.heap.size A ss vs∧ss.length≤cap∧cap≤maxLen:=by
 obtain ⟨fuel,hf⟩:=h;have hf:DataW.trod enc Tryz.prog w base spare held fuel 22 [.slice A len cap]=some (d,p):=by simpa [Value.cells] using hf
 obtain ⟨l,h1,h2,h3,h4,_,h5⟩:=ze1 (N:=Rows.uptoBulk d) (f:=zcV) (V:=fun x=>StepI w w.heap.size x.1 x.2) Tryz.underlying22 zh6 (by decide) (fun _=>rfl) (fun _ _ _ h _=>zoH h) hf (Nat.le_refl _);subst h1;refine ⟨l.map (·.1),l.map (·.2),by simp,⟨by simp,?_,fun i s v e1 e2=>h5 (s,v) (List.mem_of_getElem? (zlW e1 e2))⟩,by simpa using h3,h4⟩;rw [zk5,List.length_map];exact h2
end
end
section
open Go.ChangeShapes Go.WideShapes Go.ChangeAt Go.RowKit
def zb6:List (String×DataW Unit):=[("unicode/utf8.acceptRanges",Rows.laid_unicode_utf8_acceptRanges),("unicode/utf8.first",Rows.laid_unicode_utf8_first)]
theorem own:ownKnob Tryz.prog.godebug=none:=by kernel_rfl
theorem zhD:laidOutB Tryz.prog=true:=by kernel_rfl
theorem zlL {W:World} (hS:W.ShapedOpen Tryz.prog):VarM W :=
 cell_of_shapedOpen_int (t:=3) (zero:=#[.int .i64 0]) hS (g:=1) (of_decide_eq_true (by kernel_rfl)) (by kernel_rfl) rfl (by kernel_rfl) (by kernel_rfl) Tryz.underlying3
end
section
open Go.ChangeShapes Go.WideShapes Go.ChangeAt Go.RowKit
def zie:List (String×DataW Unit):=[("unicode/utf8.acceptRanges",Rows.laid_unicode_utf8_acceptRanges),("errors.errorType",Rows.laid_errors_errorType),("unicode/utf8.first",Rows.laid_unicode_utf8_first)]
noncomputable def zij (os:Os):World :=
 let w0:=World.holding Tryz.prog os ⟨#[],#[],[]⟩
 { w0 with heap:=w0.heap.modify 0 fun
     | .cells _ t frozen => .cells #[.iface 197 (.agg #[.pointer (some ⟨4,39,none⟩)])] t frozen
     | o=>o }
noncomputable def zcG (os:Os):World:=(zij os).layVars Tryz.prog zb6
theorem ztS (os:Os):(zcG os).os=os:=World.layVars_os _ _ _
theorem zpo (os:Os) (args:Array Value):laidMet Tryz.prog zb6 ((zcG os).forCall (fun _ _=>0) ⟨#[],args,[]⟩).memory:=by
 have e1:(zb6.filter fun x=>(zb6.map (·.1)).contains x.1)=zb6:=List.filter_eq_self.2 fun x hx=>List.contains_iff_mem.2 (List.mem_map.2 ⟨x,hx,rfl⟩);have e2:(zb6.filter fun x=>!(zb6.map (·.1)).contains x.1)=[]:=List.filter_eq_nil_iff.2 fun x hx=>by rw [List.contains_iff_mem.2 (List.mem_map.2 ⟨x,hx,rfl⟩)];simp
 have h:laidMet Tryz.prog zb6 (zcG os):=laidMet_layVars (w0:=zij os) (zb6.map (·.1)) [] (by rw [e1];rfl) (by rw [e1];kernel_rfl) (by rw [e1];kernel_rfl) (by rw [e2];exact LaidIn.none);exact h.of_heap (by simp [World.memory,World.forCall,Input.heap])
theorem zq1 (os:Os) (args:Array Value):laidMetH Tryz.prog zie ((zcG os).forCall (fun _ _=>0) ⟨#[],args,[]⟩).memory :=
 laidMetH_of_parts (zpo os args) (by kernel_rfl)
theorem zrU (os:Os) (args:Array Value):((zcG os).forCall (fun _ _=>0) ⟨#[],args,[]⟩).variablesB Tryz.prog=true:=by kernel_rfl
theorem zpz (os:Os) (args:Array Value):(((zcG os).forCall (fun _ _=>0) ⟨#[],args,[]⟩).heap.toList.drop Tryz.prog.globals.size).take ((begin Tryz.prog (fun _ _=>0) default).world.heap.size-Tryz.prog.globals.size) =(begin Tryz.prog (fun _ _=>0) default).world.heap.toList.drop Tryz.prog.globals.size:=by kernel_rfl
theorem zow:Tryz.prog.globalNamed "errors.errorType" = some 0:=by kernel_rfl
theorem zmV:(Tryz.prog.cutTypes.find? (·.1 == "internal/reflectlite.rtype")).map (·.2)=some 197:=by kernel_rfl
theorem zqY:((List.range Tryz.prog.types.size).filter fun t=>Tryz.prog.rowNamed t [101,114,114,111,114])=[39]:=by kernel_rfl
theorem zoa {W:World} (h:laidMetH Tryz.prog zie W):ErrT W:=by
 have h':laidMet Tryz.prog zb6 W∧handlesMet Tryz.prog [("errors.errorType",Rows.laid_errors_errorType)] W:=h;obtain ⟨name,u,ty,e1,e2,e3,e4,e5⟩:=h'.2 _ (List.mem_singleton.2 rfl);have en:name=[101,114,114,111,114]:=(Option.some.inj e1).symm;subst en;obtain rfl:=Option.some.inj (zmV.symm.trans e2);have hm:ty∈(List.range Tryz.prog.types.size).filter fun t=>Tryz.prog.rowNamed t [101,114,114,111,114]:=List.mem_filter.2 ⟨List.mem_range.2 e3,e4⟩;rw [zqY] at hm;obtain rfl:=List.mem_singleton.1 hm;have hh:typeHandle Tryz.prog 39 = .pointer (some ⟨4,39,none⟩):=by kernel_rfl
 rw [hh] at e5;have:=World.var?_cell zow e5 0;unfold ErrT;simpa using this
theorem VarM.after {w w':World} (h:VarM w) (hb:Below w.heap.size w w'):VarM w':=h.below hb h.pos
theorem ErrT.after {w w':World} (h:ErrT w) (hb:Below w.heap.size w w'):ErrT w':=by
 unfold ErrT at h ⊢;exact (hb.cell (p:=⟨0,0,none⟩) (World.block_lt_of_cell? w _ h)).trans h
end
end Go.Proofs.YtmkmbbjgepcioaaGreatDoor
