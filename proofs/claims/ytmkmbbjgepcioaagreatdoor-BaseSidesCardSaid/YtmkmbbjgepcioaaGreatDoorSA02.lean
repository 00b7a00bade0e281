/- A row that a call owns and takes elements off at the front: laws of reading, taking, appending. No statement of the seat is proved here. -/
import Derived.Test.YtmkmbbjgepcioaaGreatDoorSAHq
import Derived.Test.YtmkmbbjgepcioaaGreatDoorSA01
import Derived.Lib.AppendStr
import Derived.Deep.RegionHeld3
import Derived.StillTailTactics
import Derived.OwnWalk
import Derived.Deep.Onto
import Derived.Laws.CopyOwn
import Derived.Laws.BytesString
import Derived.Lib.Strings
import Derived.Test.YtmkmbbjgepcioaaGreatDoorProg
namespace Go.Proofs.YtmkmbbjgepcioaaGreatDoor
set_option maxHeartbeats 1000000
set_option maxRecDepth 100000
section
open Go.RowKit
def Tch (base:Nat) (E:List TypeId) (G:List Nat) (w:World) (k:Nat):Prop:=k∈G∨(base≤k∧∃e∈E,∃cs fz,w.heap[k]? = some (.cells cs e fz))
abbrev Kept (base:Nat) (E:List TypeId) (G:List Nat) (w w':World):Prop:=Keep (Tch base E G w) w w'
section
variable {base:Nat} {E:List TypeId} {G:List Nat} {a b c w w':World}
theorem Kept.refl (base:Nat) (E:List TypeId) (G:List Nat) (w:World):Kept base E G w w:=Keep.refl _ _
theorem Kept.trans (h:Kept base E G a b) (k:Kept base E G b c):Kept base E G a c:=by
 refine h.then_ k fun i hi q=>?_
 rcases q with q|⟨h1,e,he,cs,fz,hc⟩
 · exact .inl q
 · by_cases hn:Tch base E G a i
   · exact hn
   · rw [h.block i hi hn] at hc;exact .inr ⟨h1,e,he,cs,fz,hc⟩
theorem Kept.mono {base':Nat} {E':List TypeId} {G':List Nat} (h:Kept base E G a b) (hb:base'≤base) (hE:∀e∈E,e∈E') (hG:∀k∈G,k∈G'∨a.heap.size≤k):Kept base' E' G' a b:=by
 refine Keep.mono h fun i hi q=>?_
 rcases q with q|⟨h1,e,he,cs,fz,hc⟩
 · rcases hG i q with g|g
   · exact .inl g
   · omega
 · exact .inr ⟨by omega,e,hE e he,cs,fz,hc⟩
theorem Kept.drew (h:Kept base E G a w):Kept base E G a w.drew:=Keep.drew h
theorem Kept.drewN (h:Kept base E G a w) (n:Nat):Kept base E G a (w.drewN n):=Keep.drewN h n
theorem Kept.ofDrewN {n:Nat} (h:Kept base E G (a.drewN n) w):Kept base E G a w:=Keep.ofDrewN h
theorem Kept.alloc (h:Kept base E G a w) (o:Obj):Kept base E G a (w.alloc o):=Keep.alloc h o
theorem Kept.setCell (h:Kept base E G a w) {p:Addr} (hp:p.block∈G∨a.heap.size≤p.block) (u:Value):Kept base E G a (w.setCell p u):=Keep.setCell h (hp.imp .inl id) u
theorem Kept.setRow (h:Kept base E G a w) {g:Nat} (hp:g∈G∨a.heap.size≤g) (cs:Array Value):Kept base E G a (w.setRow g cs):=Keep.setRow h (hp.imp .inl id) cs
theorem Kept.ofKeep {S:Nat→Prop} (h:Keep S a w) (hs:∀i,i<a.heap.size→S i→i∈G):Kept base E G a w:=Keep.mono h fun i hi q => .inl (hs i hi q)
theorem Kept.ofBelow (h:Below a.heap.size a w):Kept base E G a w:=Below.keep_ h _
theorem Kept.blk {g:Nat} {t:TypeId} {cs:Array Value} (h:Kept base E G a w) (hb:Blk a g t cs) (hG:g∉G) (ht:t∉E):Blk w g t cs :=
 hb.keep h fun q=>by
  rcases q with q|⟨_,e,he,cs',fz,hc⟩
  · exact hG q
  · unfold Blk at hb;rw [hb] at hc;injection hc with hc;injection hc with _ hc;subst hc;exact ht he
theorem Kept.below {B:Nat} (h:Kept base E G a w) (hB:B≤base) (hz:B≤a.heap.size) (hG:∀k∈G,B≤k):Below B a w :=
 Keep.below h hz fun i hi q=>by
  rcases q with q|⟨h1,_⟩
  · exact absurd (hG i q) (by omega)
  · omega
theorem Kept.all (h:Kept a.heap.size E [] a w):Below a.heap.size a w:=h.below (Nat.le_refl _) (Nat.le_refl _) (by simp)
end
def Own (w:World) (base:Nat) (e:TypeId) (size:Nat) (A:Option Addr) (n c:Nat) (xs:List Value):Prop:=w.ownsRow base e size (.slice A n c) n xs
section
variable {base:Nat} {e:TypeId} {size:Nat} {A:Option Addr} {n c:Nat} {xs:List Value} {w w':World}
theorem Own.nil (w:World) (base:Nat) (e:TypeId) (size:Nat):Own w base e size none 0 0 []:=⟨by simp,.inl ⟨rfl,rfl⟩⟩
theorem Own.drew (h:Own w base e size A n c xs):Own w.drew base e size A n c xs:=h
theorem Own.drewN (h:Own w base e size A n c xs) (k:Nat):Own (w.drewN k) base e size A n c xs:=h
theorem Own.alloc (h:Own w base e size A n c xs) (o:Obj):Own (w.alloc o) base e size A n c xs:=World.ownsRow.alloc h o
theorem Own.mono {base':Nat} (h:Own w base e size A n c xs) (hb:base'≤base):Own w base' e size A n c xs:=World.ownsRow.mono h hb
theorem Own.reads (h:Own w base e size A n c xs):ze w w.heap.size size A n xs:=ze.of_own h
theorem Own.len (h:Own w base e size A n c xs):xs.length=n*size:=h.1
theorem Own.cap_le (h:Own w base e size A n c xs):n≤c∧c≤maxLen:=by
 rcases h.2 with ⟨h,rfl⟩|⟨g,cap,cur,h,_,_,h1,h2,_⟩
 · injection h with _ _ h;subst h;simp
 · injection h with _ _ h;subst h;exact ⟨h1,h2⟩
theorem Own.blockAt (h:Own w base e size A n c xs):∀k,(Value.slice A n c).ownBlock=some k→base≤k∧k<w.heap.size∧∃cs,w.heap[k]? = some (.cells cs e (0,0)):=by
 intro k hk
 rcases h.2 with ⟨hv,_⟩|⟨g,cap,cur,hv,hbg,hg,_⟩
 · rw [hv] at hk;simp [Value.ownBlock] at hk
 · rw [hv] at hk;have:g=k:=by simpa [Value.ownBlock] using hk
   subst this;exact ⟨hbg,(Array.getElem?_eq_some_iff.1 hg).1,cur,hg⟩
theorem Own.same (h:Own w base e size A n c xs) (hk:∀k,base≤k→k<w.heap.size→(∃cs,w.heap[k]? = some (.cells cs e (0,0)))→w'.heap[k]? = w.heap[k]?):Own w' base e size A n c xs:=by
 refine ⟨h.1,?_⟩
 rcases h.2 with hv|⟨g,cap,cur,hv,hbg,hg,hr⟩
 · exact .inl hv
 · exact .inr ⟨g,cap,cur,hv,hbg,(hk g hbg (Array.getElem?_eq_some_iff.1 hg).1 ⟨cur,hg⟩).trans hg,hr⟩
theorem Own.setCell (h:Own w base e size A n c xs) {p:Addr} {t:TypeId} {cs:Array Value} (hp:Blk w p.block t cs) (ht:t≠e) (u:Value):Own (w.setCell p u) base e size A n c xs :=
 h.same fun k _ _ ⟨cs',hc⟩=>Below.heap_setCell w p u k (by
  rintro rfl;unfold Blk at hp;rw [hp] at hc;injection hc with hc;injection hc with _ hc;exact ht hc)
theorem Own.setRow (h:Own w base e size A n c xs) {g:Nat} {t:TypeId} {cs:Array Value} (hp:Blk w g t cs) (ht:t≠e) (cs':Array Value):Own (w.setRow g cs') base e size A n c xs :=
 h.same fun k _ _ ⟨cs'',hc⟩=>setRow_other w g k cs' (by
  rintro rfl;unfold Blk at hp;rw [hp] at hc;injection hc with hc;injection hc with _ hc;exact ht hc)
theorem Own.kept {b':Nat} {E:List TypeId} {G:List Nat} (h:Own w base e size A n c xs) (hk:Kept b' E G w w') (he:e∉E) (hG:∀g∈G,∃t cs,Blk w g t cs∧t≠e):Own w' base e size A n c xs :=
 h.same fun k _ hlt ⟨cs,hc⟩=>hk.block k hlt fun q=>by
  rcases q with q|⟨_,e',he',cs',fz,hc'⟩
  · obtain ⟨t,cs',hb,ht⟩:=hG k q;unfold Blk at hb;rw [hb] at hc;injection hc with hc;injection hc with _ hc;exact ht hc
  · rw [hc] at hc';injection hc' with hc';injection hc' with _ hc';subst hc';exact he he'
theorem Kept.of_grown {G:List Nat} {E:List TypeId} (h:Own w base e size A n c xs) (hg:w.grownBy w' (Value.slice A n c).ownBlock) (he:e∈E):Kept base E G w w' :=
 Keep.grown (Keep.refl _ _) hg fun k hk=>by
  obtain ⟨h1,_,cs,h3⟩:=h.blockAt k hk;exact .inl (.inr ⟨h1,e,he,cs,_,h3⟩)
end
section
variable {P:Program}
theorem zcC {w:World} {base:Nat} {e:TypeId} {size:Nat} {v:Value} {n:Nat} {xs:List Value} (h:w.ownsRow base e size v n xs):∃A c,v = .slice A n c:=by
 rcases h.2 with ⟨rfl,rfl⟩|⟨g,cap,cur,rfl,_⟩
 · exact ⟨_,_,rfl⟩
 · exact ⟨_,_,rfl⟩
theorem zgT (w:World) (base:Nat) (t ty e:TypeId) (i:TypeInfo) (size:Nat) (ht:P.underlying t=some (.slice e)) (hi:P.info? e=some i) (v:Value) (n:Nat) (xs:List Value) (hown:w.ownsRow base e size v n xs) (c:Nat):(Builtin.append_ #[t,t] ty #[v,.slice none 0 c]).run P w = .ok v w:=by
 rcases hown.2 with ⟨rfl,rfl⟩|⟨g,cap,cur,rfl,_,_,hnc,_⟩
 · simp [Builtin.append_,run_underlying ht,sizeOf,typeInfo,hi,Builtin.lenOf,Builtin.firstCells]
 · simp [Builtin.append_,run_underlying ht,sizeOf,typeInfo,hi,Builtin.lenOf,Builtin.firstCells,hnc,storeCells]
structure Elem (P:Program) (t e:TypeId) (size bytes:Nat):Prop where
 under:P.underlying t=some (.slice e)
 row:∃i z,P.info? e=some i∧i.zero=some z∧i.size=size∧i.bytes=bytes∧z.cells.size=size
 pos:0<size
theorem zeX {w:World} {t e ty:TypeId} {size bytes:Nat} (H:Elem P t e size bytes) {base:Nat} {A:Option Addr} {n c:Nat} {xs:List Value} (hown:Own w base e size A n c xs) {B:Nat} {S:Option Addr} {m d:Nat} {news:List Value} (hr:ze w B size S m news) (h1:∀u∈news,u.oneCell'=true) (h63:n+m≤maxLen) (hbytes:(n+m)*bytes≤140737488355328) (hbase:base≤w.heap.size) :∃A' c' w',(Builtin.append_ #[t,t] ty #[.slice A n c,.slice S m d]).run P w = .ok (.slice A' (n+m) c') w'∧Own w' base e size A' (n+m) c' (xs++news)∧Kept base [e] [] w w':=by
 obtain ⟨ht,⟨i,z,hi,hz,hsize,hby,hzs⟩,hpos⟩:=H
 rcases S with _|ad
 · have hm:m=0:=by
    rcases Nat.eq_zero_or_pos m with h0|h0
    · exact h0
    · obtain ⟨ad,h,_⟩:=hr.2 h0;cases h
   subst hm;have hn:news=[]:=List.eq_nil_of_length_eq_zero (by simpa using hr.1);subst hn;exact ⟨A,c,w,zgT w base t ty e i size ht hi _ n xs hown d,by simpa using hown,Kept.refl _ _ _ _⟩
 · have hcells:∀j u,news[j]? = some u→w.cell? (ad.add j)=some u:=by
    intro j u hu
    rcases Nat.eq_zero_or_pos m with h0|h0
    · subst h0;have hn:news=[]:=List.eq_nil_of_length_eq_zero (by simpa using hr.1);subst hn;simp at hu
    · obtain ⟨ad',h,_,hc⟩:=hr.2 h0;injection h with h;subst h;exact hc j u hu
   obtain ⟨v',w',hrun,h2,h3,_,h5⟩:=run_append_own_at (P:=P) w base t ty e i z size bytes ht hi hz hsize hby hzs hpos _ n xs hown ad m d news hr.1 hcells h1 h63 hbytes hbase;obtain ⟨A',c',rfl⟩:=zcC h2;exact ⟨A',c',w',hrun,h2,Kept.of_grown hown h3 (by simp)⟩
theorem zns {w:World} {t u e ty:TypeId} (H:Elem P t e 1 1) (hz0:(P.info? e).bind (·.zero)=some (.int .u8 0)) (hu:P.underlying u=some .string) {base:Nat} {A:Option Addr} {n c:Nat} {xs:List Value} (hown:Own w base e 1 A n c xs) {s:ByteArray} (h63:n+s.size≤maxLen) (hbytes:n+s.size≤140737488355328) (hbase:base≤w.heap.size) :∃A' c' w',(Builtin.append_ #[t,u] ty #[.slice A n c,.string s]).run P w = .ok (.slice A' (n+s.size) c') w'∧Own w' base e 1 A' (n+s.size) c' (xs++Lib.strCells s)∧Kept base [e] [] w w':=by
 obtain ⟨ht,⟨i,z,hi,hz,hsize,hby,hzs⟩,hpos⟩:=H;have hz':i.zero=some (.int .u8 0):=by rw [hi] at hz0;simpa using hz0
 obtain ⟨v',w',hrun,h2,h3,_⟩:=Lib.run_append_own_string (P:=P) w base t u ty e i ht hu hi hz' hsize hby _ n xs hown s h63 hbytes hbase;obtain ⟨A',c',rfl⟩:=zcC h2;exact ⟨A',c',w',hrun,h2,Kept.of_grown hown h3 (by simp)⟩
theorem zcA {o:Oper} {a:Act} {w:World} {K:Act→World→Prop} {Q:Exit→Act→World→Prop} {s x:Operand} {t u:TypeId} (ho:o.op = .call { callee := .builtin .append,args:=#[s,x],argTypes:=#[t,u] }) {v1 v2 v':Value} {w':World} (hs:a.eval s=v1) (hx:a.eval x=v2) (hrun:(Builtin.append_ #[t,u] o.type #[v1,v2]).run P w = .ok v' w') (h:K (a.put o.dst v') w'):o.wp P a w K Q:=by
 unfold Oper.wp execOp;simp only [ho,resolve,invoke,builtin,Sem.run_bind,Sem.run_pure,Result.andThen_ok,List.map_toArray,List.map_cons,List.map_nil,hs,hx,hrun]
 exact h
theorem zH {ops:Array Oper} {rest:List Oper} {o:Oper} {a:Act} {w:World} {Q:Exit→Act→World→Prop} (hgd:o.guard=none) {s x:Operand} {t e:TypeId} {size bytes:Nat} (H:Elem P t e size bytes) (ho:o.op = .call { callee := .builtin .append,args:=#[s,x],argTypes:=#[t,t] }) {base:Nat} {A:Option Addr} {n c:Nat} {xs:List Value} (hs:a.eval s = .slice A n c) (hown:Own w base e size A n c xs) {B:Nat} {S:Option Addr} {m d:Nat} {news:List Value} (hx:a.eval x = .slice S m d) (hr:ze w B size S m news) (h1:∀u∈news,u.oneCell'=true) (h63:n+m≤maxLen) (hbytes:(n+m)*bytes≤140737488355328) (hbase:base≤w.heap.size) (h:∀A' c' w',Own w' base e size A' (n+m) c' (xs++news)→Kept base [e] [] w w'→wpList P ops Q rest (a.put o.dst (.slice A' (n+m) c')) w'):wpList P ops Q (o::rest) a w:=by
 obtain ⟨A',c',w',hrun,h2,h3⟩:=zeX (ty:=o.type) (d:=d) H hown hr h1 h63 hbytes hbase;exact wpList_plain hgd fun _ hK=>zcA ho hs hx hrun (hK _ _ (h A' c' w' h2 h3))
theorem zjU {ops:Array Oper} {rest:List Oper} {o:Oper} {a:Act} {w:World} {Q:Exit→Act→World→Prop} (hgd:o.guard=none) {s x:Operand} {t u e:TypeId} (H:Elem P t e 1 1) (hz0:(P.info? e).bind (·.zero)=some (.int .u8 0)) (hu:P.underlying u=some .string) (ho:o.op = .call { callee := .builtin .append,args:=#[s,x],argTypes:=#[t,u] }) {base:Nat} {A:Option Addr} {n c:Nat} {xs:List Value} (hs:a.eval s = .slice A n c) (hown:Own w base e 1 A n c xs) {st:ByteArray} (hx:a.eval x = .string st) (h63:n+st.size≤maxLen) (hbytes:n+st.size≤140737488355328) (hbase:base≤w.heap.size) (h:∀A' c' w',Own w' base e 1 A' (n+st.size) c' (xs++Lib.strCells st)→Kept base [e] [] w w'→wpList P ops Q rest (a.put o.dst (.slice A' (n+st.size) c')) w'):wpList P ops Q (o::rest) a w:=by
 obtain ⟨A',c',w',hrun,h2,h3⟩:=zns (ty:=o.type) (u:=u) H hz0 hu hown (s:=st) h63 hbytes hbase;exact wpList_plain hgd fun _ hK=>zcA ho hs hx hrun (hK _ _ (h A' c' w' h2 h3))
theorem zdZ {ops:Array Oper} {o:Oper} {a:Act} {w:World} {K:Act→World→Prop} {Q:Exit→Act→World→Prop} {E:Prop} (hgd:o.guard=none) {s x:Operand} {t e:TypeId} {size bytes:Nat} (H:Elem P t e size bytes) (ho:o.op = .call { callee := .builtin .append,args:=#[s,x],argTypes:=#[t,t] }) {base:Nat} {A:Option Addr} {n c:Nat} {xs:List Value} (hs:a.eval s = .slice A n c) (hown:Own w base e size A n c xs) {B:Nat} {S:Option Addr} {m d:Nat} {news:List Value} (hx:a.eval x = .slice S m d) (hr:ze w B size S m news) (h1:∀u∈news,u.oneCell'=true) (h63:n+m≤maxLen) (hbytes:(n+m)*bytes≤140737488355328) (hbase:base≤w.heap.size) (h:∀A' c' w',Own w' base e size A' (n+m) c' (xs++news)→Kept base [e] [] w w'→K (a.put o.dst (.slice A' (n+m) c')) w'):if Region.wanted o (yielded ops a.tmps)=true then Oper.wp P o a w K Q else E:=by
 have hw:Region.wanted o (yielded ops a.tmps)=true:=by simp [Region.wanted,hgd]
 rw [if_pos hw];obtain ⟨A',c',w',hrun,h2,h3⟩:=zeX (ty:=o.type) (d:=d) H hown hr h1 h63 hbytes hbase;exact zcA ho hs hx hrun (h A' c' w' h2 h3)
def zh (x:UInt8):Value := .int .u8 (x.toNat:Int)
theorem zer {w:World} {B:Nat} {A:Option Addr} {n c:Nat} {l:List UInt8} (h:ze w B 1 A n (l.map zh)):(Conv.bytesToString (.slice A n c)).run P w = .ok (.string ⟨l.toArray⟩) w:=by
 have hn:l.length=n:=by simpa using h.1
 have key:∀(l:List UInt8) (s:ByteArray),(l.map fun x=>(x.toNat:Int)).foldl (fun r n=>r.push (UInt8.ofNat n.toNat)) s=⟨s.data++l.toArray⟩:=by
  intro l
  induction l with
  | nil=>intro s;simp
  | cons x l ih =>
   intro s;rw [List.map_cons,List.foldl_cons,ih,Int.toNat_natCast,UInt8.ofNat_toNat];simp [ByteArray.push]
 rcases A with _|ad
 · have h0:n=0:=by
    rcases Nat.eq_zero_or_pos n with q|q
    · exact q
    · obtain ⟨ad,e,_⟩:=h.2 q;cases e
   have:l=[]:=List.eq_nil_of_length_eq_zero (by omega);subst this;rfl
 · have hl:(loadCells ad n).run P w = .ok ((l.map fun x=>(x.toNat:Int)).map (Value.int .u8)).toArray w:=by
    have:=run_loadCells_list (P:=P) w ad (l.map zh) (fun j v hv=>by
     rcases Nat.eq_zero_or_pos n with q|q
     · have:l=[]:=List.eq_nil_of_length_eq_zero (by omega);subst this;simp at hv
     · obtain ⟨ad',e,_,hc⟩:=h.2 q;injection e with e;subst e;exact hc j v hv)
    rw [List.length_map,hn] at this;rw [this,List.map_map];rfl
   rw [run_bytesToString w ad n c _ hl,key];simp [ByteArray.empty,ByteArray.emptyWithCapacity];rfl
theorem zfj {ops:Array Oper} {rest:List Oper} {o:Oper} {a:Act} {w:World} {Q:Exit→Act→World→Prop} (hgd:o.guard=none) {src dst e:TypeId} {x:Operand} (ho:o.op = .convert src dst x) (hs:P.underlying src=some (.slice e)) (he:P.underlying e=some (.int .u8)) (hd:P.underlying dst=some .string) {B:Nat} {A:Option Addr} {n c:Nat} {l:List UInt8} (hx:a.eval x = .slice A n c) (h:ze w B 1 A n (l.map zh)) (hk:wpList P ops Q rest (a.put o.dst (.string ⟨l.toArray⟩)) w):wpList P ops Q (o::rest) a w :=
 wpList_plain hgd fun _ hK=>by
  unfold Oper.wp execOp;simp only [ho,hx,Sem.run_bind,run_convert_bytes_string w src dst e A n c hs he hd,zer h,Result.andThen_ok,Sem.run_pure]
  exact hK _ _ hk
theorem zh0 {fn:Func} {t:Tmp} {ty:TypeId} (h:fn.results=#[.cell t ty]) (tmps:Array Value) (w:World) {ad:Addr} (ht:tmps.getD t undef = .pointer (some ad)) {v:Value} (hl:(loadVar ty ad).run P w = .ok v w) :(results fn tmps).run P w = .ok v w:=by
 simp only [Array.getD_eq_getD_getElem?] at ht;simp [results,h,ht,asAddr,hl]
theorem zjt:∀(vs:List Value) (off:Nat) (cs:Array Value),off+vs.length≤cs.size→(vs.zipIdx off).foldl (fun (c:Array Value) (p:Value×Nat)=>c.setIfInBounds p.2 p.1) cs=spl cs off vs
 | [],off,cs,_=>by simp [spl]
 | v::vs,off,cs,h=>by
  simp only [List.length_cons] at h;rw [List.zipIdx_cons,List.foldl_cons,zjt vs (off+1) _ (by simp;omega)];apply Array.ext';simp only [spl,Array.toList_setIfInBounds,List.length_cons]
  rw [List.take_add_one,List.take_set_of_le (Nat.le_refl _),List.getElem?_set_self (by simp;omega),List.drop_set_of_lt (by omega)];simp [Nat.add_assoc,Nat.add_comm 1]
theorem zk8:∀(l:List Value) (k off:Nat),l.zipIdx (off+k)=(l.zipIdx k).map (fun p=>(p.1,off+p.2))
 | [],_,_=>rfl
 | v::l,k,off=>by
  rw [List.zipIdx_cons,List.zipIdx_cons,List.map_cons,Nat.add_assoc,zk8 l (k+1) off]
theorem zgZ (vs cs:Array Value) (off:Nat) (h:off+vs.size≤cs.size):(vs.zipIdx.foldl (fun cs (c,j)=>cs.setIfInBounds (off+j) c) cs)=spl cs off vs.toList:=by
 have e:=zk8 vs.toList 0 off;rw [Nat.add_zero] at e;rw [←zjt vs.toList off cs (by simpa using h),←Array.foldl_toList,Array.toList_zipIdx,e,List.foldl_map]
theorem zbU {t e:TypeId} {size bytes:Nat} (H:Elem P t e size bytes) {vs z:Array Value} (hz:∀w,(zeroValue e).run P w = .ok (.agg z) w) (hzs:z.size=size) (hv:vs.size=size) (hs:size≤1000) (w:World) :(Instr.buildSlice t 1 #[(0,.agg vs)]).run P w = .ok (.slice (some ⟨w.heap.size,0,none⟩) 1 1) (w.alloc (.cells vs e)):=by
 obtain ⟨ht,⟨i,z',hi,hz',hsize,hby,hzs'⟩,hpos⟩:=H;have hlen:¬(size>16777216):=by omega
 have h0:¬(size=0):=by omega
 have hf:=zgZ vs ((Array.range size).map (z[· % z.size]!)) 0 (by simp;omega);have hspl:spl ((Array.range size).map (z[· % z.size]!)) 0 vs.toList=vs:=zdF (by simp;omega);rw [hspl] at hf;simp only [Nat.zero_add,Array.size_zipIdx,hv] at hf;simp [Instr.buildSlice,run_underlying ht,sizeOf,typeInfo,hi,hsize,hlen,h0,hz w,Value.cells,Instr.fill,hv,newRow,newObj];rw [hf];rfl
theorem zbi {ops:Array Oper} {rest:List Oper} {o:Oper} {a:Act} {w:World} {Q:Exit→Act→World→Prop} (hgd:o.guard=none) {x:Operand} {t e:TypeId} {size bytes:Nat} (H:Elem P t e size bytes) (ho:o.op = .buildSlice t 1 #[(0,x)]) {vs z:Array Value} (hz:∀w,(zeroValue e).run P w = .ok (.agg z) w) (hzs:z.size=size) (hv:vs.size=size) (hs:size≤1000) (hx:a.eval x = .agg vs) (h:wpList P ops Q rest (a.put o.dst (.slice (some ⟨w.heap.size,0,none⟩) 1 1)) (w.alloc (.cells vs e))):wpList P ops Q (o::rest) a w :=
 wpList_plain hgd fun _ hK=>by
  unfold Oper.wp execOp;simp only [ho,List.map_toArray,List.map_cons,List.map_nil,hx,Sem.run_bind,zbU H hz hzs hv hs w,Result.andThen_ok,Sem.run_pure]
  exact hK _ _ h
theorem znx {ops:Array Oper} {rest:List Oper} {o:Oper} {a:Act} {w:World} {Q:Exit→Act→World→Prop} (hgd:o.guard=none) {ty:TypeId} {x y:Operand} (ho:o.op = .store ty x y) {q off:Nat} {t:TypeId} {cs vs:Array Value} (hx:a.eval x = .pointer (some ⟨q,off,none⟩)) (hy:a.eval y = .agg vs) (hb:Blk w q t cs) (hs:off+vs.size≤cs.size) (hi:(P.info? ty).map (·.size)=some vs.size) (h1:∀v∈vs.toList,v.oneCell'=true) (h:∀w',Blk w' q t (spl cs off vs.toList)→Keep (Only q) w w'→w'.heap.size=w.heap.size→wpList P ops Q rest (a.put o.dst undef) w'):wpList P ops Q (o::rest) a w:=by
 refine zl5 hgd ho hx hy (zdn (P:=P) hb off hi hs h1) (h _ (hb.row _) ?_ ?_)
 · exact Keep.setRow (Keep.refl (Only q) w) (.inl rfl) _
 · simp
theorem Own.keepOnly {w w':World} {base g:Nat} {e t:TypeId} {size:Nat} {A:Option Addr} {n c:Nat} {xs:List Value} {cs:Array Value} (h:Own w base e size A n c xs) (hk:Keep (Only g) w w') (hb:Blk w g t cs) (ht:t≠e):Own w' base e size A n c xs :=
 h.kept (b':=0) (E:=[]) (G:=[g]) (Kept.ofKeep hk (by unfold Only;simp)) (by simp) (by intro g' hg;simp at hg;subst hg;exact ⟨t,cs,hb,ht⟩)
end
end
section
open Go.RowKit
theorem zcj {α:Type} {f:α→List Value} {C:Nat} (hf:∀a,(f a).length=C) (l:List α):(l.flatMap f).length=l.length*C:=by
 induction l with
 | nil=>simp
 | cons x l ih=>rw [List.flatMap_cons,List.length_append,hf,ih,List.length_cons,Nat.succ_mul,Nat.add_comm]
theorem zaV {α:Type} {f:α→List Value} {C:Nat} (hf:∀a,(f a).length=C) (l:List α) (k j:Nat) (x:α) (hk:l[k]? = some x) (u:Value) (hj:(f x)[j]? = some u):(l.flatMap f)[k*C+j]? = some u:=by
 induction l generalizing k with
 | nil=>simp at hk
 | cons y l ih =>
  have hj':j<C:=by
   rcases Nat.lt_or_ge j C with q|q
   · exact q
   · rw [List.getElem?_eq_none (by rw [hf];exact q)] at hj;cases hj
  cases k with
  | zero =>
   simp only [List.getElem?_cons_zero,Option.some.injEq] at hk;subst hk;rw [List.flatMap_cons,Nat.zero_mul,Nat.zero_add,List.getElem?_append_left (by rw [hf];exact hj')]
   exact hj
  | succ k =>
   simp only [List.getElem?_cons_succ] at hk;have e:(k+1)*C=k*C+C:=Nat.succ_mul k C;rw [List.flatMap_cons,List.getElem?_append_right (by rw [hf];omega),hf,show (k+1)*C+j-C=k*C+j by omega];exact ih k hk
theorem ze.of_blk {w:World} {g:Nat} {cs:Array Value} {t:TypeId} {fz:Nat×Nat} {size n:Nat} {xs:List Value} (h:w.heap[g]? = some (.cells cs t fz)) (hx:cs.toList=xs) (hl:xs.length=n*size):ze w (g+1) size (some ⟨g,0,none⟩) n xs:=by
 refine ⟨hl,fun _=>⟨_,rfl,Nat.lt_succ_self _,fun j u hj=>?_⟩⟩;rw [zJ,cell_of_row w g (0+j) cs t fz h,Nat.zero_add,←hj,←hx];simp
theorem Own.turn {w:World} {base g:Nat} {e:TypeId} {size n c:Nat} {xs ys:List Value} (h:Own w base e size (some ⟨g,0,none⟩) n c xs) (j:Nat) (u:Value) (hy:xs.set j u=ys) :Own (w.setCell ⟨g,j,none⟩ u) base e size (some ⟨g,0,none⟩) n c ys∧Kept base [e] [] w (w.setCell ⟨g,j,none⟩ u):=by
 have h1:=World.ownsRow.stored h j u;exact ⟨hy▸h1.1,Kept.of_grown h h1.2 (by simp)⟩
theorem Own.adrn {w:World} {base:Nat} {e:TypeId} {A:Option Addr} {size n c:Nat} {xs:List Value} (h:Own w base e size A n c xs) (hn:0<n):∃g,A=some ⟨g,0,none⟩∧base≤g:=by
 rcases h.2 with ⟨_,h4⟩|⟨g,cap,cur,h3,h4,_⟩
 · omega
 · injection h3 with e1;exact ⟨g,e1,h4⟩
end
section
open Go.RowKit
def edL (e:EdD):List Value:=[.int .i64 (e.op:Int),.int .i64 (e.n:Int)]
def edLs (l:List EdD):List Value:=l.flatMap edL
theorem zek (e:EdD):(edL e).length=2:=rfl
theorem ziu:Elem Tryz.prog 324 328 2 16:=by
 refine ⟨Tryz.underlying324,?_,by decide⟩;obtain ⟨i,hi,h1,h2,h3⟩:=info_parts (show (Tryz.prog.info? 328).map (fun i=>(i.zero,i.size,i.bytes))=some (some (.agg #[.int .i64 0,.int .i64 0]),2,16) by kernel_rfl);exact ⟨i,_,hi,h1,h2,h3,rfl⟩
theorem zht (e:EdD):∀v∈edL e,v.oneCell'=true:=by
 intro v hv;simp only [edL,List.mem_cons,List.not_mem_nil,or_false] at hv;rcases hv with rfl|rfl <;> rfl
theorem ze3 (l:List EdD) (e:EdD):edLs (l++[e])=edLs l++edL e:=by simp [edLs]
theorem zsi (l:List EdD) (e:EdD) (n:Nat):(edLs (l++[e])).set (l.length*2+1) (.int .i64 ((n:Nat):Int))=edLs (l++[⟨e.op,n⟩]):=by
 have h:(edLs l).length=l.length*2:=zcj zek l;rw [ze3,ze3,List.set_append_right _ _ (by omega),h,show l.length*2+1-l.length*2=1 by omega];rfl
def zgB (l:List EdD) (op:Nat) (base:Nat) (w:World) (r:Ending) (w':World):Prop:=∃A c,r = .returned (.slice A (addP l op).length c)∧Own w' base 328 2 A (addP l op).length c (edLs (addP l op))∧Kept base [328] [] w w'
theorem zff (l:List EdD) (op:Nat) (A:Option Addr) (c base:Nat) (w:World) (ho:Own w base 328 2 A l.length c (edLs l)) (hb:base≤w.heap.size) (hl:l.length≤100000) (hn:∀e∈l,e.n≤100000) :Calls Tryz.prog 291 #[.slice A l.length c,.int .i64 (op:Int)] w (zgB l op base w):=by
 rcases List.eq_nil_or_concat l with rfl|⟨l',e,rfl⟩
 · have HP:=zz (show zgB [] op base w=fun r w'=>∃A c,r = .returned (.slice A 1 c)∧Own w' base 328 2 A 1 c [.int .i64 (op:Int),.int .i64 1]∧Kept base [328] [] w w' from rfl);rw [HP.out];go_enter Tryz.func291,Tryz.ntmps291
   go_wp2_with (first|(at_builtin;refine zH rfl ziu rfl rfl (ho.alloc _) rfl (ze.of_blk (n:=1) (xs:=[.int .i64 (op:Int),.int .i64 1]) (heap_alloc_new _ _) rfl rfl) (zht ⟨op,1⟩) (by unfold maxLen;simp) (by simp) (by simp;omega) ?_;intro A1 c1 w1 o1 k1))
   go_ret
   exact ⟨A1,c1,rfl,o1,((Kept.refl _ _ _ _).alloc _).trans k1⟩
 · rw [List.concat_eq_append] at ho hl hn ⊢;have HP:=zz (show zgB (l'++[e]) op base w=fun r w'=>∃A c,r = .returned (.slice A (addP (l'++[e]) op).length c)∧Own w' base 328 2 A (addP (l'++[e]) op).length c (edLs (addP (l'++[e]) op))∧Kept base [328] [] w w' from rfl);have hlen:(l'++[e]).length=l'.length+1:=by simp
   rw [hlen] at ho hl ⊢;have hen:=hn e (by simp);obtain ⟨g,rfl,hg⟩:=ho.adrn (by omega);have c0:=(World.ownsRow.cellAt ho (l'.length*2) (by omega)).trans (zaV zek (l'++[e]) l'.length 0 e (by simp) (.int .i64 (e.op:Int)) rfl);have c1:=(World.ownsRow.cellAt ho (l'.length*2+1) (by omega)).trans (zaV zek (l'++[e]) l'.length 1 e (by simp) (.int .i64 (e.n:Int)) rfl);have f1:=World.ownsRow.frozenAt ho (l'.length*2+1);rw [HP.out,zcY];clear hlen hn HP;by_cases he:e.op=op
   · rw [if_pos he];have hb0:((e.op:Int)==(op:Int))=true:=beq_iff_eq.2 (by omega);have ht:=Own.turn ho (l'.length*2+1) (.int .i64 ((e.n:Int)+1)) (zsi l' e (e.n+1));rw [he] at ht;have HT:=zz ht;clear ht ho;go_enter Tryz.func291,Tryz.ntmps291
     go_wp2
     go_ret
     exact ⟨some ⟨g,0,none⟩,c,by simp,by rw [he];simpa using HT.out.1,HT.out.2⟩
   · have hb0:((e.op:Int)==(op:Int))=false:=beq_eq_false_iff_ne.2 (by omega);rw [if_neg he];go_enter Tryz.func291,Tryz.ntmps291
     go_wp2_with (first|(at_builtin;refine zH rfl ziu rfl rfl (n:=l'.length+1) (ho.alloc _) rfl (ze.of_blk (n:=1) (xs:=edL ⟨op,1⟩) (heap_alloc_new _ _) rfl rfl) (zht ⟨op,1⟩) (by unfold maxLen;omega) (by omega) (by simp;omega) ?_;intro A1 c1 w1 o1 k1))
     go_ret
     have k2:=((Kept.refl base [328] [] w).alloc (.cells #[.int .i64 (op:Int),.int .i64 1] 328)).trans k1;rw [←ze3] at o1;exact ⟨A1,c1,by simp,by simpa [ze3,edLs] using o1,k2⟩
end
section
open Go.RowKit
section
variable {base:Nat} {e:TypeId} {size:Nat} {A:Option Addr} {n c:Nat} {xs:List Value} {w w':World}
end
section
variable {P:Program}
def FarA (A:Option Addr) (p:Nat):Prop:=∀a,A=some a→a.block≠p
theorem FarA.none_ (p:Nat):FarA none p:=fun _ h=>by cases h
theorem FarA.some_ {g o p:Nat} (h:g≠p):FarA (some ⟨g,o,none⟩) p:=fun a e=>by injection e with e;subst e;exact h
theorem zpv {w:World} {t e ty:TypeId} {size bytes:Nat} (H:Elem P t e size bytes) {base:Nat} {A:Option Addr} {n c:Nat} {xs:List Value} (hown:Own w base e size A n c xs) {B:Nat} {S:Option Addr} {m d:Nat} {news:List Value} (hr:ze w B size S m news) (h1:∀u∈news,u.oneCell'=true) (h63:n+m≤maxLen) (hbytes:(n+m)*bytes≤140737488355328) (hbase:base≤w.heap.size) :∃A' c' w',(Builtin.append_ #[t,t] ty #[.slice A n c,.slice S m d]).run P w = .ok (.slice A' (n+m) c') w'∧Own w' base e size A' (n+m) c' (xs++news)∧Kept base [e] [] w w'∧∀p,p<w.heap.size→FarA A p→w'.heap[p]? = w.heap[p]?∧FarA A' p:=by
 have H0:=H;obtain ⟨ht,⟨i,z,hi,hz,hsize,hby,hzs⟩,hpos⟩:=H
 rcases S with _|ad
 · have hm:m=0:=by
    rcases Nat.eq_zero_or_pos m with h0|h0
    · exact h0
    · obtain ⟨ad,h,_⟩:=hr.2 h0;cases h
   subst hm;have hn:news=[]:=List.eq_nil_of_length_eq_zero (by simpa using hr.1);subst hn;exact ⟨A,c,w,zgT w base t ty e i size ht hi _ n xs hown d,by simpa using hown,Kept.refl _ _ _ _,fun p _ h=>⟨rfl,h⟩⟩
 · have hcells:∀j u,news[j]? = some u→w.cell? (ad.add j)=some u:=by
    intro j u hu
    rcases Nat.eq_zero_or_pos m with h0|h0
    · subst h0;have hn:news=[]:=List.eq_nil_of_length_eq_zero (by simpa using hr.1);subst hn;simp at hu
    · obtain ⟨ad',h,_,hc⟩:=hr.2 h0;injection h with h;subst h;exact hc j u hu
   obtain ⟨v',w',hrun,h2,h3,_,h5⟩:=run_append_own_at (P:=P) w base t ty e i z size bytes ht hi hz hsize hby hzs hpos _ n xs hown ad m d news hr.1 hcells h1 h63 hbytes hbase;obtain ⟨A',c',rfl⟩:=zcC h2
   refine ⟨A',c',w',hrun,h2,Kept.of_grown hown h3 (by simp),fun p hp hn=>⟨h3.block p hp (fun e=>?_),fun a ha=>?_⟩⟩
   · cases A with
     | none=>simp [Value.ownBlock] at e
     | some a=>exact hn a rfl (by simpa [Value.ownBlock] using e.symm)
   · subst ha
     rcases h5 with q|q
     · cases A with
       | none=>simp [Value.ownBlock] at q
       | some b =>
        have:a.block=b.block:=by simpa [Value.ownBlock] using q
        rw [this];exact hn b rfl
     · have:a.block=w.heap.size:=by simpa [Value.ownBlock] using q
       omega
theorem znh {ops:Array Oper} {rest:List Oper} {o:Oper} {a:Act} {w:World} {Q:Exit→Act→World→Prop} (hgd:o.guard=none) {s x:Operand} {t e:TypeId} {size bytes:Nat} (H:Elem P t e size bytes) (ho:o.op = .call { callee := .builtin .append,args:=#[s,x],argTypes:=#[t,t] }) {base:Nat} {A:Option Addr} {n c:Nat} {xs:List Value} (hs:a.eval s = .slice A n c) (hown:Own w base e size A n c xs) {B:Nat} {S:Option Addr} {m d:Nat} {news:List Value} (hx:a.eval x = .slice S m d) (hr:ze w B size S m news) (h1:∀u∈news,u.oneCell'=true) (h63:n+m≤maxLen) (hbytes:(n+m)*bytes≤140737488355328) (hbase:base≤w.heap.size) (h:∀A' c' w',Own w' base e size A' (n+m) c' (xs++news)→Kept base [e] [] w w'→(∀p,p<w.heap.size→FarA A p→w'.heap[p]? = w.heap[p]?∧FarA A' p)→wpList P ops Q rest (a.put o.dst (.slice A' (n+m) c')) w'):wpList P ops Q (o::rest) a w:=by
 obtain ⟨A',c',w',hrun,h2,h3,h4⟩:=zpv (ty:=o.type) (d:=d) H hown hr h1 h63 hbytes hbase;exact wpList_plain hgd fun _ hK=>zcA ho hs hx hrun (hK _ _ (h A' c' w' h2 h3 h4))
theorem zqv {cs vs us:Array Value} (h:cs.size=vs.size+us.size):spl (spl cs 0 vs.toList) vs.size us.toList=vs++us:=by
 have h1:cs.toList.length=vs.toList.length+us.toList.length:=by simpa using h
 unfold spl;apply Array.toList_inj.1;simp only [List.take_zero,List.nil_append,Nat.zero_add,Array.toList_append]
 rw [show vs.size=vs.toList.length from by simp,List.take_left,List.drop_of_length_le (by rw [List.length_append,List.length_drop];omega),List.append_nil]
theorem zlU {t e:TypeId} {size bytes:Nat} (H:Elem P t e size bytes) {vs us z:Array Value} (hz:∀w,(zeroValue e).run P w = .ok (.agg z) w) (hzs:z.size=size) (hv:vs.size=size) (hu:us.size=size) (hs:size≤1000) (w:World) :(Instr.buildSlice t 2 #[(0,.agg vs),(1,.agg us)]).run P w = .ok (.slice (some ⟨w.heap.size,0,none⟩) 2 2) (w.alloc (.cells (vs++us) e)):=by
 obtain ⟨ht,⟨i,z',hi,hz',hsize,hby,hzs'⟩,hpos⟩:=H;have hlen:¬(2*size>16777216):=by omega
 have hf:=zgZ vs ((Array.range (2*size)).map (z[· % z.size]!)) 0 (by simp;omega);have hg:=zgZ us (spl ((Array.range (2*size)).map (z[· % z.size]!)) 0 vs.toList) vs.size (by simp [spl];omega);rw [zqv (by simp;omega)] at hg;simp only [Nat.zero_add,Array.size_zipIdx,hv,hu] at hf hg;simp [Instr.buildSlice,run_underlying ht,sizeOf,typeInfo,hi,hsize,hlen,hz w,Value.cells,Instr.fill,hv,hu,newRow,newObj];have k0:¬(2*size=0):=by omega
 have k1:¬(2*size<size):=by omega
 have k2:¬((spl (Array.map (fun x=>z[x%z.size]!) (Array.range (2*size))) 0 vs.toList).size<size+size):=by simp [spl];omega
 rw [hf,hg,if_neg k0,if_neg k1,if_neg k2];rfl
end
end
end Go.Proofs.YtmkmbbjgepcioaaGreatDoor
