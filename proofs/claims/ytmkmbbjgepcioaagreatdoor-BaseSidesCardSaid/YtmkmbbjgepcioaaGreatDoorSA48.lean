/- Law BaseSides: what its four calls come to (plain). No statement of the seat is proved here. -/
import Derived.Test.YtmkmbbjgepcioaaGreatDoorSAHq
import Derived.Test.YtmkmbbjgepcioaaGreatDoorSA44
import Derived.Test.YtmkmbbjgepcioaaGreatDoorSAGs
import Derived.Test.YtmkmbbjgepcioaaGreatDoorSA42
import Derived.Test.YtmkmbbjgepcioaaGreatDoorSA29
import Derived.Test.YtmkmbbjgepcioaaGreatDoorSA47
import Derived.Deep.RegionHeld3
import Derived.Lib.SlBytesConst
import Derived.Test.YtmkmbbjgepcioaaGreatDoorSA31
namespace Go.Proofs.YtmkmbbjgepcioaaGreatDoor
set_option maxHeartbeats 20000000
set_option maxRecDepth 100000
section
open Go.RowKit
structure TrO (w:World) (z:Nat) (A:Option Addr) (n c:Nat) (T:List (List FileD)) (ts:List SlA):Prop where
 len:ts.length=T.length
 num:T.length=n
 row:Own w z 37 1 A n c ((T.zip ts).map fun x=>slT x.1 x.2)
 each:∀(i:Nat) (t:List FileD) (r:SlA),T[i]? = some t→ts[i]? = some r→FI w w.heap.size r.1 t
 only:AllC w A isSl
theorem zh3 {α β:Type}:∀(n:Nat) (l:List α) (m:List β),(l.take n).zip (m.take n)=(l.zip m).take n
 | 0,_,_=>by simp
 | n+1,[],m=>by simp
 | n+1,x::l,[]=>by simp
 | n+1,x::l,y::m=>by simp [zh3 n l m]
def parL (ss:List StepD) (vs:List StV):List Value:=(ss.zip vs).map fun x=>zbv (x.1.pars,x.2.a)
theorem zoo {ss:List StepD} {vs:List StV} {n:Nat} {s:StepD} {v:StV} (h1:ss[n]? = some s) (h2:vs[n]? = some v):(parL ss vs).take (n+1)=(parL ss vs).take n++[zbv (s.pars,v.a)]:=by
 have:(parL ss vs)[n]? = some (zbv (s.pars,v.a)):=by
  unfold parL;rw [List.getElem?_map,(List.getElem?_zip_eq_some (z:=(s,v))).2 ⟨h1,h2⟩];rfl
 rw [List.take_add_one,this];rfl
theorem zmL:Elem Tryz.prog 29 37 1 24:=by
 refine ⟨Tryz.underlying29,?_,by decide⟩;obtain ⟨i,hi,h1,h2,h3⟩:=info_parts (show (Tryz.prog.info? 37).map (fun i=>(i.zero,i.size,i.bytes))=some (some (.slice none 0 0),1,24) by kernel_rfl);exact ⟨i,_,hi,h1,h2,h3,rfl⟩
theorem zsY (w:World):(zeroValue 57).run Tryz.prog w = .ok (.slice none 0 0) w:=by kernel_rfl
theorem zos {w:World} {z:Nat} {A:Option Addr} {N c:Nat} {ss:List StepD} {vs:List StV} (hl:vs.length=ss.length) (hN:N≤ss.length) (ho:Own w z 57 1 A N c ((parL ss vs).take N)) {AS:Option Addr} {B:Nat} (h:StI w B AS ss vs) (hB:B≤w.heap.size):RawI w w.heap.size A ((ss.take N).map (·.pars)) ((vs.take N).map (·.a)):=by
 have e1:((ss.take N).map (·.pars)).length=N:=by rw [List.length_map,List.length_take];omega
 refine ⟨by rw [e1,List.length_map,List.length_take];omega,?_,fun i l v h1 h2=>?_⟩
 · rw [e1];have:((((ss.take N).map (·.pars)).zip ((vs.take N).map (·.a))).map zbv)=(parL ss vs).take N:=by
    unfold parL;rw [←List.map_take,←zh3,List.zip_map,List.map_map];rfl
   rw [this];exact ho.reads
 · rw [List.getElem?_map] at h1 h2;obtain ⟨s,hs,rfl⟩:=Option.map_eq_some_iff.1 h1;obtain ⟨u,hu,rfl⟩:=Option.map_eq_some_iff.1 h2;rw [List.getElem?_take] at hs hu
   split at hs
   · rename_i hi
     rw [if_pos hi] at hu;have:=h.each i s u hs hu;exact ⟨this.pars.more hB,this.parsC.1,this.parsC.2,this.fitP⟩
   · cases hs
theorem zti (n:Int):(zcL n).length≤5:=by
 unfold zcL;generalize (n%6).toNat=k
 rcases Nat.lt_or_ge k 6 with h|h
 · rcases (by omega:k=0∨k=1∨k=2∨k=3∨k=4∨k=5) with rfl|rfl|rfl|rfl|rfl|rfl <;> decide
 · rw [List.getElem?_eq_none (by simp [zfa];omega)];simp
theorem zaM.of_all {w:World} {A:Option Addr} (h:AllC w A isSl) {a:Addr} (ha:A=some a):zaM w a.block:=fun i=>by
 have key:∀u,w.cell? ⟨a.block,i,none⟩=some u→isSl u:=fun u hc=>by
  unfold World.cell? at hc
  cases q:w.heap[a.block]? with
  | none=>simp [q] at hc
  | some ob =>
   cases ob with
   | cells cur e fz =>
    simp only [q] at hc
    exact h a ha cur e fz q u (by rw [Array.mem_toList_iff];exact Array.mem_of_getElem? hc)
   | _=>simp [q] at hc
 refine ⟨fun s e=>?_,fun n e=>?_⟩ <;> (obtain ⟨x,y,z,h⟩:=key _ e;cases h)
def ApTr (vs:Array Value):Sem Value:=Builtin.append_ #[29,29] 29 vs
theorem zrd (vs:Array Value):Builtin.append_ #[29,29] 29 vs=ApTr vs:=rfl
theorem TrO.zip_snoc {T:List (List FileD)} {ts:List SlA} {t:List FileD} {r:SlA} (h:ts.length=T.length):((T++[t]).zip (ts++[r])).map (fun x=>slT x.1 x.2)=(T.zip ts).map (fun x=>slT x.1 x.2)++[slT t r]:=by
 rw [List.zip_append h.symm,List.map_append];rfl
theorem znu {w:World} {s n N cP cT:Nat} {AP AT:Option Addr} {T:List (List FileD)} {ts:List SlA} {A8:Option Addr} {c8:Nat} {t:List FileD} (hs:Blk w s 67 #[.slice AP N cP,.int .i64 0,.slice AT n cT]) (ho:TrO w (s+1) AT n cT T ts) (hf:FI w w.heap.size A8 t) (hn:n<16) :∃A9 c9 w9,(ApTr #[.slice AT n cT,.slice (some ⟨w.heap.size,0,none⟩) 1 1]).run Tryz.prog (w.alloc (.cells #[.slice A8 t.length c8] 37)) = .ok (.slice A9 (n+1) c9) w9∧w9.cell? ⟨s,2,none⟩=some (.slice AT n cT)∧w9.frozen? ⟨s,2,none⟩=false ∧Blk (w9.setCell ⟨s,2,none⟩ (.slice A9 (n+1) c9)) s 67 #[.slice AP N cP,.int .i64 0,.slice A9 (n+1) c9]∧TrO (w9.setCell ⟨s,2,none⟩ (.slice A9 (n+1) c9)) (s+1) A9 (n+1) c9 (T++[t]) (ts++[(A8,c8)])∧Below s w (w9.setCell ⟨s,2,none⟩ (.slice A9 (n+1) c9))∧s+1≤(w9.setCell ⟨s,2,none⟩ (.slice A9 (n+1) c9)).heap.size:=by
 have hsl:=hs.lt;have hs1:=hs.alloc (.cells #[.slice A8 t.length c8] 37);have hb1:Below w.heap.size w (w.alloc (.cells #[.slice A8 t.length c8] 37)):=(Below.refl _ w).alloc (Nat.le_refl _) _;have ho1:=ho.row.alloc (.cells #[.slice A8 t.length c8] 37);have hnew:=heap_alloc_new w (.cells #[.slice A8 t.length c8] 37);have hz1:(w.alloc (.cells #[.slice A8 t.length c8] 37)).heap.size=w.heap.size+1:=by simp
 have hA1:AllC (w.alloc (.cells #[.slice A8 t.length c8] 37)) AT isSl:=ho.only.same fun a ha=>hb1.block _ (by
  subst ha;have:=(ho.row.blockAt a.block (by simp [Value.ownBlock])).2.1;omega)
 generalize w.alloc (.cells #[.slice A8 t.length c8] 37)=w1 at *;have hall:∀v∈(T.zip ts).map (fun x=>slT x.1 x.2),isSl v:=fun v hv=>by
  obtain ⟨x,_,rfl⟩:=List.mem_map.1 hv;exact ⟨_,_,_,rfl⟩
 obtain ⟨A9,c9,w9,hrun,ho9,hk9,hfr,hA9⟩:=ztf (ty:=29) (d:=1) zmL ho1 (m:=1) (by omega) (ze.of_cellsF (n:=1) (size:=1) (xs:=[.slice A8 t.length c8]) hnew rfl rfl) (by intro u hu;simp at hu;subst hu;rfl) (by unfold maxLen;omega) (by omega) (by omega) hA1 hall (by intro v hv;simp at hv;subst hv;exact ⟨_,_,_,rfl⟩) (fun z hz=>by
  have:(Tryz.prog.info? 37).bind (·.zero)=some (.slice none 0 0):=by kernel_rfl
  rw [this] at hz;injection hz with hz;subst hz;exact ⟨_,_,_,rfl⟩)
 have hs9:=hk9.blk hs1 (by simp) (by decide);have hks:Keep (fun k=>k=s∨∃a,AT=some a∧k=a.block) w (w9.setCell ⟨s,2,none⟩ (.slice A9 (n+1) c9)):=by
  refine Keep.setCell ((Below.keep_ hb1 _).trans ⟨hk9.os,hk9.tape,hk9.output,hk9.size,fun k hk hn=>(hfr k hk fun e=>hn (.inr ?_)).1⟩) (.inl (.inl rfl)) _
  cases AT with
  | none=>simp [Value.ownBlock] at e
  | some a=>exact ⟨a,rfl,by simpa [Value.ownBlock] using e.symm⟩
 have hno:∀k,(k=s∨∃a,AT=some a∧k=a.block)→zaM w k:=fun k hk=>by
  rcases hk with rfl|⟨a,ha,rfl⟩
  · refine zaM.of hs fun v hv=>?_;simp at hv;rcases hv with rfl|rfl|rfl <;> exact ⟨fun s e=>(by cases e),fun n e=>(by cases e)⟩
  · exact zaM.of_all ho.only ha
 have hsz9:w1.heap.size≤w9.heap.size:=hk9.size;have hba:Below s w w9:=(hb1.mono (by omega)).trans (hk9.below (by omega) (by omega) (by simp));have hbb:Below s w (w9.setCell ⟨s,2,none⟩ (.slice A9 (n+1) c9)):=hba.setCell (p:=⟨s,2,none⟩) (Nat.le_refl _) _;have hsz:(w9.setCell ⟨s,2,none⟩ (.slice A9 (n+1) c9)).heap.size=w9.heap.size:=by simp [World.setCell]
 refine ⟨A9,c9,w9,hrun,(hs9.cell 2).trans rfl,hs9.frozen 2,hs9.set_ 2 _,⟨by simp [ho.len],by simp [ho.num],?_,fun i t' r h1 h2=>?_,?_⟩,hbb,by omega⟩
 · rw [TrO.zip_snoc ho.len];exact ho9.setCell hs9 (by decide) _
 · refine FI.more (B:=w.heap.size) ?_ hks.size
   rcases Nat.lt_trichotomy i T.length with q|q|q
   · rw [List.getElem?_append_left q] at h1;rw [List.getElem?_append_left (by rw [ho.len];exact q)] at h2;exact (ho.each i t' r h1 h2).far (Nat.le_refl _) hks hno
   · subst q;rw [List.getElem?_append_right (Nat.le_refl _),Nat.sub_self] at h1;rw [List.getElem?_append_right (by rw [ho.len];exact Nat.le_refl _),ho.len,Nat.sub_self] at h2;injection h1 with h1;injection h2 with h2;subst h1 h2;exact hf.far (Nat.le_refl _) hks hno
   · rw [List.getElem?_eq_none (by rw [List.length_append];simp;omega)] at h1;cases h1
 · refine hA9.same fun a ha=>?_;subst ha;have hne:a.block≠s:=by
    have:=(ho9.blockAt a.block (by simp [Value.ownBlock])).1;omega
   exact Below.heap_setCell _ _ _ _ hne
theorem zpI (p:Pth) (w:World):(BdFl #[(0,strC p),(1,.int .i64 1)]).run Tryz.prog w = .ok (.agg (za ⟨p,1,[]⟩ none 0)) w:=by kernel_rfl
theorem zmo {ds:List (List UInt8)} {k:Nat} {d:List UInt8} (h:ds[k]? = some d) (h0:0<d.length) (h3:d.length<300):zdR ((ds[k]?).getD [])=d:=by
 rw [h];unfold zdR;rw [Option.getD_some,if_pos ⟨h0,h3⟩]
theorem zpE {ds:List (List UInt8)} {k:Nat} (h:¬∃d,ds[k]? = some d∧0<d.length∧d.length<300):zdR ((ds[k]?).getD [])=[]:=by
 unfold zdR
 split
 · rename_i q
   cases e:ds[k]? with
   | none=>rfl
   | some d =>
    rw [e] at q;exact (h ⟨d,e,q⟩).elim
 · rfl
theorem TrO.below {w w':World} {z n c:Nat} {A:Option Addr} {T:List (List FileD)} {ts:List SlA} (h:TrO w z A n c T ts) (hb:Below w.heap.size w w'):TrO w' z A n c T ts :=
 ⟨h.len,h.num,h.row.kept (Kept.ofBelow (base:=0) (E:=[]) (G:=[]) hb) (by simp) (by simp),fun i t r h1 h2=>((h.each i t r h1 h2).below hb).more hb.size,h.only.same fun a ha=>hb.block _ (by
  subst ha;exact (h.row.blockAt a.block (by simp [Value.ownBlock])).2.1)⟩
theorem TrO.tri {w:World} {z n c:Nat} {A:Option Addr} {T:List (List FileD)} {ts:List SlA} (h:TrO w z A n c T ts):TrI w w.heap.size A T ts :=
 ⟨h.len,by rw [h.num];exact h.row.reads,h.each⟩
theorem zq3 {T:List (List FileD)} {p:List Nat} {q:Nat} {t:List FileD} (h:p[0]? = some q) (ht:T[q]? = some t):zep T p=t:=by
 cases p with
 | nil=>cases h
 | cons x p =>
  injection h with h;subst h;show (T[x]?).getD []=t;rw [ht];rfl
attribute [local go_sem ↓] ld_f zrd zh1 zpI
theorem zjl (ss:List StepD) (vs:List StV) (A:Option Addr) (c M B N:Nat) (hM:ss.length=M) (hN:N=min M 16) (w:World) (hB:B≤w.heap.size) (hs:StI w B A ss vs) :Calls Tryz.prog 8 #[.slice A M c] w fun e w'=>∃(s h g:Nat) (AP AT:Option Addr) (cP cT:Nat) (rs ts:List SlA),e = .returned (.tuple #[.pointer (some ⟨s,0,none⟩),.pointer (some ⟨h,0,none⟩)]) ∧Blk w' s 67 #[.slice AP N cP,.int .i64 0,.slice AT N cT]∧RwI w' s AP (zaQ ((ss.take 16).map (·.pars))) rs∧TrI w' w'.heap.size AT (za5 (zaQ ((ss.take 16).map (·.pars))) ss N) ts ∧Blk w' h 31 #[.pointer (some ⟨g,0,none⟩),.slice AT N cT,.int .i64 0]∧w.heap.size≤s∧Below w.heap.size w w'∧∃GA Gc Gv,GrI w' w'.heap.size g (zaQ ((ss.take 16).map (·.pars))) N GA Gc Gv:=by
 obtain ⟨z,hz⟩:∃z,w.heap.size=z:=⟨_,rfl⟩;have HM:=zz hM;have HS:=zz hs;have HB0:=zz (Below.refl z w);have hz0:z≤w.heap.size:=by omega
 have hNM:N≤M:=by omega
 have hN16:N≤16:=by omega
 have hfull:N<16→N=M:=by omega
 have ht16:ss.take 16=ss.take N:=by
  rcases Nat.lt_or_ge N 16 with q|q
  · rw [List.take_of_length_le (by rw [hM];omega),List.take_of_length_le (by rw [hM];omega)]
  · rw [show N=16 by omega]
 rw [hz,ht16];rw [hz] at hB;obtain ⟨R,hR⟩:∃R,zaQ ((ss.take N).map (·.pars))=R:=⟨_,rfl⟩;rw [hR];have HRR:=zz hR;clear hs hM ht16 hR hN;go_enter Tryz.func8,Tryz.ntmps8
 go_wp2_with fail
 go_loopg [4,5] N (fun kx s4 s5 wr=>∃(n:Nat) (A1:Option Addr) (c1:Nat),s5 = .int .i64 n∧s4 = .slice A1 n c1∧n≤N∧N-n≤kx∧Hid (Own wr z 57 1 A1 n c1 ((parL ss vs).take n))∧Hid (Below z w wr)∧z≤wr.heap.size)
 case atStart=>exact ⟨0,none,0,rfl,rfl,Nat.zero_le _,Nat.le_refl _,zz (Own.nil _ _ _ _),HB0,hz0⟩
 case round =>
  clear HB0 hz0;obtain ⟨n,A1,c1,rfl,rfl,hnN,hkx,HO,HB,hzr⟩:=hrel;go_upto_region 3 with fail
  go_cut [18] (fun s18 wx=>s18 = .bool (decide (n<N))∧wr=wx)
  case first =>
   by_cases c2:n<M
   · have e2:(n:Int)<(M:Int):=by omega
     by_cases c3:n<16
     · have e3:(n:Int)<16:=by omega
       have e4:n<N:=by
        rcases Nat.lt_or_ge N 16 with q|q
        · rw [hfull q];exact c2
        · omega
       go_wp2_with fail
       go_meet
       exact ⟨by rw [decide_eq_true e4],rfl⟩
     · have e3:¬(n:Int)<16:=by omega
       go_wp2_with fail
       go_meet
       exact ⟨by rw [decide_eq_false (by omega)],rfl⟩
   · have e2:¬(n:Int)<(M:Int):=by omega
     go_wp2_with fail
     go_meet
     exact ⟨by rw [decide_eq_false (by omega)],rfl⟩
  case rest =>
  obtain ⟨rfl,rfl⟩:=hcut;by_cases hlt:n<N
  · rw [decide_eq_true hlt];obtain ⟨s,hs⟩:∃s,ss[n]? = some s:=⟨_,List.getElem?_eq_getElem (by rw [HM.out];omega)⟩;obtain ⟨v,hv⟩:∃v,vs[n]? = some v:=⟨_,List.getElem?_eq_getElem (by rw [HS.out.len,HM.out];omega)⟩;have hltz:(n:Int)<(M:Int):=by omega
    have hrow:=HS.out.row;rw [HM.out] at hrow;obtain ⟨gP,oP,rfl,hgP,hcP⟩:=hrow.at0 (by omega) (by omega);have hcn:=hcP (n*3+0) (.slice v.a.1 s.pars.length v.a.2) (zaV (f:=zcV) (C:=3) (fun _=>rfl) (ss.zip vs) n 0 (s,v) ((List.getElem?_zip_eq_some (z:=(s,v))).2 ⟨hs,hv⟩) _ rfl);have b1:=(HB.out.cell (p:=⟨gP,oP+(n*3+0),none⟩) (by show gP<z;omega)).trans hcn;have HO3:=zz (HO.out.alloc (.cells #[zbv (s.pars,v.a)] 57));have HRN:=zz (ze.of_cellsF (n:=1) (size:=1) (xs:=[zbv (s.pars,v.a)]) (heap_alloc_new wr (.cells #[zbv (s.pars,v.a)] 57)) rfl rfl);have hz3:z≤(wr.alloc (.cells #[zbv (s.pars,v.a)] 57)).heap.size:=by simp;omega
    have HT:=zz (zoo hs hv);have HB3:=zz (HB.out.alloc hzr (.cells #[zbv (s.pars,v.a)] 57));unfold zbv at HO3 HRN hz3 HT HB3;simp only [Nat.add_zero] at b1;have hm1:n+1≤maxLen:=by unfold maxLen;omega
    have hm2:(n+1)*24≤140737488355328:=by omega
    clear hcP hrow hcn hs hv
    go_wp2_with (first
     | (refine zbi rfl zgL rfl zsY rfl rfl (by omega) rfl ?_)
     | (refine zH rfl zgL rfl rfl HO3.out rfl HRN.out (by intro u hu;simp at hu;subst hu;rfl) hm1 hm2 hz3 ?_;intro A6 c6 w6 ho6 hk6;have HO6:=zz ho6;have HK6:=zz hk6;clear ho6 hk6))
    have hO7:Hid (Own w6 z 57 1 A6 (n+1) c6 ((parL ss vs).take (n+1))):=zz (by rw [HT.out];exact HO6.out);have HB6:=zz (HB3.out.trans (HK6.out.below (Nat.le_refl _) hz3 (by simp)));have hz6:z≤w6.heap.size:=Nat.le_trans hz3 HK6.out.size;clear HO6 HK6 HO3 HB3 HRN HT HO HB
    go_roundg (N-(n+1))
    case measure=>omega
    case rel=>exact ⟨n+1,A6,c6,by go_num,rfl,by omega,Nat.le_refl _,hO7,HB6,hz6⟩
  · rw [decide_eq_false hlt];obtain rfl:N=n:=by omega
    have hraw:=zos (by rw [HS.out.len]) (by rw [HM.out];exact hNM) HO.out (HS.out.below (HB.out.mono hB)) (by omega);have hrows:=zn9 ((ss.take N).map (·.pars)) ((vs.take N).map (·.a)) A1 c1 N wr.heap.size (by rw [List.length_map,List.length_take,HM.out];omega) hN16 wr (Nat.le_refl _) hraw;rw [HRR.out] at hrows;have HRO:=zz hrows;clear hraw hrows HO;go_upto_region 7 with (go_at_call 20;(with_reducible refine HRO.out.mono ?_);rintro _ w6 ⟨AP,cP,rs,rfl,hr6,hb6⟩;have HR6:=zz hr6;have HB6:=zz hb6;clear hr6 hb6)
    obtain ⟨s,hsz⟩:∃s,w6.heap.size=s:=⟨_,rfl⟩;have h16:=HB6.out.size;have hb7:Below s w6 (w6.alloc (.cells #[.slice AP N cP,.int .i64 0,.slice none 0 0] 67)):=(Below.refl s w6).alloc (by omega) _;have hk7:Below z w (w6.alloc (.cells #[.slice AP N cP,.int .i64 0,.slice none 0 0] 67)):=((HB.out.trans (HB6.out.mono (by omega)))).trans (hb7.mono (by omega));have hg7:=Blk.new w6 67 #[.slice AP N cP,.int .i64 0,.slice none 0 0];have hr7:=HR6.out;rw [hsz] at hg7 hr7;have HR7:=zz (hr7.below hb7);have HG7:=zz hg7;have HK7:=zz hk7;have hs7:s+1≤(w6.alloc (.cells #[.slice AP N cP,.int .i64 0,.slice none 0 0] 67)).heap.size:=by simp;omega
    have hzs:z≤s:=by omega
    clear hr7 hg7 hk7 hb7 HB HB6 HR6 h16 HRO;go_upto_region 8 with (refine zC rfl rfl (cs:=#[.slice AP N cP,.int .i64 0,.slice none 0 0]) rfl ?_)
    clear hsz;generalize w6.alloc (.cells #[.slice AP N cP,.int .i64 0,.slice none 0 0] 67)=w7 at *;have hRN:R.length=N:=by
     rw [←HRR.out,zla,List.length_map,List.length_take,HM.out];omega
    have HRN:=zz hRN;have HWF:=zz (show WfR R from by rw [←HRR.out];exact zgc _);have HR4:=zz (show ∀x,(par R x).length≤4 from fun x=>by rw [←HRR.out];exact zhO _ x);have HRL:=zz (show ∀n,∀p∈par R n,p<200 from fun m p hp=>by
     have h1:=HWF.out m p hp;have h2:m<N:=by
      rcases Nat.lt_or_ge m N with q|q
      · exact q
      · unfold par at hp;rw [List.getElem?_eq_none (by rw [HRN.out];exact q)] at hp;cases hp
     omega)
    have HW7:=zz (Below.refl s w7);have HT7:=zz (show TrO w7 (s+1) none 0 0 (za5 R ss 0) [] from ⟨rfl,rfl,Own.nil _ _ _ _,fun i t r h _=>(by cases h),AllC.nil_ _ _⟩);clear hRN;go_upto_region 9 with fail
    go_loopg [7] N (fun kx s7 wr=>∃(n:Nat) (AT:Option Addr) (cT:Nat) (ts:List SlA),s7 = .int .i64 n∧n≤N∧N-n≤kx∧Hid (Blk wr s 67 #[.slice AP N cP,.int .i64 0,.slice AT n cT])∧Hid (TrO wr (s+1) AT n cT (za5 R ss n) ts)∧Hid (Below s w7 wr)∧s+1≤wr.heap.size)
    case atStart=>exact ⟨0,none,0,[],rfl,Nat.zero_le _,Nat.le_refl _,HG7,HT7,HW7,hs7⟩
    case round =>
     clear HG7 HT7 HW7 hs7;obtain ⟨n,AT,cT,ts,rfl,hnN,hkx,HG,HO,HB,hzr⟩:=hrel;by_cases hlt:n<N
     · obtain ⟨p,hp⟩:∃p,R[n]? = some p:=⟨_,List.getElem?_eq_getElem (by rw [HRN.out];exact hlt)⟩;obtain ⟨r,hr⟩:∃r,rs[n]? = some r:=⟨_,List.getElem?_eq_getElem (by rw [HR7.out.len,HRN.out];exact hlt)⟩;obtain ⟨st,hst⟩:∃st,ss[n]? = some st:=⟨_,List.getElem?_eq_getElem (by rw [HM.out];omega)⟩;obtain ⟨v,hv⟩:∃v,vs[n]? = some v:=⟨_,List.getElem?_eq_getElem (by rw [HS.out.len,HM.out];omega)⟩;have hpp:par R n=p:=by unfold par;rw [hp];rfl
       have hwf:=HWF.out n;rw [hpp] at hwf;have hltz:(n:Int)<(N:Int):=by omega
       have hltm:(n:Int)<(M:Int):=by omega
       have hrow:=HR7.out.row;rw [HRN.out] at hrow;obtain ⟨gP,oP,rfl,hgP,hcP⟩:=hrow.at0 (by omega) (by omega);have hcn:=hcP n (slR p r) (by rw [List.getElem?_map,(List.getElem?_zip_eq_some (z:=(p,r))).2 ⟨hp,hr⟩];rfl);unfold slR at hcn;obtain ⟨rA,rc⟩:=r;simp only at hcn;have HEC:=zz (HR7.out.each n p (rA,rc) hp hr);obtain ⟨L,hL⟩:∃L,p.length=L:=⟨_,rfl⟩;rw [hL] at hcn;obtain ⟨t0,ht0⟩:∃t0,zep (za5 R ss n) p=t0:=⟨_,rfl⟩;have HFT:=zz (show zag t0 from by rw [←ht0];exact zag.base (zeg _ _ _) _);have HTS:=zz (show za5 R ss (n+1)=za5 R ss n++[zbk st t0 (min st.paths.length 4)] from by rw [zfQ,hst,hpp,ht0];rfl);have HSI:=zz (HS.out.each n st v hst hv);have hsrow:=HS.out.row;rw [HM.out] at hsrow;obtain ⟨gS,oS,rfl,hgS,hcS⟩:=hsrow.at0 (by omega) (by omega);have HC1:=zz (show w.cell? ⟨gS,oS+n*3+1,none⟩=some (.slice v.b.1 st.paths.length v.b.2) from hcS (n*3+1) _ (zaV (f:=zcV) (C:=3) (fun _=>rfl) (ss.zip vs) n 1 (st,v) ((List.getElem?_zip_eq_some (z:=(st,v))).2 ⟨hst,hv⟩) _ rfl));have HC2:=zz (show w.cell? ⟨gS,oS+n*3+2,none⟩=some (.slice v.c.1 st.data.length v.c.2) from hcS (n*3+2) _ (zaV (f:=zcV) (C:=3) (fun _=>rfl) (ss.zip vs) n 2 (st,v) ((List.getElem?_zip_eq_some (z:=(st,v))).2 ⟨hst,hv⟩) _ rfl));have b1:=(HB.out.cell (p:=⟨gP,oP+n,none⟩) hgP).trans hcn;have HL:=zz (And.intro hL ht0);have HWP:=zz hwf;clear hcS hsrow hcP hrow hcn hp hr hst hv hpp hL hwf ht0;go_upto_if 46 with fail
       go_cut [8] (fun s8 wx=>∃(A8:Option Addr) (c8:Nat),s8 = .slice A8 t0.length c8∧Hid (FI wx wx.heap.size A8 t0)∧Hid (Blk wx s 67 #[.slice (some ⟨gP,oP,none⟩) N cP,.int .i64 0,.slice AT n cT])∧Hid (TrO wx (s+1) AT n cT (za5 R ss n) ts)∧Hid (Below s w7 wx)∧s+1≤wx.heap.size)
       case first =>
        by_cases h0:0<L
        · have h0z:(0:Int)<(L:Int):=by omega
          obtain ⟨q,hq⟩:∃q,p[0]? = some q:=⟨_,List.getElem?_eq_getElem (by rw [HL.out.1];exact h0)⟩;have hqn:q<n:=HWP.out q (List.mem_of_getElem? hq);obtain ⟨t1,ht1⟩:∃t1,(za5 R ss n)[q]? = some t1:=⟨_,List.getElem?_eq_getElem (by rw [zfu];exact hqn)⟩;obtain ⟨r1,hr1⟩:∃r1,ts[q]? = some r1:=⟨_,List.getElem?_eq_getElem (by rw [HO.out.len,zfu];exact hqn)⟩;have HE1:=zz (HO.out.each q t1 r1 ht1 hr1);have HT0:=zz (show t0=t1 from by rw [←HL.out.2];exact zq3 hq ht1);obtain ⟨gT,oT,rfl,hgT,hcT⟩:=HO.out.row.reads.at0 (by omega) (by omega);have d3:wr.drew.cell? ⟨gT,oT+q,none⟩=_:=hcT q (slT t1 r1) (by rw [List.getElem?_map,(List.getElem?_zip_eq_some (z:=(t1,r1))).2 ⟨ht1,hr1⟩];rfl);have hec:=HEC.out;rw [HL.out.1] at hec;obtain ⟨gr,or,rfl,hgr,hcr⟩:=hec.at0 h0 (by omega);have d2:wr.drew.cell? ⟨gr,or,none⟩=_:=(HB.out.cell (p:=⟨gr,or,none⟩) hgr).trans (hcr 0 (nvI q) (by rw [List.getElem?_map,hq];rfl));unfold slT at d3;unfold nvI at d2;have d1:wr.drew.cell? ⟨gP,oP+n,none⟩=_:=b1;have d0:wr.drew.cell? ⟨s,2,none⟩=some (.slice (some ⟨gT,oT,none⟩) n cT):=(HG.out.cell 2).trans rfl;have hqz:(q:Int)<(n:Int):=by omega
          clear hcT hec hcr hq ht1 hr1;go_upto_region 13 with fail
          go_region_law (fail)
          all_goals
           go_wp2_with fail
           go_meet
           exact ⟨r1.1,r1.2,by rw [HT0.out],zz (by rw [HT0.out];exact HE1.out),zz HG.out.drew,zz (HO.out.below (Below.refl _ wr).drew),zz HB.out.drew,hzr⟩
        · obtain rfl:L=0:=by omega
          have HT0:=zz (show t0=[] from by rw [←HL.out.2,List.length_eq_zero_iff.1 HL.out.1];rfl)
          go_wp2_with fail
          go_meet
          exact ⟨none,0,by rw [HT0.out];rfl,zz (by rw [HT0.out];exact FI.nil_ _ _ _),HG,HO,HB,hzr⟩
       case rest =>
       obtain ⟨A8,c8,rfl,HF8,HG8,HO8,HB8,hz8⟩:=hcut;generalize wc=w8 at *;clear HG HO HB b1 hzr HEC;obtain ⟨zn,hzn⟩:∃zn,w8.heap.size=zn:=⟨_,rfl⟩;have HWN:=zz (Below.refl zn w8);have hzn0:zn≤w8.heap.size:=by omega
       have hszn:s+1≤zn:=by omega
       rw [hzn] at HF8;have HZN:=zz hzn;obtain ⟨K,hK⟩:∃K,min st.paths.length 4=K:=⟨_,rfl⟩;rw [hK] at HTS;obtain ⟨Lq,hLq⟩:∃Lq,st.paths.length=Lq:=⟨_,rfl⟩;obtain ⟨Ld,hLd⟩:∃Ld,st.data.length=Ld:=⟨_,rfl⟩;rw [hLq] at hK HC1;rw [hLd] at HC2;have HLL:=zz (And.intro hLq hLd);have hK1:K≤Lq:=by omega
       have hK2:K≤4:=by omega
       have hK3:∀k,k<Lq→k<4→k<K:=by omega
       have HK3:=zz hK3;have HF0:=zz (show FI w8 w8.heap.size A8 (zbk st t0 0) from by rw [HZN.out];exact HF8.out);clear hzn hK hLq hLd hK3;go_upto_region 15 with fail
       go_loopg [8,9] K (fun kk s8 s9 wq=>∃(k:Nat) (A9:Option Addr) (c9:Nat),s9 = .int .i64 k∧s8 = .slice A9 (zbk st t0 k).length c9∧k≤K∧K-k≤kk∧Hid (FI wq wq.heap.size A9 (zbk st t0 k))∧Hid (Below zn w8 wq)∧zn≤wq.heap.size)
       case atStart=>exact ⟨0,A8,c8,rfl,rfl,Nat.zero_le _,Nat.le_refl _,HF0,HWN,hzn0⟩
       case round =>
        clear HF0 HWN hzn0;obtain ⟨k,A9,c9,rfl,rfl,hkK,hkk,HF,HBQ,hzq⟩:=hrel;have HWW:=zz (HK7.out.trans ((HB8.out.mono hzs).trans (HBQ.out.mono (by omega))));have b1:=(HWW.out.cell (p:=⟨gS,oS+n*3+1,none⟩) (by show gS<z;omega)).trans HC1.out;have hkz:(0:Int)≤(k:Int):=by omega
        go_upto_region 15 with fail
        go_cut [70] (fun s70 wx=>s70 = .bool (decide (k<K))∧wr=wx)
        case first =>
         by_cases c2:k<Lq
         · have e2:(k:Int)<(Lq:Int):=by omega
           by_cases c3:k<4
           · have e3:(k:Int)<4:=by omega
             have e4:k<K:=HK3.out k c2 c3
             go_wp2_with fail
             go_meet
             exact ⟨by rw [decide_eq_true e4],rfl⟩
           · have e3:¬(k:Int)<4:=by omega
             go_wp2_with fail
             go_meet
             exact ⟨by rw [decide_eq_false (by omega)],rfl⟩
         · have e2:¬(k:Int)<(Lq:Int):=by omega
           go_wp2_with fail
           go_meet
           exact ⟨by rw [decide_eq_false (by omega)],rfl⟩
        case rest =>
        obtain ⟨rfl,rfl⟩:=hcut;by_cases hkl:k<K
        · rw [decide_eq_true hkl];have e1:(k:Int)<(Lq:Int):=by omega
          obtain ⟨x,hx⟩:∃x,st.paths[k]? = some x:=⟨_,List.getElem?_eq_getElem (by rw [HLL.out.1];omega)⟩;have hrp:=HSI.out.paths;rw [HLL.out.1] at hrp;obtain ⟨gb,ob,hbe,hgb,hcb⟩:=hrp.at0 (by omega) (by omega);have b3:=(HWW.out.cell (p:=⟨gb,ob+k,none⟩) (by show gb<z;omega)).trans (hcb k (.int .i64 x) (by unfold i64L;rw [List.getElem?_map,hx];rfl));rw [hbe] at b1;have HPA:=zz (znq x wr);have HSF:=zz (show za6 st k=⟨zcL x,1,zdR ((st.data[k]?).getD [])⟩ from by unfold za6;rw [hx];rfl);have hps:=zti x;obtain ⟨px,hpx⟩:∃px,zcL x=px:=⟨_,rfl⟩;rw [hpx] at HPA HSF hps;clear hrp hcb hx hbe hpx;go_upto_region 18 with (first|(go_at_call 21;(with_reducible refine HPA.out.mono ?_);rintro _ w5 ⟨rfl,hb5⟩;have HB5:=zz hb5;clear hb5)|(refine zcr rfl rfl (zaU _) ?_)|(refine zO rfl rfl (vs:=za ⟨px,1,[]⟩ none 0) rfl rfl (Blk.new _ _ _) rfl (by kernel_rfl) (by intro u hu;simp [za] at hu;rcases hu with rfl|rfl|rfl <;> rfl) ?_;intro w6 hb6 hk6 hs6))
          simp only [Act.put,List.setIfInBounds_toArray,List.set]
          have h15:=HB5.out.size;have hb6':Below wr.heap.size wr w6:=HB5.out.trans ((((Below.refl w5.heap.size w5).alloc (Nat.le_refl _) _).trans (hk6.below (by simp) (fun i hi q=>by unfold Only at q;omega))).mono h15);obtain ⟨f,hf5⟩:∃f,w5.heap.size=f:=⟨_,rfl⟩;rw [hf5] at hb6 h15 ⊢;have HX6:=zz hb6;have HB6:=zz hb6';have HW6:=zz (HWW.out.trans (hb6'.mono (by omega)));clear hb6 hk6 hs6 hb6' HB5 HPA b1 b3 hf5;have c2:=(HW6.out.cell (p:=⟨gS,oS+n*3+2,none⟩) (by show gS<z;omega)).trans HC2.out;obtain ⟨bb,hbb⟩:∃bb:Bool,bb=true↔∃d,st.data[k]? = some d∧0<d.length∧d.length<300:=by
           by_cases q:∃d,st.data[k]? = some d∧0<d.length∧d.length<300
           · exact ⟨true,by simp [q]⟩
           · exact ⟨false,by simp [q]⟩
          have HBB:=zz hbb;clear hbb;go_cut [114] (fun s114 wx=>s114 = .bool bb∧w6=wx)
          case first =>
           by_cases c3:k<Ld
           · have e3:(k:Int)<(Ld:Int):=by omega
             obtain ⟨d,hd⟩:∃d,st.data[k]? = some d:=⟨_,List.getElem?_eq_getElem (by rw [HLL.out.2];exact c3)⟩;obtain ⟨dr,hdr⟩:∃dr,v.ds[k]? = some dr:=⟨_,List.getElem?_eq_getElem (by rw [HSI.out.dsl,HLL.out.2];exact c3)⟩;have hrd:=HSI.out.data;rw [HLL.out.2] at hrd;obtain ⟨gd,od,hde,hgd,hcd⟩:=hrd.at0 (by omega) (by omega);have c4:=(HW6.out.cell (p:=⟨gd,od+k,none⟩) (by show gd<z;omega)).trans (hcd k (slB d dr) (by rw [List.getElem?_map,(List.getElem?_zip_eq_some (z:=(d,dr))).2 ⟨hd,hdr⟩];rfl));unfold slB at c4;rw [hde] at c2;obtain ⟨dl,hdl⟩:∃dl,d.length=dl:=⟨_,rfl⟩;rw [hdl] at c4;have HD:=zz (show bb=true↔(0<dl∧dl<300) from by
              rw [HBB.out,←hdl];exact ⟨fun ⟨d',h1,h2⟩=>by rw [hd] at h1;injection h1 with h1;subst h1;exact h2,fun h=>⟨d,hd,h⟩⟩)
             clear hrd hcd hd hdr hde hdl;by_cases c5:0<dl
             · have e5:(0:Int)<(dl:Int):=by omega
               by_cases c6:dl<300
               · have e6:(dl:Int)<300:=by omega
                 go_wp2_with fail
                 go_meet
                 exact ⟨by rw [HD.out.2 ⟨c5,c6⟩],rfl⟩
               · have e6:¬(dl:Int)<300:=by omega
                 go_wp2_with fail
                 go_meet
                 exact ⟨by rw [Bool.eq_false_iff.2 (fun q=>c6 (HD.out.1 q).2)],rfl⟩
             · have e5:¬(0:Int)<(dl:Int):=by omega
               go_wp2_with fail
               go_meet
               exact ⟨by rw [Bool.eq_false_iff.2 (fun q=>c5 (HD.out.1 q).1)],rfl⟩
           · have e3:¬(k:Int)<(Ld:Int):=by omega
             have HD:=zz (show bb=false from Bool.eq_false_iff.2 (fun q=>by
              obtain ⟨d,h1,_⟩:=HBB.out.1 q;have:=(List.getElem?_eq_some_iff.1 h1).1;rw [HLL.out.2] at this;omega))
             go_wp2_with fail
             go_meet
             exact ⟨by rw [HD.out],rfl⟩
          case rest =>
          obtain ⟨rfl,rfl⟩:=hcut;have HPUT:=zz (show ∀(W:World) (D:Option Addr) (dc:Nat),Below w6.heap.size w6 W∨(W=w6.setCell ⟨f,2,none⟩ (.slice D (za6 st k).d.length dc))→wr.heap.size≤f→zw W z (za6 st k) (.slice D (za6 st k).d.length dc) →
              Calls Tryz.prog 22 #[.slice A9 (zbk st t0 k).length c9,.agg (za (za6 st k) D dc)] W fun e w'=>∃A' c',e = .returned (.slice A' (zbk st t0 (k+1)).length c')∧FI w' w'.heap.size A' (zbk st t0 (k+1))∧Below wr.heap.size wr w' from fun W D dc hW hf hd=>by
           have hw:Below wr.heap.size wr W:=by
            rcases hW with q|rfl
            · exact HB6.out.trans (q.mono HB6.out.size)
            · exact HB6.out.setCell (p:=⟨f,2,none⟩) hf _
           have hT:=HFT.out.tree st k;have:=zr5 (zbk st t0 k) (za6 st k) A9 D c9 dc W.heap.size W (Nat.le_refl _) ((HF.out.below hw).more hw.size) (hd.more (by have:=hw.size;omega)) (Nat.le_trans hT.2 (by decide)) (zdh hT.check) (by rw [HSF.out];exact Nat.le_trans hps (by decide));rw [←zj1] at this;refine this.mono ?_;rintro _ w' ⟨A',c',rfl,h1,h2⟩;exact ⟨A',c',rfl,h1,hw.trans (h2.mono hw.size)⟩)
          cases bb with
          | true =>
           obtain ⟨d,hd,hd0,hd3⟩:=HBB.out.1 rfl;have c3:k<Ld:=by
            have:=(List.getElem?_eq_some_iff.1 hd).1;rw [HLL.out.2] at this;exact this
           have e3:(k:Int)<(Ld:Int):=by omega
           obtain ⟨dr,hdr⟩:∃dr,v.ds[k]? = some dr:=⟨_,List.getElem?_eq_getElem (by rw [HSI.out.dsl,HLL.out.2];exact c3)⟩;have hrd:=HSI.out.data;rw [HLL.out.2] at hrd;obtain ⟨gd,od,hde,hgd,hcd⟩:=hrd.at0 (by omega) (by omega);have c4:=(HW6.out.cell (p:=⟨gd,od+k,none⟩) (by show gd<z;omega)).trans (hcd k (slB d dr) (by rw [List.getElem?_map,(List.getElem?_zip_eq_some (z:=(d,dr))).2 ⟨hd,hdr⟩];rfl));unfold slB at c4;rw [hde] at c2;have hed:(za6 st k).d=d:=by rw [HSF.out];exact zmo hd hd0 hd3
           have hea:=HSI.out.each k d dr hd hdr;have x2:=HX6.out.cell 2;simp [za] at x2;have x3:=HX6.out.frozen 2;have hX7:=HX6.out.set_ 2 (.slice dr.1 d.length dr.2);have hX8:Blk (w6.setCell ⟨f,2,none⟩ (.slice dr.1 d.length dr.2)) f 70 (za (za6 st k) dr.1 dr.2):=by
            have:za (za6 st k) dr.1 dr.2=(za ⟨px,1,[]⟩ none 0).setIfInBounds 2 (.slice dr.1 d.length dr.2):=by unfold za;rw [hed,HSF.out];rfl
            rw [this];exact hX7
           have hlf:(LdF (.pointer (some ⟨f,0,none⟩))).run Tryz.prog (w6.setCell ⟨f,2,none⟩ (.slice dr.1 d.length dr.2)) = .ok (.agg (za (za6 st k) dr.1 dr.2)) (w6.setCell ⟨f,2,none⟩ (.slice dr.1 d.length dr.2)):=zaE _ _ (za (za6 st k) dr.1 dr.2) Tryz.underlying70 rfl (by kernel_rfl) (fun j v hj=>by rw [zJ,hX8.cell,←hj];simp)
           have hput:=HPUT.out (w6.setCell ⟨f,2,none⟩ (.slice dr.1 d.length dr.2)) dr.1 dr.2 (.inr (by rw [hed])) h15 (by
            refine ⟨dr.1,dr.2,rfl,?_⟩;rw [hed];exact ⟨hea.1,hea.2.1,(hea.2.2.more hB).below (HW6.out.setCell (p:=⟨f,2,none⟩) (by show z≤f;omega) _)⟩)
           have HP:=zz hput;clear hrd hcd hd hdr hde hed hea hX7 hX8 hput HPUT hd0 hd3
           go_wp2_with (go_at_call 22;(with_reducible refine HP.out.mono ?_);rintro _ w7 ⟨A7,c7,rfl,hf7,hb7⟩;have HF7:=zz hf7;have HB7:=zz hb7;clear hf7 hb7)
           have HBR:=zz (HBQ.out.trans (HB7.out.mono hzq));have hz7:zn≤w7.heap.size:=Nat.le_trans hzq HB7.out.size;clear HP HX6 HB6 HW6 hlf c4 c2 x2 x3 HBQ HF HWW HB7
           go_roundg (K-(k+1))
           case measure=>omega
           case rel=>exact ⟨k+1,A7,c7,by go_num,rfl,by omega,Nat.le_refl _,HF7,HBR,hz7⟩
          | false =>
           have hed:(za6 st k).d=[]:=by
            rw [HSF.out];exact zpE (fun q=>by have:=HBB.out.2 q;cases this)
           have hse:za (za6 st k) none 0=za ⟨px,1,[]⟩ none 0:=by unfold za;rw [hed,HSF.out]
           have hlf:(LdF (.pointer (some ⟨f,0,none⟩))).run Tryz.prog w6 = .ok (.agg (za (za6 st k) none 0)) w6:=by
            rw [hse];exact zaE _ _ (za ⟨px,1,[]⟩ none 0) Tryz.underlying70 rfl (by kernel_rfl) (fun j v hj=>by rw [zJ,HX6.out.cell,←hj];simp)
           have hput:=HPUT.out w6 none 0 (.inl (Below.refl _ _)) h15 (by
            refine ⟨none,0,rfl,?_⟩;rw [hed];exact ⟨Nat.le_refl _,Nat.zero_le _,ze.none_⟩)
           have HP:=zz hput;clear hed hse hput HPUT c2
           go_wp2_with (go_at_call 22;(with_reducible refine HP.out.mono ?_);rintro _ w7 ⟨A7,c7,rfl,hf7,hb7⟩;have HF7:=zz hf7;have HB7:=zz hb7;clear hf7 hb7)
           have HBR:=zz (HBQ.out.trans (HB7.out.mono hzq));have hz7:zn≤w7.heap.size:=Nat.le_trans hzq HB7.out.size;clear HP HX6 HB6 HW6 hlf HBQ HF HWW HB7
           go_roundg (K-(k+1))
           case measure=>omega
           case rel=>exact ⟨k+1,A7,c7,by go_num,rfl,by omega,Nat.le_refl _,HF7,HBR,hz7⟩
        · rw [decide_eq_false hkl];obtain rfl:k=K:=by omega
          have hbw:Below w8.heap.size w8 wr:=by rw [HZN.out];exact HBQ.out
          have hg9:=HG8.out.below hbw HG8.out.lt;have ho9:=HO8.out.below hbw;obtain ⟨A9',c9',w9,hap,t0',t3,hfin⟩:=znu (A8:=A9) (c8:=c9) hg9 ho9 HF.out (by omega);have x2:=(hg9.cell 2).trans rfl;have x3:=((hg9.alloc (.cells #[.slice A9 (zbk st t0 k).length c9] 37)).cell 2).trans rfl;have HFF:=zz hfin;have HB2:=zz ((HB8.out).trans (hbw.mono (by omega)));clear hbw hg9 ho9 hfin;go_upto_region 10 with fail
          have HG9:=zz HFF.out.1;have HO9:=HFF.out.2.1;rw [←HTS.out] at HO9;have HO9:=zz HO9;have HB9:=zz (HB2.out.trans HFF.out.2.2.1);have hz9:=HFF.out.2.2.2;generalize w9.setCell ⟨s,2,none⟩ (.slice A9' (n+1) c9')=w10 at *;clear HFF hap t0' t3 x2 x3 HB2 HF HBQ HG8 HO8 HB8
          go_wp2_with fail
          go_roundg (N-(n+1))
          case measure=>omega
          case rel=>exact ⟨n+1,A9',c9',ts++[(A9,c9)],by go_num,by omega,Nat.le_refl _,HG9,HO9,HB9,hz9⟩
     · obtain rfl:n=N:=by omega
       have HR8:=zz (HR7.out.below HB.out);have HTL:=zz (zui R rs AP cP n s HRN.out hN16 HR4.out HRL.out wr.drew (by show s≤wr.heap.size;omega) (HR8.out.below (Below.refl _ wr).drew));have d0:wr.drew.cell? ⟨s,2,none⟩=some (.slice AT n cT):=(HG.out.cell 2).trans rfl;have HA5:=zz (show ∀w5,Below wr.drew.heap.size wr.drew w5→w5.cell? ⟨s,2,none⟩=some (.slice AT n cT) from fun w5 h5=>((HG.out.drew.below h5 HG.out.lt).cell 2).trans rfl);go_upto_region 22 with fail
       go_region_law (first|(go_simp;go_at_call 23;(with_reducible refine HTL.out.mono ?_);rintro _ w5 ⟨g5,rfl,hb5,_,hgr⟩;have HGR:=zz hgr;have HB5:=zz hb5;clear hgr;have e5:=HA5.out w5 hb5;clear hb5)|(refine zC rfl rfl (cs:=#[.pointer (some ⟨g5,0,none⟩),.slice AT n cT,.int .i64 0]) rfl ?_))
       all_goals
        have hb6:Below w5.heap.size w5 (w5.alloc (.cells #[.pointer (some ⟨g5,0,none⟩),.slice AT n cT,.int .i64 0] 31)):=(Below.refl _ w5).alloc (Nat.le_refl _) _;have hb5:Below wr.heap.size wr (w5.alloc (.cells #[.pointer (some ⟨g5,0,none⟩),.slice AT n cT,.int .i64 0] 31)):=(show Below wr.heap.size wr w5 from (Below.refl _ wr).drew.trans HB5.out).trans (hb6.mono HB5.out.size);have HB6:=zz hb5;have HB7:=zz hb6;clear hb5 hb6 d0 e5
        go_wp2_with fail
        go_ret2
        obtain ⟨GA,Gc,Gv,hgr⟩:=HGR.out;exact ⟨s,w5.heap.size,g5,AP,AT,cP,cT,rs,ts,rfl,HG.out.below HB6.out HG.out.lt,HR8.out.below (HB6.out.mono (by omega)),((HO.out.below HB6.out).tri),Blk.new w5 31 #[.pointer (some ⟨g5,0,none⟩),.slice AT n cT,.int .i64 0],hzs,HK7.out.trans ((HB.out.mono hzs).trans (HB6.out.mono (by omega))),GA,Gc,Gv,(hgr.below HB7.out).more HB7.out.size⟩
end
section
open Go.RowKit
def knS:List StepD:=[⟨[],[0],[[120,10]]⟩,⟨[0],[1],[[121,10]]⟩]
def knR:Rw:=[[],[0]]
def knT0:List FileD:=[⟨[97],1,[120,10]⟩]
def knT1:List FileD:=[⟨[97],1,[120,10]⟩,⟨[98],1,[121,10]⟩]
theorem zfM:zaQ ((knS.take 16).map (·.pars))=knR:=by kernel_rfl
theorem zlw:za5 knR knS 2=[knT0,knT1]:=by kernel_rfl
theorem zlS (W:World) (C:Array Value) (n c g:Nat) (hg:W.heap.size=g):(convert 58 58 (.slice (some ⟨g,0,none⟩) n c)).run Tryz.prog (W.alloc (.cells C 5)) = .ok (.slice (some ⟨g,0,none⟩) n c) (W.alloc (.cells C 5 (C.size,C.size+1))):=by
 subst hg;exact Lib.run_convert_bytes_const W 58 5 C n c Tryz.underlying58 Tryz.underlying5
theorem ze.of_block9 {w:World} {g B:Nat} {cs:Array Value} {t:TypeId} {fz:Nat×Nat} {size n:Nat} {xs:List Value} (h:w.heap[g]? = some (.cells cs t fz)) (hg:g<B) (hx:cs.toList=xs) (hl:xs.length=n*size):ze w B size (some ⟨g,0,none⟩) n xs:=by
 refine ⟨hl,fun _=>⟨_,rfl,hg,fun j u hj=>?_⟩⟩;rw [zJ,cell_of_row w g (0+j) cs t fz h,Nat.zero_add,←hj,←hx];simp
theorem zgj:∀(os:List Obj) (w:World),(os.foldl World.alloc w).heap=w.heap++os.toArray
 | [],w=>by simp
 | o::os,w=>by
  rw [List.foldl_cons,zgj os];show w.heap.push o++os.toArray=_;apply Array.toList_inj.1;simp
theorem zcI {os:List Obj} {w:World} {z k:Nat} {o:Obj} (hz:w.heap.size=z) (h:os[k]? = some o):(os.foldl World.alloc w).heap[z+k]? = some o:=by
 rw [zgj,Array.getElem?_append_right (by omega),hz,Nat.add_sub_cancel_left];simpa using h
def knO (z:Nat):List Obj:=[.cells #[.int .i64 0] 3,.cells #[.int .u8 120,.int .u8 10] 5 (2,3),.cells #[.slice (some ⟨z+1,0,none⟩) 2 2] 58,.cells #[.int .i64 0] 3,.cells #[.int .i64 1] 3,.cells #[.int .u8 121,.int .u8 10] 5 (2,3),.cells #[.slice (some ⟨z+5,0,none⟩) 2 2] 58,.cells #[.slice none 0 0,.slice (some ⟨z,0,none⟩) 1 1,.slice (some ⟨z+2,0,none⟩) 1 1,.slice (some ⟨z+3,0,none⟩) 1 1,.slice (some ⟨z+4,0,none⟩) 1 1,.slice (some ⟨z+6,0,none⟩) 1 1] 60]
def knW (w:World) (z:Nat):World:=(knO z).foldl World.alloc w
def knV (z:Nat):List StV:=[⟨(none,0),(some ⟨z,0,none⟩,1),(some ⟨z+2,0,none⟩,1),[(some ⟨z+1,0,none⟩,2)]⟩,⟨(some ⟨z+3,0,none⟩,1),(some ⟨z+4,0,none⟩,1),(some ⟨z+6,0,none⟩,1),[(some ⟨z+5,0,none⟩,2)]⟩]
theorem zkS (w:World) (z:Nat) (hz:w.heap.size=z):(knW w z).heap.size=z+8:=by
 unfold knW;rw [zgj];simp [knO,hz]
theorem zq0 (w:World) (z:Nat) (hz:w.heap.size=z):Below z w (knW w z):=by
 show Below z w ((((((((w.alloc _).alloc _).alloc _).alloc _).alloc _).alloc _).alloc _).alloc _);exact ((((((((Below.refl z w).alloc (by omega) _).alloc (by simp;omega) _).alloc (by simp;omega) _).alloc (by simp;omega) _).alloc (by simp;omega) _).alloc (by simp;omega) _).alloc (by simp;omega) _).alloc (by simp;omega) _
theorem zqo (w:World) (z:Nat) (hz:w.heap.size=z):StI (knW w z) (knW w z).heap.size (some ⟨z+7,0,none⟩) knS (knV z):=by
 have hs:=zkS w z hz;have h0:(knW w z).heap[z]? = some (.cells #[.int .i64 0] 3):=zcI (k:=0) hz rfl;have h1:(knW w z).heap[z+1]? = some (.cells #[.int .u8 120,.int .u8 10] 5 (2,3)):=zcI (k:=1) hz rfl;have h2:(knW w z).heap[z+2]? = some (.cells #[.slice (some ⟨z+1,0,none⟩) 2 2] 58):=zcI (k:=2) hz rfl;have h3:(knW w z).heap[z+3]? = some (.cells #[.int .i64 0] 3):=zcI (k:=3) hz rfl;have h4:(knW w z).heap[z+4]? = some (.cells #[.int .i64 1] 3):=zcI (k:=4) hz rfl;have h5:(knW w z).heap[z+5]? = some (.cells #[.int .u8 121,.int .u8 10] 5 (2,3)):=zcI (k:=5) hz rfl;have h6:(knW w z).heap[z+6]? = some (.cells #[.slice (some ⟨z+5,0,none⟩) 2 2] 58):=zcI (k:=6) hz rfl;have h7:(knW w z).heap[z+7]? = some (.cells #[.slice none 0 0,.slice (some ⟨z,0,none⟩) 1 1,.slice (some ⟨z+2,0,none⟩) 1 1,.slice (some ⟨z+3,0,none⟩) 1 1,.slice (some ⟨z+4,0,none⟩) 1 1,.slice (some ⟨z+6,0,none⟩) 1 1] 60):=zcI (k:=7) hz rfl;rw [hs];refine ⟨rfl,ze.of_block9 h7 (by omega) rfl rfl,fun i s v e1 e2=>?_⟩;have hm:(1:Nat)≤maxLen∧(2:Nat)≤maxLen:=by unfold maxLen;omega
 rcases i with _|_|i
 · injection e1 with e1;injection e2 with e2;subst e1 e2;refine ⟨ze.none_,⟨Nat.le_refl _,Nat.zero_le _⟩,ze.of_block9 h0 (by omega) rfl rfl,⟨Nat.le_refl _,hm.1⟩,ze.of_block9 h2 (by omega) rfl rfl,⟨Nat.le_refl _,hm.1⟩,rfl,fun i d r q1 q2=>?_,by simp [zcO],by simp [zcO]⟩
   rcases i with _|i
   · injection q1 with q1;injection q2 with q2;subst q1 q2;exact ⟨Nat.le_refl _,hm.2,ze.of_block9 h1 (by omega) rfl rfl⟩
   · cases q1
 · injection e1 with e1;injection e2 with e2;subst e1 e2;refine ⟨ze.of_block9 h3 (by omega) rfl rfl,⟨Nat.le_refl _,hm.1⟩,ze.of_block9 h4 (by omega) rfl rfl,⟨Nat.le_refl _,hm.1⟩,ze.of_block9 h6 (by omega) rfl rfl,⟨Nat.le_refl _,hm.1⟩,rfl,fun i d r q1 q2=>?_,by simp [zcO],by simp [zcO]⟩
   rcases i with _|i
   · injection q1 with q1;injection q2 with q2;subst q1 q2;exact ⟨Nat.le_refl _,hm.2,ze.of_block9 h5 (by omega) rfl rfl⟩
   · cases q1
 · cases e1
theorem znH:Elem Tryz.prog 22 60 3 72:=by
 refine ⟨Tryz.underlying22,?_,by decide⟩;obtain ⟨i,hi,h1,h2,h3⟩:=info_parts (show (Tryz.prog.info? 60).map (fun i=>(i.zero,i.size,i.bytes))=some (some (.agg #[.slice none 0 0,.slice none 0 0,.slice none 0 0]),3,72) by kernel_rfl);exact ⟨i,_,hi,h1,h2,h3,rfl⟩
theorem zqe (w:World):(zeroValue 60).run Tryz.prog w = .ok (.agg #[.slice none 0 0,.slice none 0 0,.slice none 0 0]) w:=by kernel_rfl
def SlSt (n:Nat) (ps:Array (Nat×Value)):Sem Value:=Instr.buildSlice 22 n ps
theorem zoB (n:Nat) (ps:Array (Nat×Value)):Instr.buildSlice 22 n ps=SlSt n ps:=rfl
def BdSt (ps:Array (Nat×Value)):Sem Value:=Instr.build 60 ps
theorem zr7 (ps:Array (Nat×Value)):Instr.build 60 ps=BdSt ps:=rfl
theorem zq6 (A B:Option Addr) (n m c d:Nat) (w:World):(BdSt #[(1,.slice A n c),(2,.slice B m d)]).run Tryz.prog w = .ok (.agg #[.slice none 0 0,.slice A n c,.slice B m d]) w:=by kernel_rfl
theorem zqC (A B C:Option Addr) (n m k c d e:Nat) (w:World):(BdSt #[(0,.slice A n c),(1,.slice B m d),(2,.slice C k e)]).run Tryz.prog w = .ok (.agg #[.slice A n c,.slice B m d,.slice C k e]) w:=by kernel_rfl
attribute [local go_sem ↓] zoB zr7 zq6 zqC
theorem ze4:WfR knR:=by
 rw [←zfM];exact zgc _
theorem zlq (x:Nat):(par knR x).length≤4:=by
 rw [←zfM];exact zhO _ x
def knF (n:Nat):List FileD:=([knT0,knT1][n]?).getD []
theorem zez (n:Nat):zag (knF n):=by
 unfold knF
 cases e:[knT0,knT1][n]? with
 | none=>exact zag.nil_
 | some t =>
  rw [←zlw] at e;exact zeg knR knS 2 t (List.mem_of_getElem? e)
theorem ziX:∀n,n<2→[knT0,knT1][n]? = some (knF n):=by
 intro n hn;rcases (by omega:n=0∨n=1) with rfl|rfl <;> rfl
theorem ziT {L:Nat→Nat→List Nat} (hL:∀a b,a<200→BaseL knR a b (L a b)):zL L knF 40 100 0 1=(.ok ([0],knT0),100):=by
 have h:L 0 1=[0]:=zrx ze4 (n:=0) (m:=1) (Rch.up (show 0∈par knR 1 from by decide) (Rch.refl 0)) (hL 0 1 (by omega));unfold zL;rw [h];rfl
theorem zsI {L:Nat→Nat→List Nat} (hL:∀a b,a<200→BaseL knR a b (L a b)):za1 knF 0 1 (zL L knF 40 100 0 1) = .ok (knT1,[]):=by
 rw [ziT hL];exact ztm (zez 0).check (zez 1).check
theorem zlk (rs:List (Option Addr×Nat)) (ts:List (Option Addr×Nat)) (AP AT:Option Addr) (cP cT s:Nat) (h2:2≤s) (q:Int) (w:World) (h:SrcI knR rs [knT0,knT1] ts AP AT cP cT 2 s s q w) :Calls Tryz.prog 11 #[.iface 24 (.pointer (some ⟨s,0,none⟩)),idV (idN 0),idV (idN 1)] w (fun e w'=>∃(A A':Option Addr) (c c':Nat) (q':Int),e = .returned (.tuple #[.slice A 1 c,.slice A' 1 c',.nilIface])∧ze w' w'.heap.size 32 A 1 ((([0]:List Nat).map idN).flatMap idL)∧SrcI knR rs [knT0,knT1] ts AP AT cP cT 2 s s q' w'∧Keep (Only s) w w') ∧Calls Tryz.prog 12 #[.iface 24 (.pointer (some ⟨s,0,none⟩)),idV (idN 0),idV (idN 1)] w (fun e w'=>∃(A A':Option Addr) (c c':Nat),e = .returned (.tuple #[.slice A 2 c,.slice A' 0 c',.nilIface])∧Keep (Only s) w w'):=by
 obtain ⟨L,hL,_⟩:=zjL ze4;have hov:=ziT hL;have hme:=zsI hL;have h1:=zeO knR ze4 rs [knT0,knT1] ts AP AT cP cT 2 s s rfl rfl (by omega) zlq h2 (Nat.le_refl _) L (fun a b ha _=>hL a b (by omega)) knF ziX zez 0 1 q w (by omega) (by omega) h;have h3:=zhi knR ze4 rs [knT0,knT1] ts AP AT cP cT 2 s s rfl rfl (by omega) zlq h2 (Nat.le_refl _) L (fun a b ha _=>hL a b (by omega)) knF ziX zez 0 1 q w (by omega) (by omega) h;rw [hov] at h1;rw [hme] at h3;refine ⟨h1.mono ?_,h3.mono ?_⟩
 · rintro e w' ⟨q',⟨A,c,A',c',rfl,hr,_⟩,hs,hk⟩;exact ⟨A,A',c,c',q',rfl,hr,hs,hk⟩
 · rintro e w' ⟨q',⟨A,c,A',c',rfl,_⟩,hs,hk⟩;exact ⟨A,A',c,c',rfl,hk⟩
theorem zou (w:World) (h2:2≤w.heap.size) (hv:VarM w) (he:ErrT w):Calls Tryz.prog 7 #[] w fun e w'=>e = .returned (.bool true)∧Below w.heap.size w w':=by
 obtain ⟨z,hz⟩:∃z,w.heap.size=z:=⟨_,rfl⟩;have hc1:(convert 58 58 (.slice (some ⟨z+1,0,none⟩) 2 2)).run Tryz.prog ((w.alloc (.cells #[.int .i64 0] 3)).alloc (.cells #[.int .u8 120,.int .u8 10] 5)) = .ok (.slice (some ⟨z+1,0,none⟩) 2 2) ((w.alloc (.cells #[.int .i64 0] 3)).alloc (.cells #[.int .u8 120,.int .u8 10] 5 (2,3))):=zlS _ #[.int .u8 120,.int .u8 10] 2 2 (z+1) (by simp;omega);have hc2:(convert 58 58 (.slice (some ⟨z+1+1+1+1+1,0,none⟩) 2 2)).run Tryz.prog ((((((w.alloc (.cells #[.int .i64 0] 3)).alloc (.cells #[.int .u8 120,.int .u8 10] 5 (2,3))).alloc (.cells #[.slice (some ⟨z+1,0,none⟩) 2 2] 58)).alloc (.cells #[.int .i64 0] 3)).alloc (.cells #[.int .i64 1] 3)).alloc (.cells #[.int .u8 121,.int .u8 10] 5)) = .ok (.slice (some ⟨z+1+1+1+1+1,0,none⟩) 2 2) ((((((w.alloc (.cells #[.int .i64 0] 3)).alloc (.cells #[.int .u8 120,.int .u8 10] 5 (2,3))).alloc (.cells #[.slice (some ⟨z+1,0,none⟩) 2 2] 58)).alloc (.cells #[.int .i64 0] 3)).alloc (.cells #[.int .i64 1] 3)).alloc (.cells #[.int .u8 121,.int .u8 10] 5 (2,3))):=zlS _ #[.int .u8 121,.int .u8 10] 2 2 (z+1+1+1+1+1) (by simp;omega);have hsl:(SlSt 2 #[(0,.agg #[.slice none 0 0,.slice (some ⟨z,0,none⟩) 1 1,.slice (some ⟨z+1+1,0,none⟩) 1 1]),(1,.agg #[.slice (some ⟨z+1+1+1,0,none⟩) 1 1,.slice (some ⟨z+1+1+1+1,0,none⟩) 1 1,.slice (some ⟨z+1+1+1+1+1+1,0,none⟩) 1 1])]).run Tryz.prog (((((((w.alloc (.cells #[.int .i64 0] 3)).alloc (.cells #[.int .u8 120,.int .u8 10] 5 (2,3))).alloc (.cells #[.slice (some ⟨z+1,0,none⟩) 2 2] 58)).alloc (.cells #[.int .i64 0] 3)).alloc (.cells #[.int .i64 1] 3)).alloc (.cells #[.int .u8 121,.int .u8 10] 5 (2,3))).alloc (.cells #[.slice (some ⟨z+1+1+1+1+1,0,none⟩) 2 2] 58)) = .ok (.slice (some ⟨z+7,0,none⟩) 2 2) (knW w z):=by
  unfold SlSt;rw [zlU znH zqe rfl rfl rfl (by omega)];have:(((((((w.alloc (.cells #[.int .i64 0] 3)).alloc (.cells #[.int .u8 120,.int .u8 10] 5 (2,3))).alloc (.cells #[.slice (some ⟨z+1,0,none⟩) 2 2] 58)).alloc (.cells #[.int .i64 0] 3)).alloc (.cells #[.int .i64 1] 3)).alloc (.cells #[.int .u8 121,.int .u8 10] 5 (2,3))).alloc (.cells #[.slice (some ⟨z+1+1+1+1+1,0,none⟩) 2 2] 58)).heap.size=z+7:=by simp;omega
  rw [this];rfl
 have HB:=zz (zq0 w z hz);have hsz:=zkS w z hz;have ht:=zjl knS (knV z) (some ⟨z+7,0,none⟩) 2 2 (knW w z).heap.size 2 rfl rfl (knW w z) (Nat.le_refl _) (zqo w z hz);rw [zfM,zlw] at ht;have HT:=zz ht;have HVE:=zz (And.intro hv he);have HSZ:=zz hsz;rw [hz] at h2 ⊢;clear ht hv he hsz;go_enter Tryz.func7,Tryz.ntmps7
 go_upto_region 2 with (go_at_call 8;(with_reducible refine HT.out.mono ?_);rintro _ w1 ⟨s,hh,g,AP,AT,cP,cT,rs,ts,rfl,hsrc,hrw,htr,hhi,hsz1,hbl,_⟩;have HSRC:=zz hsrc;have HRW:=zz hrw;have HTR:=zz htr;have HB1:=zz hbl;have HS1:=zz hsz1;clear hsrc hrw htr hhi hsz1 hbl)
 have hbt:Below z w w1:=HB.out.trans (HB1.out.mono (by rw [HSZ.out];omega));have hbt':Below w.heap.size w w1:=by rw [hz];exact hbt
 have hs1:=HS1.out;rw [HSZ.out] at hs1;have hsi:SrcI knR rs [knT0,knT1] ts AP AT cP cT 2 s s 0 w1:=⟨HSRC.out,HRW.out,HTR.out,HVE.out.1.below hbt' HVE.out.1.pos,by
  have:=HVE.out.2;unfold ErrT at this ⊢;exact (hbt'.cell (p:=⟨0,0,none⟩) (World.block_lt_of_cell? w _ this)).trans this⟩
 have HK1:=zz (fun W (hW:Below w1.heap.size w1 W)=>(zlk rs ts AP AT cP cT s (by omega) 0 W (hsi.below hW (Nat.le_refl _))).1);have HID0:=zz (show ∀W:World,Calls Tryz.prog 9 #[.int .i64 0] W (fun e w'=>e = .returned (idV (idN 0))∧Below W.heap.size W w') from fun W=>zca 0 (by omega) W);have HID1:=zz (show ∀W:World,Calls Tryz.prog 9 #[.int .i64 1] W (fun e w'=>e = .returned (idV (idN 1))∧Below W.heap.size W w') from fun W=>zca 1 (by omega) W);have HBT:=zz hbt;have hzs:z≤s:=by omega
 have hs1w:s<w1.heap.size:=HSRC.out.lt;have hz1w:z≤w1.heap.size:=by omega
 clear hbt hbt' hs1 hsi HSRC HRW HTR HB1 HS1 HT HVE hc1 hc2 hsl HB HSZ hz
 go_upto_region 3 with (first
  | (go_at_call 9;(with_reducible refine (HID0.out _).mono ?_);rintro _ w2 ⟨rfl,hb2⟩;have HB2:=zz hb2;clear hb2)
  | (go_at_call 9;(with_reducible refine (HID1.out _).mono ?_);rintro _ w3 ⟨rfl,hb3⟩;have HB3:=zz (HB2.out.trans (hb3.mono HB2.out.size));clear hb3)
  | (go_at_call 11;(with_reducible refine (HK1.out _ HB3.out).mono ?_);rintro _ w4 ⟨A4,A4',c4,c4',q4,rfl,hr4,hs4,hk4⟩;have HR4:=zz hr4;have HS4:=zz hs4;have HK4:=zz hk4;clear hr4 hs4 hk4))
 have hsl:s<w3.heap.size:=Nat.lt_of_lt_of_le hs1w HB3.out.size;have HBU:=zz (show Below z w w4 from (HBT.out.trans (HB3.out.mono hz1w)).trans (HK4.out.below (by omega) (fun i hi q=>by unfold Only at q;omega)));have HM4:=zz (fun W (hW:Below w4.heap.size w4 W)=>(zlk rs ts AP AT cP cT s (by omega) q4 W (HS4.out.below hW (Nat.le_refl _))).2);clear HBT HB2 HB3 HK4 HK1 hsl
 go_upto_region 4 with (first
  | (go_at_call 9;(with_reducible refine (HID0.out _).mono ?_);rintro _ w5 ⟨rfl,hb5⟩;have HB5:=zz hb5;clear hb5)
  | (go_at_call 9;(with_reducible refine (HID1.out _).mono ?_);rintro _ w6 ⟨rfl,hb6⟩;have HB6:=zz (HB5.out.trans (hb6.mono HB5.out.size));clear hb6)
  | (go_at_call 12;(with_reducible refine (HM4.out _ HB6.out).mono ?_);rintro _ w7 ⟨A7,A7',c7,c7',rfl,hk7⟩;have HK7:=zz hk7;clear hk7))
 have hs4:s<w4.heap.size:=HS4.out.src.lt;have hs6:s<w6.heap.size:=Nat.lt_of_lt_of_le hs4 HB6.out.size;have hs6i:=HS4.out.below HB6.out (Nat.le_refl _);have hr7:=zdU ((HR4.out.below HB6.out)) HB6.out.size HK7.out hs6i.no;obtain ⟨gA,oA,rfl,hgA,hcA⟩:=hr7.at0 (by omega) (by omega);have hld:=zgv (w:=w7) (g:=gA) (off:=oA) hcA (i:=0) (x:=0) rfl;rw [Nat.zero_mul,Nat.add_zero] at hld;have hg7:gA<w7.heap.size:=Nat.lt_of_lt_of_le hgA (Nat.le_trans HB6.out.size HK7.out.size);have HLD:=zz (fun (W:World) (hW:Below w7.heap.size w7 W)=>(show W.rangeAt gA oA (idL (idN 0)) from fun j u hj=>(hW.cell (p:=⟨gA,oA+j,none⟩) hg7).trans (hcA j u (by simpa using hj))));have d1:=HLD.out w7.drew (Below.refl _ w7).drew;have E:∀W:World,(binOp .eql 33 (.agg (idL (idN 0)).toArray) (idV (idN 0))).run Tryz.prog W = .ok (.bool true) W:=fun W=>(zdD W (idN 0) (idN 0)).trans (by simp);have G:∀(a b:Operand) (W:World),(eqGuard .eql 33 a b (.agg (idL (idN 0)).toArray) (idV (idN 0))).run Tryz.prog W = .ok () W:=fun (a b:Operand) (W:World)=>zfg .eql a b (idN 0) (idN 0) W;have hb67:Below z w6 w7:=HK7.out.below (by omega) (fun i hi q=>by unfold Only at q;omega);have hbu:Below z w w7:=(HBU.out.trans (HB6.out.mono (by omega))).trans hb67;have HBV:=zz hbu;have hz7:z≤w7.heap.size:=Nat.le_trans (by omega) HK7.out.size;clear hr7 hcA hld hs6i hbu hb67 HM4 HBU HR4 HS4 HB5 HB6 HK7 HID1;have hu:=Tryz.underlying33;have hi:(Tryz.prog.info? 33).map (·.size)=some (idL (idN 0)).length:=by rw [za2];exact zaN
 go_region_held3 (fun W=>W.rangeAt gA oA (idL (idN 0))) (first|(exact d1)|(exact e8)|go_keep) (first
  | (go_simp;go_at_call 9;(with_reducible refine (HID0.out w7.drew).mono ?_);rintro _ w8 ⟨rfl,hb8⟩;have HB8:=zz hb8;have e8:=HLD.out w8 ((Below.refl _ w7).drew.trans hb8);clear hb8))
 all_goals
  go_wp2_with fail
  have HB9:=zz (show Below z w w8 from HBV.out.drew.trans (HB8.out.mono hz7))
  go_ret
  exact ⟨rfl,HB9.out⟩
end
section
open Go.RowKit
def OfU (l:List Nat) (t:List FileD) (n:Nat) (e:Ending) (w':World):Prop:=∃A c A' c',e = .returned (.tuple #[.slice A l.length c,.slice A' t.length c',errV n])∧ze w' w'.heap.size 32 A l.length ((l.map idN).flatMap idL)∧FI w' w'.heap.size A' t
def MrgU (x:List FileD) (v:List ClashD) (n:Nat) (e:Ending) (w':World):Prop:=∃A c A' c',e = .returned (.tuple #[.slice A x.length c,.slice A' v.length c',errV n])∧FI w' w'.heap.size A x∧ze w' w'.heap.size 2 A' v.length (v.flatMap zN)∧v.length≤9223372036854775807
theorem of_u (o:zbj):∃l t n,(∀e w',zee o e w'→OfU l t n e w')∧(l=[]∧t=[]∨o.1 = .ok (l,t)):=by
 obtain ⟨o1,o2⟩:=o
 cases o1 with
 | error n=>exact ⟨[],[],n,fun e w' h=>⟨none,0,none,0,h.2,ze.none_,FI.nil_ _ _ _⟩,.inl ⟨rfl,rfl⟩⟩
 | ok u =>
  obtain ⟨l,t⟩:=u;exact ⟨l,t,0,fun e w' ⟨A,c,A',c',he,hr,hf⟩=>⟨A,c,A',c',he,hr,hf⟩,.inr rfl⟩
theorem zjz (n:Nat):∃m,m≠0∧∀e w',zcg (.error n) e w'→MrgU [] [] m e w':=by
 refine ⟨if n=0 then 1 else n,by split <;> omega,fun e w' h=>?_⟩;obtain ⟨h0,A,c,A',c',he⟩:=h;rw [if_neg h0];exact ⟨A,c,A',c',he,FI.nil_ _ _ _,ze.none_,by simp⟩
theorem zkK (x:List FileD) (v:List ClashD):∀e w',zcg (.ok (x,v)) e w'→MrgU x v 0 e w':=fun _ _ ⟨A,c,A',c',he,hf,hr,hl⟩=>⟨A,c,A',c',he,hf,hr,hl⟩
theorem zms {R:Rw} (hw:WfR R) {L:Nat→Nat→List Nat} (hL:∀a b,a<200→b<200→BaseL R a b (L a b)) (hc:∀a b,a<200→b<200→L a b=L b a) {Tf:Nat→List FileD} (hfine:∀n,zag (Tf n)) (a b:Nat) (ha:a<16) (hb:b<16) :∃l t n x y v m m',(∀e w',zee (zL L Tf 40 100 a b) e w'→OfU l t n e w')∧(∀e w',zee (zL L Tf 40 100 b a) e w'→OfU l t n e w') ∧(∀e w',zcg (za1 Tf a b (zL L Tf 40 100 a b)) e w'→MrgU x v m e w')∧(∀e w',zcg (za1 Tf b a (zL L Tf 40 100 b a)) e w'→MrgU y v m' e w') ∧(m=0↔m'=0)∧(v=[]→x=y)∧l.length≤1000∧t.length≤1000000000000∧x.length≤1000000000000:=by
 have e1:zL L Tf 40 100 b a=zL L Tf 40 100 a b:=by
  unfold zL;rw [hc b a (by omega) (by omega)]
 rw [e1];have hfo:=zdp (L:=L) (fun n=>(hfine n).check) 40 100 a b;have hll:∀u,(zL L Tf 40 100 a b).1 = .ok u→u.1.length≤1000:=by
  intro u hu;have hB:=hL a b (by omega) (by omega);unfold zL at hu
  cases hl:L a b with
  | nil =>
   rw [hl] at hu;injection hu with hu;rw [←hu]
   simp
  | cons x r =>
   rw [hl] at hu;rw [hl] at hB;have h1:=zc5 16 (x::r) hB.nd (fun y hy=>by have:=((hB.low y).1 hy).le hw;omega);dsimp only at hu;unfold zcc at hu
   split at hu
   · cases hu
   · injection hu with hu;rw [←hu];exact Nat.le_trans h1 (by omega)
 generalize zL L Tf 40 100 a b=o at *;obtain ⟨l,t,n,h1,h2⟩:=of_u o;have hlen:l.length≤1000∧t.length≤1000000000000:=by
  rcases h2 with ⟨rfl,rfl⟩|h2
  · exact ⟨by simp,by simp⟩
  · have:=(zW (hfo.1 _ h2)).2.1;exact ⟨hll _ h2,Nat.le_trans this (by omega)⟩
 have herr:∀n n',za1 Tf a b o = .error n→za1 Tf b a o = .error n'→∃x y v m m',(∀e w',zcg (za1 Tf a b o) e w'→MrgU x v m e w')∧(∀e w',zcg (za1 Tf b a o) e w'→MrgU y v m' e w')∧(m=0↔m'=0)∧(v=[]→x=y)∧x.length≤1000000000000:=by
  intro n n' q1 q2;rw [q1,q2];obtain ⟨m,hm,hm1⟩:=zjz n;obtain ⟨m',hm',hm1'⟩:=zjz n';exact ⟨[],[],[],m,m',hm1,hm1',⟨fun q=>absurd q hm,fun q=>absurd q hm'⟩,fun _=>rfl,by simp⟩
 have hmm:∃x y v m m',(∀e w',zcg (za1 Tf a b o) e w'→MrgU x v m e w')∧(∀e w',zcg (za1 Tf b a o) e w'→MrgU y v m' e w')∧(m=0↔m'=0)∧(v=[]→x=y)∧x.length≤1000000000000:=by
  cases ho:o.1 with
  | error k=>exact herr k k (by unfold za1;rw [ho]) (by unfold za1;rw [ho])
  | ok u =>
   have e2:za1 Tf a b o=zG u.2 (Tf a) (Tf b):=by unfold za1;rw [ho]
   have e3:za1 Tf b a o=zG u.2 (Tf b) (Tf a):=by unfold za1;rw [ho]
   rcases zpm (hfo.1 u ho) (hfine a).1 (hfine b).1 (Nat.le_trans (hfine a).2 (by omega)) (Nat.le_trans (hfine b).2 (by omega)) with ⟨k,k',q1,q2⟩|⟨x,y,v,q1,q2,q3⟩
   · exact herr k k' (e2.trans q1) (e3.trans q2)
   · rw [e2,e3,q1,q2];exact ⟨x,y,v,0,0,zkK x v,zkK y v,Iff.rfl,q3,Nat.le_trans (zW (zhS q1).1).2.1 (by omega)⟩
 obtain ⟨x,y,v,m,m',g1,g2,g3,g4,g5⟩:=hmm;exact ⟨l,t,n,x,y,v,m,m',h1,h1,g1,g2,g3,g4,hlen.1,hlen.2,g5⟩
theorem zok {w w':World} {B n:Nat} {A:Option Addr} {v:List ClashD} {S:Nat→Prop} (h:ze w B 2 A n (v.flatMap zN)) (hB:B≤w.heap.size) (hk:Keep S w w') (hS:∀k,S k→zaM w k):ze w' B 2 A n (v.flatMap zN):=by
 cases v with
 | nil=>exact ⟨h.1,fun hn=>by have:=h.1;simp at this;omega⟩
 | cons c v=>exact h.far hB hk (by omega) (v:=strC c.p) (fun _=>rfl) (fun k i q=>(hS k q i).1 _)
theorem ztK (R:Rw) (hw:WfR R) (rs ts:List SlA) (T:List (List FileD)) (AP AT:Option Addr) (cP cT N s:Nat) (hN:R.length=N) (hTN:T.length=N) (hN2:N≤16) (hp4:∀x,(par R x).length≤4) (h2s:2≤s) (hT:∀t∈T,zag t) (a b:Nat) (ha:a<N) (hb:b<N) :∃l t n x y v m m',(∀q W,SrcI R rs T ts AP AT cP cT N s s q W→Calls Tryz.prog 11 #[.iface 24 (.pointer (some ⟨s,0,none⟩)),idV (idN a),idV (idN b)] W (fun e w'=>∃q',OfU l t n e w'∧SrcI R rs T ts AP AT cP cT N s s q' w'∧Keep (Only s) W w')) ∧(∀q W,SrcI R rs T ts AP AT cP cT N s s q W→Calls Tryz.prog 11 #[.iface 24 (.pointer (some ⟨s,0,none⟩)),idV (idN b),idV (idN a)] W (fun e w'=>∃q',OfU l t n e w'∧SrcI R rs T ts AP AT cP cT N s s q' w'∧Keep (Only s) W w')) ∧(∀q W,SrcI R rs T ts AP AT cP cT N s s q W→Calls Tryz.prog 12 #[.iface 24 (.pointer (some ⟨s,0,none⟩)),idV (idN a),idV (idN b)] W (fun e w'=>∃q',MrgU x v m e w'∧SrcI R rs T ts AP AT cP cT N s s q' w'∧Keep (Only s) W w')) ∧(∀q W,SrcI R rs T ts AP AT cP cT N s s q W→Calls Tryz.prog 12 #[.iface 24 (.pointer (some ⟨s,0,none⟩)),idV (idN b),idV (idN a)] W (fun e w'=>∃q',MrgU y v m' e w'∧SrcI R rs T ts AP AT cP cT N s s q' w'∧Keep (Only s) W w')) ∧(m=0↔m'=0)∧(v=[]→x=y)∧l.length≤1000∧t.length≤1000000000000∧x.length≤1000000000000:=by
 obtain ⟨L,hL,hLc⟩:=zjL hw;have hat:∀n:Nat,n<N→T[n]? = some ((T[n]?).getD []):=fun n hn=>by rw [List.getElem?_eq_getElem (by omega)];rfl
 have hfine:∀n:Nat,zag ((T[n]?).getD []):=fun n=>by
  cases e:T[n]? with
  | none=>exact zag.nil_
  | some t=>exact hT t (List.mem_of_getElem? e)
 obtain ⟨l,t,n,x,y,v,m,m',o1,o2,g1,g2,hrest⟩:=zms hw (fun a b ha _=>hL a b ha) hLc hfine a b (by omega) (by omega)
 refine ⟨l,t,n,x,y,v,m,m',fun q W h=>?_,fun q W h=>?_,fun q W h=>?_,fun q W h=>?_,hrest⟩
 · refine (zeO R hw rs T ts AP AT cP cT N s s hN hTN hN2 hp4 h2s (Nat.le_refl _) L (fun a b ha _=>hL a b (by omega)) _ hat hfine a b q W ha hb h).mono ?_;rintro e w' ⟨q',he,h'⟩;exact ⟨q',o1 e w' he,h'⟩
 · refine (zeO R hw rs T ts AP AT cP cT N s s hN hTN hN2 hp4 h2s (Nat.le_refl _) L (fun a b ha _=>hL a b (by omega)) _ hat hfine b a q W hb ha h).mono ?_;rintro e w' ⟨q',he,h'⟩;exact ⟨q',o2 e w' he,h'⟩
 · refine (zhi R hw rs T ts AP AT cP cT N s s hN hTN hN2 hp4 h2s (Nat.le_refl _) L (fun a b ha _=>hL a b (by omega)) _ hat hfine a b q W ha hb h).mono ?_;rintro e w' ⟨q',he,h'⟩;exact ⟨q',g1 e w' he,h'⟩
 · refine (zhi R hw rs T ts AP AT cP cT N s s hN hTN hN2 hp4 h2s (Nat.le_refl _) L (fun a b ha _=>hL a b (by omega)) _ hat hfine b a q W hb ha h).mono ?_;rintro e w' ⟨q',he,h'⟩;exact ⟨q',g2 e w' he,h'⟩
end
end Go.Proofs.YtmkmbbjgepcioaaGreatDoor
