/- BaseAbove: its row, its card (first form). -/
import Derived.Test.YtmkmbbjgepcioaaGreatDoorCAHq
import Derived.Test.YtmkmbbjgepcioaaGreatDoorCA46
import Derived.Test.YtmkmbbjgepcioaaGreatDoorCA31
import Derived.Test.YtmkmbbjgepcioaaGreatDoorCA48
import Derived.Deep.RegionHeld3
import Derived.Lib.SlBytesConst
import Derived.Test.YtmkmbbjgepcioaaGreatDoorCA43
import Derived.Test.YtmkmbbjgepcioaaGreatDoorCA44
import Derived.SevenTiedAt
namespace Go.Proofs.YtmkmbbjgepcioaaGreatDoor
set_option maxHeartbeats 20000000
set_option maxRecDepth 100000
section
open Go.RowKit
def knS:List StepD:=[⟨[],[0],[[120,10]]⟩,⟨[0],[1],[[121,10]]⟩]
def knR:Rw:=[[],[0]]
def knT0:List FileD:=[⟨[97],1,[120,10]⟩]
def knT1:List FileD:=[⟨[97],1,[120,10]⟩,⟨[98],1,[121,10]⟩]
theorem zfO:zau ((knS.take 16).map (·.pars))=knR:=by kernel_rfl
theorem zik:zaT knR knS 2=[knT0,knT1]:=by kernel_rfl
theorem zhH (W:World) (C:Array Value) (n c g:Nat) (hg:W.heap.size=g):(convert 58 58 (.slice (some ⟨g,0,none⟩) n c)).run Tryz.prog (W.alloc (.cells C 5)) = .ok (.slice (some ⟨g,0,none⟩) n c) (W.alloc (.cells C 5 (C.size,C.size+1))):=by
 subst hg;exact Lib.run_convert_bytes_const W 58 5 C n c Tryz.underlying58 Tryz.underlying5
theorem ze.of_block9 {w:World} {g B:Nat} {cs:Array Value} {t:TypeId} {fz:Nat×Nat} {size n:Nat} {xs:List Value} (h:w.heap[g]? = some (.cells cs t fz)) (hg:g<B) (hx:cs.toList=xs) (hl:xs.length=n*size):ze w B size (some ⟨g,0,none⟩) n xs:=by
 refine ⟨hl,fun _=>⟨_,rfl,hg,fun j u hj=>?_⟩⟩;rw [zD,cell_of_row w g (0+j) cs t fz h,Nat.zero_add,←hj,←hx];simp
theorem zgj:∀(os:List Obj) (w:World),(os.foldl World.alloc w).heap=w.heap++os.toArray
 | [],w=>by simp
 | o::os,w=>by
  rw [List.foldl_cons,zgj os];show w.heap.push o++os.toArray=_;apply Array.toList_inj.1;simp
theorem zch {os:List Obj} {w:World} {z k:Nat} {o:Obj} (hz:w.heap.size=z) (h:os[k]? = some o):(os.foldl World.alloc w).heap[z+k]? = some o:=by
 rw [zgj,Array.getElem?_append_right (by omega),hz,Nat.add_sub_cancel_left];simpa using h
def knO (z:Nat):List Obj:=[.cells #[.int .i64 0] 3,.cells #[.int .u8 120,.int .u8 10] 5 (2,3),.cells #[.slice (some ⟨z+1,0,none⟩) 2 2] 58,.cells #[.int .i64 0] 3,.cells #[.int .i64 1] 3,.cells #[.int .u8 121,.int .u8 10] 5 (2,3),.cells #[.slice (some ⟨z+5,0,none⟩) 2 2] 58,.cells #[.slice none 0 0,.slice (some ⟨z,0,none⟩) 1 1,.slice (some ⟨z+2,0,none⟩) 1 1,.slice (some ⟨z+3,0,none⟩) 1 1,.slice (some ⟨z+4,0,none⟩) 1 1,.slice (some ⟨z+6,0,none⟩) 1 1] 60]
def knW (w:World) (z:Nat):World:=(knO z).foldl World.alloc w
def knV (z:Nat):List StV:=[⟨(none,0),(some ⟨z,0,none⟩,1),(some ⟨z+2,0,none⟩,1),[(some ⟨z+1,0,none⟩,2)]⟩,⟨(some ⟨z+3,0,none⟩,1),(some ⟨z+4,0,none⟩,1),(some ⟨z+6,0,none⟩,1),[(some ⟨z+5,0,none⟩,2)]⟩]
theorem zhC (w:World) (z:Nat) (hz:w.heap.size=z):(knW w z).heap.size=z+8:=by
 unfold knW;rw [zgj];simp [knO,hz]
theorem zmj (w:World) (z:Nat) (hz:w.heap.size=z):Below z w (knW w z):=by
 show Below z w ((((((((w.alloc _).alloc _).alloc _).alloc _).alloc _).alloc _).alloc _).alloc _);exact ((((((((Below.refl z w).alloc (by omega) _).alloc (by simp;omega) _).alloc (by simp;omega) _).alloc (by simp;omega) _).alloc (by simp;omega) _).alloc (by simp;omega) _).alloc (by simp;omega) _).alloc (by simp;omega) _
theorem zqx (w:World) (z:Nat) (hz:w.heap.size=z):StI (knW w z) (knW w z).heap.size (some ⟨z+7,0,none⟩) knS (knV z):=by
 have hs:=zhC w z hz;have h0:(knW w z).heap[z]? = some (.cells #[.int .i64 0] 3):=zch (k:=0) hz rfl;have h1:(knW w z).heap[z+1]? = some (.cells #[.int .u8 120,.int .u8 10] 5 (2,3)):=zch (k:=1) hz rfl;have h2:(knW w z).heap[z+2]? = some (.cells #[.slice (some ⟨z+1,0,none⟩) 2 2] 58):=zch (k:=2) hz rfl;have h3:(knW w z).heap[z+3]? = some (.cells #[.int .i64 0] 3):=zch (k:=3) hz rfl;have h4:(knW w z).heap[z+4]? = some (.cells #[.int .i64 1] 3):=zch (k:=4) hz rfl;have h5:(knW w z).heap[z+5]? = some (.cells #[.int .u8 121,.int .u8 10] 5 (2,3)):=zch (k:=5) hz rfl;have h6:(knW w z).heap[z+6]? = some (.cells #[.slice (some ⟨z+5,0,none⟩) 2 2] 58):=zch (k:=6) hz rfl;have h7:(knW w z).heap[z+7]? = some (.cells #[.slice none 0 0,.slice (some ⟨z,0,none⟩) 1 1,.slice (some ⟨z+2,0,none⟩) 1 1,.slice (some ⟨z+3,0,none⟩) 1 1,.slice (some ⟨z+4,0,none⟩) 1 1,.slice (some ⟨z+6,0,none⟩) 1 1] 60):=zch (k:=7) hz rfl;rw [hs];refine ⟨rfl,ze.of_block9 h7 (by omega) rfl rfl,fun i s v e1 e2=>?_⟩;have hm:(1:Nat)≤maxLen∧(2:Nat)≤maxLen:=by unfold maxLen;omega
 rcases i with _|_|i
 · injection e1 with e1;injection e2 with e2;subst e1 e2;refine ⟨ze.none_,⟨Nat.le_refl _,Nat.zero_le _⟩,ze.of_block9 h0 (by omega) rfl rfl,⟨Nat.le_refl _,hm.1⟩,ze.of_block9 h2 (by omega) rfl rfl,⟨Nat.le_refl _,hm.1⟩,rfl,fun i d r q1 q2=>?_,by simp [zcA],by simp [zcA]⟩
   rcases i with _|i
   · injection q1 with q1;injection q2 with q2;subst q1 q2;exact ⟨Nat.le_refl _,hm.2,ze.of_block9 h1 (by omega) rfl rfl⟩
   · cases q1
 · injection e1 with e1;injection e2 with e2;subst e1 e2;refine ⟨ze.of_block9 h3 (by omega) rfl rfl,⟨Nat.le_refl _,hm.1⟩,ze.of_block9 h4 (by omega) rfl rfl,⟨Nat.le_refl _,hm.1⟩,ze.of_block9 h6 (by omega) rfl rfl,⟨Nat.le_refl _,hm.1⟩,rfl,fun i d r q1 q2=>?_,by simp [zcA],by simp [zcA]⟩
   rcases i with _|i
   · injection q1 with q1;injection q2 with q2;subst q1 q2;exact ⟨Nat.le_refl _,hm.2,ze.of_block9 h5 (by omega) rfl rfl⟩
   · cases q1
 · cases e1
theorem zst:Elem Tryz.prog 22 60 3 72:=by
 refine ⟨Tryz.underlying22,?_,by decide⟩;obtain ⟨i,hi,h1,h2,h3⟩:=info_parts (show (Tryz.prog.info? 60).map (fun i=>(i.zero,i.size,i.bytes))=some (some (.agg #[.slice none 0 0,.slice none 0 0,.slice none 0 0]),3,72) by kernel_rfl);exact ⟨i,_,hi,h1,h2,h3,rfl⟩
theorem zpZ (w:World):(zeroValue 60).run Tryz.prog w = .ok (.agg #[.slice none 0 0,.slice none 0 0,.slice none 0 0]) w:=by kernel_rfl
def SlSt (n:Nat) (ps:Array (Nat×Value)):Sem Value:=Instr.buildSlice 22 n ps
theorem zoJ (n:Nat) (ps:Array (Nat×Value)):Instr.buildSlice 22 n ps=SlSt n ps:=rfl
def BdSt (ps:Array (Nat×Value)):Sem Value:=Instr.build 60 ps
theorem zoY (ps:Array (Nat×Value)):Instr.build 60 ps=BdSt ps:=rfl
theorem znI (A B:Option Addr) (n m c d:Nat) (w:World):(BdSt #[(1,.slice A n c),(2,.slice B m d)]).run Tryz.prog w = .ok (.agg #[.slice none 0 0,.slice A n c,.slice B m d]) w:=by kernel_rfl
theorem zoO (A B C:Option Addr) (n m k c d e:Nat) (w:World):(BdSt #[(0,.slice A n c),(1,.slice B m d),(2,.slice C k e)]).run Tryz.prog w = .ok (.agg #[.slice A n c,.slice B m d,.slice C k e]) w:=by kernel_rfl
attribute [local go_sem ↓] zoJ zoY znI zoO
theorem zeZ:WfR knR:=by
 rw [←zfO];exact zeR _
theorem zkc (x:Nat):(par knR x).length≤4:=by
 rw [←zfO];exact zeo _ x
def knF (n:Nat):List FileD:=([knT0,knT1][n]?).getD []
theorem zeP (n:Nat):z7 (knF n):=by
 unfold knF
 cases e:[knT0,knT1][n]? with
 | none=>exact z7.nil_
 | some t =>
  rw [←zik] at e;exact zdk knR knS 2 t (List.mem_of_getElem? e)
theorem zlv:∀n,n<2→[knT0,knT1][n]? = some (knF n):=by
 intro n hn;rcases (by omega:n=0∨n=1) with rfl|rfl <;> rfl
theorem ziu {L:Nat→Nat→List Nat} (hL:∀a b,a<200→BaseL knR a b (L a b)):zM L knF 40 100 0 1=(.ok ([0],knT0),100):=by
 have h:L 0 1=[0]:=zft zeZ (n:=0) (m:=1) (Rch.up (show 0∈par knR 1 from by decide) (Rch.refl 0)) (hL 0 1 (by omega));unfold zM;rw [h];rfl
theorem zq6 {L:Nat→Nat→List Nat} (hL:∀a b,a<200→BaseL knR a b (L a b)):zc9 knF 0 1 (zM L knF 40 100 0 1) = .ok (knT1,[]):=by
 rw [ziu hL];exact zij (zeP 0).check (zeP 1).check
theorem zid (rs:List (Option Addr×Nat)) (ts:List (Option Addr×Nat)) (AP AT:Option Addr) (cP cT s:Nat) (h2:2≤s) (q:Int) (w:World) (h:SrcI knR rs [knT0,knT1] ts AP AT cP cT 2 s s q w) :Calls Tryz.prog 11 #[.iface 24 (.pointer (some ⟨s,0,none⟩)),idV (idN 0),idV (idN 1)] w (fun e w'=>∃(A A':Option Addr) (c c':Nat) (q':Int),e = .returned (.tuple #[.slice A 1 c,.slice A' 1 c',.nilIface])∧ze w' w'.heap.size 32 A 1 ((([0]:List Nat).map idN).flatMap idL)∧SrcI knR rs [knT0,knT1] ts AP AT cP cT 2 s s q' w'∧Keep (Only s) w w') ∧Calls Tryz.prog 12 #[.iface 24 (.pointer (some ⟨s,0,none⟩)),idV (idN 0),idV (idN 1)] w (fun e w'=>∃(A A':Option Addr) (c c':Nat),e = .returned (.tuple #[.slice A 2 c,.slice A' 0 c',.nilIface])∧Keep (Only s) w w'):=by
 obtain ⟨L,hL,_⟩:=zhp zeZ;have hov:=ziu hL;have hme:=zq6 hL;have h1:=ziO knR zeZ rs [knT0,knT1] ts AP AT cP cT 2 s s rfl rfl (by omega) zkc h2 (Nat.le_refl _) L (fun a b ha _=>hL a b (by omega)) knF zlv zeP 0 1 q w (by omega) (by omega) h;have h3:=zf8 knR zeZ rs [knT0,knT1] ts AP AT cP cT 2 s s rfl rfl (by omega) zkc h2 (Nat.le_refl _) L (fun a b ha _=>hL a b (by omega)) knF zlv zeP 0 1 q w (by omega) (by omega) h;rw [hov] at h1;rw [hme] at h3;refine ⟨h1.mono ?_,h3.mono ?_⟩
 · rintro e w' ⟨q',⟨A,c,A',c',rfl,hr,_⟩,hs,hk⟩;exact ⟨A,A',c,c',q',rfl,hr,hs,hk⟩
 · rintro e w' ⟨q',⟨A,c,A',c',rfl,_⟩,hs,hk⟩;exact ⟨A,A',c,c',rfl,hk⟩
theorem zrq (w:World) (h2:2≤w.heap.size) (hv:VarM w) (he:ErrT w):Calls Tryz.prog 7 #[] w fun e w'=>e = .returned (.bool true)∧Below w.heap.size w w':=by
 obtain ⟨z,hz⟩:∃z,w.heap.size=z:=⟨_,rfl⟩;have hc1:(convert 58 58 (.slice (some ⟨z+1,0,none⟩) 2 2)).run Tryz.prog ((w.alloc (.cells #[.int .i64 0] 3)).alloc (.cells #[.int .u8 120,.int .u8 10] 5)) = .ok (.slice (some ⟨z+1,0,none⟩) 2 2) ((w.alloc (.cells #[.int .i64 0] 3)).alloc (.cells #[.int .u8 120,.int .u8 10] 5 (2,3))):=zhH _ #[.int .u8 120,.int .u8 10] 2 2 (z+1) (by simp;omega);have hc2:(convert 58 58 (.slice (some ⟨z+1+1+1+1+1,0,none⟩) 2 2)).run Tryz.prog ((((((w.alloc (.cells #[.int .i64 0] 3)).alloc (.cells #[.int .u8 120,.int .u8 10] 5 (2,3))).alloc (.cells #[.slice (some ⟨z+1,0,none⟩) 2 2] 58)).alloc (.cells #[.int .i64 0] 3)).alloc (.cells #[.int .i64 1] 3)).alloc (.cells #[.int .u8 121,.int .u8 10] 5)) = .ok (.slice (some ⟨z+1+1+1+1+1,0,none⟩) 2 2) ((((((w.alloc (.cells #[.int .i64 0] 3)).alloc (.cells #[.int .u8 120,.int .u8 10] 5 (2,3))).alloc (.cells #[.slice (some ⟨z+1,0,none⟩) 2 2] 58)).alloc (.cells #[.int .i64 0] 3)).alloc (.cells #[.int .i64 1] 3)).alloc (.cells #[.int .u8 121,.int .u8 10] 5 (2,3))):=zhH _ #[.int .u8 121,.int .u8 10] 2 2 (z+1+1+1+1+1) (by simp;omega);have hsl:(SlSt 2 #[(0,.agg #[.slice none 0 0,.slice (some ⟨z,0,none⟩) 1 1,.slice (some ⟨z+1+1,0,none⟩) 1 1]),(1,.agg #[.slice (some ⟨z+1+1+1,0,none⟩) 1 1,.slice (some ⟨z+1+1+1+1,0,none⟩) 1 1,.slice (some ⟨z+1+1+1+1+1+1,0,none⟩) 1 1])]).run Tryz.prog (((((((w.alloc (.cells #[.int .i64 0] 3)).alloc (.cells #[.int .u8 120,.int .u8 10] 5 (2,3))).alloc (.cells #[.slice (some ⟨z+1,0,none⟩) 2 2] 58)).alloc (.cells #[.int .i64 0] 3)).alloc (.cells #[.int .i64 1] 3)).alloc (.cells #[.int .u8 121,.int .u8 10] 5 (2,3))).alloc (.cells #[.slice (some ⟨z+1+1+1+1+1,0,none⟩) 2 2] 58)) = .ok (.slice (some ⟨z+7,0,none⟩) 2 2) (knW w z):=by
  unfold SlSt;rw [zgF zst zpZ rfl rfl rfl (by omega)];have:(((((((w.alloc (.cells #[.int .i64 0] 3)).alloc (.cells #[.int .u8 120,.int .u8 10] 5 (2,3))).alloc (.cells #[.slice (some ⟨z+1,0,none⟩) 2 2] 58)).alloc (.cells #[.int .i64 0] 3)).alloc (.cells #[.int .i64 1] 3)).alloc (.cells #[.int .u8 121,.int .u8 10] 5 (2,3))).alloc (.cells #[.slice (some ⟨z+1+1+1+1+1,0,none⟩) 2 2] 58)).heap.size=z+7:=by simp;omega
  rw [this];rfl
 have HB:=zz (zmj w z hz);have hsz:=zhC w z hz;have ht:=zjy knS (knV z) (some ⟨z+7,0,none⟩) 2 2 (knW w z).heap.size 2 rfl rfl (knW w z) (Nat.le_refl _) (zqx w z hz);rw [zfO,zik] at ht;have HT:=zz ht;have HVE:=zz (And.intro hv he);have HSZ:=zz hsz;rw [hz] at h2 ⊢;clear ht hv he hsz;go_enter Tryz.func7,Tryz.ntmps7
 go_upto_region 2 with (go_at_call 8;(with_reducible refine HT.out.mono ?_);rintro _ w1 ⟨s,hh,g,AP,AT,cP,cT,rs,ts,rfl,hsrc,hrw,htr,hhi,hsz1,hbl,_⟩;have HSRC:=zz hsrc;have HRW:=zz hrw;have HTR:=zz htr;have HB1:=zz hbl;have HS1:=zz hsz1;clear hsrc hrw htr hhi hsz1 hbl)
 have hbt:Below z w w1:=HB.out.trans (HB1.out.mono (by rw [HSZ.out];omega));have hbt':Below w.heap.size w w1:=by rw [hz];exact hbt
 have hs1:=HS1.out;rw [HSZ.out] at hs1;have hsi:SrcI knR rs [knT0,knT1] ts AP AT cP cT 2 s s 0 w1:=⟨HSRC.out,HRW.out,HTR.out,HVE.out.1.below hbt' HVE.out.1.pos,by
  have:=HVE.out.2;unfold ErrT at this ⊢;exact (hbt'.cell (p:=⟨0,0,none⟩) (World.block_lt_of_cell? w _ this)).trans this⟩
 have HK1:=zz (fun W (hW:Below w1.heap.size w1 W)=>(zid rs ts AP AT cP cT s (by omega) 0 W (hsi.below hW (Nat.le_refl _))).1);have HID0:=zz (show ∀W:World,Calls Tryz.prog 9 #[.int .i64 0] W (fun e w'=>e = .returned (idV (idN 0))∧Below W.heap.size W w') from fun W=>zbW 0 (by omega) W);have HID1:=zz (show ∀W:World,Calls Tryz.prog 9 #[.int .i64 1] W (fun e w'=>e = .returned (idV (idN 1))∧Below W.heap.size W w') from fun W=>zbW 1 (by omega) W);have HBT:=zz hbt;have hzs:z≤s:=by omega
 have hs1w:s<w1.heap.size:=HSRC.out.lt;have hz1w:z≤w1.heap.size:=by omega
 clear hbt hbt' hs1 hsi HSRC HRW HTR HB1 HS1 HT HVE hc1 hc2 hsl HB HSZ hz
 go_upto_region 3 with (first
  | (go_at_call 9;(with_reducible refine (HID0.out _).mono ?_);rintro _ w2 ⟨rfl,hb2⟩;have HB2:=zz hb2;clear hb2)
  | (go_at_call 9;(with_reducible refine (HID1.out _).mono ?_);rintro _ w3 ⟨rfl,hb3⟩;have HB3:=zz (HB2.out.trans (hb3.mono HB2.out.size));clear hb3)
  | (go_at_call 11;(with_reducible refine (HK1.out _ HB3.out).mono ?_);rintro _ w4 ⟨A4,A4',c4,c4',q4,rfl,hr4,hs4,hk4⟩;have HR4:=zz hr4;have HS4:=zz hs4;have HK4:=zz hk4;clear hr4 hs4 hk4))
 have hsl:s<w3.heap.size:=Nat.lt_of_lt_of_le hs1w HB3.out.size;have HBU:=zz (show Below z w w4 from (HBT.out.trans (HB3.out.mono hz1w)).trans (HK4.out.below (by omega) (fun i hi q=>by unfold Only at q;omega)));have HM4:=zz (fun W (hW:Below w4.heap.size w4 W)=>(zid rs ts AP AT cP cT s (by omega) q4 W (HS4.out.below hW (Nat.le_refl _))).2);clear HBT HB2 HB3 HK4 HK1 hsl
 go_upto_region 4 with (first
  | (go_at_call 9;(with_reducible refine (HID0.out _).mono ?_);rintro _ w5 ⟨rfl,hb5⟩;have HB5:=zz hb5;clear hb5)
  | (go_at_call 9;(with_reducible refine (HID1.out _).mono ?_);rintro _ w6 ⟨rfl,hb6⟩;have HB6:=zz (HB5.out.trans (hb6.mono HB5.out.size));clear hb6)
  | (go_at_call 12;(with_reducible refine (HM4.out _ HB6.out).mono ?_);rintro _ w7 ⟨A7,A7',c7,c7',rfl,hk7⟩;have HK7:=zz hk7;clear hk7))
 have hs4:s<w4.heap.size:=HS4.out.src.lt;have hs6:s<w6.heap.size:=Nat.lt_of_lt_of_le hs4 HB6.out.size;have hs6i:=HS4.out.below HB6.out (Nat.le_refl _);have hr7:=zfD ((HR4.out.below HB6.out)) HB6.out.size HK7.out hs6i.no;obtain ⟨gA,oA,rfl,hgA,hcA⟩:=hr7.at0 (by omega) (by omega);have hld:=zqt (w:=w7) (g:=gA) (off:=oA) hcA (i:=0) (x:=0) rfl;rw [Nat.zero_mul,Nat.add_zero] at hld;have hg7:gA<w7.heap.size:=Nat.lt_of_lt_of_le hgA (Nat.le_trans HB6.out.size HK7.out.size);have HLD:=zz (fun (W:World) (hW:Below w7.heap.size w7 W)=>(show W.rangeAt gA oA (idL (idN 0)) from fun j u hj=>(hW.cell (p:=⟨gA,oA+j,none⟩) hg7).trans (hcA j u (by simpa using hj))));have d1:=HLD.out w7.drew (Below.refl _ w7).drew;have E:∀W:World,(binOp .eql 33 (.agg (idL (idN 0)).toArray) (idV (idN 0))).run Tryz.prog W = .ok (.bool true) W:=fun W=>(zcz W (idN 0) (idN 0)).trans (by simp);have G:∀(a b:Operand) (W:World),(eqGuard .eql 33 a b (.agg (idL (idN 0)).toArray) (idV (idN 0))).run Tryz.prog W = .ok () W:=fun (a b:Operand) (W:World)=>zdl .eql a b (idN 0) (idN 0) W;have hb67:Below z w6 w7:=HK7.out.below (by omega) (fun i hi q=>by unfold Only at q;omega);have hbu:Below z w w7:=(HBU.out.trans (HB6.out.mono (by omega))).trans hb67;have HBV:=zz hbu;have hz7:z≤w7.heap.size:=Nat.le_trans (by omega) HK7.out.size;clear hr7 hcA hld hs6i hbu hb67 HM4 HBU HR4 HS4 HB5 HB6 HK7 HID1;have hu:=Tryz.underlying33;have hi:(Tryz.prog.info? 33).map (·.size)=some (idL (idN 0)).length:=by rw [zae];exact zas
 go_region_held3 (fun W=>W.rangeAt gA oA (idL (idN 0))) (first|(exact d1)|(exact e8)|go_keep) (first
  | (go_simp;go_at_call 9;(with_reducible refine (HID0.out w7.drew).mono ?_);rintro _ w8 ⟨rfl,hb8⟩;have HB8:=zz hb8;have e8:=HLD.out w8 ((Below.refl _ w7).drew.trans hb8);clear hb8))
 all_goals
  go_wp2_with fail
  have HB9:=zz (show Below z w w8 from HBV.out.drew.trans (HB8.out.mono hz7))
  go_ret
  exact ⟨rfl,HB9.out⟩
end
section
open Go.RowKit
def AbU (t:List FileD) (e:Ending) (w':World):Prop:=∃A c A' c',e = .returned (.tuple #[.slice A t.length c,.slice A' 0 c',.nilIface])∧FI w' w'.heap.size A t
theorem zoR {R:Rw} (hw:WfR R) {L:Nat→Nat→List Nat} (hL:∀a b,a<200→BaseL R a b (L a b)) {Tf:Nat→List FileD} (hfine:∀n,z7 (Tf n)) {n m:Nat} (hn:n<200) (hm:m<200) (hr:Rch R m n) :zc9 Tf n m (zM L Tf 40 100 n m) = .ok (Tf m,[])∧zc9 Tf m n (zM L Tf 40 100 m n) = .ok (Tf m,[]):=by
 have h1:L n m=[n]:=zft hw hr (hL n m hn);have h2:L m n=[n]:=zft hw hr (hL m n hm).comm;constructor
 · unfold zM;rw [h1];exact zij (hfine n).check (hfine m).check
 · unfold zM;rw [h2];exact zl0 (hfine n).check (hfine m).check
theorem zrZ (R:Rw) (hw:WfR R) (rs ts:List SlA) (T:List (List FileD)) (AP AT:Option Addr) (cP cT N s:Nat) (hN:R.length=N) (hTN:T.length=N) (hN2:N≤16) (hp4:∀x,(par R x).length≤4) (h2s:2≤s) (hT:∀t∈T,z7 t) (n m:Nat) (hn:n<N) (hm:m<N) (hr:Rch R m n) (t:List FileD) (ht:T[m]? = some t) :(∀q W,SrcI R rs T ts AP AT cP cT N s s q W→Calls Tryz.prog 12 #[.iface 24 (.pointer (some ⟨s,0,none⟩)),idV (idN n),idV (idN m)] W (fun e w'=>∃q',AbU t e w'∧SrcI R rs T ts AP AT cP cT N s s q' w'∧Keep (Only s) W w')) ∧(∀q W,SrcI R rs T ts AP AT cP cT N s s q W→Calls Tryz.prog 12 #[.iface 24 (.pointer (some ⟨s,0,none⟩)),idV (idN m),idV (idN n)] W (fun e w'=>∃q',AbU t e w'∧SrcI R rs T ts AP AT cP cT N s s q' w'∧Keep (Only s) W w')):=by
 obtain ⟨L,hL,_⟩:=zhp hw;have hat:∀n:Nat,n<N→T[n]? = some ((T[n]?).getD []):=fun n hn=>by rw [List.getElem?_eq_getElem (by omega)];rfl
 have hfine:∀n:Nat,z7 ((T[n]?).getD []):=fun n=>by
  cases e:T[n]? with
  | none=>exact z7.nil_
  | some t=>exact hT t (List.mem_of_getElem? e)
 obtain ⟨o1,o2⟩:=zoR hw hL hfine (by omega) (by omega) hr;have e:(T[m]?).getD []=t:=by rw [ht];rfl
 rw [e] at o1 o2
 refine ⟨fun q W h=>?_,fun q W h=>?_⟩
 · have h3:=zf8 R hw rs T ts AP AT cP cT N s s hN hTN hN2 hp4 h2s (Nat.le_refl _) L (fun a b ha _=>hL a b (by omega)) _ hat hfine n m q W hn hm h;rw [o1] at h3;refine h3.mono ?_;rintro e w' ⟨q',⟨A,c,A',c',he,hf,_⟩,h'⟩;exact ⟨q',⟨A,c,A',c',he,hf⟩,h'⟩
 · have h3:=zf8 R hw rs T ts AP AT cP cT N s s hN hTN hN2 hp4 h2s (Nat.le_refl _) L (fun a b ha _=>hL a b (by omega)) _ hat hfine m n q W hm hn h;rw [o2] at h3;refine h3.mono ?_;rintro e w' ⟨q',⟨A,c,A',c',he,hf,_⟩,h'⟩;exact ⟨q',⟨A,c,A',c',he,hf⟩,h'⟩
end
section
open Go.RowKit
attribute [local go_sem ↓] za6
theorem zmu (ss:List StepD) (vs:List StV) (A:Option Addr) (c M B:Nat) (i j:Int) (hM:ss.length=M) (w:World) (hB:B≤w.heap.size) (hs:StI w B A ss vs) (h2:2≤w.heap.size) (hv:VarM w) (he:ErrT w) :Calls Tryz.prog 4 #[.slice A M c,.int .i64 i,.int .i64 j] w fun e w'=>e = .returned (.bool true)∧Below w.heap.size w w':=by
 obtain ⟨N,hN⟩:∃N,N=min M 16:=⟨_,rfl⟩;obtain ⟨z,hz⟩:∃z,w.heap.size=z:=⟨_,rfl⟩;have HKN:=zz (zrq w h2 hv he);have HT:=zz (fun W (hW:Below w.heap.size w W)=>zjy ss vs A c M B N hM hN W (Nat.le_trans hB hW.size) (hs.below (hW.mono hB)));have HVE:=zz (And.intro hv he);have HZ:=zz hz;have hN16:N≤16:=by omega
 have HNM:=zz (And.intro hM hN);rw [hz] at h2 ⊢;clear hs hv he hB hz hM hN;go_enter Tryz.func4,Tryz.ntmps4
 go_upto_region 4 with (first
  | (go_at_call 7;(with_reducible refine HKN.out.mono ?_);rintro _ w1 ⟨rfl,hb1⟩;have HB1:=zz hb1;clear hb1)
  | (go_at_call 8;(with_reducible refine (HT.out w1 HB1.out).mono ?_);rintro _ w2 ⟨s,hh,g,AP,AT,cP,cT,rs,ts,rfl,hsrc,hrw,htr,hhi,hsz1,hbl,GA,Gc,Gv,hgr⟩;have HGR:=zz hgr;have HSRC:=zz hsrc;have HRW:=zz hrw;have HTR:=zz htr;have HHI:=zz hhi;have HB2:=zz (HB1.out.trans (hbl.mono HB1.out.size));have HS1:=zz (Nat.le_trans HB1.out.size hsz1);clear hsrc hrw htr hhi hsz1 hbl hgr))
 have hbt:=HB2.out;have hs1:z≤s:=by rw [←HZ.out];exact HS1.out
 have h5:=HHI.out.cell 1;simp at h5;have HV2:=zz (And.intro (HVE.out.1.after hbt) (HVE.out.2.after hbt));clear HKN HT HVE HB1 HS1;rw [HZ.out] at hbt;have HBT:=zz hbt;clear hbt HB2;by_cases h0:N=0
 · subst h0
   go_wp2_with fail
   go_ret
   exact ⟨rfl,HBT.out⟩
 · have h0z:((N:Int)==0)=false:=beq_eq_false_iff_ne.2 (by omega);have h0y:¬(N:Int)=0:=by omega
   obtain ⟨a,ha,hai⟩:∃a:Nat,a<N∧i%(N:Int)=(a:Int):=⟨(i%(N:Int)).toNat,by have h1:=Int.emod_nonneg i (show (N:Int)≠0 by omega);have h2:=Int.emod_lt_of_pos i (show (0:Int)<N by omega);omega,by have h1:=Int.emod_nonneg i (show (N:Int)≠0 by omega);omega⟩
   obtain ⟨b,hb,hbj⟩:∃b:Nat,b<N∧j%(N:Int)=(b:Int):=⟨(j%(N:Int)).toNat,by have h1:=Int.emod_nonneg j (show (N:Int)≠0 by omega);have h2:=Int.emod_lt_of_pos j (show (0:Int)<N by omega);omega,by have h1:=Int.emod_nonneg j (show (N:Int)≠0 by omega);omega⟩
   have HWI:=zz (show ∀W,Calls Tryz.prog 10 #[.int .i64 i,.int .i64 (N:Int)] W (fun e w'=>e = .returned (.int .i64 (a:Int))∧W=w') from fun W=>by have:=zfN i N W (by omega) (by omega);rwa [hai] at this);have HWJ:=zz (show ∀W,Calls Tryz.prog 10 #[.int .i64 j,.int .i64 (N:Int)] W (fun e w'=>e = .returned (.int .i64 (b:Int))∧W=w') from fun W=>by have:=zfN j N W (by omega) (by omega);rwa [hbj] at this);have HIA:=zz (fun W=>zbW a (by omega) W);have HIB:=zz (fun W=>zbW b (by omega) W);have d5:w2.drew.cell? ⟨hh,1,none⟩=some (.slice AT N cT):=h5;have hRL:(zau ((ss.take 16).map (·.pars))).length=N:=by rw [zjj,List.length_map,List.length_take];have:=HNM.out;omega
   have HRL:=zz hRL;have HAB:=zz (fun W (hW:Below w2.heap.size w2 W)=>zso (zau ((ss.take 16).map (·.pars))) (zeR _) N g w2.heap.size GA Gc Gv HRL.out (by omega) (zeo _) a b ha hb W hW.size (HGR.out.below hW));have HH0:=zz (fun (W:World) (hW:Below w2.heap.size w2 W)=>(((HHI.out.below hW HHI.out.lt).cell 0).trans rfl:W.cell? ⟨hh,0,none⟩=some (.pointer (some ⟨g,0,none⟩))));clear hai hbj hRL;go_upto_region 6 with fail
   go_cut [9,10] (fun s9 s10 wx=>s9 = .int .i64 (a:Nat)∧s10 = .int .i64 (b:Nat)∧wx=w2.drew)
   case first =>
    go_region_law (first
     | (go_simp;go_at_call 10;(with_reducible refine (HWI.out _).mono ?_);rintro _ w3 ⟨rfl,rfl⟩)
     | (go_simp;go_at_call 10;(with_reducible refine (HWJ.out _).mono ?_);rintro _ w6 ⟨rfl,rfl⟩))
    all_goals
     go_wp2_with fail
     go_meet
     exact ⟨rfl,rfl,rfl⟩
   case rest =>
    obtain ⟨rfl,rfl,rfl⟩:=hcut;clear HWI HWJ d5 h5;have hD:Below w2.heap.size w2 w2.drew:=Below.drew (Below.refl w2.heap.size w2);have HD:=zz hD;generalize w2.drew=w3 at *;have e0:=HH0.out w3.drew HD.out.drew;go_upto_region 7 with fail
    go_cut [11] (fun s11 wx=>∃u:Bool,s11 = .bool u∧Hid (u=true↔Rch (zau ((ss.take 16).map (·.pars))) b a)∧Hid (Below w2.heap.size w2 wx))
    case first =>
     go_region_law (first
      | (go_simp;go_at_call 9;(with_reducible refine (HIA.out w3.drew).mono ?_);rintro _ w5 ⟨rfl,hb5⟩;have hb5c:=HD.out.drew.trans (hb5.mono HD.out.drew.size);have HB5:=zz hb5c;have e5:=HH0.out w5 hb5c;clear hb5 hb5c)
      | (go_simp;go_at_call 9;(with_reducible refine (HIB.out w5).mono ?_);rintro _ w7 ⟨rfl,hb7⟩;have hb7c:=HB5.out.trans (hb7.mono HB5.out.size);have HB7:=zz hb7c;have e7:=HH0.out w7 hb7c;clear hb7 hb7c)
      | (go_simp;go_at_call 16;(with_reducible refine (HAB.out w7 HB7.out).mono ?_);rintro _ w8 ⟨u,rfl,hu,hb8⟩;have HU:=zz hu;have HB8:=zz (HB7.out.trans (hb8.mono HB7.out.size));clear hu hb8))
     all_goals
      go_wp2_with fail
      go_meet
      exact ⟨_,rfl,HU,HB8⟩
    case rest =>
     obtain ⟨u,rfl,HU,HB8⟩:=hcut;generalize wc=w8 at *;clear HD hD HAB HH0 e0;go_upto_if 59 with fail
     go_cut [10] (fun s10 wx=>∃m:Nat,s10 = .int .i64 (m:Nat)∧m<N∧Hid (Rch (zau ((ss.take 16).map (·.pars))) m a)∧wx=w8)
     case first =>
      cases u with
      | true =>
       go_wp2_with fail
       go_meet
       exact ⟨b,rfl,hb,zz (HU.out.1 (by simp)),rfl⟩
      | false =>
       go_wp2_with fail
       go_meet
       exact ⟨a,rfl,ha,zz (Rch.refl _),rfl⟩
     case rest =>
      obtain ⟨m,rfl,hm,HR,rfl⟩:=hcut;generalize wc=w9 at *;have hsi:SrcI (zau ((ss.take 16).map (·.pars))) rs (zaT (zau ((ss.take 16).map (·.pars))) ss N) ts AP AT cP cT N s s 0 w2:=⟨HSRC.out,HRW.out,HTR.out,HV2.out.1,HV2.out.2⟩;have hsw2:s<w2.heap.size:=hsi.src.lt;obtain ⟨t,ht⟩:∃t,(zaT (zau ((ss.take 16).map (·.pars))) ss N)[m]? = some t:=⟨_,List.getElem?_eq_getElem (by rw [zcX];exact hm)⟩;obtain ⟨c1,c2⟩:=zrZ _ (zeR _) rs ts _ AP AT cP cT N s HRL.out (zcX _ _ _) hN16 (zeo _) (by omega) (zdk _ _ _) a m ha hm HR.out t ht;have htl:t.length≤1000000000000:=Nat.le_trans (zdk _ _ _ t (List.mem_of_getElem? ht)).2 (by omega);have hhs:¬Only s hh:=fun e=>by
       unfold Only at e;subst e;have h1:=HSRC.out;have h2:=HHI.out;unfold Blk at h1 h2;rw [h1] at h2;injection h2 with h2;injection h2 with _ h2;exact absurd h2 (by decide)
      have HC1:=zz c1;have HC2:=zz c2;have HT:=zz ht;have HTL:=zz htl;have HHS:=zz hhs;have HIM:=zz (fun W=>zbW m (by omega) W);have HS9:=zz (hsi.below HB8.out (Nat.le_refl _));have HH9:=zz (HHI.out.below HB8.out HHI.out.lt);have HBZ:=zz (HBT.out.trans (HB8.out.mono (by omega)));clear c1 c2 ht htl hhs hsi HSRC HRW HTR HHI HV2 HBT HB8 HGR HR HU HIB HRL
      go_upto_region 11 with (first
       | (go_at_call 9;(with_reducible refine (HIA.out _).mono ?_);rintro _ w10 ⟨rfl,hb10⟩;have HB10:=zz hb10;clear hb10)
       | (go_at_call 9;(with_reducible refine (HIM.out _).mono ?_);rintro _ w11 ⟨rfl,hb11⟩;have HB11:=zz (HB10.out.trans (hb11.mono HB10.out.size));clear hb11)
       | (go_at_call 12;(with_reducible refine (HC1.out _ w11 (HS9.out.below HB11.out (Nat.le_refl _))).mono ?_);rintro _ w12 ⟨q12,⟨A3,k3,B3,j3,rfl,hf3⟩,hs3,hk3⟩;have HF3:=zz hf3;have HS12:=zz hs3;have HK12:=zz hk3;clear hf3 hs3 hk3))
      have HH12:=zz ((HH9.out.below HB11.out HH9.out.lt).keep HK12.out HHS.out);have hz11:=HB11.out.size;have hz12:=HK12.out.size;have HBY:=zz ((HBZ.out.trans (HB11.out.mono (by have:=HBZ.out.size;have:=HZ.out;omega))).trans (HK12.out.below (by have:=HBZ.out.size;have:=HZ.out;omega) (fun i hi q=>by unfold Only at q;omega)));clear HBZ HB10 HB11 HK12 HH9 HS9 HC1
      go_upto_region 12 with (first
       | (go_at_call 9;(with_reducible refine (HIM.out _).mono ?_);rintro _ w13 ⟨rfl,hb13⟩;have HB13:=zz hb13;clear hb13)
       | (go_at_call 9;(with_reducible refine (HIA.out _).mono ?_);rintro _ w14 ⟨rfl,hb14⟩;have HB14:=zz (HB13.out.trans (hb14.mono HB13.out.size));clear hb14)
       | (go_at_call 12;(with_reducible refine (HC2.out _ w14 (HS12.out.below HB14.out (Nat.le_refl _))).mono ?_);rintro _ w15 ⟨q15,⟨A5,k5,B5,j5,rfl,hf5⟩,hs5,hk5⟩;have HF5:=zz hf5;have HS15:=zz hs5;have HK15:=zz hk5;clear hf5 hs5 hk5))
      have hz14:=HB14.out.size;have hz15:=HK15.out.size;have hh15:=(HH12.out.below HB14.out HH12.out.lt).keep HK15.out HHS.out;have HBX:=zz ((HBY.out.trans (HB14.out.mono (by have:=HBY.out.size;have:=HZ.out;omega))).trans (HK15.out.below (by have:=HBY.out.size;have:=HZ.out;omega) (fun i hi q=>by unfold Only at q;omega)));have hf3:=(((HF3.out.below HB14.out).more hz14).far (Nat.le_refl _) HK15.out (HS12.out.below HB14.out (Nat.le_refl _)).no).more hz15;have htr:=HS15.out.trees;obtain ⟨r,hr⟩:∃r,ts[m]? = some r:=⟨_,List.getElem?_eq_getElem (by rw [htr.len,zcX];exact hm)⟩;have hrow:=htr.row;rw [zcX] at hrow;obtain ⟨gT,oT,rfl,hgT,hcT⟩:=hrow.at0 (by omega) (by omega);have hcm:=hcT m (slT t r) (by rw [List.getElem?_map,(List.getElem?_zip_eq_some (z:=(t,r))).2 ⟨HT.out,hr⟩];rfl);unfold slT at hcm;have hfr:=htr.each m t r HT.out hr;have HTC:=zz (fun W (hW:Below w15.heap.size w15 W)=>And.intro (((hh15.below hW hh15.lt).cell 1).trans rfl:W.cell? ⟨hh,1,none⟩=some (.slice (some ⟨gT,oT,none⟩) N cT)) ((hW.cell (p:=⟨gT,oT+m,none⟩) hgT).trans hcm));have HSF:=zz (fun W (hW:Below w15.heap.size w15 W)=>by have:=zjl t t A3 r.1 k3 r.2 w15.heap.size W hW.size (hf3.below hW) (hfr.below hW) HTL.out;rwa [decide_eq_true rfl] at this);have HSG:=zz (fun W (hW:Below w15.heap.size w15 W)=>by have:=zjl t t A5 r.1 k5 r.2 w15.heap.size W hW.size (HF5.out.below hW) (hfr.below hW) HTL.out;rwa [decide_eq_true rfl] at this);have hmN:(m:Int)<(N:Int):=by omega
      have HBW:=zz (Below.refl w15.heap.size w15);obtain ⟨e1,e2⟩:=HTC.out w15 HBW.out;clear hf3 htr hrow hcT hcm hfr hr hh15 HF3 HF5 HS12 HS15 HK15 HB13 HB14 HC2 HIA HIM HBY;have hzx:z≤w15.heap.size:=by have:=HBX.out.size;have:=HZ.out;omega
      go_wp2_with (first
       | (go_at_call 14;(with_reducible refine (HSF.out w15 HBW.out).mono ?_);rintro _ w16 ⟨rfl,hb16⟩;have hb16c:=HBW.out.trans (hb16.mono HBW.out.size);have HB16:=zz hb16c;obtain ⟨f1,f2⟩:=HTC.out w16 hb16c;clear hb16 hb16c)
       | (go_at_call 14;(with_reducible refine (HSG.out w16 HB16.out).mono ?_);rintro _ w17 ⟨rfl,hb17⟩;have HB17:=zz (HB16.out.trans (hb17.mono HB16.out.size));clear hb17))
      go_ret
      exact ⟨rfl,HBX.out.trans (HB17.out.mono hzx)⟩
end
section
open Go.ChangeShapes Go.WideShapes Go.ChangeAt Go.RowKit
theorem zr7 (os:Os) {H:Type} (enc:TypeId×Value→H):DataW.whole enc Tryz.prog ((zcC os).forCall (fun _ _=>0) ⟨#[],#[.slice none 0 0,.int .i64 0,.int .i64 0],[]⟩).memory Tryz.f4.params.toList Rows.baseAboveSpec.vars false (#[.slice none 0 0,.int .i64 0,.int .i64 0]:Array Value).toList 8=some ([.nil,.lit (.int .i64 0),.lit (.int .i64 0)],[],[]):=by kernel_rfl
theorem zqS (os:Os) (started:os.Started) (H:Type) (enc:TypeId×Value→H) (F:Stop.Interp) :ReturnsInHanded {} Tryz.checked os 4 .any ((OpenSpec.ofChange Rows.baseAboveSpec).preRow enc Tryz.prog Tryz.f4 Rows.baseAboveRow.domain false Rows.baseAboveRow.laid) (((OpenSpec.ofChange Rows.baseAboveSpec).at F).post enc Tryz.prog Tryz.f4 false true false false):=by
 refine returnsInHanded_of_row (C:=Tryz.checked) (s:=OpenSpec.ofChange Rows.baseAboveSpec) own started (by kernel_rfl) Tryz.func4
  (witness_row_at (enc:=enc) (C:=Tryz.checked) false (zcC os) #[.slice none 0 0,.int .i64 0,.int .i64 0] (zsy _) (znO os _) (zrp os _) (by kernel_rfl)
   (OpenSpec.preRow_of_cond 8 (zr7 os enc) (by kernel_rfl) (fun k hk=>by cases hk) (by kernel_rfl) (zpu os _))) ?_
 intro W base args ds gs before hval0 hW hx1 hcond hx3 hL hx4 hx5;have hval:∀(j:Nat) t v,Tryz.f4.params[j]? = some t→args[j]? = some v→Value.okWide Tryz.prog W .any base t v:=hval0;have hW':=hW;obtain ⟨p,q,hA0,hV,rfl,hfz,hnd⟩:=hW;have hA:DataW.TrodAll enc Tryz.prog W 0 (fun _=>true) true Tryz.f4.params.toList args.toList ds p:=hA0;rw [Tryz.params4] at hA hval;obtain ⟨v0,vs0,d0,ds0,p0,q0,hargs,rfl,rfl,h0,r0⟩:=trodAll_cons hA;obtain ⟨v1,vs1,d1,ds1,p1,q1,rfl,rfl,rfl,h1,r1⟩:=trodAll_cons r0;obtain ⟨v2,vs2,d2,ds2,p2,q2,rfl,rfl,rfl,h2,r2⟩:=trodAll_cons r1;obtain ⟨rfl,rfl,rfl⟩:=trodAll_nil r2;obtain rfl:args=#[v0,v1,v2]:=by cases args;simp_all
 obtain ⟨rfl,rfl⟩:=trodVars_none hV;have k0:=h0;have lt0:∀x∈p0,x.block<W.heap.size:=by obtain ⟨m,hm⟩:=k0;exact DataW.trod_lt m _ _ _ hm
 have k1:=h1;have lt1:∀x∈p1,x.block<W.heap.size:=by obtain ⟨m,hm⟩:=k1;exact DataW.trod_lt m _ _ _ hm
 have k2:=h2;have lt2:∀x∈p2,x.block<W.heap.size:=by obtain ⟨m,hm⟩:=k2;exact DataW.trod_lt m _ _ _ hm
 obtain ⟨a0,len0,cap0,rfl⟩:=okWide_slice Tryz.underlying22 (hval 0 22 v0 rfl rfl);obtain ⟨l0,sv0,hl0,hr0,hc0,hm0⟩:=znt h0;obtain ⟨f1,rfl,_,_,w1⟩:=open_int Tryz.underlying3 (hval 1 3 v1 rfl rfl) h1;obtain ⟨f2,rfl,_,_,w2⟩:=open_int Tryz.underlying3 (hval 2 3 v2 rfl rfl) h2;clear hA0 hval0;refine (zmu l0 sv0 a0 cap0 len0 W.heap.size f1 f2 hl0 W (Nat.le_refl _) hr0 (zhy hx4).pos (zhy hx4) (zoa hL)).mono fun e W' ⟨he,bel⟩=>?_;subst he;exact ⟨_,rfl,_,_,_,[],_,[],hW',trodAll_mk1 (shut_bool Tryz.underlying4 _),(trodAll_cons_mk (Below.trod zgp (by kernel_rfl) (of_decide_eq_true (by kernel_rfl)) k0 bel lt0) (trodAll_cons_mk (Below.trod zgp (by kernel_rfl) (of_decide_eq_true (by kernel_rfl)) k1 bel lt1) (trodAll_cons_mk (Below.trod zgp (by kernel_rfl) (of_decide_eq_true (by kernel_rfl)) k2 bel lt2) trodAll_mk0))),rfl,bel.frame _,fun h=>by cases h⟩
theorem zne:joinedFacts Tryz.pinned.checked.prog 4 Tryz.f4 (OpenSpec.ofChange Rows.baseAboveSpec).bare Rows.baseAboveRow=true:=by
 unfold joinedFacts
 repeat (refine Bool.and_eq_true_iff.2 ⟨?_,?_⟩)
 all_goals (as_aux_lemma=>kernel_rfl)
theorem zsF:Rows.BaseAboveSaid :=
 OpenClaim.holds_of_cond 4 Tryz.f4 rfl rfl rfl rfl rfl rfl rfl ⟨rfl,rfl,rfl,rfl,rfl⟩ rfl rfl rfl rfl rfl (by kernel_rfl) Tryz.func4 zne
  (of_decide_eq_true (by kernel_rfl)) (by unfold Func.isWrapper;first|(rw [if_pos (by decide +kernel)];kernel_rfl)|(rw [if_neg (by decide +kernel)];exact ⟨rfl,rfl⟩))
  (fun os started H enc _ F=>by rw [OpenClaim.pre_eq_preRow];exact zqS os started H enc F)
theorem zsV (f:FuncId) (fn:Func) (hf:Tryz.pinned.checked.prog.funcNamed "selvage/selvagelaw18.BaseAbove" = some f) (hfn:Tryz.pinned.checked.prog.funcs[f]? = some fn) :
    true=Tryz.pinned.checked.prog.looks []∧∀(j:Nat) t,fn.params[j]? = some t→Tryz.pinned.checked.prog.wantsStandIn t=false:=by
 obtain rfl:f=4:=Option.some.inj ((show Tryz.prog.funcNamed "selvage/selvagelaw18.BaseAbove" = some 4 by kernel_rfl).symm.trans hf) |>.symm;obtain rfl:fn=Tryz.f4:=(Option.some.inj (Tryz.func4.symm.trans hfn)).symm;refine ⟨by kernel_rfl,fun j t ht=>?_⟩;rw [Tryz.params4] at ht;have hm:=Array.mem_of_getElem? ht;simp only [Array.mem_toList_iff.symm,List.mem_cons,List.not_mem_nil,or_false] at hm
 rcases hm with rfl|rfl|rfl
 · exact (show Tryz.prog.wantsStandIn 22=false by kernel_rfl)
 · exact (show Tryz.prog.wantsStandIn 3=false by kernel_rfl)
 · exact (show Tryz.prog.wantsStandIn 3=false by kernel_rfl)
theorem baseAbove_holds:Rows.BaseAboveCardSaid :=
 Claim7.holds_tied_plain_at .later [] _ _ _ _ zsF (fun _ h=>by cases h) (by kernel_rfl) (fun _ h=>by cases h) baseAbove_row_tie rfl ⟨rfl,rfl⟩ (by kernel_rfl) rfl zsV (by kernel_rfl)
#print axioms baseAbove_holds
end
end Go.Proofs.YtmkmbbjgepcioaaGreatDoor
