/- Contract of base's worker: its merge. No statement of the seat is proved here. -/
import Derived.Test.YtmkmbbjgepcioaaGreatDoorSAHq
import Derived.Test.YtmkmbbjgepcioaaGreatDoorSAGd
import Derived.Test.YtmkmbbjgepcioaaGreatDoorSA07
import Derived.Test.YtmkmbbjgepcioaaGreatDoorSAZw
import Derived.Lib.SlBytesConst
import Derived.BigRegion
import Derived.Test.YtmkmbbjgepcioaaGreatDoorSA16
import Derived.Test.YtmkmbbjgepcioaaGreatDoorSA28
import Derived.Deep.RegionHeld3
import Derived.Test.YtmkmbbjgepcioaaGreatDoorSA39
import Derived.Test.YtmkmbbjgepcioaaGreatDoorSAEc
import Derived.Test.YtmkmbbjgepcioaaGreatDoorSA38
import Derived.Test.YtmkmbbjgepcioaaGreatDoorSA29
import Derived.Test.YtmkmbbjgepcioaaGreatDoorSAZy
namespace Go.Proofs.YtmkmbbjgepcioaaGreatDoor
set_option maxHeartbeats 8000000
set_option maxRecDepth 100000
section
open Go.RowKit Go.Maps
def zel (x y:FileD):Bool:=x.p==y.p&&(x.k==y.k&&x.d==y.d)
theorem zrA (x y:FileD):zel x y=decide (x=y):=by
 unfold zel;rw [Bool.eq_iff_iff];simp only [Bool.and_eq_true,beq_iff_eq,decide_eq_true_eq]
 constructor
 · rintro ⟨h1,h2,h3⟩;cases x;cases y
   simp_all
 · rintro rfl;exact ⟨rfl,rfl,rfl⟩
theorem zmN {a b:List FileD} {k:Nat} {x y:FileD} (h:a.take k=b.take k) (hx:a[k]? = some x) (hy:b[k]? = some y):a.take (k+1)=b.take (k+1)↔x=y:=by
 rw [List.take_add_one,List.take_add_one,h,hx,hy];simp
attribute [local go_sem] zeP zeS zfr zfC
attribute [local go_sem ↓] ld_f
theorem znV (x y:FileD) (A C:Option Addr) (c d B:Nat) (w:World) (hB:B≤w.heap.size) (h1:ze w B 1 A x.d.length (x.d.map zh)) (h2:ze w B 1 C y.d.length (y.d.map zh)) :Calls Tryz.prog 27 #[.agg (za x A c),.agg (za y C d)] w fun e w'=>e = .returned (.bool (zel x y))∧Below w.heap.size w w':=by
 have hn:zel x y=(x.p==y.p&&(x.k==y.k&&x.d==y.d)):=rfl;rw [hn];have hb1:=(Blk.new w 70 (za x A c)).alloc (.cells (za y C d) 70);have hb2:=Blk.new (w.alloc (.cells (za x A c) 70)) 70 (za y C d);rw [show (w.alloc (.cells (za x A c) 70)).heap.size=w.heap.size+1 from by simp] at hb2;have hbl:Below w.heap.size w ((w.alloc (.cells (za x A c) 70)).alloc (.cells (za y C d) 70)):=((Below.refl _ w).alloc (Nat.le_refl _) _).alloc (by simp) _;have hr1:=h1.below (hbl.mono hB);have hr2:=h2.below (hbl.mono hB);have HBL:=zz hbl;clear h1 h2 hbl;go_enter Tryz.func27,Tryz.ntmps27
 go_upto_region 1 with (first|(refine zC rfl rfl (cs:=za x A c) rfl ?_)|(refine zC rfl rfl (cs:=za y C d) rfl ?_))
 generalize (w.alloc (.cells (za x A c) 70)).alloc (.cells (za y C d) 70)=w2 at *;have c0:=(hb1.cell 0).trans (show (za x A c)[0]? = some (strC x.p) from rfl);have c1:=(hb1.cell 1).trans (show (za x A c)[1]? = some (.int .i64 x.k) from rfl);have c2:=(hb1.cell 2).trans (show (za x A c)[2]? = some (.slice A x.d.length c) from rfl);have d0:=(hb2.cell 0).trans (show (za y C d)[0]? = some (strC y.p) from rfl);have d1:=(hb2.cell 1).trans (show (za y C d)[1]? = some (.int .i64 y.k) from rfl);have d2:=(hb2.cell 2).trans (show (za y C d)[2]? = some (.slice C y.d.length d) from rfl);have k1:(convert 58 9 (.slice A x.d.length c)).run Tryz.prog w2 = .ok (strC x.d) w2:=by
  rw [run_convert_bytes_string w2 58 9 5 A x.d.length c Tryz.underlying58 Tryz.underlying5 Tryz.underlying9,zer hr1];rfl
 have k2:(convert 58 9 (.slice C y.d.length d)).run Tryz.prog w2 = .ok (strC y.d) w2:=by
  rw [run_convert_bytes_string w2 58 9 5 C y.d.length d Tryz.underlying58 Tryz.underlying5 Tryz.underlying9,zer hr2];rfl
 clear hr1 hr2 hb1 hb2
 cases hp:(x.p==y.p) with
 | false =>
  go_wp2_with fail
  go_ret
  exact ⟨by rw [hp];rfl,HBL.out⟩
 | true =>
  cases hk:(x.k==y.k) with
  | false =>
   go_wp2_with fail
   go_ret
   exact ⟨by rw [hp,hk];rfl,HBL.out⟩
  | true =>
   go_wp2_with fail
   go_ret
   exact ⟨by rw [hp,hk,Bool.true_and,Bool.true_and];rfl,HBL.out⟩
theorem zlR (a b:List FileD) (A C:Option Addr) (c d B:Nat) (w:World) (hB:B≤w.heap.size) (h1:FI w B A a) (h2:FI w B C b) (hal:a.length≤1000000000000) :Calls Tryz.prog 14 #[.slice A a.length c,.slice C b.length d] w fun e w'=>e = .returned (.bool (decide (a=b)))∧Below w.heap.size w w':=by
 obtain ⟨z,hz⟩:∃z,w.heap.size=z:=⟨_,rfl⟩;rw [hz];have HZ:=zz hz;have H1:=zz h1;have H2:=zz h2;clear h1 h2;go_enter Tryz.func14,Tryz.ntmps14
 by_cases hl:a.length=b.length
 · have hl':((a.length:Int) !=(b.length:Int))=false:=by simp [hl]
   have HLN:=zz hl;clear hl
   go_wp2_with fail
   go_loopw [5] (fun s3 wr=>∃k:Nat,s3 = .int .i64 (k:Nat)∧k≤a.length∧Hid (a.take k=b.take k)∧Hid (Below z w wr)) (fun s3 _=>a.length-(intOf s3).toNat)
   case atStart=>exact ⟨0,rfl,Nat.zero_le _,zz (by rw [List.take_zero,List.take_zero]),zz (Below.refl _ _)⟩
   case round =>
    obtain ⟨k,rfl,hk,HT,HB⟩:=hrel;by_cases hlt:k<a.length
    · have i0:(0:Int)≤(k:Int):=by omega
      have i1:(k:Int)<(a.length:Int):=by omega
      have i2:(k:Int)<(b.length:Int):=by have:=HLN.out;omega
      obtain ⟨x,hx⟩:∃x,a[k]? = some x:=⟨_,List.getElem?_eq_getElem hlt⟩;obtain ⟨y,hy⟩:∃y,b[k]? = some y:=⟨_,List.getElem?_eq_getElem (by have:=HLN.out;omega)⟩;have hBw:B≤wr.heap.size:=Nat.le_trans hB (HZ.out▸HB.out.size);have hd:Below z w wr.drew:=HB.out.trans ((Below.refl _ wr).drew.mono (HZ.out▸HB.out.size));obtain ⟨g,o,DA,dc,rfl,_,ld1,_,_,_,_,_,r1⟩:=(H1.out.below (hd.mono (HZ.out▸hB))).at_ hx;obtain ⟨g2,o2,DC,dd,rfl,_,ld2,_,_,_,_,_,r2⟩:=(H2.out.below (hd.mono (HZ.out▸hB))).at_ hy;have HS:=zz (znV x y DA DC dc dd B wr.drew hBw r1 r2);have HTS:=zz (zmN HT.out hx hy);have ld1':(LdF (.pointer (some ⟨g,o+k*3,none⟩))).run Tryz.prog wr.drew = .ok (.agg (za x DA dc)) wr.drew:=ld1;have ld2':(LdF (.pointer (some ⟨g2,o2+k*3,none⟩))).run Tryz.prog wr.drew = .ok (.agg (za y DC dd)) wr.drew:=ld2;have hsb:=zrA x y;obtain ⟨S,hS⟩:∃S,zel x y=S:=⟨_,rfl⟩;rw [hS] at HS hsb;clear r1 r2 ld1 ld2 hx hy hS;have HSB:=zz hsb;clear hsb
      cases S with
      | true =>
       go_upto_region 6 with fail
       go_region_law (go_simp;go_at_call 27;refine HS.out.mono ?_;rintro _ w9 ⟨rfl,hb9⟩;have HB9:=zz (hd.trans (hb9.mono (HZ.out▸HB.out.size)));clear hb9)
       all_goals
        go_wp2_with fail
        go_roundw
        case rel=>exact ⟨k+1,by go_num,hlt,zz (HTS.out.2 (of_decide_eq_true HSB.out.symm)),HB9⟩
        case measure=>simp [intOf];omega
      | false =>
       go_upto_region 6 with fail
       go_region_law (go_simp;go_at_call 27;refine HS.out.mono ?_;rintro _ w9 ⟨rfl,hb9⟩;have HB9:=zz (hd.trans (hb9.mono (HZ.out▸HB.out.size)));clear hb9)
       all_goals
        go_wp2_with fail
        go_ret
        exact ⟨by rw [decide_eq_false (fun e=>of_decide_eq_false HSB.out.symm (HTS.out.1 (by rw [e])))];rfl,HB9.out⟩
    · obtain rfl:k=a.length:=by omega
      have hlt':¬(a.length:Int)<(a.length:Int):=by omega
      go_wp2_with fail
      go_ret
      exact ⟨by
       have h:=HT.out;rw [List.take_length,HLN.out,List.take_length] at h;rw [decide_eq_true h];rfl,HB.out⟩
 · have hl':((a.length:Int) !=(b.length:Int))=true:=by simp;omega
   go_wp2_with fail
   go_ret
   exact ⟨by rw [decide_eq_false (fun e=>hl (by rw [e]))];rfl,Below.refl _ _⟩
end
section
open Go.RowKit Go.Maps
theorem zgl:∀(p cur:Pth),(∀s∈z7 cur p,s.length≤40)→cur.length+p.length+1≤(z7 cur p).length*41
 | [],cur,h=>by
  have:=h cur (by unfold z7;exact List.mem_singleton.2 rfl);unfold z7;simp only [List.length_nil,List.length_cons]
  omega
 | x::p,cur,h=>by
  unfold z7 at h ⊢
  split at h
  · rename_i hx
    rw [if_pos hx];have h1:=h cur List.mem_cons_self;have h2:=zgl p [] fun s hs=>h s (List.mem_cons_of_mem _ hs);simp only [List.length_nil,List.length_cons] at h2 ⊢;omega
  · rename_i hx
    rw [if_neg hx];have h2:=zgl p (cur++[x]) h;simp only [List.length_append,List.length_cons,List.length_nil] at h2 ⊢;omega
theorem zt6 {f:FileD} (h:zP f=0):f.p.length≤1000000:=by
 obtain ⟨_,_,h8,hn⟩:=zcK h;have:=zgl f.p [] fun s hs=>by
  have:=hn s hs;unfold zI at this;simp only [Bool.and_eq_true,decide_eq_true_eq] at this;exact this.2.1
 unfold nmP at h8;simp only [List.length_nil] at this;omega
attribute [local go_sem ↓] ld_f
end
section
open Go.RowKit Go.Maps
theorem zs1 {α:Type} {l:List α} {k:Nat} {x:α} (h:l[k]? = some x):l.take (k+1)=l.take k++[x]:=by rw [List.take_add_one,h];rfl
theorem zpX (p:Pth) (k:Int) (A:Option Addr) (n c:Nat) (w:World):(Instr.build 70 #[(0,strC p),(1,.int .i64 k),(2,.slice A n c)]).run Tryz.prog w = .ok (.agg #[strC p,.int .i64 k,.slice A n c]) w:=by kernel_rfl
def SlFl (n:Nat) (ps:Array (Nat×Value)):Sem Value:=Instr.buildSlice 37 n ps
theorem zp7 (n:Nat) (ps:Array (Nat×Value)):Instr.buildSlice 37 n ps=SlFl n ps:=rfl
def BdFl (ps:Array (Nat×Value)):Sem Value:=Instr.build 70 ps
theorem zh1 (ps:Array (Nat×Value)):Instr.build 70 ps=BdFl ps:=rfl
theorem ztH (a b c:Value) (W:World):(SlFl 1 #[(0,.agg #[a,b,c])]).run Tryz.prog W = .ok (.slice (some ⟨W.heap.size,0,none⟩) 1 1) (W.alloc (.cells #[a,b,c] 70)) :=
 zbU zaf zaU rfl rfl (by omega) W
attribute [local go_sem ↓] zp7 zh1
theorem zoG (l:List FileD) (A:Option Addr) (c B:Nat) (w:World) (hB:B≤w.heap.size) (hr:FI w B A l) (hl:l.length≤1000000) (hd:∀f∈l,f.d.length≤100000000) :Calls Tryz.prog 316 #[.slice A l.length c] w fun e w'=>∃A' c',e = .returned (.slice A' l.length c')∧FI w' w'.heap.size A' l∧Below w.heap.size w w':=by
 obtain ⟨z,hz⟩:∃z,w.heap.size=z:=⟨_,rfl⟩;rw [hz];have HZ:=zz hz;have hBz:B≤z:=hz▸hB;have HFI:=zz (fun W (k:Below z w W)=>hr.below (k.mono hBz));have HDL:=zz hd;clear hr hd;go_enter Tryz.func316,Tryz.ntmps316
 go_wp2_with fail
 go_loopw [3,4] (fun s3 s4 wr=>∃(k:Nat) (Ao:Option Addr) (co:Nat),s3 = .slice Ao k co∧s4 = .int .i64 (k:Nat)∧k≤l.length∧Hid (FM wr z Ao co (l.take k))∧Hid (Below z w wr)) (fun _ s4 _=>l.length-(intOf s4).toNat)
 case atStart=>exact ⟨0,none,0,rfl,rfl,Nat.zero_le _,zz (FM.nil_ _ _),zz (Below.refl _ _)⟩
 case round =>
  obtain ⟨k,Ao,co,rfl,rfl,hk,HM,HB⟩:=hrel;have hwz:z≤wr.heap.size:=HZ.out▸HB.out.size;by_cases hlt:k<l.length
  · obtain ⟨x,hx⟩:∃x,l[k]? = some x:=⟨_,List.getElem?_eq_getElem hlt⟩;obtain ⟨g,off,DA,dc,rfl,hg,_,e0,e1,e2,_,_,hrd⟩:=(HFI.out wr HB.out).at_ hx;obtain ⟨ds,d1,d2,d3⟩:=HM.out;have hdl:ds.length=k:=by
     have:=congrArg List.length d1;rw [List.length_map,List.length_take] at this;omega
    have htl:(l.take k).length=k:=by rw [List.length_take];omega
    rw [htl] at d2;have HDS:=zz (And.intro d1 (And.intro d2 d3));clear htl;have HXL:=zz (HDL.out x (List.mem_of_getElem? hx));have HTK:=zz (zs1 hx);obtain ⟨q,hq⟩:∃q,wr.heap.size=q:=⟨_,rfl⟩;have i0:(0:Int)≤(k:Int):=by omega
    have i1:(k:Int)<(l.length:Int):=by omega
    have hmk:(Instr.buildSlice 58 0 #[]).run Tryz.prog wr.drew = .ok (.slice (some ⟨q,0,none⟩) 0 0) (wr.drew.alloc (.cells #[] 5)):=by rw [←hq];kernel_rfl
    have H0:=zz (show Own (wr.drew.alloc (.cells #[] 5)) q 5 1 (some ⟨q,0,none⟩) 0 0 [] from hq▸World.ownsRow_made wr.drew #[] 0 (Nat.le_refl _) (Nat.zero_le _) (by simp));have hba:Below q wr (wr.drew.alloc (.cells #[] 5)):=((Below.refl q wr).drew).alloc (Nat.le_of_eq hq.symm) _;have HR0:=zz (hrd.below (hba.mono (by omega)));have HBA:=zz hba;have HQ:=zz hq;have HG:=zz hg;clear hrd d1 d2 d3 hx hba;have hbd:∀(A5:Option Addr) (n5 c5:Nat) (W:World),(BdFl #[(0,strC x.p),(1,.int .i64 x.k),(2,.slice A5 n5 c5)]).run Tryz.prog W = .ok (.agg #[strC x.p,.int .i64 x.k,.slice A5 n5 c5]) W:=fun A5 n5 c5 W=>zpX x.p x.k A5 n5 c5 W;have hsl:∀(A5:Option Addr) (n5 c5:Nat) (W:World),(SlFl 1 #[(0,.agg #[strC x.p,.int .i64 x.k,.slice A5 n5 c5])]).run Tryz.prog W = .ok (.slice (some ⟨W.heap.size,0,none⟩) 1 1) (W.alloc (.cells #[strC x.p,.int .i64 x.k,.slice A5 n5 c5] 70)):=fun A5 n5 c5 W=>ztH _ _ _ W;go_upto_region 5 with fail
    go_region_held3 (fun w'=>w'.cell? ⟨g,off+k*3,none⟩=some (strC x.p)∧w'.cell? ⟨g,off+k*3+1,none⟩=some (.int .i64 x.k)∧w'.cell? ⟨g,off+k*3+2,none⟩=some (.slice DA x.d.length dc)) (first|(exact ⟨e0,e1,e2⟩)|(exact ⟨s0,s1,s2⟩)|(exact ⟨t0,t1,t2⟩)|go_keep) (first
     | ((refine zdZ (by rfl) zbA (by rfl) (by rfl) (n:=0) (xs:=[]) H0.out (by rfl) HR0.out (zb3 x.d) (by have:=HXL.out;unfold maxLen;omega) (by have:=HXL.out;omega) (by have:=HQ.out;simp;omega) ?_);intro A5 c5 w5 o5 k5;rw [Nat.zero_add] at o5 ⊢;rw [List.nil_append] at o5;have hb5:=HBA.out.trans (k5.below (Nat.le_refl q) (by have:=HQ.out;simp;omega) (by simp));have s0:=(hb5.cell (p:=⟨g,off+k*3,none⟩) (by show g<q;have:=HG.out;omega)).trans e0;have s1:=(hb5.cell (p:=⟨g,off+k*3+1,none⟩) (by show g<q;have:=HG.out;omega)).trans e1;have s2:=(hb5.cell (p:=⟨g,off+k*3+2,none⟩) (by show g<q;have:=HG.out;omega)).trans e2;have HO5:=zz o5;have HB5:=zz hb5;have HOW:=zz (show Own w5 z 70 3 Ao k co (ds.flatMap ftL) from Own.same HDS.out.2.1 fun b _ hb _=>hb5.block b (by rw [←HQ.out];exact hb));clear o5 k5 hb5)
     | ((refine zdZ (by rfl) zaf (by rfl) (by rfl) (n:=k) (xs:=ds.flatMap ftL) (HOW.out.alloc _) (by rfl) (ze.of_blk (n:=1) (size:=3) (xs:=ftL (x,(A5,c5))) (heap_alloc_new _ _) rfl rfl) (zb7 (x,(A5,c5))) (by unfold maxLen;omega) (by omega) (by have:=HB5.out.size;have:=HQ.out;simp;omega) ?_);intro A9 c9 w9 o9 k9;have hb9:=(HB5.out.mono (show z≤q by omega)).trans (((Below.refl z w5).alloc (by have:=HB5.out.size;omega) (.cells (ftL (x,(A5,c5))).toArray 70)).trans (k9.below (Nat.le_refl z) (by have:=HB5.out.size;simp;omega) (by simp)));have t0:=(hb9.cell (p:=⟨g,off+k*3,none⟩) (by show g<z;have:=HG.out;omega)).trans e0;have t1:=(hb9.cell (p:=⟨g,off+k*3+1,none⟩) (by show g<z;have:=HG.out;omega)).trans e1;have t2:=(hb9.cell (p:=⟨g,off+k*3+2,none⟩) (by show g<z;have:=HG.out;omega)).trans e2;have HO9:=zz o9;have HK9:=zz k9;have HB9:=zz hb9;clear o9 k9 hb9))
    go_wp2_with fail
    go_roundw
    case rel =>
     refine ⟨k+1,A9,c9,rfl,by go_num,hlt,zz ?_,zz (HB.out.trans HB9.out)⟩;have hzq:z≤q:=by omega
     have hq5:=HB5.out.size;have hz5:z≤w5.heap.size:=by omega
     have key:∀y,zo w5 z y→zo w9 z y:=fun y hy =>
      (hy.keepB (w':=w5.alloc (.cells (ftL (x,(A5,c5))).toArray 70)) ((Below.refl _ w5).alloc (Nat.le_refl _) _) hz5).frm HK9.out (by simp;omega) (by simp) (by simp) (by intro g hg;cases hg)
     have hx5:zo w5 z (x,(A5,c5)):=⟨(Own.cap_le HO5.out).1,(Own.cap_le HO5.out).2,.inr (Own.mono HO5.out hzq)⟩
     rw [HTK.out];exact FM.snoc HDS.out.1 (fun y hy=>key y ((HDS.out.2.2 y hy).keepB (by rw [HQ.out];exact HB5.out) hwz)) (key _ hx5) (by rw [List.length_take,Nat.min_eq_left hk];exact HO9.out)
    case measure=>simp [intOf];omega
  · obtain rfl:k=l.length:=by omega
    rw [List.take_length] at HM
    go_wp2_with fail
    go_ret
    exact ⟨Ao,co,rfl,HM.out.fi hwz,HB.out⟩
end
section
open Go.RowKit
def slT (t:List FileD) (r:Option Addr×Nat):Value := .slice r.1 t.length r.2
structure TrI (w:World) (B:Nat) (A:Option Addr) (T:List (List FileD)) (ts:List (Option Addr×Nat)):Prop where
 len:ts.length=T.length
 row:ze w B 1 A T.length ((T.zip ts).map fun x=>slT x.1 x.2)
 each:∀(i:Nat) (t:List FileD) (r:Option Addr×Nat),T[i]? = some t→ts[i]? = some r→FI w B r.1 t
theorem TrI.below {w w':World} {B:Nat} {A:Option Addr} {T:List (List FileD)} {ts:List (Option Addr×Nat)} (h:TrI w B A T ts) (hb:Below B w w'):TrI w' B A T ts :=
 ⟨h.len,h.row.below hb,fun i t r hp hr=>(h.each i t r hp hr).below hb⟩
theorem TrI.more {w:World} {B B':Nat} {A:Option Addr} {T:List (List FileD)} {ts:List (Option Addr×Nat)} (h:TrI w B A T ts) (hb:B≤B'):TrI w B' A T ts :=
 ⟨h.len,h.row.more hb,fun i t r hp hr=>(h.each i t r hp hr).more hb⟩
attribute [local go_sem ↓] zbM
theorem ze5 (T:List (List FileD)) (ts:List (Option Addr×Nat)) (AT AP:Option Addr) (cT cP N:Nat) (q:Int) (x s B:Nat) (hN:T.length=N) (hN2:N<200) (t:List FileD) (ht:T[x]? = some t) (hl:t.length≤1000000) (hd:∀f∈t,f.d.length≤100000000) (w:World) (hB:B≤w.heap.size) (hs:Blk w s 67 #[.slice AP N cP,.int .i64 q,.slice AT N cT]) (hT:TrI w B AT T ts) :Calls Tryz.prog 315 #[.pointer (some ⟨s,0,none⟩),idV (idN x)] w fun e w'=>∃A c,e = .returned (.tuple #[.slice A t.length c,.nilIface])∧FI w' w'.heap.size A t∧Below w.heap.size w w':=by
 have hsz:=hs.lt;have hx:x<N:=by have:=(List.getElem?_eq_some_iff.1 ht).1;omega
 obtain ⟨r,hr⟩:∃r,ts[x]? = some r:=⟨_,List.getElem?_eq_getElem (by rw [hT.len,hN];omega)⟩;obtain ⟨z,hz⟩:∃z,w.heap.size=z:=⟨_,rfl⟩;rw [hz];rw [hz] at hsz hB;have hs0:=hs.alloc (.cells (idC (idN x)) 33);have hb0:Blk (w.alloc (.cells (idC (idN x)) 33)) w.heap.size 33 (idC (idN x)):=Blk.new _ _ _;rw [hz] at hb0;have hk0:Below z w (w.alloc (.cells (idC (idN x)) 33)):=(Below.refl z w).alloc (by omega) _;have hz1:z+1=(w.alloc (.cells (idC (idN x)) 33)).heap.size:=by rw [←hz];simp
 have hrow:=(hT.below (hk0.mono (by omega))).row;have hech:=(hT.below (hk0.mono (by omega))).each x t r ht hr;rw [hN] at hrow;obtain ⟨gT,oT,rfl,hgT,hcT⟩:=hrow.at0 (by omega) (by omega);have hcn:=hcT x (slT t r) (by rw [List.getElem?_map,(List.getElem?_zip_eq_some (z:=(t,r))).2 ⟨ht,hr⟩];rfl);unfold slT at hcn;obtain ⟨rA,rc⟩:=r;simp only at hcn hech;have HCN:=zz hcn;have HEC:=zz hech;have HK0:=zz hk0;have HS1:=zz hs0;have HB1:=zz hb0;have HLD:=zz (And.intro hl hd);clear hcT hrow hcn hech hs hT hN hb0 hs0 hk0 ht hr hl hd;go_enter Tryz.func315,Tryz.ntmps315
 go_upto_region 1 with (first|(refine zC rfl rfl (cs:=idC (idN x)) rfl ?_))
 generalize w.alloc (.cells (idC (idN x)) 33)=w1 at *;have HBW:Hid (Below (z+1) w1 w1):=zz (Below.refl _ _);have hzw:z+1≤w1.heap.size:=by omega
 go_upto_region 2 with fail
 go_loopg [6] x (fun kx s6 wr=>∃(n:Nat),s6 = .int .i64 n∧n≤x∧x-n≤kx∧Hid (Below (z+1) w1 wr)∧z+1≤wr.heap.size)
 case atStart=>exact ⟨0,rfl,Nat.zero_le _,Nat.le_refl _,HBW,hzw⟩
 case round =>
  clear HBW hzw;obtain ⟨n,rfl,hnx,hkx,HBW,hzw⟩:=hrel;have hbs:=HS1.out.below HBW.out (by omega);have hbi:=HB1.out.below HBW.out (by omega);have hnN:(n:Int)<(N:Int):=by omega
  have c0:=hbs.cell 0;have c2:=hbs.cell 2;simp at c0 c2;have HBI:=zz hbi;have HBS:=zz hbs;have d2:=LdId.blk hbi.drew;have HID:=zz (fun W=>zca n (by omega) W);have G:=fun (a b:Operand) (W:World)=>zfg .eql a b (idN n) (idN x) W;by_cases he:n=x
  · subst he;have E:∀W:World,(binOp .eql 33 (idV (idN n)) (idV (idN n))).run Tryz.prog W = .ok (.bool true) W:=fun W=>by rw [zdD];simp
    clear hbs hbi;go_upto_region 4 with fail
    go_cut [29] (fun s29 wx=>s29 = .bool true∧Hid (Below (z+1) w1 wx)∧z+1≤wx.heap.size)
    case first =>
     go_region_law (first|(go_simp;go_at_call 9;(with_reducible refine (HID.out _).mono ?_);rintro _ w5 ⟨rfl,hb5⟩;have e5:=LdId.blk (HBI.out.drew.below hb5 HBI.out.drew.lt);have B5:=zz (HBW.out.drew.trans (hb5.mono hzw))))
     all_goals
      go_wp2_with fail
      go_meet
      exact ⟨rfl,B5,by have:=B5.out.size;omega⟩
    case rest =>
     obtain ⟨rfl,HBX,hzx⟩:=hcut;clear HBI HBS d2 HID G E c0 c2 HBW hzw;generalize wc=w2 at *;have b0:=(HS1.out.below HBX.out (by omega)).cell 2;simp at b0;have b1:=(HBX.out.cell (p:=⟨gT,oT+n,none⟩) (by show gT<z+1;omega)).trans HCN.out;have HTW:=zz (zoG t rA rc B w2 (by omega) (HEC.out.below (HBX.out.mono (by omega))) HLD.out.1 HLD.out.2)
     go_wp2_with (go_at_call 316;(with_reducible refine HTW.out.mono ?_);rintro _ w3 ⟨A3,c3,rfl,hf3,hb3⟩;have HF3:=zz (And.intro hf3 (HK0.out.trans ((HBX.out.mono (Nat.le_succ z)).trans (hb3.mono (by omega)))));clear hf3 hb3)
     go_ret2
     exact ⟨A3,c3,rfl,HF3.out⟩
  · have E:∀W:World,(binOp .eql 33 (idV (idN n)) (idV (idN x))).run Tryz.prog W = .ok (.bool false) W:=fun W=>by rw [zdD,zlu (by omega) (by omega) he]
    clear hbs hbi;go_upto_region 4 with fail
    go_cut [29] (fun s29 wx=>s29 = .bool false∧Hid (Below (z+1) w1 wx)∧z+1≤wx.heap.size)
    case first =>
     go_region_law (first|(go_simp;go_at_call 9;(with_reducible refine (HID.out _).mono ?_);rintro _ w5 ⟨rfl,hb5⟩;have e5:=LdId.blk (HBI.out.drew.below hb5 HBI.out.drew.lt);have B5:=zz (HBW.out.drew.trans (hb5.mono hzw))))
     all_goals
      go_wp2_with fail
      go_meet
      exact ⟨rfl,B5,by have:=B5.out.size;omega⟩
    case rest =>
     obtain ⟨rfl,HBX,hzx⟩:=hcut;clear HBI HBS d2 HID G E c0 c2 HBW hzw;generalize wc=w2 at *
     go_wp2_with fail
     go_roundg (x-(n+1))
     case measure=>omega
     case rel=>exact ⟨n+1,by go_num,by omega,Nat.le_refl _,HBX,hzx⟩
end
section
open Go.RowKit Go.Maps
def zdi (x:ClashD):Value := .agg (zN x).toArray
theorem zj7:∀(v:List ClashD) (k:Nat) (x:ClashD),v[k]? = some x→∀j,j<2→(v.flatMap zN)[k*2+j]? = (zN x)[j]?
 | [],_,_,h,_,_=>by cases h
 | y::v,0,x,h,j,hj=>by
  obtain rfl:y=x:=Option.some.inj h
  rw [List.flatMap_cons,Nat.zero_mul,Nat.zero_add,List.getElem?_append_left (by simpa [zN] using hj)]
 | y::v,k+1,x,h,j,hj=>by
  rw [List.flatMap_cons,List.getElem?_append_right (by simp [zN];omega),show (k+1)*2+j-(zN y).length=k*2+j from by simp [zN];omega];exact zj7 v k x h j hj
theorem zja {w:World} {B:Nat} {A:Option Addr} {v:List ClashD} (h:ze w B 2 A v.length (v.flatMap zN)) {k:Nat} {x:ClashD} (hk:v[k]? = some x):∃g o,A=some ⟨g,o,none⟩∧(LdCl (.pointer (some ⟨g,o+k*2,none⟩))).run Tryz.prog w = .ok (zdi x) w:=by
 have hlt:=(List.getElem?_eq_some_iff.1 hk).1;obtain ⟨g,o,rfl,_,hc⟩:=h.at0 (by omega) (by omega);refine ⟨g,o,rfl,zaE w _ (zN x).toArray Tryz.underlying86 rfl zhQ (fun j u hj=>?_)⟩;rw [zJ,Nat.add_assoc];have hj2:j<2:=by simpa [zN] using (List.getElem?_eq_some_iff.1 hj).1
 exact hc _ _ ((zj7 v k x hk j hj2).trans hj)
end
section
open Go.RowKit Go.Maps
theorem znB (x y:ClashD) (W:World):(binOp .neq 86 (zdi x) (zdi y)).run Tryz.prog W = .ok (.bool (decide (x≠y))) W:=by
 have e:decide (x≠y)=!(decide (x.p=y.p)&&decide (x.why=y.why)):=by
  rw [decide_not]
  congr 1
  rw [←Bool.decide_and];exact decide_eq_decide.2 ⟨fun h=>by rw [h];exact ⟨rfl,rfl⟩,fun h=>by cases x;cases y;simp_all⟩
 rw [e];unfold zdi zN strC;go_simp;by_cases h1:x.p=y.p
 · by_cases h2:x.why=y.why
   · simp [h1,h2]
   · have:¬(x.why:Int)=(y.why:Int):=by omega
     simp [h1,h2,this]
 · simp [h1]
theorem zp9 (a b:Operand) (x y:ClashD) (W:World):(eqGuard .neq 86 a b (zdi x) (zdi y)).run Tryz.prog W = .ok () W:=by
 unfold zdi zN strC;go_simp
theorem zno {a b:List ClashD} {k:Nat} {x y:ClashD} (h:a.take k=b.take k) (hx:a[k]? = some x) (hy:b[k]? = some y):a.take (k+1)=b.take (k+1)↔x=y:=by
 rw [List.take_add_one,List.take_add_one,h,hx,hy];simp
attribute [local go_sem] znB zp9
attribute [local go_sem ↓] zia
theorem zsV (a b:List ClashD) (A C:Option Addr) (c d B:Nat) (w:World) (hB:B≤w.heap.size) (h1:ze w B 2 A a.length (a.flatMap zN)) (h2:ze w B 2 C b.length (b.flatMap zN)) (hal:a.length≤9223372036854775807) :Calls Tryz.prog 15 #[.slice A a.length c,.slice C b.length d] w fun e w'=>e = .returned (.bool (decide (a=b)))∧Below w.heap.size w w':=by
 obtain ⟨z,hz⟩:∃z,w.heap.size=z:=⟨_,rfl⟩;rw [hz];have HZ:=zz hz;have H1:=zz h1;have H2:=zz h2;clear h1 h2;go_enter Tryz.func15,Tryz.ntmps15
 by_cases hl:a.length=b.length
 · have hl':((a.length:Int) !=(b.length:Int))=false:=by simp [hl]
   have HLN:=zz hl;clear hl
   go_wp2_with fail
   go_loopw [5] (fun s5 wr=>∃k:Nat,s5 = .int .i64 (k:Nat)∧k≤a.length∧Hid (a.take k=b.take k)∧Hid (Below z w wr)) (fun s5 _=>a.length-(intOf s5).toNat)
   case atStart=>exact ⟨0,rfl,Nat.zero_le _,zz (by rw [List.take_zero,List.take_zero]),zz (Below.refl _ _)⟩
   case round =>
    obtain ⟨k,rfl,hk,HT,HB⟩:=hrel;have hdw:Below z w wr.drew:=HB.out.trans ((Below.refl _ wr).drew.mono (HZ.out▸HB.out.size));have HDW:=zz hdw;by_cases hlt:k<a.length
    · have i0:(0:Int)≤(k:Int):=by omega
      have i1:(k:Int)<(a.length:Int):=by omega
      have i2:(k:Int)<(b.length:Int):=by have:=HLN.out;omega
      obtain ⟨x,hx⟩:∃x,a[k]? = some x:=⟨_,List.getElem?_eq_getElem hlt⟩;obtain ⟨y,hy⟩:∃y,b[k]? = some y:=⟨_,List.getElem?_eq_getElem (by have:=HLN.out;omega)⟩;obtain ⟨g,o,rfl,ld1⟩:=zja (w:=wr.drew) (H1.out.below (hdw.mono (HZ.out▸hB))) hx;obtain ⟨g2,o2,rfl,ld2⟩:=zja (w:=wr.drew) (H2.out.below (hdw.mono (HZ.out▸hB))) hy;have HTS:=zz (zno HT.out hx hy);clear hx hy hdw;by_cases hxy:x=y
      · have hn:decide (x≠y)=false:=by simp [hxy]
        go_upto_region 6 with fail
        go_region
        go_wp2_with fail
        go_roundw
        case rel=>exact ⟨k+1,by go_num,hlt,zz (HTS.out.2 hxy),HDW⟩
        case measure=>simp [intOf];omega
      · have hn:decide (x≠y)=true:=by simp [hxy]
        go_upto_region 6 with fail
        go_region
        go_wp2_with fail
        go_ret
        exact ⟨by rw [decide_eq_false (fun e=>hxy (HTS.out.1 (by rw [e])))];rfl,HDW.out⟩
    · obtain rfl:k=a.length:=by omega
      have hlt':¬(a.length:Int)<(a.length:Int):=by omega
      go_wp2_with fail
      go_ret
      exact ⟨by
       have h:=HT.out;rw [List.take_length,HLN.out,List.take_length] at h;rw [decide_eq_true h];rfl,HB.out⟩
 · have hl':((a.length:Int) !=(b.length:Int))=true:=by simp;omega
   go_wp2_with fail
   go_ret
   exact ⟨by rw [decide_eq_false (fun e=>hl (by rw [e]))];rfl,Below.refl _ _⟩
end
section
open Go.RowKit Go.Maps
def ztq (x:List FileD) (v:List ClashD) (n:Nat) (w:World) (e:Ending) (w':World):Prop:=∃A c A' c',e = .returned (.tuple #[.slice A x.length c,.slice A' v.length c',.int .i64 (n:Nat)])∧FI w' w'.heap.size A x∧ze w' w'.heap.size 2 A' v.length (v.flatMap zN)∧v.length≤9223372036854775807∧Below w.heap.size w w'
def zkM (r:Except Nat (List FileD×List ClashD)) (x:List FileD) (v:List ClashD) (n:Nat):Prop:=r = .error n∧x=[]∧v=[]∨r = .ok (x,v)∧n=0
theorem zpk {b o t x:List FileD} {v:List ClashD} {n:Nat} (A1 A2 A3:Option Addr) (c1 c2 c3 B:Nat) (w:World) (hB:B≤w.heap.size) (h1:FI w B A1 b) (h2:FI w B A2 o) (h3:FI w B A3 t) (hv:VarM w) (l1:∀f∈b,f.p.length≤1000000) (l2:∀f∈o,f.p.length≤1000000) (l3:∀f∈t,f.p.length≤1000000) (hm:zkM (zG b o t) x v n):Calls Tryz.prog 38 #[.slice A1 b.length c1,.slice A2 o.length c2,.slice A3 t.length c3] w (ztq x v n w):=by
 refine (zt7 b o t A1 A2 A3 c1 c2 c3 B w hB h1 h2 h3 hv l1 l2 l3).mono ?_;rintro e w' ⟨hb,⟨m,h,he⟩|⟨x',v',A,c,A',c',h,he,hf,ho⟩⟩
 · rcases hm with ⟨hm,rfl,rfl⟩|⟨hm,_⟩
   · rw [hm] at h;injection h with h;subst h;exact ⟨none,0,none,0,he,FI.nil_ _ _ _,ze.none_,Nat.zero_le _,hb⟩
   · rw [hm] at h;cases h
 · rcases hm with ⟨hm,_⟩|⟨hm,rfl⟩
   · rw [hm] at h;cases h
   · rw [hm] at h;injection h with h;injection h with e1 e2;subst e1 e2;have:=ho.cap_le;exact ⟨A,c,A',c',he,hf,ho.reads,Nat.le_trans this.1 this.2,hb⟩
end
section
open Go.RowKit
def errV (n:Nat):Value:=if n=0 then .nilIface else .iface 94 (.int .i64 (n:Nat))
theorem zlo (n:Nat):(if (n:Int)=0 then Value.nilIface else .iface 94 (.int .i64 (n:Nat)))=errV n:=by
 unfold errV;by_cases h:n=0
 · rw [if_pos h,if_pos (by omega)]
 · rw [if_neg h,if_neg (by omega)]
theorem zbO {n:Nat} (h:n≠0):errV n = .iface 94 (.int .i64 (n:Nat)):=if_neg h
def zaM (w:World) (k:Nat):Prop:=∀i,(∀s,w.cell? ⟨k,i,none⟩≠some (.string s))∧∀n,w.cell? ⟨k,i,none⟩≠some (.int .u8 n)
theorem zaM.of {w:World} {k:Nat} {t:TypeId} {cs:Array Value} (h:Blk w k t cs) (hs:∀v∈cs.toList,(∀s,v≠.string s)∧∀n,v≠.int .u8 n):zaM w k:=fun i=>by
 rw [h.cell]
 refine ⟨fun s e=>?_,fun n e=>?_⟩
 · exact (hs _ (Array.mem_toList_iff.2 (Array.mem_of_getElem? e))).1 s rfl
 · exact (hs _ (Array.mem_toList_iff.2 (Array.mem_of_getElem? e))).2 n rfl
theorem ze.far {w w':World} {B size n:Nat} {A:Option Addr} {xs:List Value} {S:Nat→Prop} (h:ze w B size A n xs) (hB:B≤w.heap.size) (hk:Keep S w w') (hs:0<size) {v:Value} (h0:0<n→xs[0]? = some v) (hv:∀k i,S k→w.cell? ⟨k,i,none⟩≠some v):ze w' B size A n xs:=by
 refine ⟨h.1,fun hn=>?_⟩;obtain ⟨g,o,e,hg,hc⟩:=h.at0 hn hs;have h1:=hc 0 v (h0 hn);have hS:¬S g:=fun q=>hv g _ q h1;subst e;refine ⟨_,rfl,hg,fun j u hj=>?_⟩;rw [zJ,hk.cell (p:=⟨g,o+j,none⟩) (by show g<w.heap.size;omega) hS];exact hc j u hj
theorem zw.far {w w':World} {B:Nat} {f:FileD} {v:Value} {S:Nat→Prop} (h:zw w B f v) (hB:B≤w.heap.size) (hk:Keep S w w') (hS:∀k,S k→zaM w k):zw w' B f v:=by
 obtain ⟨A,c,h1,h2,h3,h4⟩:=h;refine ⟨A,c,h1,h2,h3,?_⟩
 cases hd:f.d with
 | nil =>
  rw [hd] at h4
  exact ⟨h4.1,fun hn=>by simp at hn⟩
 | cons b d =>
  rw [hd] at h4;exact h4.far hB hk (by omega) (v:=zh b) (fun _=>rfl) (fun k i q=>(hS k q i).2 _)
theorem FI.far {w w':World} {B:Nat} {A:Option Addr} {fs:List FileD} {S:Nat→Prop} (h:FI w B A fs) (hB:B≤w.heap.size) (hk:Keep S w w') (hS:∀k,S k→zaM w k):FI w' B A fs:=by
 obtain ⟨tv,h1,h2,h3⟩:=h;refine ⟨tv,h1,?_,fun k x y e1 e2=>(h3 k x y e1 e2).far hB hk hS⟩
 cases fs with
 | nil=>exact ⟨h2.1,fun hn=>by simp at hn⟩
 | cons f fs =>
  cases tv with
  | nil=>simp at h1
  | cons y tv=>exact h2.far hB hk (by omega) (v:=strC f.p) (fun _=>rfl) (fun k i q=>(hS k q i).1 _)
theorem zdh {t:List FileD} (h:zg t=0):∀f∈t,f.p.length≤1000000:=fun f hf=>zt6 ((zW h).1.file f hf)
def wrkC (s left:Nat):Array Value:=#[.iface 24 (.pointer (some ⟨s,0,none⟩)),.int .i64 (left:Nat)]
theorem zhV {w:World} {g s left:Nat} (h:Blk w g 78 (wrkC s left)):zaM w g:=zaM.of h (by
 intro v hv;simp [wrkC] at hv
 rcases hv with rfl|rfl
 · exact ⟨fun s e=>(by cases e),fun n e=>(by cases e)⟩
 · exact ⟨fun s e=>(by cases e),fun n e=>(by cases e)⟩)
def ErrT (w:World):Prop:=w.cell? ⟨0,0,none⟩=some (.iface 197 (.agg #[.pointer (some ⟨4,39,none⟩)]))
def zev (b o t:List FileD) (s left g:Nat) (w:World) (e:Ending) (w':World):Prop:=Keep (Only g) w w'∧Blk w' g 78 (wrkC s (left-1)) ∧
 ((∃n,(if left=0 then .error 4 else zG b o t) = .error n∧n≠0∧∃A c A' c',e = .returned (.tuple #[.slice A 0 c,.slice A' 0 c',errV n])) ∨
 ∃x v A c A' c',(if left=0 then .error 4 else zG b o t) = .ok (x,v)∧e = .returned (.tuple #[.slice A x.length c,.slice A' v.length c',.nilIface])∧FI w' w'.heap.size A x∧ze w' w'.heap.size 2 A' v.length (v.flatMap zN)∧v.length≤9223372036854775807)
theorem ziO (b o t:List FileD) (A1 A2 A3:Option Addr) (c1 c2 c3 s left g:Nat) (w:World) (hg:Blk w g 78 (wrkC s left)) (hl:left≤200) (h1:FI w w.heap.size A1 b) (h2:FI w w.heap.size A2 o) (h3:FI w w.heap.size A3 t) (hv:VarM w) (he:ErrT w) (l1:∀f∈b,f.p.length≤1000000) (l2:∀f∈o,f.p.length≤1000000) (l3:∀f∈t,f.p.length≤1000000) (hg2:2≤g) :Calls Tryz.prog 26 #[.pointer (some ⟨g,0,none⟩),.slice A1 b.length c1,.slice A2 o.length c2,.slice A3 t.length c3] w (zev b o t s left g w):=by
 obtain ⟨P,hP⟩:∃P,zev b o t s left g w=P:=⟨_,rfl⟩;rw [hP];have HP:=zz hP;clear hP;have c1':=hg.cell 1;have f1:=hg.frozen 1;simp [wrkC] at c1';have HG:=zz hg
 rcases Nat.eq_zero_or_pos left with h0|h0
 · subst h0;clear hg;go_enter Tryz.func26,Tryz.ntmps26
   go_wp2_with fail
   go_ret3
   rw [←HP.out];exact ⟨Keep.refl _ _,HG.out,.inl ⟨4,if_pos rfl,by decide,none,0,none,0,by rw [zbO (by decide)];rfl⟩⟩
 · obtain ⟨k,rfl⟩:∃k,left=k+1:=⟨left-1,by omega⟩;have hsc:(w.setCell ⟨g,1,none⟩ (.int .i64 (k:Nat))).heap.size=w.heap.size:=by simp [World.setCell]
   have hk1:Keep (Only g) w (w.setCell ⟨g,1,none⟩ (.int .i64 (k:Nat))):=(Keep.refl (Only g) w).setCell (p:=⟨g,1,none⟩) (.inl rfl) _;have hg1:Blk (w.setCell ⟨g,1,none⟩ (.int .i64 (k:Nat))) g 78 (wrkC s k):=hg.set_ 1 _;have hno:∀j,Only g j→zaM w j:=fun j hj=>by
    unfold Only at hj;subst hj;exact zhV hg
   have k1:=h1.far (Nat.le_refl _) hk1 hno;have k2:=h2.far (Nat.le_refl _) hk1 hno;have k3:=h3.far (Nat.le_refl _) hk1 hno;rw [←hsc] at k1 k2 k3;have kv:VarM (w.setCell ⟨g,1,none⟩ (.int .i64 (k:Nat))):=by
    obtain ⟨m,hm⟩:=hv;exact ⟨m,(hk1.cell (p:=⟨1,0,none⟩) (World.block_lt_of_cell? w _ hm) (by show ¬1=g;omega)).trans hm⟩
   have ke:ErrT (w.setCell ⟨g,1,none⟩ (.int .i64 (k:Nat))):=by
    unfold ErrT at he ⊢;exact (hk1.cell (p:=⟨0,0,none⟩) (World.block_lt_of_cell? w _ he) (by show ¬0=g;omega)).trans he
   obtain ⟨x,v,n,hsy⟩:∃x v n,zkM (zG b o t) x v n:=by
    cases h:zG b o t with
    | error n=>exact ⟨[],[],n,.inl ⟨rfl,rfl,rfl⟩⟩
    | ok r=>exact ⟨r.1,r.2,0,.inr ⟨rfl,rfl⟩⟩
   have HSY:=zz hsy;have HM:=zz (zpk A1 A2 A3 c1 c2 c3 _ _ (Nat.le_refl _) k1 k2 k3 kv l1 l2 l3 hsy);have HK1:=zz hk1;have HG1:=zz hg1;have HE:=zz ke;have hne:(((k+1:Nat):Int)==0)=false:=beq_eq_false_iff_ne.2 (by omega);have hne2:((k:Int)+1==0)=false:=beq_eq_false_iff_ne.2 (by omega);clear hg h1 h2 h3 hk1 hg1 hno k1 k2 k3 kv ke hv he hsc;go_enter Tryz.func26,Tryz.ntmps26
   go_upto_region 4 with fail
   generalize w.setCell ⟨g,1,none⟩ (.int .i64 (k:Nat))=w1 at *;go_upto_region 5 with (go_at_call 38;(with_reducible refine HM.out.mono ?_);rintro _ w2 ⟨A,c,A',c',rfl,hf,hr,hvl,hb⟩;have HF:=zz hf;have HR:=zz hr;have HB:=zz hb;clear hf hr hb)
   have hlt1:0<w1.heap.size:=World.block_lt_of_cell? w1 _ HE.out;have hpl:=zit (n:Nat) w2 ((HB.out.cell (p:=⟨0,0,none⟩) hlt1).trans HE.out);rw [zlo] at hpl;have HPL:=zz hpl;clear hsy HM hpl
   go_wp2_with (go_at_call 25;(with_reducible refine HPL.out.mono ?_);rintro _ w3 ⟨rfl,hb3⟩;have HB3:=zz hb3;clear hb3)
   go_ret3
   rw [←HP.out];have hb13:Below w1.heap.size w1 w3:=HB.out.trans (HB3.out.mono HB.out.size);refine ⟨HK1.out.thenBelow hb13 HK1.out.size,HG1.out.below hb13 HG1.out.lt,?_⟩;rw [if_neg (by omega)]
   rcases HSY.out with ⟨h,rfl,rfl⟩|⟨h,rfl⟩
   · exact .inl ⟨n,h,zje h,A,c,A',c',rfl⟩
   · exact .inr ⟨x,v,A,c,A',c',h,rfl,(HF.out.below HB3.out).more HB3.out.size,(HR.out.below HB3.out).more HB3.out.size,hvl⟩
end
end Go.Proofs.YtmkmbbjgepcioaaGreatDoor
