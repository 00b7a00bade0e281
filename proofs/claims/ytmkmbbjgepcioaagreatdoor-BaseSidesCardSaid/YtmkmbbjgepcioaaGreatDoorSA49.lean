/- BaseSides: its row, its card (first form). -/
import Derived.Test.YtmkmbbjgepcioaaGreatDoorSAHq
import Derived.Test.YtmkmbbjgepcioaaGreatDoorSA48
import Derived.Test.YtmkmbbjgepcioaaGreatDoorSA43
import Derived.SevenTiedAt
namespace Go.Proofs.YtmkmbbjgepcioaaGreatDoor
set_option maxHeartbeats 40000000
set_option maxRecDepth 100000
section
open Go.RowKit
def StId (p v:Value):Sem Unit:=Instr.storeAt 33 p v
theorem zpq (p v:Value):Instr.storeAt 33 p v=StId p v:=rfl
def AlId (b:Bool) (v:Value):Sem Value:=Instr.alloc 33 b v
theorem zoM (b:Bool) (v:Value):Instr.alloc 33 b v=AlId b v:=rfl
def alI (W:World):World:=W.alloc (.cells (idC noId) 33)
theorem zrD (W:World):(AlId true (.tuple #[])).run Tryz.prog W = .ok (.pointer (some ⟨W.heap.size,0,none⟩)) (alI W):=by
 unfold AlId alI;simp only [Instr.alloc,newVar,newRow,newObj,Value.cells,Sem.run_bind,Sem.run_pure,zbF,idV,Result.andThen_ok]
 rfl
theorem zaI {z:Nat} {w W:World} (h:Below z w W) (hz:z≤w.heap.size):Below z w (alI W):=h.alloc (Nat.le_trans hz h.size) _
theorem zaK (W:World):Blk (alI W) W.heap.size 33 (idC noId):=Blk.new W 33 (idC noId)
theorem Blk.alI_ {W:World} {p:Nat} {t:TypeId} {cs:Array Value} (h:Blk W p t cs):Blk (alI W) p t cs:=h.alloc _
theorem zo2 {w W:World} {z p q:Nat} (hp:z≤p) (hq:z≤q) (hne:p≠q) (h1:Blk W p 33 (idC noId)) (h2:Blk W q 33 (idC noId)) (hb:Below z w W) (hzw:z≤w.heap.size) (x y:Id):∃u1 u2,(StId (.pointer (some ⟨p,0,none⟩)) (idV x)).run Tryz.prog W = .ok () u1∧(StId (.pointer (some ⟨q,0,none⟩)) (idV y)).run Tryz.prog u1 = .ok () u2∧Hid (Below z w u1)∧Hid (Blk u2 p 33 (idC x))∧Hid (Blk u2 q 33 (idC y))∧Hid (Below z w u2):=by
 have st:∀{V:World} {g:Nat} {i:Id} (j:Id),Blk V g 33 (idC i)→(StId (.pointer (some ⟨g,0,none⟩)) (idV j)).run Tryz.prog V = .ok () (V.setRow g (idC j)):=by
  intro V g i j h;have r1:=zdn (P:=Tryz.prog) h 0 (vs:=idC j) (ty:=33) (by rw [zy];exact zaN) (by rw [zy,zy];omega) (zbq j)
  rwa [zdF (by rw [zy,zy])] at r1
 have kp:∀(V:World) (g:Nat) (j:Id),Keep (Only g) V (V.setRow g (idC j)):=fun V g j=>Keep.setRow (S:=Only g) (g:=g) (Keep.refl _ V) (.inl rfl) _;have blo:∀{V V':World} {g:Nat},z≤g→z≤V.heap.size→Keep (Only g) V V'→Below z V V':=fun hg hV k=>k.below hV (fun i hi q=>by unfold Only at q;omega);have k1:=kp W p x;have b2:Blk (W.setRow p (idC x)) q 33 (idC noId):=(k1.block q h2.lt (fun e=>hne (Eq.symm e))).trans h2;have k2:=kp (W.setRow p (idC x)) q y;have b4:=(k2.block p (h1.row (idC x)).lt (fun e=>hne e)).trans (h1.row (idC x));have hW:z≤W.heap.size:=Nat.le_trans hzw hb.size;have hw1:=hb.trans (blo hp hW k1);exact ⟨_,_,st x h1,st y b2,zz hw1,zz b4,zz (b2.row _),zz (hw1.trans (blo hq (Nat.le_trans hW k1.size) k2))⟩
theorem zhG (n:Nat) (W:World):(binOp .eql 39 (errV n) .nilIface).run Tryz.prog W = .ok (.bool (decide (n=0))) W:=by
 unfold errV;by_cases h:n=0
 · rw [if_pos h,decide_eq_true h];kernel_rfl
 · rw [if_neg h,decide_eq_false h];kernel_rfl
theorem zgh (n:Nat) (x:Operand) (v:Value) (W:World):(eqGuard .eql 39 x (.const v) (errV n) .nilIface).run Tryz.prog W = .ok () W:=by
 unfold errV;by_cases h:n=0
 · rw [if_pos h];simp [eqGuard]
 · rw [if_neg h];kernel_rfl
theorem tkT {P:Program} {ops:Array Oper} {md:Region.Mode} {Q:Exit→Act→World→Prop} {S:World→Prop} {i:Nat} {oi:Oper} {v:Value} {d:Tmp} {fuel:Nat} {listed:Array Bool} {a:Act} {w:World} (hi:ops[i]? = some oi) (hk:(Region.noSelect ops&&Region.free md ops listed i&&(Region.ready md ops listed).contains i)=true) (hd:oi.dst=some d) (hQ:∀c a w,Q (.panic c) (a.put (some d) v) w→Q (.panic c) a w) (hw:Region.wanted oi (yielded ops a.tmps)=true) (hy:∀w,S w→(execOp a.eval oi).run P w = .ok (.value v) w) (hS:S w) (h:wpAnyH P md ops Q S fuel (listed.setIfInBounds i true) (a.put (some d) v) w):wpAnyH P md ops Q S (fuel+1) listed a w:=by
 rw [Bool.and_eq_true,Bool.and_eq_true] at hk;rw [←hd] at hQ h;exact wpAnyH_take hi hk.1.1 hk.1.2 hk.2 hQ (.inl ⟨hw,hy⟩) hS h
theorem tkF {P:Program} {ops:Array Oper} {md:Region.Mode} {Q:Exit→Act→World→Prop} {S:World→Prop} {i:Nat} {oi:Oper} {d:Tmp} {fuel:Nat} {listed:Array Bool} {a:Act} {w:World} (hi:ops[i]? = some oi) (hk:(Region.noSelect ops&&Region.free md ops listed i&&(Region.ready md ops listed).contains i)=true) (hd:oi.dst=some d) (hQ:∀c a w,Q (.panic c) (a.put (some d) undef) w→Q (.panic c) a w) (hw:Region.wanted oi (yielded ops a.tmps)=false) (hS:S w) (h:wpAnyH P md ops Q S fuel (listed.setIfInBounds i true) (a.put (some d) undef) w):wpAnyH P md ops Q S (fuel+1) listed a w:=by
 rw [Bool.and_eq_true,Bool.and_eq_true] at hk;rw [←hd] at hQ h;exact wpAnyH_take hi hk.1.1 hk.1.2 hk.2 hQ (.inr ⟨hw,rfl⟩) hS h
attribute [local go_sem ↓] zpq zoM zrD zbM
theorem zoE (ss:List StepD) (vs:List StV) (A:Option Addr) (c M B:Nat) (i j:Int) (hM:ss.length=M) (w:World) (hB:B≤w.heap.size) (hs:StI w B A ss vs) (h2:2≤w.heap.size) (hv:VarM w) (he:ErrT w) :Calls Tryz.prog 3 #[.slice A M c,.int .i64 i,.int .i64 j] w fun e w'=>e = .returned (.bool true)∧Below w.heap.size w w':=by
 obtain ⟨N,hN⟩:∃N,N=min M 16:=⟨_,rfl⟩;obtain ⟨z,hz⟩:∃z,w.heap.size=z:=⟨_,rfl⟩;have HKN:=zz (zou w h2 hv he);have HT:=zz (fun W (hW:Below w.heap.size w W)=>zjl ss vs A c M B N hM hN W (Nat.le_trans hB hW.size) (hs.below (hW.mono hB)));have HVE:=zz (And.intro hv he);have HZ:=zz hz;have hN16:N≤16:=by omega
 have HNM:=zz (And.intro hM hN);rw [hz] at h2 ⊢;clear hs hv he hB hz hM hN;go_enter Tryz.func3,Tryz.ntmps3
 go_upto_region 4 with (first
  | (go_at_call 7;(with_reducible refine HKN.out.mono ?_);rintro _ w1 ⟨rfl,hb1⟩;have HB1:=zz hb1;clear hb1)
  | (go_at_call 8;(with_reducible refine (HT.out w1 HB1.out).mono ?_);rintro _ w2 ⟨s,hh,g,AP,AT,cP,cT,rs,ts,rfl,hsrc,hrw,htr,hhi,hsz1,hbl,_⟩;have HSRC:=zz hsrc;have HRW:=zz hrw;have HTR:=zz htr;have HHI:=zz hhi;have HB2:=zz (HB1.out.trans (hbl.mono HB1.out.size));have HS1:=zz (Nat.le_trans HB1.out.size hsz1);clear hsrc hrw htr hhi hsz1 hbl))
 have hbt:=HB2.out;have hs1:z≤s:=by rw [←HZ.out];exact HS1.out
 have h5:=HHI.out.cell 1;simp at h5;have HV2:=zz (And.intro (HVE.out.1.after hbt) (HVE.out.2.after hbt));clear HKN HT HVE HB1 HS1;rw [HZ.out] at hbt;have HBT:=zz hbt;clear hbt HB2;by_cases h0:N=0
 · subst h0
   go_wp2_with fail
   go_ret
   exact ⟨rfl,HBT.out⟩
 · have h0z:((N:Int)==0)=false:=beq_eq_false_iff_ne.2 (by omega);have h0y:¬(N:Int)=0:=by omega
   obtain ⟨a,ha,hai⟩:∃a:Nat,a<N∧i%(N:Int)=(a:Int):=⟨(i%(N:Int)).toNat,by have h1:=Int.emod_nonneg i (show (N:Int)≠0 by omega);have h2:=Int.emod_lt_of_pos i (show (0:Int)<N by omega);omega,by have h1:=Int.emod_nonneg i (show (N:Int)≠0 by omega);omega⟩
   obtain ⟨b,hb,hbj⟩:∃b:Nat,b<N∧j%(N:Int)=(b:Int):=⟨(j%(N:Int)).toNat,by have h1:=Int.emod_nonneg j (show (N:Int)≠0 by omega);have h2:=Int.emod_lt_of_pos j (show (0:Int)<N by omega);omega,by have h1:=Int.emod_nonneg j (show (N:Int)≠0 by omega);omega⟩
   have HWI:=zz (show ∀W,Calls Tryz.prog 10 #[.int .i64 i,.int .i64 (N:Int)] W (fun e w'=>e = .returned (.int .i64 (a:Int))∧W=w') from fun W=>by have:=zge i N W (by omega) (by omega);rwa [hai] at this);have HWJ:=zz (show ∀W,Calls Tryz.prog 10 #[.int .i64 j,.int .i64 (N:Int)] W (fun e w'=>e = .returned (.int .i64 (b:Int))∧W=w') from fun W=>by have:=zge j N W (by omega) (by omega);rwa [hbj] at this);have HIA:=zz (fun W=>zca a (by omega) W);have HIB:=zz (fun W=>zca b (by omega) W);have d5:w2.drew.cell? ⟨hh,1,none⟩=some (.slice AT N cT):=h5;have HH5:=zz (fun (W:World) (hW:Below w2.heap.size w2 W)=>(((HHI.out.below hW HHI.out.lt).cell 1).trans rfl:W.cell? ⟨hh,1,none⟩=some (.slice AT N cT)));clear hai hbj;go_upto_region 6 with fail
   go_cut [9,10] (fun s9 s10 wx=>∃p q,s9 = .pointer (some ⟨p,0,none⟩)∧s10 = .pointer (some ⟨q,0,none⟩)∧Hid (Blk wx p 33 (idC (idN a)))∧Hid (Blk wx q 33 (idC (idN b)))∧Hid (Below w2.heap.size w2 wx))
   case first =>
    rename_i kk ka jj kb ja jb
    clear ka kk;have hD:Below w2.heap.size w2 w2.drew:=Below.drew (Below.refl w2.heap.size w2);have HS:=zz d5;have HW:=zz hD;refine wp_region_held_drew (S:=fun W=>W.cell? ⟨hh,1,none⟩=some (.slice AT N cT)) (by kernel_rfl) HS.out (fun _=>?_);clear hD d5 h5;generalize w2.drew=v at *;refine tkT (i:=0) (v:=?_) rfl (by kernel_rfl) rfl (fun _ _ _ h=>h) (by kernel_rfl) ?_ HS.out ?_
    rotate_left
    · (intro W hW;have hc:W.cell? ⟨hh,1,none⟩=some (.slice AT N cT):=hW;go_simp;try with_reducible rfl)
    try simp only [Act.put,List.setIfInBounds_toArray,List.set_cons_zero,List.set_cons_succ]
    refine tkT (i:=1) (v:=?_) rfl (by kernel_rfl) rfl (fun _ _ _ h=>h) (by kernel_rfl) ?_ HS.out ?_
    rotate_left
    · (intro W hW;have hc:W.cell? ⟨hh,1,none⟩=some (.slice AT N cT):=hW;go_simp;try with_reducible rfl)
    try simp only [Act.put,List.setIfInBounds_toArray,List.set_cons_zero,List.set_cons_succ]
    refine tkT (i:=2) (v:=?_) rfl (by kernel_rfl) rfl (fun _ _ _ h=>h) (by kernel_rfl) ?_ HS.out ?_
    rotate_left
    · (intro W hW;have hc:W.cell? ⟨hh,1,none⟩=some (.slice AT N cT):=hW;go_simp;try with_reducible rfl)
    try simp only [Act.put,List.setIfInBounds_toArray,List.set_cons_zero,List.set_cons_succ]
    refine tkT (i:=3) (v:=?_) rfl (by kernel_rfl) rfl (fun _ _ _ h=>h) (by kernel_rfl) ?_ HS.out ?_
    rotate_left
    · (intro W hW;have hc:W.cell? ⟨hh,1,none⟩=some (.slice AT N cT):=hW;go_simp;try with_reducible rfl)
    try simp only [Act.put,List.setIfInBounds_toArray,List.set_cons_zero,List.set_cons_succ]
    refine tkT (i:=4) (v:=?_) rfl (by kernel_rfl) rfl (fun _ _ _ h=>h) (by kernel_rfl) ?_ HS.out ?_
    rotate_left
    · (intro W hW;have hc:W.cell? ⟨hh,1,none⟩=some (.slice AT N cT):=hW;go_simp;try with_reducible rfl)
    try simp only [Act.put,List.setIfInBounds_toArray,List.set_cons_zero,List.set_cons_succ]
    refine tkT (i:=5) (v:=?_) rfl (by kernel_rfl) rfl (fun _ _ _ h=>h) (by kernel_rfl) ?_ HS.out ?_
    rotate_left
    · (intro W hW;have hc:W.cell? ⟨hh,1,none⟩=some (.slice AT N cT):=hW;go_simp;try with_reducible rfl)
    try simp only [Act.put,List.setIfInBounds_toArray,List.set_cons_zero,List.set_cons_succ]
    refine tkT (i:=8) (v:=?_) rfl (by kernel_rfl) rfl (fun _ _ _ h=>h) (by kernel_rfl) ?_ HS.out ?_
    rotate_left
    · (intro W hW;have hc:W.cell? ⟨hh,1,none⟩=some (.slice AT N cT):=hW;go_simp;try with_reducible rfl)
    try simp only [Act.put,List.setIfInBounds_toArray,List.set_cons_zero,List.set_cons_succ]
    refine tkT (i:=9) (v:=?_) rfl (by kernel_rfl) rfl (fun _ _ _ h=>h) (by kernel_rfl) ?_ HS.out ?_
    rotate_left
    · (intro W hW;have hc:W.cell? ⟨hh,1,none⟩=some (.slice AT N cT):=hW;go_simp;try with_reducible rfl)
    try simp only [Act.put,List.setIfInBounds_toArray,List.set_cons_zero,List.set_cons_succ]
    refine tkT (i:=10) (v:=?_) rfl (by kernel_rfl) rfl (fun _ _ _ h=>h) (by kernel_rfl) ?_ HS.out ?_
    rotate_left
    · (intro W hW;have hc:W.cell? ⟨hh,1,none⟩=some (.slice AT N cT):=hW;go_simp;try with_reducible rfl)
    try simp only [Act.put,List.setIfInBounds_toArray,List.set_cons_zero,List.set_cons_succ]
    refine tkT (i:=11) (v:=?_) rfl (by kernel_rfl) rfl (fun _ _ _ h=>h) (by kernel_rfl) ?_ HS.out ?_
    rotate_left
    · (intro W hW;have hc:W.cell? ⟨hh,1,none⟩=some (.slice AT N cT):=hW;go_simp;try with_reducible rfl)
    try simp only [Act.put,List.setIfInBounds_toArray,List.set_cons_zero,List.set_cons_succ]
    refine tkT (i:=12) (v:=?_) rfl (by kernel_rfl) rfl (fun _ _ _ h=>h) (by kernel_rfl) ?_ HS.out ?_
    rotate_left
    · (intro W hW;have hc:W.cell? ⟨hh,1,none⟩=some (.slice AT N cT):=hW;go_simp;try with_reducible rfl)
    try simp only [Act.put,List.setIfInBounds_toArray,List.set_cons_zero,List.set_cons_succ]
    refine tkT (i:=13) (v:=?_) rfl (by kernel_rfl) rfl (fun _ _ _ h=>h) (by kernel_rfl) ?_ HS.out ?_
    rotate_left
    · (intro W hW;have hc:W.cell? ⟨hh,1,none⟩=some (.slice AT N cT):=hW;go_simp;try with_reducible rfl)
    try simp only [Act.put,List.setIfInBounds_toArray,List.set_cons_zero,List.set_cons_succ]
    have s0n:=trivial
    iterate 6
     all_goals first
      | (have q:=s0n;clear q;refine wpAnyH_ready (rs:=[6,16,17]) (by kernel_rfl) (by simp) ?_;refine (AllReadyH.cons rfl (fun K hK=>?_) (AllReadyH.cons rfl (fun K hK=>?_) (AllReadyH.cons rfl (fun K hK=>?_) AllReadyH.nil)));(focus (go_simp;go_at_call 10;(with_reducible refine (HWI.out _).mono ?_);rintro _ v3 ⟨rfl,hvv⟩;subst hvv;go_wp2_with fail;refine hK.out _ _ HS.out (fun _=>?_);clear hK K s0n;have s1n:=trivial;try simp only [Act.put,List.setIfInBounds_toArray,List.set_cons_zero,List.set_cons_succ]));rotate_left;(focus (go_simp;have hbl:=zaK v;have hba:=zaI HW.out (Nat.le_refl _);have hp9:=HW.out.size;have HS:=zz (HH5.out _ hba);refine hK.out _ _ HS.out (fun _=>?_);clear hK K s0n;have s0x:=trivial;generalize v.heap.size=p9 at *;generalize alI v=v at *;have H9:=zz hbl;have HW:=zz hba;clear hbl hba;try simp only [Act.put,List.setIfInBounds_toArray,List.set_cons_zero,List.set_cons_succ]));rotate_left;(focus (go_simp;have hbl:=zaK v;have hba:=zaI HW.out (Nat.le_refl _);have hp10:=HW.out.size;have HS:=zz (HH5.out _ hba);refine hK.out _ _ HS.out (fun _=>?_);clear hK K s0n;have s0y:=trivial;generalize v.heap.size=p10 at *;generalize alI v=v at *;have H10:=zz hbl;have HW:=zz hba;clear hbl hba;try simp only [Act.put,List.setIfInBounds_toArray,List.set_cons_zero,List.set_cons_succ]));rotate_left)
      | (have q:=s0x;clear q;refine wpAnyH_ready (rs:=[6,17]) (by kernel_rfl) (by simp) ?_;refine (AllReadyH.cons rfl (fun K hK=>?_) (AllReadyH.cons rfl (fun K hK=>?_) AllReadyH.nil));(focus (go_simp;go_at_call 10;(with_reducible refine (HWI.out _).mono ?_);rintro _ v3 ⟨rfl,hvv⟩;subst hvv;go_wp2_with fail;refine hK.out _ _ HS.out (fun _=>?_);clear hK K s0x;have s1x:=trivial;try simp only [Act.put,List.setIfInBounds_toArray,List.set_cons_zero,List.set_cons_succ]));rotate_left;(focus (go_simp;have hbl:=zaK v;have hba:=zaI HW.out (Nat.le_refl _);have hp10:=HW.out.size;have HS:=zz (HH5.out _ hba);have hne:=H9.out.lt;have H9:=zz H9.out.alI_;refine hK.out _ _ HS.out (fun _=>?_);clear hK K s0x;have s0b:=trivial;generalize v.heap.size=p10 at *;generalize alI v=v at *;have H10:=zz hbl;have HW:=zz hba;clear hbl hba;try simp only [Act.put,List.setIfInBounds_toArray,List.set_cons_zero,List.set_cons_succ]));rotate_left)
      | (have q:=s0y;clear q;refine wpAnyH_ready (rs:=[6,16]) (by kernel_rfl) (by simp) ?_;refine (AllReadyH.cons rfl (fun K hK=>?_) (AllReadyH.cons rfl (fun K hK=>?_) AllReadyH.nil));(focus (go_simp;go_at_call 10;(with_reducible refine (HWI.out _).mono ?_);rintro _ v3 ⟨rfl,hvv⟩;subst hvv;go_wp2_with fail;refine hK.out _ _ HS.out (fun _=>?_);clear hK K s0y;have s1y:=trivial;try simp only [Act.put,List.setIfInBounds_toArray,List.set_cons_zero,List.set_cons_succ]));rotate_left;(focus (go_simp;have hbl:=zaK v;have hba:=zaI HW.out (Nat.le_refl _);have hp9:=HW.out.size;have HS:=zz (HH5.out _ hba);have hne:=H10.out.lt;have H10:=zz H10.out.alI_;refine hK.out _ _ HS.out (fun _=>?_);clear hK K s0y;have s0b:=trivial;generalize v.heap.size=p9 at *;generalize alI v=v at *;have H9:=zz hbl;have HW:=zz hba;clear hbl hba;try simp only [Act.put,List.setIfInBounds_toArray,List.set_cons_zero,List.set_cons_succ]));rotate_left)
      | (have q:=s0b;clear q;refine wpAnyH_ready (rs:=[6]) (by kernel_rfl) (by simp) ?_;refine (AllReadyH.cons rfl (fun K hK=>?_) AllReadyH.nil);(focus (go_simp;go_at_call 10;(with_reducible refine (HWI.out _).mono ?_);rintro _ v3 ⟨rfl,hvv⟩;subst hvv;go_wp2_with fail;refine hK.out _ _ HS.out (fun _=>?_);clear hK K s0b;have s1b:=trivial;try simp only [Act.put,List.setIfInBounds_toArray,List.set_cons_zero,List.set_cons_succ])))
      | (have q:=s1n;clear q;refine wpAnyH_ready (rs:=[7,16,17]) (by kernel_rfl) (by simp) ?_;refine (AllReadyH.cons rfl (fun K hK=>?_) (AllReadyH.cons rfl (fun K hK=>?_) (AllReadyH.cons rfl (fun K hK=>?_) AllReadyH.nil)));(focus (go_simp;go_at_call 9;(with_reducible refine (HIA.out _).mono ?_);rintro _ v ⟨rfl,hb⟩;have hbc:=HW.out.trans (hb.mono HW.out.size);have HS:=zz (HH5.out _ hbc);have HW:=zz hbc;clear hb hbc;go_wp2_with fail;refine hK.out _ _ HS.out (fun _=>?_);clear hK K s1n;have s2n:=trivial;try simp only [Act.put,List.setIfInBounds_toArray,List.set_cons_zero,List.set_cons_succ]));rotate_left;(focus (go_simp;have hbl:=zaK v;have hba:=zaI HW.out (Nat.le_refl _);have hp9:=HW.out.size;have HS:=zz (HH5.out _ hba);refine hK.out _ _ HS.out (fun _=>?_);clear hK K s1n;have s1x:=trivial;generalize v.heap.size=p9 at *;generalize alI v=v at *;have H9:=zz hbl;have HW:=zz hba;clear hbl hba;try simp only [Act.put,List.setIfInBounds_toArray,List.set_cons_zero,List.set_cons_succ]));rotate_left;(focus (go_simp;have hbl:=zaK v;have hba:=zaI HW.out (Nat.le_refl _);have hp10:=HW.out.size;have HS:=zz (HH5.out _ hba);refine hK.out _ _ HS.out (fun _=>?_);clear hK K s1n;have s1y:=trivial;generalize v.heap.size=p10 at *;generalize alI v=v at *;have H10:=zz hbl;have HW:=zz hba;clear hbl hba;try simp only [Act.put,List.setIfInBounds_toArray,List.set_cons_zero,List.set_cons_succ]));rotate_left)
      | (have q:=s1x;clear q;refine wpAnyH_ready (rs:=[7,17]) (by kernel_rfl) (by simp) ?_;refine (AllReadyH.cons rfl (fun K hK=>?_) (AllReadyH.cons rfl (fun K hK=>?_) AllReadyH.nil));(focus (go_simp;go_at_call 9;(with_reducible refine (HIA.out _).mono ?_);rintro _ v ⟨rfl,hb⟩;have hbc:=HW.out.trans (hb.mono HW.out.size);have HS:=zz (HH5.out _ hbc);have H9:=zz (H9.out.below hb H9.out.lt);have HW:=zz hbc;clear hb hbc;go_wp2_with fail;refine hK.out _ _ HS.out (fun _=>?_);clear hK K s1x;have s2x:=trivial;try simp only [Act.put,List.setIfInBounds_toArray,List.set_cons_zero,List.set_cons_succ]));rotate_left;(focus (go_simp;have hbl:=zaK v;have hba:=zaI HW.out (Nat.le_refl _);have hp10:=HW.out.size;have HS:=zz (HH5.out _ hba);have hne:=H9.out.lt;have H9:=zz H9.out.alI_;refine hK.out _ _ HS.out (fun _=>?_);clear hK K s1x;have s1b:=trivial;generalize v.heap.size=p10 at *;generalize alI v=v at *;have H10:=zz hbl;have HW:=zz hba;clear hbl hba;try simp only [Act.put,List.setIfInBounds_toArray,List.set_cons_zero,List.set_cons_succ]));rotate_left)
      | (have q:=s1y;clear q;refine wpAnyH_ready (rs:=[7,16]) (by kernel_rfl) (by simp) ?_;refine (AllReadyH.cons rfl (fun K hK=>?_) (AllReadyH.cons rfl (fun K hK=>?_) AllReadyH.nil));(focus (go_simp;go_at_call 9;(with_reducible refine (HIA.out _).mono ?_);rintro _ v ⟨rfl,hb⟩;have hbc:=HW.out.trans (hb.mono HW.out.size);have HS:=zz (HH5.out _ hbc);have H10:=zz (H10.out.below hb H10.out.lt);have HW:=zz hbc;clear hb hbc;go_wp2_with fail;refine hK.out _ _ HS.out (fun _=>?_);clear hK K s1y;have s2y:=trivial;try simp only [Act.put,List.setIfInBounds_toArray,List.set_cons_zero,List.set_cons_succ]));rotate_left;(focus (go_simp;have hbl:=zaK v;have hba:=zaI HW.out (Nat.le_refl _);have hp9:=HW.out.size;have HS:=zz (HH5.out _ hba);have hne:=H10.out.lt;have H10:=zz H10.out.alI_;refine hK.out _ _ HS.out (fun _=>?_);clear hK K s1y;have s1b:=trivial;generalize v.heap.size=p9 at *;generalize alI v=v at *;have H9:=zz hbl;have HW:=zz hba;clear hbl hba;try simp only [Act.put,List.setIfInBounds_toArray,List.set_cons_zero,List.set_cons_succ]));rotate_left)
      | (have q:=s1b;clear q;refine wpAnyH_ready (rs:=[7]) (by kernel_rfl) (by simp) ?_;refine (AllReadyH.cons rfl (fun K hK=>?_) AllReadyH.nil);(focus (go_simp;go_at_call 9;(with_reducible refine (HIA.out _).mono ?_);rintro _ v ⟨rfl,hb⟩;have hbc:=HW.out.trans (hb.mono HW.out.size);have HS:=zz (HH5.out _ hbc);have H9:=zz (H9.out.below hb H9.out.lt);have H10:=zz (H10.out.below hb H10.out.lt);have HW:=zz hbc;clear hb hbc;go_wp2_with fail;refine hK.out _ _ HS.out (fun _=>?_);clear hK K s1b;have s2b:=trivial;try simp only [Act.put,List.setIfInBounds_toArray,List.set_cons_zero,List.set_cons_succ])))
      | (have q:=s2n;clear q;refine wpAnyH_ready (rs:=[14,16,17]) (by kernel_rfl) (by simp) ?_;refine (AllReadyH.cons rfl (fun K hK=>?_) (AllReadyH.cons rfl (fun K hK=>?_) (AllReadyH.cons rfl (fun K hK=>?_) AllReadyH.nil)));(focus (go_simp;go_at_call 10;(with_reducible refine (HWJ.out _).mono ?_);rintro _ v3 ⟨rfl,hvv⟩;subst hvv;go_wp2_with fail;refine hK.out _ _ HS.out (fun _=>?_);clear hK K s2n;have s3n:=trivial;try simp only [Act.put,List.setIfInBounds_toArray,List.set_cons_zero,List.set_cons_succ]));rotate_left;(focus (go_simp;have hbl:=zaK v;have hba:=zaI HW.out (Nat.le_refl _);have hp9:=HW.out.size;have HS:=zz (HH5.out _ hba);refine hK.out _ _ HS.out (fun _=>?_);clear hK K s2n;have s2x:=trivial;generalize v.heap.size=p9 at *;generalize alI v=v at *;have H9:=zz hbl;have HW:=zz hba;clear hbl hba;try simp only [Act.put,List.setIfInBounds_toArray,List.set_cons_zero,List.set_cons_succ]));rotate_left;(focus (go_simp;have hbl:=zaK v;have hba:=zaI HW.out (Nat.le_refl _);have hp10:=HW.out.size;have HS:=zz (HH5.out _ hba);refine hK.out _ _ HS.out (fun _=>?_);clear hK K s2n;have s2y:=trivial;generalize v.heap.size=p10 at *;generalize alI v=v at *;have H10:=zz hbl;have HW:=zz hba;clear hbl hba;try simp only [Act.put,List.setIfInBounds_toArray,List.set_cons_zero,List.set_cons_succ]));rotate_left)
      | (have q:=s2x;clear q;refine wpAnyH_ready (rs:=[14,17]) (by kernel_rfl) (by simp) ?_;refine (AllReadyH.cons rfl (fun K hK=>?_) (AllReadyH.cons rfl (fun K hK=>?_) AllReadyH.nil));(focus (go_simp;go_at_call 10;(with_reducible refine (HWJ.out _).mono ?_);rintro _ v3 ⟨rfl,hvv⟩;subst hvv;go_wp2_with fail;refine hK.out _ _ HS.out (fun _=>?_);clear hK K s2x;have s3x:=trivial;try simp only [Act.put,List.setIfInBounds_toArray,List.set_cons_zero,List.set_cons_succ]));rotate_left;(focus (go_simp;have hbl:=zaK v;have hba:=zaI HW.out (Nat.le_refl _);have hp10:=HW.out.size;have HS:=zz (HH5.out _ hba);have hne:=H9.out.lt;have H9:=zz H9.out.alI_;refine hK.out _ _ HS.out (fun _=>?_);clear hK K s2x;have s2b:=trivial;generalize v.heap.size=p10 at *;generalize alI v=v at *;have H10:=zz hbl;have HW:=zz hba;clear hbl hba;try simp only [Act.put,List.setIfInBounds_toArray,List.set_cons_zero,List.set_cons_succ]));rotate_left)
      | (have q:=s2y;clear q;refine wpAnyH_ready (rs:=[14,16]) (by kernel_rfl) (by simp) ?_;refine (AllReadyH.cons rfl (fun K hK=>?_) (AllReadyH.cons rfl (fun K hK=>?_) AllReadyH.nil));(focus (go_simp;go_at_call 10;(with_reducible refine (HWJ.out _).mono ?_);rintro _ v3 ⟨rfl,hvv⟩;subst hvv;go_wp2_with fail;refine hK.out _ _ HS.out (fun _=>?_);clear hK K s2y;have s3y:=trivial;try simp only [Act.put,List.setIfInBounds_toArray,List.set_cons_zero,List.set_cons_succ]));rotate_left;(focus (go_simp;have hbl:=zaK v;have hba:=zaI HW.out (Nat.le_refl _);have hp9:=HW.out.size;have HS:=zz (HH5.out _ hba);have hne:=H10.out.lt;have H10:=zz H10.out.alI_;refine hK.out _ _ HS.out (fun _=>?_);clear hK K s2y;have s2b:=trivial;generalize v.heap.size=p9 at *;generalize alI v=v at *;have H9:=zz hbl;have HW:=zz hba;clear hbl hba;try simp only [Act.put,List.setIfInBounds_toArray,List.set_cons_zero,List.set_cons_succ]));rotate_left)
      | (have q:=s2b;clear q;refine wpAnyH_ready (rs:=[14]) (by kernel_rfl) (by simp) ?_;refine (AllReadyH.cons rfl (fun K hK=>?_) AllReadyH.nil);(focus (go_simp;go_at_call 10;(with_reducible refine (HWJ.out _).mono ?_);rintro _ v3 ⟨rfl,hvv⟩;subst hvv;go_wp2_with fail;refine hK.out _ _ HS.out (fun _=>?_);clear hK K s2b;have s3b:=trivial;try simp only [Act.put,List.setIfInBounds_toArray,List.set_cons_zero,List.set_cons_succ])))
      | (have q:=s3n;clear q;refine wpAnyH_ready (rs:=[15,16,17]) (by kernel_rfl) (by simp) ?_;refine (AllReadyH.cons rfl (fun K hK=>?_) (AllReadyH.cons rfl (fun K hK=>?_) (AllReadyH.cons rfl (fun K hK=>?_) AllReadyH.nil)));(focus (go_simp;go_at_call 9;(with_reducible refine (HIB.out _).mono ?_);rintro _ v ⟨rfl,hb⟩;have hbc:=HW.out.trans (hb.mono HW.out.size);have HS:=zz (HH5.out _ hbc);have HW:=zz hbc;clear hb hbc;go_wp2_with fail;refine hK.out _ _ HS.out (fun _=>?_);clear hK K s3n;have s4n:=trivial;try simp only [Act.put,List.setIfInBounds_toArray,List.set_cons_zero,List.set_cons_succ]));rotate_left;(focus (go_simp;have hbl:=zaK v;have hba:=zaI HW.out (Nat.le_refl _);have hp9:=HW.out.size;have HS:=zz (HH5.out _ hba);refine hK.out _ _ HS.out (fun _=>?_);clear hK K s3n;have s3x:=trivial;generalize v.heap.size=p9 at *;generalize alI v=v at *;have H9:=zz hbl;have HW:=zz hba;clear hbl hba;try simp only [Act.put,List.setIfInBounds_toArray,List.set_cons_zero,List.set_cons_succ]));rotate_left;(focus (go_simp;have hbl:=zaK v;have hba:=zaI HW.out (Nat.le_refl _);have hp10:=HW.out.size;have HS:=zz (HH5.out _ hba);refine hK.out _ _ HS.out (fun _=>?_);clear hK K s3n;have s3y:=trivial;generalize v.heap.size=p10 at *;generalize alI v=v at *;have H10:=zz hbl;have HW:=zz hba;clear hbl hba;try simp only [Act.put,List.setIfInBounds_toArray,List.set_cons_zero,List.set_cons_succ]));rotate_left)
      | (have q:=s3x;clear q;refine wpAnyH_ready (rs:=[15,17]) (by kernel_rfl) (by simp) ?_;refine (AllReadyH.cons rfl (fun K hK=>?_) (AllReadyH.cons rfl (fun K hK=>?_) AllReadyH.nil));(focus (go_simp;go_at_call 9;(with_reducible refine (HIB.out _).mono ?_);rintro _ v ⟨rfl,hb⟩;have hbc:=HW.out.trans (hb.mono HW.out.size);have HS:=zz (HH5.out _ hbc);have H9:=zz (H9.out.below hb H9.out.lt);have HW:=zz hbc;clear hb hbc;go_wp2_with fail;refine hK.out _ _ HS.out (fun _=>?_);clear hK K s3x;have s4x:=trivial;try simp only [Act.put,List.setIfInBounds_toArray,List.set_cons_zero,List.set_cons_succ]));rotate_left;(focus (go_simp;have hbl:=zaK v;have hba:=zaI HW.out (Nat.le_refl _);have hp10:=HW.out.size;have HS:=zz (HH5.out _ hba);have hne:=H9.out.lt;have H9:=zz H9.out.alI_;refine hK.out _ _ HS.out (fun _=>?_);clear hK K s3x;have s3b:=trivial;generalize v.heap.size=p10 at *;generalize alI v=v at *;have H10:=zz hbl;have HW:=zz hba;clear hbl hba;try simp only [Act.put,List.setIfInBounds_toArray,List.set_cons_zero,List.set_cons_succ]));rotate_left)
      | (have q:=s3y;clear q;refine wpAnyH_ready (rs:=[15,16]) (by kernel_rfl) (by simp) ?_;refine (AllReadyH.cons rfl (fun K hK=>?_) (AllReadyH.cons rfl (fun K hK=>?_) AllReadyH.nil));(focus (go_simp;go_at_call 9;(with_reducible refine (HIB.out _).mono ?_);rintro _ v ⟨rfl,hb⟩;have hbc:=HW.out.trans (hb.mono HW.out.size);have HS:=zz (HH5.out _ hbc);have H10:=zz (H10.out.below hb H10.out.lt);have HW:=zz hbc;clear hb hbc;go_wp2_with fail;refine hK.out _ _ HS.out (fun _=>?_);clear hK K s3y;have s4y:=trivial;try simp only [Act.put,List.setIfInBounds_toArray,List.set_cons_zero,List.set_cons_succ]));rotate_left;(focus (go_simp;have hbl:=zaK v;have hba:=zaI HW.out (Nat.le_refl _);have hp9:=HW.out.size;have HS:=zz (HH5.out _ hba);have hne:=H10.out.lt;have H10:=zz H10.out.alI_;refine hK.out _ _ HS.out (fun _=>?_);clear hK K s3y;have s3b:=trivial;generalize v.heap.size=p9 at *;generalize alI v=v at *;have H9:=zz hbl;have HW:=zz hba;clear hbl hba;try simp only [Act.put,List.setIfInBounds_toArray,List.set_cons_zero,List.set_cons_succ]));rotate_left)
      | (have q:=s3b;clear q;refine wpAnyH_ready (rs:=[15]) (by kernel_rfl) (by simp) ?_;refine (AllReadyH.cons rfl (fun K hK=>?_) AllReadyH.nil);(focus (go_simp;go_at_call 9;(with_reducible refine (HIB.out _).mono ?_);rintro _ v ⟨rfl,hb⟩;have hbc:=HW.out.trans (hb.mono HW.out.size);have HS:=zz (HH5.out _ hbc);have H9:=zz (H9.out.below hb H9.out.lt);have H10:=zz (H10.out.below hb H10.out.lt);have HW:=zz hbc;clear hb hbc;go_wp2_with fail;refine hK.out _ _ HS.out (fun _=>?_);clear hK K s3b;have s4b:=trivial;try simp only [Act.put,List.setIfInBounds_toArray,List.set_cons_zero,List.set_cons_succ])))
      | (have q:=s4n;clear q;refine wpAnyH_ready (rs:=[16,17]) (by kernel_rfl) (by simp) ?_;refine (AllReadyH.cons rfl (fun K hK=>?_) (AllReadyH.cons rfl (fun K hK=>?_) AllReadyH.nil));(focus (go_simp;have hbl:=zaK v;have hba:=zaI HW.out (Nat.le_refl _);have hp9:=HW.out.size;have HS:=zz (HH5.out _ hba);refine hK.out _ _ HS.out (fun _=>?_);clear hK K s4n;have s4x:=trivial;generalize v.heap.size=p9 at *;generalize alI v=v at *;have H9:=zz hbl;have HW:=zz hba;clear hbl hba;try simp only [Act.put,List.setIfInBounds_toArray,List.set_cons_zero,List.set_cons_succ]));rotate_left;(focus (go_simp;have hbl:=zaK v;have hba:=zaI HW.out (Nat.le_refl _);have hp10:=HW.out.size;have HS:=zz (HH5.out _ hba);refine hK.out _ _ HS.out (fun _=>?_);clear hK K s4n;have s4y:=trivial;generalize v.heap.size=p10 at *;generalize alI v=v at *;have H10:=zz hbl;have HW:=zz hba;clear hbl hba;try simp only [Act.put,List.setIfInBounds_toArray,List.set_cons_zero,List.set_cons_succ]));rotate_left)
      | (have q:=s4x;clear q;refine wpAnyH_ready (rs:=[17]) (by kernel_rfl) (by simp) ?_;refine (AllReadyH.cons rfl (fun K hK=>?_) AllReadyH.nil);(focus (go_simp;have hbl:=zaK v;have hba:=zaI HW.out (Nat.le_refl _);have hp10:=HW.out.size;have HS:=zz (HH5.out _ hba);have hne:=H9.out.lt;have H9:=zz H9.out.alI_;refine hK.out _ _ HS.out (fun _=>?_);clear hK K s4x;have s4b:=trivial;generalize v.heap.size=p10 at *;generalize alI v=v at *;have H10:=zz hbl;have HW:=zz hba;clear hbl hba;try simp only [Act.put,List.setIfInBounds_toArray,List.set_cons_zero,List.set_cons_succ])))
      | (have q:=s4y;clear q;refine wpAnyH_ready (rs:=[16]) (by kernel_rfl) (by simp) ?_;refine (AllReadyH.cons rfl (fun K hK=>?_) AllReadyH.nil);(focus (go_simp;have hbl:=zaK v;have hba:=zaI HW.out (Nat.le_refl _);have hp9:=HW.out.size;have HS:=zz (HH5.out _ hba);have hne:=H10.out.lt;have H10:=zz H10.out.alI_;refine hK.out _ _ HS.out (fun _=>?_);clear hK K s4y;have s4b:=trivial;generalize v.heap.size=p9 at *;generalize alI v=v at *;have H9:=zz hbl;have HW:=zz hba;clear hbl hba;try simp only [Act.put,List.setIfInBounds_toArray,List.set_cons_zero,List.set_cons_succ])))
    all_goals
     obtain ⟨u1,u2,f1,f2,F0,F3,F4,F5⟩:=zo2 (z:=w2.heap.size) hp9 hp10 (by omega) H9.out H10.out HW.out (Nat.le_refl _) (idN a) (idN b);have hs1:=HH5.out _ F0.out;have hs2:=HH5.out _ F5.out;refine wpAnyH_ready (rs:=[18]) (by kernel_rfl) (by simp) ?_;refine AllReadyH.cons rfl (fun K hK=>?_) AllReadyH.nil;go_simp;refine hK.out _ _ hs1 (fun _=>?_);clear hK K
     try simp only [Act.put,List.setIfInBounds_toArray,List.set_cons_zero,List.set_cons_succ]
     refine wpAnyH_ready (rs:=[19]) (by kernel_rfl) (by simp) ?_;refine AllReadyH.cons rfl (fun K hK=>?_) AllReadyH.nil;go_simp;refine hK.out _ _ hs2 (fun _=>?_);clear hK K
     try simp only [Act.put,List.setIfInBounds_toArray,List.set_cons_zero,List.set_cons_succ]
     refine wpAnyH_done (by kernel_rfl) ?_ _
     go_wp2_with fail
     go_meet
     exact ⟨_,_,rfl,rfl,F3,F4,F5⟩
   case rest =>
    obtain ⟨p,q,rfl,rfl,HP,HQ,HBC⟩:=hcut;generalize wc=w9 at *;have hsi:SrcI (zaQ ((ss.take 16).map (·.pars))) rs (za5 (zaQ ((ss.take 16).map (·.pars))) ss N) ts AP AT cP cT N s s 0 w2:=⟨HSRC.out,HRW.out,HTR.out,HV2.out.1,HV2.out.2⟩;have hsw2:s<w2.heap.size:=hsi.src.lt;have hsp:∀{g:Nat},Blk w9 g 33 (idC (idN a))∨Blk w9 g 33 (idC (idN b))→¬Only s g:=fun h e=>by
     unfold Only at e;subst e;have h1:=hsi.src.below HBC.out hsw2;unfold Blk at h h1
     rcases h with h|h
     · rw [h1] at h;injection h with h;injection h with _ h;exact absurd h (by decide)
     · rw [h1] at h;injection h with h;injection h with _ h;exact absurd h (by decide)
    have hRL:(zaQ ((ss.take 16).map (·.pars))).length=N:=by rw [zla,List.length_map,List.length_take];have:=HNM.out;omega
    obtain ⟨l,t,n,x,y,v,m,m',c1,c2,c3,c4,hmm,hxy,hll,htl,hxl⟩:=ztK (zaQ ((ss.take 16).map (·.pars))) (zgc _) rs ts (za5 (zaQ ((ss.take 16).map (·.pars))) ss N) AP AT cP cT N s hRL (zfu _ _ _) hN16 (zhO _) (by omega) (zeg _ _ _) a b ha hb;have HC1:=zz c1;have HC2:=zz c2;have HC3:=zz c3;have HC4:=zz c4;have HPP:=zz (And.intro hmm hxy);have HLL:=zz (And.intro hll (And.intro htl hxl));have HS9:=zz (hsi.below HBC.out (Nat.le_refl _));have HBZ:=zz (HBT.out.trans (HBC.out.mono (by omega)));have d1:=LdId.blk HP.out;have d2:=LdId.blk HQ.out;clear c1 c2 c3 c4 hmm hxy hll htl hxl hsi HSRC HRW HTR HHI HV2 HBC HBT HWI HWJ HIA HIB d5 HH5;have hne:¬Only s p∧¬Only s q:=⟨hsp (.inl HP.out),hsp (.inr HQ.out)⟩;clear hsp;have HNE:=zz hne
    go_upto_region 11 with (first
     | (go_at_call 11;(with_reducible refine (HC1.out _ w9 HS9.out).mono ?_);rintro _ w10 ⟨q10,⟨A1,k1,B1,j1,rfl,hr1,hf1⟩,hs1,hk1⟩;have HR1:=zz hr1;have HF1:=zz hf1;have HS10:=zz hs1;have HK10:=zz hk1;have d3:=LdId.blk (HP.out.keep hk1 HNE.out.1);have d4:=LdId.blk (HQ.out.keep hk1 HNE.out.2);clear hr1 hf1 hs1 hk1)
     | (go_at_call 11;(with_reducible refine (HC2.out _ w10 HS10.out).mono ?_);rintro _ w11 ⟨q11,⟨A2,k2,B2,j2,rfl,hr2,hf2⟩,hs2,hk2⟩;have HR2:=zz hr2;have HF2:=zz hf2;have HS11:=zz hs2;have HK11:=zz hk2;have d5:=LdId.blk (HP.out.keep (HK10.out.trans hk2) HNE.out.1);have d6:=LdId.blk (HQ.out.keep (HK10.out.trans hk2) HNE.out.2);clear hr2 hf2 hs2 hk2)
     | (go_at_call 12;(with_reducible refine (HC3.out _ w11 HS11.out).mono ?_);rintro _ w12 ⟨q12,⟨A3,k3,B3,j3,rfl,hf3,hr3,hl3⟩,hs3,hk3⟩;have HR3:=zz hr3;have HF3:=zz hf3;have HL3:=zz hl3;have HS12:=zz hs3;have HK12:=zz hk3;have d7:=LdId.blk (HP.out.keep ((HK10.out.trans HK11.out).trans hk3) HNE.out.1);have d8:=LdId.blk (HQ.out.keep ((HK10.out.trans HK11.out).trans hk3) HNE.out.2);clear hr3 hf3 hl3 hs3 hk3)
     | (go_at_call 12;(with_reducible refine (HC4.out _ w12 HS12.out).mono ?_);rintro _ w13 ⟨q13,⟨A4,k4,B4,j4,rfl,hf4,hr4,hl4⟩,hs4,hk4⟩;have HR4:=zz hr4;have HF4:=zz hf4;have HL4:=zz hl4;have HS13:=zz hs4;have HK13:=zz hk4;clear hr4 hf4 hl4 hs4 hk4))
    have HR1:=zz (zdU HR1.out (Nat.le_refl _) ((HK11.out.trans HK12.out).trans HK13.out) HS10.out.no);have HF1:=zz (HF1.out.far (Nat.le_refl _) ((HK11.out.trans HK12.out).trans HK13.out) HS10.out.no);have HR2:=zz (zdU HR2.out (Nat.le_refl _) (HK12.out.trans HK13.out) HS11.out.no);have HF2:=zz (HF2.out.far (Nat.le_refl _) (HK12.out.trans HK13.out) HS11.out.no);have HR3:=zz (zok HR3.out (Nat.le_refl _) HK13.out HS12.out.no);have HF3:=zz (HF3.out.far (Nat.le_refl _) HK13.out HS12.out.no);have z10:=HK10.out.size;have z11:=HK11.out.size;have z12:=HK12.out.size;have z13:=HK13.out.size;have hb13:Below z w w13:=HBZ.out.trans ((((HK10.out.trans HK11.out).trans HK12.out).trans HK13.out).below (by have:=HBZ.out.size;have:=HZ.out;omega) (fun i hi q=>by unfold Only at q;omega));have HB13:=zz hb13;have hzz:z≤w13.heap.size:=by have:=HBZ.out.size;have:=HZ.out;omega
    have HSI:=zz (fun W (hW:Below w13.heap.size w13 W)=>zp1 l A1 A2 k1 k2 w13.heap.size W hW.size ((HR1.out.more (by omega)).below hW) ((HR2.out.more (by omega)).below hW) HLL.out.1);have HSF:=zz (fun W (hW:Below w13.heap.size w13 W)=>zlR t t B1 B2 j1 j2 w13.heap.size W hW.size ((HF1.out.more (by omega)).below hW) ((HF2.out.more (by omega)).below hW) HLL.out.2.1);have HSC:=zz (fun W (hW:Below w13.heap.size w13 W)=>zsV v v B3 B4 j3 j4 w13.heap.size W hW.size ((HR3.out.more (by omega)).below hW) (HR4.out.below hW) HL3.out);have HSG:=zz (fun W (hW:Below w13.heap.size w13 W)=>zlR x y A3 A4 k3 k4 w13.heap.size W hW.size ((HF3.out.more (by omega)).below hW) (HF4.out.below hW) HLL.out.2.2);clear d1 d2 d3 d4 d5 d6 d7 d8 HR1 HF1 HR2 HF2 HR3 HF3 HR4 HF4 HL3 HL4 HS9 HS10 HS11 HS12 HS13 HK10 HK11 HK12 HK13 HP HQ HNE hne HC1 HC2 HC3 HC4 HBZ hb13 z10 z11 z12 z13;obtain ⟨bn,hbn⟩:∃bn,decide (n=0)=bn:=⟨_,rfl⟩;obtain ⟨bm,hbm⟩:∃bm,decide (m=0)=bm:=⟨_,rfl⟩;have hbm':decide (m'=0)=bm:=by rw [←hbm];exact decide_eq_decide.2 HPP.out.1.symm
    have E1:∀W:World,(binOp .eql 39 (errV n) .nilIface).run Tryz.prog W = .ok (.bool bn) W:=fun W=>by rw [zhG,hbn]
    have E2:∀W:World,(binOp .eql 39 (errV m) .nilIface).run Tryz.prog W = .ok (.bool bm) W:=fun W=>by rw [zhG,hbm]
    have E3:∀W:World,(binOp .eql 39 (errV m') .nilIface).run Tryz.prog W = .ok (.bool bm) W:=fun W=>by rw [zhG,hbm']
    have G1:=fun (x:Operand) (W:World)=>zgh n x .nilIface W;have G2:=fun (x:Operand) (W:World)=>zgh m x .nilIface W;have G3:=fun (x:Operand) (W:World)=>zgh m' x .nilIface W;have HSF:=zz (fun W hW=>by have:=HSF.out W hW;rwa [decide_eq_true rfl] at this);have HSC:=zz (fun W hW=>by have:=HSC.out W hW;rwa [decide_eq_true rfl] at this);clear hbn hbm hbm';refine wp_region_held_drew (S:=fun W=>Below w13.heap.size w13 W) (by kernel_rfl) (Below.drew (Below.refl w13.heap.size w13)) (fun _=>?_);have HS:=zz (show Below w13.heap.size w13 w13.drew from Below.drew (Below.refl w13.heap.size w13));refine tkT (i:=0) (v:=?_) rfl (by kernel_rfl) rfl (fun _ _ _ h=>h) (by kernel_rfl) ?_ HS.out ?_
    rotate_left
    · (intro W hW;go_simp;try with_reducible rfl)
    try simp only [Act.put,List.setIfInBounds_toArray,List.set_cons_zero,List.set_cons_succ]
    refine tkT (i:=1) (v:=?_) rfl (by kernel_rfl) rfl (fun _ _ _ h=>h) (by kernel_rfl) ?_ HS.out ?_
    rotate_left
    · (intro W hW;go_simp;try with_reducible rfl)
    try simp only [Act.put,List.setIfInBounds_toArray,List.set_cons_zero,List.set_cons_succ]
    refine wpAnyH_ready (rs:=[2]) (by kernel_rfl) (by simp) ?_;refine AllReadyH.cons rfl (fun K hK=>?_) AllReadyH.nil;go_simp;go_at_call 13
    (with_reducible refine (HSI.out _ HS.out).mono ?_)
    rintro _ wn ⟨rfl,hb0⟩;have hb:=HS.out.trans (hb0.mono HS.out.size);clear hb0
    go_wp2_with fail
    refine hK.out _ _ hb (fun _=>?_);clear hK K HS;have HS:=zz hb;clear hb
    try simp only [Act.put,List.setIfInBounds_toArray,List.set_cons_zero,List.set_cons_succ]
    refine tkT (i:=3) (v:=?_) rfl (by kernel_rfl) rfl (fun _ _ _ h=>h) (by kernel_rfl) ?_ HS.out ?_
    rotate_left
    · (intro W hW;go_simp;try with_reducible rfl)
    try simp only [Act.put,List.setIfInBounds_toArray,List.set_cons_zero,List.set_cons_succ]
    refine tkT (i:=4) (v:=?_) rfl (by kernel_rfl) rfl (fun _ _ _ h=>h) (by kernel_rfl) ?_ HS.out ?_
    rotate_left
    · (intro W hW;go_simp;try with_reducible rfl)
    try simp only [Act.put,List.setIfInBounds_toArray,List.set_cons_zero,List.set_cons_succ]
    refine tkT (i:=5) (v:=?_) rfl (by kernel_rfl) rfl (fun _ _ _ h=>h) (by kernel_rfl) ?_ HS.out ?_
    rotate_left
    · (intro W hW;go_simp;try with_reducible rfl)
    try simp only [Act.put,List.setIfInBounds_toArray,List.set_cons_zero,List.set_cons_succ]
    refine wpAnyH_ready (rs:=[6]) (by kernel_rfl) (by simp) ?_;refine AllReadyH.cons rfl (fun K hK=>?_) AllReadyH.nil;go_simp;go_at_call 14
    (with_reducible refine (HSF.out _ HS.out).mono ?_)
    rintro _ wn ⟨rfl,hb0⟩;have hb:=HS.out.trans (hb0.mono HS.out.size);clear hb0
    go_wp2_with fail
    refine hK.out _ _ hb (fun _=>?_);clear hK K HS;have HS:=zz hb;clear hb
    try simp only [Act.put,List.setIfInBounds_toArray,List.set_cons_zero,List.set_cons_succ]
    refine tkT (i:=7) (v:=?_) rfl (by kernel_rfl) rfl (fun _ _ _ h=>h) (by kernel_rfl) ?_ HS.out ?_
    rotate_left
    · (intro W hW;go_simp;try with_reducible rfl)
    try simp only [Act.put,List.setIfInBounds_toArray,List.set_cons_zero,List.set_cons_succ]
    refine tkT (i:=8) (v:=?_) rfl (by kernel_rfl) rfl (fun _ _ _ h=>h) (by kernel_rfl) ?_ HS.out ?_
    rotate_left
    · (intro W hW;go_simp;try with_reducible rfl)
    try simp only [Act.put,List.setIfInBounds_toArray,List.set_cons_zero,List.set_cons_succ]
    refine tkT (i:=9) (v:=?_) rfl (by kernel_rfl) rfl (fun _ _ _ h=>h) (by kernel_rfl) ?_ HS.out ?_
    rotate_left
    · (intro W hW;go_simp;try with_reducible rfl)
    try simp only [Act.put,List.setIfInBounds_toArray,List.set_cons_zero,List.set_cons_succ]
    refine tkT (i:=10) (v:=?_) rfl (by kernel_rfl) rfl (fun _ _ _ h=>h) (by kernel_rfl) ?_ HS.out ?_
    rotate_left
    · (intro W hW;go_simp;try with_reducible rfl)
    try simp only [Act.put,List.setIfInBounds_toArray,List.set_cons_zero,List.set_cons_succ]
    refine tkT (i:=11) (v:=?_) rfl (by kernel_rfl) rfl (fun _ _ _ h=>h) (by kernel_rfl) ?_ HS.out ?_
    rotate_left
    · (intro W hW;go_simp;try with_reducible rfl)
    try simp only [Act.put,List.setIfInBounds_toArray,List.set_cons_zero,List.set_cons_succ]
    refine tkT (i:=12) (v:=?_) rfl (by kernel_rfl) rfl (fun _ _ _ h=>h) (by kernel_rfl) ?_ HS.out ?_
    rotate_left
    · (intro W hW;go_simp;try with_reducible rfl)
    try simp only [Act.put,List.setIfInBounds_toArray,List.set_cons_zero,List.set_cons_succ]
    refine tkT (i:=13) (v:=?_) rfl (by kernel_rfl) rfl (fun _ _ _ h=>h) (by kernel_rfl) ?_ HS.out ?_
    rotate_left
    · (intro W hW;go_simp;try with_reducible rfl)
    try simp only [Act.put,List.setIfInBounds_toArray,List.set_cons_zero,List.set_cons_succ]
    refine tkT (i:=14) (v:=?_) rfl (by kernel_rfl) rfl (fun _ _ _ h=>h) (by kernel_rfl) ?_ HS.out ?_
    rotate_left
    · (intro W hW;go_simp;try with_reducible rfl)
    try simp only [Act.put,List.setIfInBounds_toArray,List.set_cons_zero,List.set_cons_succ]
    refine tkT (i:=15) (v:=?_) rfl (by kernel_rfl) rfl (fun _ _ _ h=>h) (by kernel_rfl) ?_ HS.out ?_
    rotate_left
    · (intro W hW;go_simp;try with_reducible rfl)
    try simp only [Act.put,List.setIfInBounds_toArray,List.set_cons_zero,List.set_cons_succ]
    refine tkT (i:=16) (v:=?_) rfl (by kernel_rfl) rfl (fun _ _ _ h=>h) (by kernel_rfl) ?_ HS.out ?_
    rotate_left
    · (intro W hW;go_simp;try with_reducible rfl)
    try simp only [Act.put,List.setIfInBounds_toArray,List.set_cons_zero,List.set_cons_succ]
    refine tkT (i:=17) (v:=?_) rfl (by kernel_rfl) rfl (fun _ _ _ h=>h) (by kernel_rfl) ?_ HS.out ?_
    rotate_left
    · (intro W hW;go_simp;try with_reducible rfl)
    try simp only [Act.put,List.setIfInBounds_toArray,List.set_cons_zero,List.set_cons_succ]
    refine tkT (i:=18) (v:=?_) rfl (by kernel_rfl) rfl (fun _ _ _ h=>h) (by kernel_rfl) ?_ HS.out ?_
    rotate_left
    · (intro W hW;go_simp;try with_reducible rfl)
    try simp only [Act.put,List.setIfInBounds_toArray,List.set_cons_zero,List.set_cons_succ]
    refine tkT (i:=19) (v:=?_) rfl (by kernel_rfl) rfl (fun _ _ _ h=>h) (by kernel_rfl) ?_ HS.out ?_
    rotate_left
    · (intro W hW;go_simp;try with_reducible rfl)
    try simp only [Act.put,List.setIfInBounds_toArray,List.set_cons_zero,List.set_cons_succ]
    refine tkT (i:=20) (v:=?_) rfl (by kernel_rfl) rfl (fun _ _ _ h=>h) (by kernel_rfl) ?_ HS.out ?_
    rotate_left
    · (intro W hW;go_simp;try with_reducible rfl)
    try simp only [Act.put,List.setIfInBounds_toArray,List.set_cons_zero,List.set_cons_succ]
    refine tkT (i:=21) (v:=?_) rfl (by kernel_rfl) rfl (fun _ _ _ h=>h) (by kernel_rfl) ?_ HS.out ?_
    rotate_left
    · (intro W hW;go_simp;try with_reducible rfl)
    try simp only [Act.put,List.setIfInBounds_toArray,List.set_cons_zero,List.set_cons_succ]
    refine tkT (i:=22) (v:=?_) rfl (by kernel_rfl) rfl (fun _ _ _ h=>h) (by kernel_rfl) ?_ HS.out ?_
    rotate_left
    · (intro W hW;go_simp;try with_reducible rfl)
    try simp only [Act.put,List.setIfInBounds_toArray,List.set_cons_zero,List.set_cons_succ]
    refine tkT (i:=23) (v:=?_) rfl (by kernel_rfl) rfl (fun _ _ _ h=>h) (by kernel_rfl) ?_ HS.out ?_
    rotate_left
    · (intro W hW;go_simp;try with_reducible rfl)
    try simp only [Act.put,List.setIfInBounds_toArray,List.set_cons_zero,List.set_cons_succ]
    refine tkT (i:=24) (v:=?_) rfl (by kernel_rfl) rfl (fun _ _ _ h=>h) (by kernel_rfl) ?_ HS.out ?_
    rotate_left
    · (intro W hW;go_simp;try with_reducible rfl)
    try simp only [Act.put,List.setIfInBounds_toArray,List.set_cons_zero,List.set_cons_succ]
    refine wpAnyH_ready (rs:=[25]) (by kernel_rfl) (by simp) ?_;refine AllReadyH.cons rfl (fun K hK=>?_) AllReadyH.nil;go_simp;go_at_call 15
    (with_reducible refine (HSC.out _ HS.out).mono ?_)
    rintro _ wn ⟨rfl,hb0⟩;have hb:=HS.out.trans (hb0.mono HS.out.size);clear hb0
    go_wp2_with fail
    refine hK.out _ _ hb (fun _=>?_);clear hK K HS;have HS:=zz hb;clear hb
    try simp only [Act.put,List.setIfInBounds_toArray,List.set_cons_zero,List.set_cons_succ]
    refine tkT (i:=26) (v:=?_) rfl (by kernel_rfl) rfl (fun _ _ _ h=>h) (by kernel_rfl) ?_ HS.out ?_
    rotate_left
    · (intro W hW;go_simp;try with_reducible rfl)
    try simp only [Act.put,List.setIfInBounds_toArray,List.set_cons_zero,List.set_cons_succ]
    refine tkT (i:=27) (v:=?_) rfl (by kernel_rfl) rfl (fun _ _ _ h=>h) (by kernel_rfl) ?_ HS.out ?_
    rotate_left
    · (intro W hW;go_simp;try with_reducible rfl)
    try simp only [Act.put,List.setIfInBounds_toArray,List.set_cons_zero,List.set_cons_succ]
    refine tkT (i:=28) (v:=?_) rfl (by kernel_rfl) rfl (fun _ _ _ h=>h) (by kernel_rfl) ?_ HS.out ?_
    rotate_left
    · (intro W hW;go_simp;try with_reducible rfl)
    try simp only [Act.put,List.setIfInBounds_toArray,List.set_cons_zero,List.set_cons_succ]
    refine tkT (i:=29) (v:=?_) rfl (by kernel_rfl) rfl (fun _ _ _ h=>h) (by kernel_rfl) ?_ HS.out ?_
    rotate_left
    · (intro W hW;go_simp;try with_reducible rfl)
    try simp only [Act.put,List.setIfInBounds_toArray,List.set_cons_zero,List.set_cons_succ]
    by_cases hvn:v=[]
    · have hxy:x=y:=HPP.out.2 hvn;have HSG:=zz (show ∀W,Below w13.heap.size w13 W→Calls Tryz.prog 14 #[.slice A3 x.length k3,.slice A4 y.length k4] W (fun e w'=>e = .returned (.bool true)∧Below W.heap.size W w') from fun W hW=>by have:=HSG.out W hW;rwa [decide_eq_true hxy] at this);clear hxy;refine tkT (i:=30) (v:=?_) rfl (by kernel_rfl) rfl (fun _ _ _ h=>h) (by kernel_rfl) ?_ HS.out ?_
      rotate_left
      · (intro W hW;go_simp;try with_reducible rfl)
      try simp only [Act.put,List.setIfInBounds_toArray,List.set_cons_zero,List.set_cons_succ]
      refine tkT (i:=31) (v:=?_) rfl (by kernel_rfl) rfl (fun _ _ _ h=>h) (by kernel_rfl) ?_ HS.out ?_
      rotate_left
      · (intro W hW;go_simp;try with_reducible rfl)
      try simp only [Act.put,List.setIfInBounds_toArray,List.set_cons_zero,List.set_cons_succ]
      refine tkT (i:=32) (v:=?_) rfl (by kernel_rfl) rfl (fun _ _ _ h=>h) (by kernel_rfl) ?_ HS.out ?_
      rotate_left
      · (intro W hW;go_simp;try with_reducible rfl)
      try simp only [Act.put,List.setIfInBounds_toArray,List.set_cons_zero,List.set_cons_succ]
      refine tkT (i:=33) (v:=?_) rfl (by kernel_rfl) rfl (fun _ _ _ h=>h) (by kernel_rfl) ?_ HS.out ?_
      rotate_left
      · (intro W hW;go_simp;try with_reducible rfl)
      try simp only [Act.put,List.setIfInBounds_toArray,List.set_cons_zero,List.set_cons_succ]
      refine wpAnyH_ready (rs:=[34]) (by kernel_rfl) (by simp) ?_;refine AllReadyH.cons rfl (fun K hK=>?_) AllReadyH.nil;go_simp;go_at_call 14
      (with_reducible refine (HSG.out _ HS.out).mono ?_)
      rintro _ wn ⟨rfl,hb0⟩;have hb:=HS.out.trans (hb0.mono HS.out.size);clear hb0
      go_wp2_with fail
      refine hK.out _ _ hb (fun _=>?_);clear hK K HS;have HS:=zz hb;clear hb
      try simp only [Act.put,List.setIfInBounds_toArray,List.set_cons_zero,List.set_cons_succ]
      refine tkT (i:=35) (v:=?_) rfl (by kernel_rfl) rfl (fun _ _ _ h=>h) (by kernel_rfl) ?_ HS.out ?_
      rotate_left
      · (intro W hW;go_simp;try with_reducible rfl)
      try simp only [Act.put,List.setIfInBounds_toArray,List.set_cons_zero,List.set_cons_succ]
      refine tkT (i:=36) (v:=?_) rfl (by kernel_rfl) rfl (fun _ _ _ h=>h) (by kernel_rfl) ?_ HS.out ?_
      rotate_left
      · (intro W hW;go_simp;try with_reducible rfl)
      try simp only [Act.put,List.setIfInBounds_toArray,List.set_cons_zero,List.set_cons_succ]
      refine tkT (i:=37) (v:=?_) rfl (by kernel_rfl) rfl (fun _ _ _ h=>h) (by kernel_rfl) ?_ HS.out ?_
      rotate_left
      · (intro W hW;go_simp;try with_reducible rfl)
      try simp only [Act.put,List.setIfInBounds_toArray,List.set_cons_zero,List.set_cons_succ]
      refine wpAnyH_done (by kernel_rfl) ?_ _
      go_wp2_with fail
      go_ret
      exact ⟨rfl,HB13.out.trans (HS.out.mono hzz)⟩
    · have hvl:(0:Int)<(v.length:Int):=by have:=List.length_pos_iff.2 hvn;omega
      refine tkT (i:=30) (v := .bool true) rfl (by kernel_rfl) rfl (fun _ _ _ h=>h) (by kernel_rfl) ?_ HS.out ?_
      · (intro W hW;go_simp;first|done|exact List.length_pos_iff.2 hvn)
      try simp only [Act.put,List.setIfInBounds_toArray,List.set_cons_zero,List.set_cons_succ]
      refine tkT (i:=31) (v:=?_) rfl (by kernel_rfl) rfl (fun _ _ _ h=>h) (by kernel_rfl) ?_ HS.out ?_
      rotate_left
      · (intro W hW;go_simp;try with_reducible rfl)
      try simp only [Act.put,List.setIfInBounds_toArray,List.set_cons_zero,List.set_cons_succ]
      refine tkF (i:=32) rfl (by kernel_rfl) rfl (fun _ _ _ h=>h) (by kernel_rfl) HS.out ?_
      try simp only [Act.put,List.setIfInBounds_toArray,List.set_cons_zero,List.set_cons_succ]
      refine tkF (i:=33) rfl (by kernel_rfl) rfl (fun _ _ _ h=>h) (by kernel_rfl) HS.out ?_
      try simp only [Act.put,List.setIfInBounds_toArray,List.set_cons_zero,List.set_cons_succ]
      refine wpAnyH_ready (rs:=[34]) (by kernel_rfl) (by simp) ?_;refine AllReadyH.cons rfl (fun K hK=>?_) AllReadyH.nil;go_simp;refine hK.out _ _ HS.out (fun _=>?_);clear hK K
      try simp only [Act.put,List.setIfInBounds_toArray,List.set_cons_zero,List.set_cons_succ]
      refine tkT (i:=35) (v:=?_) rfl (by kernel_rfl) rfl (fun _ _ _ h=>h) (by kernel_rfl) ?_ HS.out ?_
      rotate_left
      · (intro W hW;go_simp;try with_reducible rfl)
      try simp only [Act.put,List.setIfInBounds_toArray,List.set_cons_zero,List.set_cons_succ]
      refine tkT (i:=36) (v:=?_) rfl (by kernel_rfl) rfl (fun _ _ _ h=>h) (by kernel_rfl) ?_ HS.out ?_
      rotate_left
      · (intro W hW;go_simp;try with_reducible rfl)
      try simp only [Act.put,List.setIfInBounds_toArray,List.set_cons_zero,List.set_cons_succ]
      refine tkT (i:=37) (v:=?_) rfl (by kernel_rfl) rfl (fun _ _ _ h=>h) (by kernel_rfl) ?_ HS.out ?_
      rotate_left
      · (intro W hW;go_simp;try with_reducible rfl)
      try simp only [Act.put,List.setIfInBounds_toArray,List.set_cons_zero,List.set_cons_succ]
      refine wpAnyH_done (by kernel_rfl) ?_ _
      go_wp2_with fail
      go_ret
      exact ⟨rfl,HB13.out.trans (HS.out.mono hzz)⟩
end
section
open Go.ChangeShapes Go.WideShapes Go.ChangeAt Go.RowKit
theorem zqa (os:Os) {H:Type} (enc:TypeId×Value→H):DataW.whole enc Tryz.prog ((zcG os).forCall (fun _ _=>0) ⟨#[],#[.slice none 0 0,.int .i64 0,.int .i64 0],[]⟩).memory Tryz.f3.params.toList Rows.baseSidesSpec.vars false (#[.slice none 0 0,.int .i64 0,.int .i64 0]:Array Value).toList 8=some ([.nil,.lit (.int .i64 0),.lit (.int .i64 0)],[],[]):=by kernel_rfl
theorem zrB (os:Os) (started:os.Started) (H:Type) (enc:TypeId×Value→H) (F:Stop.Interp) :ReturnsInHanded {} Tryz.checked os 3 .any ((OpenSpec.ofChange Rows.baseSidesSpec).preRow enc Tryz.prog Tryz.f3 Rows.baseSidesRow.domain false Rows.baseSidesRow.laid) (((OpenSpec.ofChange Rows.baseSidesSpec).at F).post enc Tryz.prog Tryz.f3 false true false false):=by
 refine returnsInHanded_of_row (C:=Tryz.checked) (s:=OpenSpec.ofChange Rows.baseSidesSpec) own started (by kernel_rfl) Tryz.func3
  (witness_row_at (enc:=enc) (C:=Tryz.checked) false (zcG os) #[.slice none 0 0,.int .i64 0,.int .i64 0] (ztS _) (zrU os _) (zpz os _) (by kernel_rfl)
   (OpenSpec.preRow_of_cond 8 (zqa os enc) (by kernel_rfl) (fun k hk=>by cases hk) (by kernel_rfl) (zq1 os _))) ?_
 intro W base args ds gs before hval0 hW hx1 hcond hx3 hL hx4 hx5;have hval:∀(j:Nat) t v,Tryz.f3.params[j]? = some t→args[j]? = some v→Value.okWide Tryz.prog W .any base t v:=hval0;have hW':=hW;obtain ⟨p,q,hA0,hV,rfl,hfz,hnd⟩:=hW;have hA:DataW.TrodAll enc Tryz.prog W 0 (fun _=>true) true Tryz.f3.params.toList args.toList ds p:=hA0;rw [Tryz.params3] at hA hval;obtain ⟨v0,vs0,d0,ds0,p0,q0,hargs,rfl,rfl,h0,r0⟩:=trodAll_cons hA;obtain ⟨v1,vs1,d1,ds1,p1,q1,rfl,rfl,rfl,h1,r1⟩:=trodAll_cons r0;obtain ⟨v2,vs2,d2,ds2,p2,q2,rfl,rfl,rfl,h2,r2⟩:=trodAll_cons r1;obtain ⟨rfl,rfl,rfl⟩:=trodAll_nil r2;obtain rfl:args=#[v0,v1,v2]:=by cases args;simp_all
 obtain ⟨rfl,rfl⟩:=trodVars_none hV;have k0:=h0;have lt0:∀x∈p0,x.block<W.heap.size:=by obtain ⟨m,hm⟩:=k0;exact DataW.trod_lt m _ _ _ hm
 have k1:=h1;have lt1:∀x∈p1,x.block<W.heap.size:=by obtain ⟨m,hm⟩:=k1;exact DataW.trod_lt m _ _ _ hm
 have k2:=h2;have lt2:∀x∈p2,x.block<W.heap.size:=by obtain ⟨m,hm⟩:=k2;exact DataW.trod_lt m _ _ _ hm
 obtain ⟨a0,len0,cap0,rfl⟩:=okWide_slice Tryz.underlying22 (hval 0 22 v0 rfl rfl);obtain ⟨l0,sv0,hl0,hr0,hc0,hm0⟩:=znb h0;obtain ⟨f1,rfl,_,_,w1⟩:=open_int Tryz.underlying3 (hval 1 3 v1 rfl rfl) h1;obtain ⟨f2,rfl,_,_,w2⟩:=open_int Tryz.underlying3 (hval 2 3 v2 rfl rfl) h2;clear hA0 hval0;refine (zoE l0 sv0 a0 cap0 len0 W.heap.size f1 f2 hl0 W (Nat.le_refl _) hr0 (zlL hx4).pos (zlL hx4) (zoa hL)).mono fun e W' ⟨he,bel⟩=>?_;subst he;exact ⟨_,rfl,_,_,_,[],_,[],hW',trodAll_mk1 (shut_bool Tryz.underlying4 _),(trodAll_cons_mk (Below.trod zhD (by kernel_rfl) (of_decide_eq_true (by kernel_rfl)) k0 bel lt0) (trodAll_cons_mk (Below.trod zhD (by kernel_rfl) (of_decide_eq_true (by kernel_rfl)) k1 bel lt1) (trodAll_cons_mk (Below.trod zhD (by kernel_rfl) (of_decide_eq_true (by kernel_rfl)) k2 bel lt2) trodAll_mk0))),rfl,bel.frame _,fun h=>by cases h⟩
theorem zng:joinedFacts Tryz.pinned.checked.prog 3 Tryz.f3 (OpenSpec.ofChange Rows.baseSidesSpec).bare Rows.baseSidesRow=true:=by
 unfold joinedFacts
 repeat (refine Bool.and_eq_true_iff.2 ⟨?_,?_⟩)
 all_goals (as_aux_lemma=>kernel_rfl)
theorem zug:Rows.BaseSidesSaid :=
 OpenClaim.holds_of_cond 3 Tryz.f3 rfl rfl rfl rfl rfl rfl rfl ⟨rfl,rfl,rfl,rfl,rfl⟩ rfl rfl rfl rfl rfl (by kernel_rfl) Tryz.func3 zng
  (of_decide_eq_true (by kernel_rfl)) (by unfold Func.isWrapper;first|(rw [if_pos (by decide +kernel)];kernel_rfl)|(rw [if_neg (by decide +kernel)];exact ⟨rfl,rfl⟩))
  (fun os started H enc _ F=>by rw [OpenClaim.pre_eq_preRow];exact zrB os started H enc F)
theorem zs0 (f:FuncId) (fn:Func) (hf:Tryz.pinned.checked.prog.funcNamed "selvage/selvagelaw18.BaseSides" = some f) (hfn:Tryz.pinned.checked.prog.funcs[f]? = some fn) :
    true=Tryz.pinned.checked.prog.looks []∧∀(j:Nat) t,fn.params[j]? = some t→Tryz.pinned.checked.prog.wantsStandIn t=false:=by
 obtain rfl:f=3:=Option.some.inj ((show Tryz.prog.funcNamed "selvage/selvagelaw18.BaseSides" = some 3 by kernel_rfl).symm.trans hf) |>.symm;obtain rfl:fn=Tryz.f3:=(Option.some.inj (Tryz.func3.symm.trans hfn)).symm;refine ⟨by kernel_rfl,fun j t ht=>?_⟩;rw [Tryz.params3] at ht;have hm:=Array.mem_of_getElem? ht;simp only [Array.mem_toList_iff.symm,List.mem_cons,List.not_mem_nil,or_false] at hm
 rcases hm with rfl|rfl|rfl
 · exact (show Tryz.prog.wantsStandIn 22=false by kernel_rfl)
 · exact (show Tryz.prog.wantsStandIn 3=false by kernel_rfl)
 · exact (show Tryz.prog.wantsStandIn 3=false by kernel_rfl)
theorem baseSides_holds:Rows.BaseSidesCardSaid :=
 Claim7.holds_tied_plain_at .later [] _ _ _ _ zug (fun _ h=>by cases h) (by kernel_rfl) (fun _ h=>by cases h) baseSides_row_tie rfl ⟨rfl,rfl⟩ (by kernel_rfl) rfl zs0 (by kernel_rfl)
#print axioms baseSides_holds
end
end Go.Proofs.YtmkmbbjgepcioaaGreatDoor
