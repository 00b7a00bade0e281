/- Contract of the reference's Names. No statement of the seat is proved here. -/
import Derived.Test.YtmkmbbjgepcioaaGreatDoorSAHq
import Derived.Test.YtmkmbbjgepcioaaGreatDoorSA08
import Derived.Deep.QuietTactic
import Derived.BigRegion
import Derived.BigQuiet
import Derived.Deep.DeepCutAuto
import Derived.Deep.CutBlock
import Derived.Laws.EntriesVeiled
import Derived.Test.YtmkmbbjgepcioaaGreatDoorSA11
import Derived.Test.YtmkmbbjgepcioaaGreatDoorSA06
import Derived.Test.YtmkmbbjgepcioaaGreatDoorSA04
namespace Go.Proofs.YtmkmbbjgepcioaaGreatDoor
set_option maxHeartbeats 4000000
set_option maxRecDepth 100000
section
open Go.RowKit Go.Maps
theorem zgx:∀(b c1 c2:Pth),(zaZ c1 b).length+1=(z7 c2 b).length
 | [],_,_=>rfl
 | x::b,c1,c2=>by
  unfold zaZ z7
  split
  · rw [List.length_cons,List.length_cons,zgx b (c1++[x]) []]
  · exact zgx b _ _
theorem ziR {f:FileD} (h:zP f=0):(zj f.p).length≤7:=by
 have h1:=(zcK h).2.2.1;have h2:=zgx f.p [] [];unfold zj;unfold nmP at h1;omega
theorem zqr {l:List FileD} {k:Nat} {f:FileD} (h:l[k]? = some f):z8 (l.take (k+1))=z8 (l.take k)++entD (zj f.p)++[(parN f.p,zap f.p)]:=by
 unfold z8 entD;rw [List.take_add_one,h];simp
structure CkT (w:World) (z qs qe bs be:Nat) (l:List FileD):Prop where
 s:Blk w qs 218 #[.map (some bs)]
 e:Blk w qe 219 #[.map (some be)]
 m:∃n fs,VM w bs n fs∧n≤l.length∧∀t,(fs t).isSome=true↔t∈l.map (·.p)
 ent:∃D,Ent w z be D (z8 l)∧bs∉D
 bz:z≤bs
 ne:bs≠be
 zq:z≤qs∧z≤qe
theorem zaC {w:World} {q:Nat} {f:FileD} {A:Option Addr} {c:Nat} (h:Blk w q 70 (za f A c)):(Instr.loadAt 70 (.pointer (some ⟨q,0,none⟩))).run Tryz.prog w = .ok (.agg (za f A c)) w :=
 zcd (P:=Tryz.prog) h 0 (za f A c) Tryz.underlying70 rfl zaw (by simp [za])
theorem zaD (f:FileD) (A:Option Addr) (c:Nat):∀v∈(za f A c).toList,v.oneCell'=true:=by
 intro v hv;simp only [za,strC,List.mem_cons,List.not_mem_nil,or_false] at hv;rcases hv with rfl|rfl|rfl <;> rfl
theorem CkT.keepB {w w':World} {z qs qe bs be:Nat} {l:List FileD} (h:CkT w z qs qe bs be l) (hb:Below w.heap.size w w'):CkT w' z qs qe bs be l:=by
 have kk:Keep zl w w':=Below.keep_ hb _;obtain ⟨n,fs,h1,h2,h3⟩:=h.m;obtain ⟨D,h4,h5⟩:=h.ent;exact ⟨h.s.below hb h.s.lt,h.e.below hb h.e.lt,⟨n,fs,h1.keep kk (fun q=>q),h2,h3⟩,⟨D,h4.keep kk (fun q=>q) (fun _ _ q=>q),h5⟩,h.bz,h.ne,h.zq⟩
theorem zqz (a b:List UInt8):(Op.bytesLess a b||a==b)=decide (a≤b):=by
 rw [bytesLess_eq,Bool.eq_iff_iff,Bool.or_eq_true,decide_eq_true_eq,decide_eq_true_eq,beq_iff_eq];constructor
 · rintro (h|h)
   · exact List.le_of_lt h
   · subst h;exact List.le_refl _
 · intro h
   rcases zbp a b with q|q|q
   · exact .inl q
   · exact .inr q
   · exact absurd q (List.not_lt.2 h)
theorem znZ {l:List FileD} {m:Nat} {g:FileD} (h:l[m]? = some g) (p:Pth):zbg (l.take (m+1)) p=decide (p≤g.p):=by
 unfold zbg;rw [List.take_add_one,h];simp
theorem zhj:∀{l:List FileD},(∀f∈l,zP f=0)→(z8 l).length≤8*l.length
 | [],_=>Nat.le_refl _
 | f::l,h=>by
  have h1:=ziR (h f (List.mem_cons_self ..));have ih:=zhj (l:=l) fun g hg=>h g (List.mem_cons_of_mem _ hg);have e:(z8 (f::l)).length=(zj f.p).length+1+(z8 l).length:=by
   unfold z8;rw [List.flatMap_cons,List.length_append,List.length_map,List.length_append];rfl
  rw [e,List.length_cons];omega
theorem Ent.noS {w:World} {z be:Nat} {D:List Nat} {l:List (Pth×Pth)} (h:Ent w z be D l) {t:TypeId} {cs:Array Value} {q:Nat} (hq:Blk w q t cs):¬EntS be D q:=fun e=>by
 rcases e with e|e
 · exact h.noBlk hq e
 · obtain ⟨n',f,r⟩:=h.dm _ e;exact r.noBlk hq rfl
theorem Ent.noK {w:World} {z be qb:Nat} {D:List Nat} {l:List (Pth×Pth)} (h:Ent w z be D l) {t:TypeId} {cs:Array Value} {q:Nat} (hq:Blk w q t cs) (hb:q≠qb):¬CkK qb be D q:=fun e=>by
 rcases e with e|e|e
 · exact hb e
 · exact h.noBlk hq e
 · obtain ⟨n',f,r⟩:=h.dm _ e;exact r.noBlk hq rfl
theorem CkK.below {w w':World} {z qb be:Nat} {D:List Nat} (h:Keep (CkK qb be D) w w') (hz:z≤w.heap.size) (h1:z≤qb) (h2:z≤be) (h3:∀d∈D,z≤d):Below z w w' :=
 h.below hz fun i hi q=>by
  rcases q with q|q|q
  · omega
  · omega
  · have:=h3 i q;omega
theorem EntS.below {w w':World} {z be:Nat} {D:List Nat} (h:Keep (EntS be D) w w') (hz:z≤w.heap.size) (h2:z≤be) (h3:∀d∈D,z≤d):Below z w w' :=
 h.below hz fun i hi q=>by
  rcases q with q|q
  · omega
  · have:=h3 i q;omega
theorem CkT.step {w9 w10 w11:World} {z qs qe qi qb qp bs be n:Nat} {i:Int} {l:List FileD} {f:FileD} {D1 D2:List Nat} {b:Bool} {fs:Mp} {v:Value} (h:CkS w9 z qs qe qi qb qp bs be i (l.map (·.p)) D1 (z8 l++entD (zj f.p)) b) (h2:Ent w10 z be D2 (z8 l++entD (zj f.p)++[(parN f.p,zap f.p)])) (k2:Keep (EntS be D1) w9 w10) (hd:∀d∈D2,d∈D1∨w9.heap.size≤d) (hn:n≤l.length) (hs:∀t,(fs t).isSome=true↔t∈l.map (·.p)) (hv:VM w11 bs (if (fs f.p).isSome then n else n+1) (mput fs f.p v)) (k3:Keep (Only bs) w10 w11) (hen:z8 (l++[f])=z8 l++entD (zj f.p)++[(parN f.p,zap f.p)]):CkT w11 z qs qe bs be (l++[f]):=by
 obtain ⟨n0,fs0,v0,_,_⟩:=h.m;have hlt:=v0.lt;have hb2:bs∉D2:=fun q=>by
  rcases hd bs q with r|r
  · exact h.nd r
  · omega
 have s10:=h.s.keep k2 (h.ent.noS h.s);have e10:=h.e.keep k2 (h.ent.noS h.e);have v10:VM w10 bs n0 fs0:=v0.keep k2 fun q=>by
  rcases q with q|q
  · exact h.ne q
  · exact h.nd q
 refine ⟨s10.keep k3 (v10.noBlk s10),e10.keep k3 (v10.noBlk e10),⟨_,_,hv,?_,fun t=>?_⟩,⟨D2,?_,hb2⟩,h.bz,h.ne,⟨h.zq.1,h.zq.2.1⟩⟩
 · rw [List.length_append,List.length_singleton]
   split <;> omega
 · unfold mput;by_cases e:t=f.p
   · subst e;simp
   · rw [if_neg e,hs];simp [e]
 · rw [hen];exact h2.keep k3 (fun q=>h.ne q.symm) (fun d hd' q=>hb2 (q▸hd'))
def zeN (l:List FileD) (w:World) (r:Ending) (w':World):Prop:=r = .returned (.int .i64 (zg l:Nat))∧Below w.heap.size w w'
theorem ze7 (l:List FileD) (A:Option Addr) (c B:Nat) (w:World) (hB:B≤w.heap.size) (hr:FI w B A l) (hv:VarM w) (hpl:∀f∈l,f.p.length≤1000000) :Calls Tryz.prog 67 #[.slice A l.length c] w (zeN l w):=by
 have HP:=zz (show zeN l w=fun r w'=>r = .returned (.int .i64 (zg l:Nat))∧Below w.heap.size w w' from rfl);rw [HP.out];clear HP;obtain ⟨E,hE⟩:∃E,zg l=E:=⟨_,rfl⟩;have HE:=zz (show E=if 1000<l.length then 4 else if zax [] l≠0 then zax [] l else if zbx l=true then 4 else 0 from by rw [←hE];rfl);rw [hE];clear hE;have HR:=zz (show ∀W,Below w.heap.size w W→FI W B A l from fun W k=>hr.below (k.mono hB));have HV:=zz (show ∀W,Below w.heap.size w W→VarM W from fun W k=>hv.below k hv.pos);have HPL:=zz hpl;have HW0:=zz hv.pos;clear hr hv hpl;by_cases hl:1000<l.length
 · have HE1:=zz (show E=4 from by rw [HE.out,if_pos hl]);have g0:decide ((1000:Int)<(l.length:Int))=true:=decide_eq_true (by omega);clear HE;go_enter Tryz.func67,Tryz.ntmps67
   go_wp2_with fail
   go_ret
   exact ⟨by rw [HE1.out];rfl,Below.refl _ _⟩
 · have HE1:=zz (show E=if zax [] l≠0 then zax [] l else if zbx l=true then 4 else 0 from by rw [HE.out,if_neg hl]);have g0:decide ((1000:Int)<(l.length:Int))=false:=decide_eq_false (by omega);have hmm:=@run_makeMap Tryz.prog;clear HE;go_enter Tryz.func67,Tryz.ntmps67
   go_wp2_with fail
   obtain ⟨X0,hX0⟩:∃X0,zax [] l=X0:=⟨_,rfl⟩;rw [hX0] at HE1;have HX0:=zz hX0;clear hX0;have HT0:=zz (show CkT ((((w.alloc (.map #[] 0)).alloc (.cells #[.map (some w.heap.size)] 218)).alloc (.map #[] 0)).alloc (.cells #[.map (some (w.heap.size+1+1))] 219)) w.heap.size (w.heap.size+1) (w.heap.size+1+1+1) w.heap.size (w.heap.size+1+1) [] from by
    have v1:VM (w.alloc (.map #[] 0)) w.heap.size 0 zF:=VM.made w;have b1:Blk ((w.alloc (.map #[] 0)).alloc (.cells #[.map (some w.heap.size)] 218)) (w.heap.size+1) 218 #[.map (some w.heap.size)]:=by
     have:=Blk.new (w.alloc (.map #[] 0)) 218 #[.map (some w.heap.size)];simpa using this
    have v2:VM (((w.alloc (.map #[] 0)).alloc (.cells #[.map (some w.heap.size)] 218)).alloc (.map #[] 0)) (w.heap.size+1+1) 0 zF:=by
     have:=VM.made ((w.alloc (.map #[] 0)).alloc (.cells #[.map (some w.heap.size)] 218));simpa using this
    have b2:Blk ((((w.alloc (.map #[] 0)).alloc (.cells #[.map (some w.heap.size)] 218)).alloc (.map #[] 0)).alloc (.cells #[.map (some (w.heap.size+1+1))] 219)) (w.heap.size+1+1+1) 219 #[.map (some (w.heap.size+1+1))]:=by
     have:=Blk.new (((w.alloc (.map #[] 0)).alloc (.cells #[.map (some w.heap.size)] 218)).alloc (.map #[] 0)) 219 #[.map (some (w.heap.size+1+1))];simpa using this
    refine ⟨(b1.alloc _).alloc _,b2,⟨0,zF,((v1.alloc _).alloc _).alloc _,Nat.le_refl _,fun t=>by simp [zF]⟩,⟨[],⟨by omega,by simp,by simp,by simp,0,zF,v2.alloc _,Nat.zero_le _,(fun _ _ _ h=>by simp [z8] at h),(fun _ _ h=>by cases h),(fun _ _ _ h=>by cases h)⟩,by simp⟩,Nat.le_refl _,by omega,by omega,by omega⟩)
   have HB0:=zz (show Below w.heap.size w ((((w.alloc (.map #[] 0)).alloc (.cells #[.map (some w.heap.size)] 218)).alloc (.map #[] 0)).alloc (.cells #[.map (some (w.heap.size+1+1))] 219)) from ((((Below.refl w.heap.size w).alloc (by simp) _).alloc (by simp) _).alloc (by simp;omega) _).alloc (by simp;omega) _)
   go_loopw [19] (fun s19 wr=>∃k:Nat,s19 = .int .i64 (k:Nat)∧k≤l.length∧Hid (CkT wr w.heap.size (w.heap.size+1) (w.heap.size+1+1+1) w.heap.size (w.heap.size+1+1) (l.take k))∧Hid (Below w.heap.size w wr)∧Hid (zax (l.take k) (l.drop k)=X0)∧Hid (∀g∈l.take k,zP g=0)) (fun s19 _=>l.length-(intOf s19).toNat)
   case atStart=>exact ⟨0,rfl,Nat.zero_le _,HT0,HB0,zz (by rw [List.take_zero,List.drop_zero];exact HX0.out),zz (by simp)⟩
   case round =>
    obtain ⟨k,rfl,hk,HT,HB,HX,HFE⟩:=hrel;by_cases hlt:k<l.length
    · obtain ⟨f,hf⟩:∃f,l[k]? = some f:=⟨_,List.getElem?_eq_getElem hlt⟩;obtain ⟨g,off,DA,dc,rfl,hg,hload,_,_,_,_⟩:=(HR.out _ HB.out).at_ hf;have HLD:=zz hload;have HF:=zz hf;have i0:(0:Int)≤(k:Int):=by omega
      have i1:(k:Int)<(l.length:Int):=by omega
      have HFP:=zz (HPL.out f (List.mem_of_getElem? hf));have HCK:=zz (show X0=if zP f≠0 then zP f else if zbg (l.take k) f.p=true then 18 else if zaO ((l.take k).map (·.p)) (zj f.p)=true then 13 else zax (l.take (k+1)) (l.drop (k+1)) from by
       have hdr:l.drop k=f::l.drop (k+1):=List.drop_eq_getElem?_toList_append.trans (by rw [hf];rfl);have htk:l.take (k+1)=l.take k++[f]:=by rw [List.take_add_one,hf];rfl
       have hse:zaO ((l.take k).map (·.p)) (zj f.p)=(zj f.p).any (fun d=>(l.take k).any (fun g=>g.p==d)):=by
        unfold zaO
        congr 1
        funext d
        rw [Bool.eq_iff_iff,decide_eq_true_eq,List.any_eq_true];simp only [List.mem_map,beq_iff_eq]
       rw [←HX.out,hdr,zax,htk,hse])
      have HEN:=zz (zqr hf);clear hload hf HX;have hzr:=HB.out.size;have HBK:=zz (show Blk ((wr.alloc (.cells #[.int .i64 (k:Int)] 3)).alloc (.cells #[.string ⟨#[]⟩,.int .i64 0,.slice none 0 0] 70)) (wr.heap.size+1) 70 #[.string ⟨#[]⟩,.int .i64 0,.slice none 0 0] from by
       have:=Blk.new (wr.alloc (.cells #[.int .i64 (k:Int)] 3)) 70 #[.string ⟨#[]⟩,.int .i64 0,.slice none 0 0];simpa using this)
      go_wp2_with (first|(with_reducible refine zad rfl rfl rfl HLD.out ?_)|(refine zO rfl rfl (vs:=za f DA dc) rfl rfl HBK.out rfl zaw (zaD f DA dc) ?_;intro w5 hx5 hk5 hz5;have HX5:=zz hx5;have HQ5:=zz (zaC hx5);have HK5:=zz (show Keep zl (wr.alloc (.cells #[.int .i64 (k:Int)] 3)) w5 from Keep.ofNew (by simpa using hk5));have HI5:=zz (show Blk w5 wr.heap.size 3 #[.int .i64 (k:Int)] from (Blk.new wr 3 #[.int .i64 (k:Int)]).keep HK5.out (fun h=>h));have HB5:=zz (show Below wr.heap.size wr w5 from ((Below.refl _ _).alloc (Nat.le_refl _) _).trans (HK5.out.all.mono (by simp)));have HF5:=zz (zoP f DA dc w5 HFP.out (HV.out _ (HB.out.trans (HB5.out.mono hzr))));clear hx5 hk5 hz5)|(with_reducible refine zad rfl rfl rfl HQ5.out ?_)|(go_at_call 101;refine HF5.out.mono ?_))
      rintro _ w6 ⟨rfl,b6⟩;have HX6:=zz (HX5.out.below b6 HX5.out.lt);have HI6:=zz (HI5.out.below b6 HI5.out.lt);have HB6:=zz (show Below wr.heap.size wr w6 from HB5.out.trans (b6.mono HB5.out.size));clear b6 HX5 HQ5 HK5 HI5 HB5 HF5 HLD;by_cases hfe:zP f=0
      · have HC1:=zz (show X0=if zbg (l.take k) f.p=true then 18 else if zaO ((l.take k).map (·.p)) (zj f.p)=true then 13 else zax (l.take (k+1)) (l.drop (k+1)) from by rw [HCK.out,if_neg (fun q=>q hfe)]);have HD7:=zz (ziR hfe);clear HCK;rw [hfe];have c1:=HI6.out.cell 0;have c2:=HX6.out.cell 0;simp [za,strC] at c1 c2;go_upto_if 41 with fail
        go_cut [41] (fun s41 wx=>s41 = .bool (zbg (l.take k) f.p)∧∃n,wx=w6.drewN n)
        case first =>
         by_cases hk0:k=0
         · subst hk0
           go_wp2_with fail
           refine wp_region_still_lit (by kernel_rfl) (by kernel_rfl) ?_
           repeat (first|((with_reducible refine wpStill_step (fun K hK=>?_));go_simp;with_reducible refine hK _ ?_;clear hK K)|((with_reducible refine wpStill_skip ?_ ?_);(focus rfl)))
           (with_reducible refine wpStill_nil ?_)
           change Exit.then _ _ _ _ w6.drew
           go_wp2_with fail
           go_meet
           exact ⟨rfl,1,rfl⟩
         · obtain ⟨m,rfl⟩:∃m,k=m+1:=⟨k-1,by omega⟩;obtain ⟨f2,hf2⟩:∃f2,l[m]? = some f2:=⟨_,List.getElem?_eq_getElem (by omega)⟩;obtain ⟨g',off',_,_,e,_,_,d0,_⟩:=(HR.out _ (HB.out.trans (HB6.out.mono hzr))).at_ hf2;injection e with e;injection e with e1 e2;subst e1 e2;unfold strC at d0;have j0:(0:Int)≤((m+1:Nat):Int)-1:=by omega
           have j1:((m+1:Nat):Int)-1=(m:Int):=by omega
           have j2:IntKind.i64.wrap (m:Int)=(m:Int):=IntWalk.i64_in _ (by omega);have j3:(0:Int)≤(m:Int):=by omega
           have j4:(m:Int)<(l.length:Int):=by omega
           go_wp2_with fail
           refine wp_region_still_lit (by kernel_rfl) (by kernel_rfl) ?_
           repeat (first|((with_reducible refine wpStill_step (fun K hK=>?_));go_simp;with_reducible refine hK _ ?_;clear hK K)|((with_reducible refine wpStill_skip ?_ ?_);(focus rfl)))
           (with_reducible refine wpStill_nil ?_)
           change Exit.then _ _ _ _ w6.drew
           go_wp2_with fail
           go_meet
           exact ⟨by rw [znZ hf2,zqz],1,rfl⟩
        case rest =>
         obtain ⟨rfl,n,hw7⟩:=hcut;have HT7:=zz (show CkT wc w.heap.size (w.heap.size+1) (w.heap.size+1+1+1) w.heap.size (w.heap.size+1+1) (l.take k) from by rw [hw7];exact (HT.out.keepB HB6.out).keepB ((Keep.refl zl w6).drewN n).all);have HB7:=zz (show Below wr.heap.size wr wc from by rw [hw7];exact HB6.out.trans (((Keep.refl zl w6).drewN n).all.mono HB6.out.size));have HX7:=zz (show Blk wc (wr.heap.size+1) 70 (za f DA dc) from by rw [hw7];exact HX6.out.drewN n);have HI7:=zz (show Blk wc wr.heap.size 3 #[.int .i64 (k:Int)] from by rw [hw7];exact HI6.out.drewN n);clear hw7 HX6 HI6 HB6 HT c1 c2;generalize wc=w7 at *
         cases hle:zbg (l.take k) f.p with
         | true =>
          have HC2:=zz (show E=18 from by rw [HE1.out,HC1.out,if_pos hle,if_pos (by decide)]);clear hle
          go_wp2_with fail
          go_ret
          exact ⟨by rw [HC2.out];rfl,HB.out.trans (HB7.out.mono hzr)⟩
         | false =>
          have HC2:=zz (show X0=if zaO ((l.take k).map (·.p)) (zj f.p)=true then 13 else zax (l.take (k+1)) (l.drop (k+1)) from by rw [HC1.out,hle,if_neg (by decide)]);clear hle HC1;have hl1:=HT7.out.s.lt;have hl2:=HT7.out.e.lt;have hl3:=HI7.out.lt;have hl4:=HX7.out.lt;have HFE2:=zz (show ∀g∈l.take (k+1),zP g=0 from fun g hg=>by
           rw [List.take_add_one,HF.out] at hg
           rcases List.mem_append.1 hg with q|q
           · exact HFE.out g q
           · rw [show g=f by simpa using q];exact hfe)
          have HEL:=zz (show (z8 (l.take k)).length≤8000 from by
           have:=zhj HFE.out;rw [List.length_take] at this;omega)
          obtain ⟨D,hD,hDb⟩:=HT7.out.ent;have hzw:w.heap.size≤w7.heap.size:=Nat.le_trans hzr HB7.out.size;have HCS:=zz (show CkS ((w7.alloc (.cells #[.bool false] 4)).alloc (.cells #[.func (.func 102) #[] #[.pointer (some ⟨w.heap.size+1+1+1,0,none⟩),.pointer (some ⟨wr.heap.size,0,none⟩)]] 222)) w.heap.size (w.heap.size+1) (w.heap.size+1+1+1) wr.heap.size w7.heap.size (w7.heap.size+1) w.heap.size (w.heap.size+1+1) (k:Int) ((l.take k).map (·.p)) D (z8 (l.take k)) false from by
           have kk:Keep zl w7 ((w7.alloc (.cells #[.bool false] 4)).alloc (.cells #[.func (.func 102) #[] #[.pointer (some ⟨w.heap.size+1+1+1,0,none⟩),.pointer (some ⟨wr.heap.size,0,none⟩)]] 222)):=((Keep.refl zl w7).alloc _).alloc _;obtain ⟨n',fs,m1,m2,m3⟩:=HT7.out.m;refine ⟨(HT7.out.s.alloc _).alloc _,(HT7.out.e.alloc _).alloc _,(HI7.out.alloc _).alloc _,(Blk.new w7 4 #[.bool false]).alloc _,?_,⟨n',fs,m1.keep kk (fun q=>q),by rw [List.length_map];exact m2,m3⟩,hD.keep kk (fun q=>q) (fun _ _ q=>q),HT7.out.bz,HT7.out.ne,hDb,by omega,by omega⟩;have:=Blk.new (w7.alloc (.cells #[.bool false] 4)) 222 #[.func (.func 102) #[] #[.pointer (some ⟨w.heap.size+1+1+1,0,none⟩),.pointer (some ⟨wr.heap.size,0,none⟩)]];simpa using this)
          have HX8:=zz (show Blk ((w7.alloc (.cells #[.bool false] 4)).alloc (.cells #[.func (.func 102) #[] #[.pointer (some ⟨w.heap.size+1+1+1,0,none⟩),.pointer (some ⟨wr.heap.size,0,none⟩)]] 222)) (wr.heap.size+1) 70 (za f DA dc) from (HX7.out.alloc _).alloc _);have HB8:=zz (show Below w.heap.size w ((w7.alloc (.cells #[.bool false] 4)).alloc (.cells #[.func (.func 102) #[] #[.pointer (some ⟨w.heap.size+1+1+1,0,none⟩),.pointer (some ⟨wr.heap.size,0,none⟩)]] 222)) from ((HB.out.trans (HB7.out.mono hzr)).alloc hzw _).alloc (by simp;omega) _);have c2:=HX8.out.cell 0;simp only [za,strC,List.getElem?_toArray,List.getElem?_cons_zero] at c2;have HAB:=zz (zqG f.p _ _ _ _ _ _ _ _ _ _ _ _ _ _ HFP.out HB8.out.size HCS.out (by have:=HEL.out;omega));unfold zdC strC at HAB;clear HX7 HI7 HB7 HT7 hD
          go_wp2_with (go_at_call 104;refine HAB.out.mono ?_)
          rintro _ w9 ⟨D1,rfl,q1,q2,q3⟩;simp only [Bool.false_or] at q1;have HZ8:=zz HB8.out.size;have HDZ:=zz HCS.out.ent.dz;have HS9:=zz q1;have HX9:=zz (HX8.out.keep q2 (HCS.out.ent.noK HX8.out (by omega)));have HB9:=zz (show Below w.heap.size w w9 from HB8.out.trans (CkK.below q2 HZ8.out (by omega) (by omega) HDZ.out));clear q1 q2 q3 HCS HX8 HB8 HAB c2 HDZ;have d1:=HS9.out.b.cell 0;simp only [List.getElem?_toArray,List.getElem?_cons_zero] at d1
          cases hse:zaO ((l.take k).map (·.p)) (zj f.p) with
          | true =>
           have HC3:=zz (show E=13 from by rw [HE1.out,HC2.out,if_pos hse,if_pos (by decide)]);rw [hse] at d1;clear hse
           go_wp2_with fail
           go_ret
           exact ⟨by rw [HC3.out];rfl,HB9.out⟩
          | false =>
           have HC3:=zz (show X0=zax (l.take (k+1)) (l.drop (k+1)) from by rw [HC2.out,hse,if_neg (by decide)]);rw [hse] at d1;clear hse HC2;have d2:=HS9.out.p.cell 0;have d3:=HX9.out.cell 0;simp only [za,strC,List.getElem?_toArray,List.getElem?_cons_zero] at d2 d3;have HPU:=zz (zko f.p _ _ _ _ _ _ _ _ HFP.out HB9.out.size HS9.out.ent HS9.out.e HS9.out.i (by
            have:=HEL.out;have h7:=HD7.out;rw [List.length_append,entD,List.length_map];omega))
           unfold zfz strC at HPU
           go_wp2_with (go_at_call 102;refine HPU.out.mono ?_)
           rintro _ w10 ⟨D2,rfl,q1,q2,q3⟩;obtain ⟨n1,fs,v9,hn9,hs9⟩:=HS9.out.m;have v10:VM w10 w.heap.size n1 fs:=v9.keep q2 fun q=>by
            rcases q with q|q
            · exact HS9.out.ne q
            · exact HS9.out.nd q
           rw [List.length_map,List.length_take] at hn9;obtain ⟨w11,hst,v11,k11,_⟩:=v10.store (s:=f.p) Tryz.underlying218 (by unfold maxLen;omega) (by have:=HFP.out;unfold maxLen;omega) (.int .i64 (k:Int));have e1:=(HS9.out.s.keep q2 (HS9.out.ent.noS HS9.out.s)).cell 0;have e2:=(HX9.out.keep q2 (HS9.out.ent.noS HX9.out)).cell 0;have e3:=(HS9.out.i.keep q2 (HS9.out.ent.noS HS9.out.i)).cell 0;simp only [za,strC,List.getElem?_toArray,List.getElem?_cons_zero] at e1 e2 e3;have HT11:=zz (show CkT w11 w.heap.size (w.heap.size+1) (w.heap.size+1+1+1) w.heap.size (w.heap.size+1+1) (l.take (k+1)) from by
            have htk:l.take (k+1)=l.take k++[f]:=by rw [List.take_add_one,HF.out];rfl
            rw [htk];exact CkT.step HS9.out q1 q2 q3 (by rw [List.length_take];exact hn9) hs9 v11 k11 (by rw [←htk];exact HEN.out))
           have HB11:=zz (show Below w.heap.size w w11 from (HB9.out.trans (EntS.below q2 HB9.out.size (by omega) HS9.out.ent.dz)).trans (k11.below (Nat.le_trans HB9.out.size q2.size) (fun j hj q=>by unfold Only at q;omega)));unfold strC at hst;clear v9 v10 v11 k11 q1 q2 q3 hs9 HPU d1 d2 d3
           go_wp2_with fail
           go_roundw
           case rel=>exact ⟨k+1,by go_num,hlt,HT11,HB11,zz HC3.out.symm,HFE2⟩
           case measure=>simp [intOf];omega
      · have HC1:=zz (show E=zP f from by
         rw [HE1.out];have:X0=zP f:=by rw [HCK.out,if_pos hfe]
         rw [this,if_pos hfe])
        have g1:(((zP f:Nat):Int) !=0)=true:=bne_iff_ne.2 (by omega);have HN:=zz hfe;clear HCK hfe
        go_wp2_with fail
        go_ret
        exact ⟨by rw [HC1.out];rfl,HB.out.trans (HB6.out.mono hzr)⟩
    · obtain rfl:k=l.length:=by omega
      have HC1:=zz (show E=if zbx l=true then 4 else 0 from by
       have:=HX.out;rw [List.drop_length,zax] at this;rw [HE1.out,←this,if_neg (fun q=>q rfl)])
      rw [List.take_length] at HT HFE;clear HX;obtain ⟨D,hD,_⟩:=HT.out.ent;obtain ⟨n,fE,hv,hn,hno,hyes,hinj⟩:=hD.map;obtain ⟨w1,hrg,hvr,hk1,hz1⟩:=hv.range Tryz.underlying219;have c1:=HT.out.e.cell 0;simp only [List.getElem?_toArray,List.getElem?_cons_zero] at c1;have HN:=zz hno;have HVR:=zz hvr;have HY1:=zz (show ∀dir v,fE dir=some v→∃bd fd,v = .map (some bd)∧bd≠wr.heap.size∧VM w1 bd (zab (z8 l) dir).length fd∧∃s,(dir,s)∈z8 l from fun dir v h=>by
       obtain ⟨bd,fd,q1,_,q3,q4,_⟩:=hyes dir v h;have:=q3.lt;exact ⟨bd,fd,q1,by omega,q3.keep hk1 (fun q=>q),q4⟩)
      have HB1:=zz (show Below w.heap.size w w1 from HB.out.trans (hk1.all.mono HB.out.size));have hzr:=HB.out.size;clear hv hno hyes hinj hD hvr hk1 HT
      go_wp2_with fail
      clear hz1 hrg c1;generalize wr.heap.size=r at *
      go_loopw [] (fun wq=>∃(left:List UInt8→Bool) (cnt:Nat),Hid (VR wq (w.heap.size+1+1) r n fE left cnt)∧Hid (∀s,left s=false→(fE s).isSome=true→(zab (z8 l) s).length≤512)∧Hid (∀dir v,fE dir=some v→∃bd fd,v = .map (some bd)∧bd≠r∧VM wq bd (zab (z8 l) dir).length fd∧∃s,(dir,s)∈z8 l)∧Hid (Below w.heap.size w wq)) (fun wq=>wq.rangeLeft (w.heap.size+1+1) r)
      case atStart=>exact ⟨_,n,HVR,zz (fun s h1 h2=>by rw [h1] at h2;cases h2),HY1,HB1⟩
      case round =>
       obtain ⟨left,cnt,HVQ,HLE,HYQ,HBQ⟩:=hrel;have hml:=HVQ.out.left_eq
       rcases HVQ.out.next 0 with ⟨_,q2,hnx⟩|⟨s,v,w2,cnt',q1,q2,hnx,q4,q5,q6,q7,hent⟩
       · have HC2:=zz (show E=0 from by
          have:zbx l=false:=by
           rw [Bool.eq_false_iff];intro hq;unfold zbx at hq;rw [List.any_eq_true] at hq;obtain ⟨⟨d,x⟩,hm,hq⟩:=hq;rw [decide_eq_true_eq] at hq
           cases hf:fE d with
           | none=>exact HN.out d hf x hm
           | some v =>
            have:=HLE.out d (q2 d) (by rw [hf];rfl);simp only at hq;omega
          rw [HC1.out,this,if_neg (by decide)])
         clear q2 hml
         go_wp2_with fail
         go_ret
         exact ⟨by rw [HC2.out];rfl,HBQ.out⟩
       · obtain ⟨bd,fd,rfl,hbr,hvb,x,hx⟩:=HYQ.out s v q2;have hvb2:VM w2 bd (zab (z8 l) s).length fd:=hvb.keep q6 hbr;have hlen:=hvb2.len Tryz.underlying218 3;have HX:=zz hx;have HQ4:=zz q4;have HQ2:=zz q2;have HBQ2:=zz (show Below w.heap.size w w2 from HBQ.out.trans (q6.below HBQ.out.size (fun j hj q=>by unfold Only at q;omega)));have HYQ2:=zz (show ∀dir v,fE dir=some v→∃bd fd,v = .map (some bd)∧bd≠r∧VM w2 bd (zab (z8 l) dir).length fd∧∃s,(dir,s)∈z8 l from fun dir v h=>by
          obtain ⟨bd,fd,r1,r2,r3,r4⟩:=HYQ.out dir v h;exact ⟨bd,fd,r1,r2,r3.keep q6 r2,r4⟩)
         have hml2:=q4.left_eq;have HM:=zz (show w2.rangeLeft (w.heap.size+1+1) r<wr.rangeLeft (w.heap.size+1+1) r from by rw [hml,hml2];exact q5);unfold strC at hnx hent;clear hml hml2 q2 q4 q5 q6 q7 hvb hvb2 hx;by_cases hg:512<(zab (z8 l) s).length
         · have HC2:=zz (show E=4 from by
            have:zbx l=true:=by
             unfold zbx;rw [List.any_eq_true];exact ⟨(s,x),HX.out,by rw [decide_eq_true_eq];exact hg⟩
            rw [HC1.out,this,if_pos rfl])
           have g1:decide ((512:Int)<((zab (z8 l) s).length:Int))=true:=decide_eq_true (by omega)
           go_wp2_with fail
           go_ret
           exact ⟨by rw [HC2.out];rfl,HBQ2.out⟩
         · have g1:decide ((512:Int)<((zab (z8 l) s).length:Int))=false:=decide_eq_false (by omega)
           go_wp2_with fail
           go_roundw
           case rel =>
            refine ⟨_,cnt',HQ4,zz (fun t h1 h2=>?_),HYQ2,HBQ2⟩;by_cases e:t=s
            · rw [e];omega
            · exact HLE.out t (by simpa [e] using h1) h2
           case measure=>exact HM.out
end
section
open Go.RowKit Go.Maps
theorem zk1 (l:List UInt8) (A:Option Addr) (c B:Nat) (w:World) (hB:B≤w.heap.size) (hr:ze w B 1 A l.length (l.map zh)) (hl:l.length≤100000000) :Calls Tryz.prog 72 #[.slice A l.length c] w fun r w'=>∃A' c',r = .returned (.slice A' l.length c')∧OwnB w' w.heap.size A' c' l∧Below w.heap.size w w':=by
 have q22:∀(w:World) (a:Option Addr) (n c n' c':Nat),(binOp .eql 58 (.slice a n c) (.slice none n' c')).run Tryz.prog w = .ok (.bool a.isNone) w:=fun w a n c n' c'=>Lib.run_eql_slice_nil w _ _ a n c n' c' Tryz.underlying58
 rcases A with _|a
 · have h0:l.length=0:=by
    rcases Nat.eq_zero_or_pos l.length with q|q
    · exact q
    · obtain ⟨ad,h,_⟩:=hr.2 q;cases h
   have hl0:=List.eq_nil_of_length_eq_zero h0;subst hl0;go_enter Tryz.func72,Tryz.ntmps72
   go_wp2_with fail
   go_ret
   exact ⟨none,0,rfl,Own.nil _ _ _ _,Below.refl _ _⟩
 · have HR:=zz (fun W (k:Below w.heap.size w W)=>hr.below (k.mono hB));have h0:Own (w.alloc (.cells #[] 5)) w.heap.size 5 1 (some ⟨w.heap.size,0,none⟩) 0 0 []:=World.ownsRow_made w #[] 0 (Nat.le_refl _) (Nat.zero_le _) (by simp);have H0:=zz h0;clear hr h0;go_enter Tryz.func72,Tryz.ntmps72
   go_wp2_with (at_builtin;refine zH rfl zbA rfl rfl (n:=0) (xs:=[]) H0.out rfl (HR.out _ ((Below.refl _ _).alloc (Nat.le_refl _) _)) (zb3 l) (by unfold maxLen;omega) (by omega) (by simp) ?_;intro A5 c5 w5 o5 k5;have O5:=zz o5;have HK5:=zz (((Kept.refl w.heap.size [5] [] w).alloc _).trans k5);clear o5 k5)
   go_ret
   exact ⟨A5,c5,rfl,by have:=O5.out;rw [Nat.zero_add,List.nil_append] at this;exact this,HK5.out.below (Nat.le_refl _) (Nat.le_refl _) (by simp)⟩
theorem zaU (w:World):(zeroValue 70).run Tryz.prog w = .ok (.agg #[.string ⟨#[]⟩,.int .i64 0,.slice none 0 0]) w:=by kernel_rfl
theorem zku (f:FileD) (A:Option Addr) (c B:Nat) (w:World) (hB:B≤w.heap.size) (hr:ze w B 1 A f.d.length (f.d.map zh)) (hl:f.d.length≤100000000) :Calls Tryz.prog 151 #[.agg (za f A c)] w fun r w'=>∃A' c',r = .returned (.agg (za f A' c'))∧OwnB w' w.heap.size A' c' f.d∧Below w.heap.size w w':=by
 obtain ⟨p,k,d⟩:=f;simp only at hr hl;unfold za strC;simp only
 have HC:=zz (fun W (kW:Below w.heap.size w W)=>zk1 d A c B W (Nat.le_trans hB kW.size) (hr.below (kW.mono hB)) hl);clear hr;go_enter Tryz.func151,Tryz.ntmps151
 go_wp2_with (go_at_call 72;refine (HC.out _ (((Below.refl _ _).alloc (Nat.le_refl _) _).alloc (by simp) _)).mono ?_)
 rintro _ w1 ⟨A1,c1,rfl,o1,b1⟩;have hx1:Blk w1 w.heap.size 70 #[.string ⟨p.toArray⟩,.int .i64 k,.slice A d.length c]:=Blk.below ((Blk.new w 70 #[.string ⟨p.toArray⟩,.int .i64 k,.slice A d.length c]).alloc _) b1 (by simp;omega);have hy1:Blk w1 (w.heap.size+1) 70 #[.string ⟨#[]⟩,.int .i64 0,.slice none 0 0]:=by
  have:=Blk.new (w.alloc (.cells #[.string ⟨p.toArray⟩,.int .i64 k,.slice A d.length c] 70)) 70 #[.string ⟨#[]⟩,.int .i64 0,.slice none 0 0];exact Blk.below (by simpa using this) b1 (by simp)
 have c2:=hx1.cell 2;have f2:=hx1.frozen 2;simp at c2;have hx2:=hx1.set_ 2 (.slice A1 d.length c1);simp at hx2;have HQ2:=zz (zaC (f:=⟨p,k,d⟩) (A:=A1) (c:=c1) hx2);have HY2:=zz (show Blk (w1.setCell ⟨w.heap.size,2,none⟩ (.slice A1 d.length c1)) (w.heap.size+1) 70 #[.string ⟨#[]⟩,.int .i64 0,.slice none 0 0] from hy1.far (by simp) _);have O1:=zz (show OwnB w1 w.heap.size A1 c1 d from Own.mono o1 (by simp;omega));have hb1:Below w.heap.size w w1:=(((Below.refl w.heap.size w).alloc (Nat.le_refl _) _).alloc (by simp) _).trans (b1.mono (by simp;omega));have HB2:=zz (show Below w.heap.size w (w1.setCell ⟨w.heap.size,2,none⟩ (.slice A1 d.length c1)) from hb1.setCell (p:=⟨w.heap.size,2,none⟩) (Nat.le_refl _) _);have O2:=zz (show OwnB (w1.setCell ⟨w.heap.size,2,none⟩ (.slice A1 d.length c1)) w.heap.size A1 c1 d from Own.setCell (p:=⟨w.heap.size,2,none⟩) O1.out hx1 (by decide) _);clear hx1 hy1 hx2 o1 b1 hb1 HC
 go_wp2_with (first|(with_reducible refine zad rfl rfl rfl HQ2.out ?_)|(refine zO rfl rfl (vs:=za ⟨p,k,d⟩ A1 c1) rfl rfl HY2.out rfl zaw (zaD _ _ _) ?_;intro w5 hx5 hk5 hz5))
 refine bodyPost_ret (zh0 rfl _ _ rfl (zho w5 _ (za ⟨p,k,d⟩ A1 c1) Tryz.underlying70 rfl zaw (fun j v hj=>by rw [zJ,hx5.cell,←hj];simp))) rfl ?_;refine ⟨A1,c1,rfl,?_,HB2.out.trans (hk5.below HB2.out.size (by intro i hi;simp only [Only];omega))⟩;exact Own.keepOnly O2.out hk5 HY2.out (by decide)
end
section
open Go.RowKit Go.Maps
theorem zg5 {l:List FileD} {f:FileD} (h:hasF l f.p=false) (s:Pth):getF (l++[f]) s=if s=f.p then f else getF l s:=by
 unfold getF;rw [List.find?_append];by_cases e:s=f.p
 · subst e;rw [if_pos rfl];have:l.find? (fun g=>g.p==f.p)=none:=by
    rw [List.find?_eq_none];intro g hg q;have:hasF l f.p=true:=zaa.2 ⟨g,hg,by simpa using q⟩;rw [h] at this;cases this
   rw [this];simp
 · rw [if_neg e];have:[f].find? (fun g=>g.p==s)=none:=by
    rw [List.find?_eq_none];intro g hg q;rw [List.mem_singleton] at hg;subst hg;exact e (by simpa using Eq.symm (by simpa using q))
   rw [this];simp
theorem zhP (l:List FileD) (f:FileD) (s:Pth):hasF (l++[f]) s=(hasF l s||decide (s=f.p)):=by
 rw [Bool.eq_iff_iff,Bool.or_eq_true,decide_eq_true_eq,zaa,zaa];constructor
 · rintro ⟨g,hg,rfl⟩
   rcases List.mem_append.1 hg with q|q
   · exact .inl ⟨g,q,rfl⟩
   · rw [List.mem_singleton] at q;subst q;exact .inr rfl
 · rintro (⟨g,hg,rfl⟩|rfl)
   · exact ⟨g,List.mem_append.2 (.inl hg),rfl⟩
   · exact ⟨f,by simp,rfl⟩
theorem zhv {l:List FileD} (h:Apt l) {k:Nat} {f:FileD} (hf:l[k]? = some f):hasF (l.take k) f.p=false:=by
 have hk:l.take (k+1)=l.take k++[f]:=by rw [List.take_add_one,hf];rfl
 have h2:((l.take (k+1)).map (·.p)).Nodup:=List.Sublist.nodup ((List.take_sublist _ _).map _) h;rw [hk,List.map_append,List.nodup_append] at h2;rw [Bool.eq_false_iff];intro q;obtain ⟨g,hg,e⟩:=zaa.1 q;exact h2.2.2 _ (List.mem_map.2 ⟨g,hg,rfl⟩) _ (by simp) e
def chgC (x:ChangeD) (v1 v2:Value):Array Value:=#[strC x.old.p,.int .i64 x.old.k,v1,strC x.new.p,.int .i64 x.new.k,v2]
def chgV (x:ChangeD) (y:Value×Value):List Value:=[strC x.old.p,.int .i64 x.old.k,y.1,strC x.new.p,.int .i64 x.new.k,y.2]
def chgL (l:List ChangeD) (tv:List (Value×Value)):List Value:=(l.zip tv).flatMap fun x=>chgV x.1 x.2
theorem ztF {l:List ChangeD} {tv:List (Value×Value)} (h:tv.length=l.length) (x:ChangeD) (y:Value×Value):chgL (l++[x]) (tv++[y])=chgL l tv++(chgC x y.1 y.2).toList:=by
 unfold chgL;rw [List.zip_append h.symm];simp [chgV,chgC]
theorem zmt {l:List ChangeD} {tv:List (Value×Value)} {k:Nat} {x:ChangeD} {y:Value×Value} (h1:l[k]? = some x) (h2:tv[k]? = some y) (j:Nat) (u:Value) (hj:(chgV x y)[j]? = some u):(chgL l tv)[k*6+j]? = some u :=
 zaV (f:=fun x:ChangeD×(Value×Value)=>chgV x.1 x.2) (C:=6) (fun _=>rfl) (l.zip tv) k j (x,y) (by rw [List.getElem?_zip_eq_some];exact ⟨h1,h2⟩) u hj
def CI (w:World) (B:Nat) (A:Option Addr) (l:List ChangeD):Prop:=∃tv:List (Value×Value),tv.length=l.length∧ze w B 6 A l.length (chgL l tv)∧∀(k:Nat) x y,l[k]? = some x→tv[k]? = some y→zw w B x.old y.1∧zw w B x.new y.2
def za4 (w:World) (z:Nat) (f:FileD) (v:Value):Prop:=∃A c,v = .slice A f.d.length c∧OwnB w z A c f.d
def ChO (w:World) (z:Nat) (A:Option Addr) (c:Nat) (l:List ChangeD):Prop:=∃tv:List (Value×Value),tv.length=l.length∧Own w z 183 6 A l.length c (chgL l tv)∧∀(k:Nat) x y,l[k]? = some x→tv[k]? = some y→za4 w z x.old y.1∧za4 w z x.new y.2
theorem za4.reads {w:World} {z:Nat} {f:FileD} {v:Value} (h:za4 w z f v):zw w w.heap.size f v:=by
 obtain ⟨A,c,rfl,h⟩:=h;exact ⟨A,c,rfl,h.cap_le.1,h.cap_le.2,h.reads⟩
theorem za4.kept {w w':World} {z b:Nat} {E:List TypeId} {f:FileD} {v:Value} (h:za4 w z f v) (hk:Kept b E [] w w') (he:5∉E):za4 w' z f v:=by
 obtain ⟨A,c,rfl,h⟩:=h;exact ⟨A,c,rfl,Own.kept h hk he (by simp)⟩
theorem ChO.reads {w:World} {z:Nat} {A:Option Addr} {c:Nat} {l:List ChangeD} (h:ChO w z A c l):CI w w.heap.size A l:=by
 obtain ⟨tv,h1,h2,h3⟩:=h;exact ⟨tv,h1,h2.reads,fun k x y e1 e2=>⟨(h3 k x y e1 e2).1.reads,(h3 k x y e1 e2).2.reads⟩⟩
theorem ChO.nil_ (w:World) (z:Nat):ChO w z none 0 []:=⟨[],rfl,Own.nil _ _ _ _,fun _ _ _ h=>by cases h⟩
theorem ChO.keepB {w w':World} {z:Nat} {A:Option Addr} {c:Nat} {l:List ChangeD} (h:ChO w z A c l) (hb:Below w.heap.size w w'):ChO w' z A c l:=by
 obtain ⟨tv,h1,h2,h3⟩:=h;have kk:Kept 0 [] [] w w':=Kept.ofBelow hb;exact ⟨tv,h1,h2.kept kk (by simp) (by simp),fun k x y e1 e2=>⟨(h3 k x y e1 e2).1.kept kk (by simp),(h3 k x y e1 e2).2.kept kk (by simp)⟩⟩
theorem ChO.mono {w:World} {z z':Nat} {A:Option Addr} {c:Nat} {l:List ChangeD} (h:ChO w z A c l) (hz:z'≤z):ChO w z' A c l:=by
 obtain ⟨tv,h1,h2,h3⟩:=h;have hd:∀f v,za4 w z f v→za4 w z' f v:=fun f v h=>by
  obtain ⟨A,c,rfl,h⟩:=h;exact ⟨A,c,rfl,Own.mono h hz⟩
 exact ⟨tv,h1,h2.mono hz,fun k x y e1 e2=>⟨hd _ _ (h3 k x y e1 e2).1,hd _ _ (h3 k x y e1 e2).2⟩⟩
theorem ChO.snoc {w w':World} {z:Nat} {A':Option Addr} {c':Nat} {l:List ChangeD} {tv:List (Value×Value)} {x:ChangeD} {y:Value×Value} (h1:tv.length=l.length) (h3:∀(k:Nat) x y,l[k]? = some x→tv[k]? = some y→za4 w z x.old y.1∧za4 w z x.new y.2) (hx:za4 w z x.old y.1∧za4 w z x.new y.2) (ho:Own w' z 183 6 A' (l.length+1) c' (chgL l tv++(chgC x y.1 y.2).toList)) (hk:Kept z [183] [] w w'):ChO w' z A' c' (l++[x]):=by
 refine ⟨tv++[y],by simp [h1],?_,fun k a b e1 e2=>?_⟩
 · rw [ztF h1,List.length_append];exact ho
 · have hd:za4 w z a.old b.1∧za4 w z a.new b.2:=by
    rcases Nat.lt_trichotomy k l.length with q|q|q
    · rw [List.getElem?_append_left q] at e1;rw [List.getElem?_append_left (by omega)] at e2;exact h3 k a b e1 e2
    · subst q;rw [List.getElem?_append_right (Nat.le_refl _),Nat.sub_self] at e1;rw [List.getElem?_append_right (by omega),h1,Nat.sub_self] at e2;injection e1 with e1;injection e2 with e2;subst e1 e2;exact hx
    · rw [List.getElem?_eq_none (by rw [List.length_append,List.length_singleton];omega)] at e1;cases e1
   exact ⟨hd.1.kept hk (by decide),hd.2.kept hk (by decide)⟩
theorem zkg:Elem Tryz.prog 115 183 6 96:=by
 refine ⟨Tryz.underlying115,?_,by decide⟩;obtain ⟨i,hi,h1,h2,h3⟩:=info_parts (show (Tryz.prog.info? 183).map (fun i=>(i.zero,i.size,i.bytes))=some (some (.agg #[.string ⟨#[]⟩,.int .i64 0,.slice none 0 0,.string ⟨#[]⟩,.int .i64 0,.slice none 0 0]),6,96) by kernel_rfl);exact ⟨i,_,hi,h1,h2,h3,rfl⟩
theorem zea:(Tryz.prog.info? 183).map (·.size)=some 6:=by kernel_rfl
theorem zgO (w:World):(zeroValue 183).run Tryz.prog w = .ok (.agg #[.string ⟨#[]⟩,.int .i64 0,.slice none 0 0,.string ⟨#[]⟩,.int .i64 0,.slice none 0 0]) w:=by kernel_rfl
theorem zfk (x:ChangeD) {v1 v2:Value} (h1:v1.oneCell'=true) (h2:v2.oneCell'=true):∀v∈(chgC x v1 v2).toList,v.oneCell'=true:=by
 intro v hv;simp only [chgC,strC,List.mem_cons,List.not_mem_nil,or_false] at hv;rcases hv with rfl|rfl|rfl|rfl|rfl|rfl <;> first|rfl|assumption
theorem zt9 (f:FileD) (A:Option Addr) (c:Nat) (w:World):(Instr.build 183 #[(0,.agg (za f A c))]).run Tryz.prog w = .ok (.agg (chgC ⟨f,zbJ⟩ (.slice A f.d.length c) (.slice none 0 0))) w:=by kernel_rfl
theorem znt (f g:FileD) (A A':Option Addr) (c c':Nat) (w:World):(Instr.build 183 #[(0,.agg (za f A c)),(1,.agg (za g A' c'))]).run Tryz.prog w = .ok (.agg (chgC ⟨f,g⟩ (.slice A f.d.length c) (.slice A' g.d.length c'))) w:=by kernel_rfl
theorem zph {w:World} {q:Nat} {x:ChangeD} {v1 v2:Value} (h:Blk w q 183 (chgC x v1 v2)):(Instr.loadAt 183 (.pointer (some ⟨q,0,none⟩))).run Tryz.prog w = .ok (.agg (chgC x v1 v2)) w :=
 zcd (P:=Tryz.prog) h 0 (chgC x v1 v2) Tryz.underlying183 rfl zea (by simp [chgC])
theorem zf6 {w:World} {q:Nat} {x:ChangeD} {A A':Option Addr} {c c':Nat} (h:Blk w q 183 (chgC x (.slice A x.old.d.length c) (.slice A' x.new.d.length c'))):(Instr.loadAt 70 (.pointer (some ⟨q,0,none⟩))).run Tryz.prog w = .ok (.agg (za x.old A c)) w :=
 zcd (P:=Tryz.prog) h 0 (za x.old A c) Tryz.underlying70 rfl zaw (by simp [chgC,za])
theorem zgD {w:World} {q:Nat} {x:ChangeD} {A A':Option Addr} {c c':Nat} (h:Blk w q 183 (chgC x (.slice A x.old.d.length c) (.slice A' x.new.d.length c'))):(Instr.loadAt 70 (.pointer (some ⟨q,3,none⟩))).run Tryz.prog w = .ok (.agg (za x.new A' c')) w :=
 zcd (P:=Tryz.prog) h 3 (za x.new A' c') Tryz.underlying70 rfl zaw (by simp [chgC,za])
def ChM (w:World) (B:Nat) (a b:List FileD) (f:Mp):Prop:=(∀s,(f s).isSome=(hasF a s||hasF b s))∧∀s v,f s=some v→∃oA oc nA nc,v = .agg (chgC ⟨getF a s,getF b s⟩ (.slice oA (getF a s).d.length oc) (.slice nA (getF b s).d.length nc))∧ze w B 1 oA (getF a s).d.length ((getF a s).d.map zh)∧ze w B 1 nA (getF b s).d.length ((getF b s).d.map zh)
theorem ChM.nil_ (w:World) (B:Nat):ChM w B [] [] zF:=⟨fun _=>rfl,fun _ _ h=>by cases h⟩
theorem ChM.below {w w':World} {B:Nat} {a b:List FileD} {f:Mp} (h:ChM w B a b f) (hb:Below B w w'):ChM w' B a b f :=
 ⟨h.1,fun s v e=>by
  obtain ⟨oA,oc,nA,nc,h1,h2,h3⟩:=h.2 s v e;exact ⟨oA,oc,nA,nc,h1,h2.below hb,h3.below hb⟩⟩
theorem ChM.get {w:World} {B:Nat} {a b:List FileD} {f:Mp} (h:ChM w B a b f) (s:Pth):∃oA oc nA nc,(f s).getD (.agg #[.string ⟨#[]⟩,.int .i64 0,.slice none 0 0,.string ⟨#[]⟩,.int .i64 0,.slice none 0 0]) = .agg (chgC ⟨getF a s,getF b s⟩ (.slice oA (getF a s).d.length oc) (.slice nA (getF b s).d.length nc))∧ze w B 1 oA (getF a s).d.length ((getF a s).d.map zh)∧ze w B 1 nA (getF b s).d.length ((getF b s).d.map zh):=by
 cases hf:f s with
 | some v =>
  obtain ⟨oA,oc,nA,nc,h1,h2,h3⟩:=h.2 s v hf
  exact ⟨oA,oc,nA,nc,h1,h2,h3⟩
 | none =>
  have:=h.1 s;rw [hf] at this;have h1:hasF a s=false∧hasF b s=false:=by
   revert this;cases hasF a s <;> cases hasF b s <;> simp
  rw [zbo h1.1,zbo h1.2];exact ⟨none,0,none,0,rfl,ze.none_,ze.none_⟩
theorem ChM.putA {w:World} {B:Nat} {a:List FileD} {f:Mp} {x:FileD} {A:Option Addr} {c:Nat} (h:ChM w B a [] f) (hx:hasF a x.p=false) (hr:ze w B 1 A x.d.length (x.d.map zh)):ChM w B (a++[x]) [] (mput f x.p (.agg (chgC ⟨x,zbJ⟩ (.slice A x.d.length c) (.slice none 0 0)))):=by
 refine ⟨fun s=>?_,fun s v e=>?_⟩
 · rw [zhP];unfold mput;by_cases q:s=x.p
   · rw [if_pos q,decide_eq_true q];simp
   · rw [if_neg q,decide_eq_false q,Bool.or_false];exact h.1 s
 · rw [zg5 hx];unfold mput at e;by_cases q:s=x.p
   · rw [if_pos q] at e ⊢;injection e with e;exact ⟨A,c,none,0,e.symm,hr,ze.none_⟩
   · rw [if_neg q] at e ⊢;exact h.2 s v e
theorem ChM.putB {w:World} {B:Nat} {a b:List FileD} {f:Mp} {x:FileD} {A oA:Option Addr} {c oc:Nat} (h:ChM w B a b f) (hx:hasF b x.p=false) (hr:ze w B 1 A x.d.length (x.d.map zh)) (hr0:ze w B 1 oA (getF a x.p).d.length ((getF a x.p).d.map zh)):ChM w B a (b++[x]) (mput f x.p (.agg (chgC ⟨getF a x.p,x⟩ (.slice oA (getF a x.p).d.length oc) (.slice A x.d.length c)))):=by
 refine ⟨fun s=>?_,fun s v e=>?_⟩
 · rw [zhP];unfold mput;by_cases q:s=x.p
   · rw [if_pos q,decide_eq_true q];simp
   · rw [if_neg q,decide_eq_false q,Bool.or_false];exact h.1 s
 · rw [zg5 hx];unfold mput at e;by_cases q:s=x.p
   · rw [if_pos q] at e ⊢;injection e with e;rw [q];exact ⟨oA,oc,A,c,e.symm,hr0,hr⟩
   · rw [if_neg q] at e ⊢;exact h.2 s v e
theorem zmR {a b:List FileD} {ks:List Pth} (h:zae ks) (hm:∀s,s∈ks↔(hasF a s||hasF b s)=true):zT a b=ks.filterMap fun p=>zaH (getF a p) (getF b p):=by
 have:zat (a.map (·.p)++b.map (·.p))=ks:=zda (zbI _) h fun x=>by
  rw [zbm,hm,Bool.or_eq_true,List.mem_append,zaa,zaa,List.mem_map,List.mem_map]
 unfold zT;rw [this]
end
section
open Go.RowKit
theorem zlM (p:Pth) (a b:Nat):(⟨p.toArray⟩:ByteArray).extract a b=⟨((p.drop a).take (b-a)).toArray⟩:=by
 apply ByteArray.ext;rw [ByteArray.data_extract];apply Array.ext';rw [Array.toList_extract,List.extract_eq_take_drop]
def rnP (p:Pth):List Pth:=if (nmP p).all zI=true∧(nmP p).length≤8 then nmP p else []
theorem znX (p:Pth):0<(nmP p).length:=by
 unfold nmP;have:∀(b cur:Pth),0<(z7 cur b).length:=fun b=>by
  induction b with
  | nil=>intro cur;simp [z7]
  | cons x b ih =>
   intro cur;unfold z7
   split
   · simp
   · exact ih _
 exact this p []
theorem zks (p:Pth):(rnP p).length=0↔(8<(nmP p).length∨(nmP p).any (fun s=>!zI s)=true):=by
 have h0:=znX p;have e:(nmP p).any (fun s=>!zI s)=!(nmP p).all zI:=by
  rw [List.all_eq_not_any_not,Bool.not_not]
 rw [e];unfold rnP;by_cases h:(nmP p).all zI=true∧(nmP p).length≤8
 · rw [if_pos h,h.1];simp only [Bool.not_true,Bool.false_eq_true,or_false]
   omega
 · rw [if_neg h];simp only [List.length_nil,true_iff]
   by_cases q:(nmP p).all zI=true
   · exact .inl (Nat.lt_of_not_le fun r=>h ⟨q,r⟩)
   · exact .inr (by simpa using q)
structure NmAt (p:Pth) (i from_:Nat) (done:List Pth):Prop where
 le:from_≤i
 hi:i≤p.length
 ok:done.all zI=true
 len:done.length≤from_
 eq:nmP p=done++z7 ((p.drop from_).take (i-from_)) (p.drop i)
theorem NmAt.start (p:Pth):NmAt p 0 0 []:=⟨Nat.le_refl _,Nat.zero_le _,rfl,Nat.le_refl _,by simp [nmP]⟩
theorem NmAt.next {p:Pth} {i f:Nat} {done:List Pth} (h:NmAt p i f done) {x:UInt8} (hx:p[i]? = some x) (hn:x≠47):NmAt p (i+1) f done:=by
 have hi:i<p.length:=(List.getElem?_eq_some_iff.1 hx).1;refine ⟨by have:=h.le;omega,hi,h.ok,h.len,?_⟩;rw [h.eq];have hd:p.drop i=x::p.drop (i+1):=by rw [List.drop_eq_getElem?_toList_append,hx];rfl
 rw [hd,z7,if_neg hn];have:=h.le;rw [show i+1-f=(i-f)+1 from by omega,List.take_add_one,List.getElem?_drop,show f+(i-f)=i from by omega,hx];rfl
theorem NmAt.name {p:Pth} {i f:Nat} {done:List Pth} (h:NmAt p i f done) (hs:i=p.length∨p[i]? = some 47) (hq:zI ((p.drop f).take (i-f))=false):rnP p=[]:=by
 have hm:(p.drop f).take (i-f)∈nmP p:=by
  rw [h.eq];refine List.mem_append.2 (.inr ?_)
  rcases hs with hs|hs
  · rw [hs,List.drop_length,z7];simp
  · have hd:p.drop i=47::p.drop (i+1):=by rw [List.drop_eq_getElem?_toList_append,hs];rfl
    rw [hd,z7,if_pos rfl];simp
 unfold rnP;rw [if_neg];intro q;have:=List.all_eq_true.1 q.1 _ hm;rw [hq] at this;cases this
theorem NmAt.slash {p:Pth} {i f:Nat} {done:List Pth} (h:NmAt p i f done) (hs:p[i]? = some 47) (hq:zI ((p.drop f).take (i-f))=true):NmAt p (i+1) (i+1) (done++[(p.drop f).take (i-f)]):=by
 have hi:i<p.length:=(List.getElem?_eq_some_iff.1 hs).1;have hd:p.drop i=47::p.drop (i+1):=by rw [List.drop_eq_getElem?_toList_append,hs];rfl
 refine ⟨Nat.le_refl _,hi,by rw [List.all_append,h.ok];simp [hq],?_,?_⟩
 · have:=h.len;have:=h.le;rw [List.length_append,List.length_singleton];omega
 · rw [h.eq,hd,z7,if_pos rfl];simp
theorem NmAt.end_ {p:Pth} {f:Nat} {done:List Pth} (h:NmAt p p.length f done) (hq:zI ((p.drop f).take (p.length-f))=true):nmP p=done++[(p.drop f).take (p.length-f)]∧(done++[(p.drop f).take (p.length-f)]).all zI=true:=by
 refine ⟨?_,by rw [List.all_append,h.ok];simp [hq]⟩;have:=h.eq;rw [List.drop_length,z7] at this;exact this
theorem zk2 (p:Pth) (w:World) (hp:p.length≤100000000) :Calls Tryz.prog 83 #[strC p] w fun e w'=>∃A c,e = .returned (.slice A (rnP p).length c)∧Own w' w.heap.size 9 1 A (rnP p).length c (strL (rnP p))∧Below w.heap.size w w':=by
 have hsz:(⟨p.toArray⟩:ByteArray).size=p.length:=by simp [ByteArray.size]
 have HN:=zz (fun (s:Pth) W=>show Calls Tryz.prog 127 #[.string ⟨s.toArray⟩] W (fun e w'=>e = .returned (.bool (zI s))∧Below W.heap.size W w') from zsz ⟨s.toArray⟩ W);unfold strC;obtain ⟨R,hR⟩:∃R,rnP p=R:=⟨_,rfl⟩;rw [hR];have HR:=zz hR;clear hR;obtain ⟨z,hz⟩:∃z,w.heap.size=z:=⟨_,rfl⟩;rw [hz];have HZ:=zz hz;go_enter Tryz.func83,Tryz.ntmps83
 go_wp2_with fail
 go_loopw [3,4,5] (fun s3 s4 s5 wr=>∃(A:Option Addr) (c f i:Nat) (done:List Pth),s3 = .slice A done.length c∧s4 = .int .i64 (f:Nat)∧s5 = .int .i64 (i:Nat)∧i≤p.length+1∧f≤i∧done.length≤f∧Hid (i≤p.length→NmAt p i f done)∧Hid (i=p.length+1→nmP p=done∧done.all zI=true)∧Hid (Own wr z 9 1 A done.length c (strL done))∧Hid (Below z w wr)) (fun _ _ s5 _=>p.length+1-(intOf s5).toNat)
 case atStart=>exact ⟨none,0,0,0,[],rfl,rfl,rfl,Nat.zero_le _,Nat.le_refl _,Nat.le_refl _,zz fun _=>NmAt.start p,zz fun q=>by omega,zz (Own.nil _ _ _ _),zz (Below.refl _ _)⟩
 case round =>
  obtain ⟨A,c,f,i,done,rfl,rfl,rfl,hi,hfi,hdf,HA,HE,HO,HB⟩:=hrel;by_cases hlt:i≤p.length
  · have HQ:=zz (HA.out hlt);have hE:=zlM p f i;have i0:(0:Int)≤(i:Int):=by omega
    have f0:(0:Int)≤(f:Int):=by omega
    have fi:(f:Int)≤(i:Int):=by omega
    have ip:(i:Int)≤(p.length:Int):=by omega
    have HNM:=zz (HN.out ((p.drop f).take (i-f)) wr);have HST:=zz (show ∀(b:Bool),zI ((p.drop f).take (i-f))=b→zI ((p.drop f).take (i-f))=b from fun _ h=>h);have hsl:((p.drop f).take (i-f)).length≤p.length:=by rw [List.length_take,List.length_drop];omega
    obtain ⟨bn,hbn⟩:∃bn,zI ((p.drop f).take (i-f))=bn:=⟨_,rfl⟩;rw [hbn] at HNM;have HBN:=zz hbn;clear hbn HST;have key:∀(hs:i=p.length∨p[i]? = some 47),bn=false→R=[]:=fun hs e=>by
     rw [←HR.out];exact HQ.out.name hs (by rw [HBN.out,e])
    have HK:=zz key;clear key;by_cases hil:i=p.length
    · subst hil
      cases bn with
      | false =>
       have hR:=HK.out (.inl rfl) rfl;subst hR
       go_wp2_with (go_at_call 127;refine HNM.out.mono ?_;rintro _ w2 ⟨rfl,hb2⟩;have HO2:=zz (HO.out.kept (Kept.ofBelow (base:=0) (E:=[]) (G:=[]) hb2) (by simp) (by simp));have HB2:=zz (show Below z w w2 from HB.out.trans (hb2.mono (by rw [←HZ.out];exact HZ.out▸HB.out.size)));have hz2:z≤w2.heap.size:=(by have:=HB2.out.size;rw [HZ.out] at this;exact this);clear hb2)
       go_ret
       exact ⟨none,0,rfl,Own.nil _ _ _ _,HB2.out⟩
      | true =>
       go_wp2_with (first|(go_at_call 127;refine HNM.out.mono ?_;rintro _ w2 ⟨rfl,hb2⟩;have HO2:=zz (HO.out.kept (Kept.ofBelow (base:=0) (E:=[]) (G:=[]) hb2) (by simp) (by simp));have HB2:=zz (show Below z w w2 from HB.out.trans (hb2.mono (by rw [←HZ.out];exact HZ.out▸HB.out.size)));have hz2:z≤w2.heap.size:=(by have:=HB2.out.size;rw [HZ.out] at this;exact this);clear hb2)|(at_builtin;refine zH rfl zbG rfl rfl (n:=done.length) (xs:=strL done) (HO2.out.alloc _) rfl (ze.of_blk (n:=1) (size:=1) (xs:=strL [(p.drop f).take (p.length-f)]) (heap_alloc_new _ _) rfl rfl) (zb5 [(p.drop f).take (p.length-f)]) (by unfold maxLen;omega) (by omega) (by simp;omega) ?_;intro A5 c5 w5 o5 k5;have O5:=zz o5;have HB5:=zz (HB2.out.trans ((((Kept.refl _ _ _ _).alloc _).trans k5).below (Nat.le_refl _) hz2 (by simp)));clear o5 k5))
       have HO5:=zz (show Own w5 z 9 1 A5 (done++[(p.drop f).take (p.length-f)]).length c5 (strL (done++[(p.drop f).take (p.length-f)])) from by
        rw [List.length_append,strL,List.map_append];exact O5.out)
       go_roundw
       case rel=>exact ⟨A5,c5,p.length+1,p.length+1,done++[(p.drop f).take (p.length-f)],by simp,by go_num,by go_num,Nat.le_refl _,Nat.le_refl _,by rw [List.length_append,List.length_singleton];omega,zz fun q=>by omega,zz fun _=>HQ.out.end_ HBN.out,HO5,HB5⟩
       case measure=>simp [intOf]
    · have hil2:i<p.length:=by omega
      obtain ⟨x,hx⟩:∃x,p[i]? = some x:=⟨_,List.getElem?_eq_getElem hil2⟩;have i1:(i:Int)<(p.length:Int):=by omega
      have hne:((i:Int)==(p.length:Int))=false:=beq_eq_false_iff_ne.2 fun e=>hil (by omega);have hx1:p[i]=x:=by
       have:=List.getElem?_eq_getElem hil2;rw [hx] at this;exact (Option.some.inj this).symm
      have hb:((⟨p.toArray⟩:ByteArray)[i]'(by rw [hsz];exact hil2))=x:=hx1;have HX:=zz hx;clear hx hx1;by_cases hx:x=47
      · subst hx
        cases bn with
        | false =>
         have hR:=HK.out (.inr HX.out) rfl;subst hR
         go_wp2_with (go_at_call 127;refine HNM.out.mono ?_;rintro _ w2 ⟨rfl,hb2⟩;have HO2:=zz (HO.out.kept (Kept.ofBelow (base:=0) (E:=[]) (G:=[]) hb2) (by simp) (by simp));have HB2:=zz (show Below z w w2 from HB.out.trans (hb2.mono (by rw [←HZ.out];exact HZ.out▸HB.out.size)));have hz2:z≤w2.heap.size:=(by have:=HB2.out.size;rw [HZ.out] at this;exact this);clear hb2)
         go_ret
         exact ⟨none,0,rfl,Own.nil _ _ _ _,HB2.out⟩
        | true =>
         go_wp2_with (first|(go_at_call 127;refine HNM.out.mono ?_;rintro _ w2 ⟨rfl,hb2⟩;have HO2:=zz (HO.out.kept (Kept.ofBelow (base:=0) (E:=[]) (G:=[]) hb2) (by simp) (by simp));have HB2:=zz (show Below z w w2 from HB.out.trans (hb2.mono (by rw [←HZ.out];exact HZ.out▸HB.out.size)));have hz2:z≤w2.heap.size:=(by have:=HB2.out.size;rw [HZ.out] at this;exact this);clear hb2)|(at_builtin;refine zH rfl zbG rfl rfl (n:=done.length) (xs:=strL done) (HO2.out.alloc _) rfl (ze.of_blk (n:=1) (size:=1) (xs:=strL [(p.drop f).take (i-f)]) (heap_alloc_new _ _) rfl rfl) (zb5 [(p.drop f).take (i-f)]) (by unfold maxLen;omega) (by omega) (by simp;omega) ?_;intro A5 c5 w5 o5 k5;have O5:=zz o5;have HB5:=zz (HB2.out.trans ((((Kept.refl _ _ _ _).alloc _).trans k5).below (Nat.le_refl _) hz2 (by simp)));clear o5 k5))
         have HO5:=zz (show Own w5 z 9 1 A5 (done++[(p.drop f).take (i-f)]).length c5 (strL (done++[(p.drop f).take (i-f)])) from by
          rw [List.length_append,strL,List.map_append];exact O5.out)
         go_roundw
         case rel=>exact ⟨A5,c5,i+1,i+1,done++[(p.drop f).take (i-f)],by simp,by go_num,by go_num,by omega,Nat.le_refl _,by rw [List.length_append,List.length_singleton];omega,zz fun _=>HQ.out.slash HX.out HBN.out,zz fun q=>by omega,HO5,HB5⟩
         case measure=>simp [intOf];omega
      · have hne2:((x.toNat:Int)==47)=false:=beq_eq_false_iff_ne.2 fun e=>hx (by apply UInt8.toNat_inj.1;show x.toNat=47;omega)
        go_wp2_with fail
        go_roundw
        case rel=>exact ⟨A,c,f,i+1,done,rfl,rfl,by go_num,by omega,by omega,hdf,zz fun _=>HQ.out.next HX.out hx,zz fun q=>by omega,HO,HB⟩
        case measure=>simp [intOf];omega
  · obtain rfl:i=p.length+1:=by omega
    obtain ⟨e1,e2⟩:=HE.out rfl;have hgt:¬((p.length:Int)+1≤(p.length:Int)):=by omega
    by_cases h8:8<done.length
    · have hR:R=[]:=by rw [←HR.out];unfold rnP;rw [if_neg];intro q;rw [e1] at q;omega
      subst hR;have h8':(8:Int)<(done.length:Int):=by omega
      go_wp2_with fail
      go_ret
      exact ⟨none,0,rfl,Own.nil _ _ _ _,HB.out⟩
    · have hR:done=R:=by rw [←HR.out];unfold rnP;rw [if_pos ⟨by rw [e1];exact e2,by rw [e1];omega⟩,e1]
      subst hR;have h8':¬((8:Int)<(done.length:Int)):=by omega
      go_wp2_with fail
      go_ret
      exact ⟨A,c,rfl,HO.out,HB.out⟩
end
end Go.Proofs.YtmkmbbjgepcioaaGreatDoor
