/- A map from clashes (a path and a number), each element as it stands. No statement of the seat is proved here. -/
import Derived.Test.YtmkmbbjgepcioaaGreatDoorCAHq
import Derived.Test.YtmkmbbjgepcioaaGreatDoorCA05
import Derived.BigQuiet
import Derived.Deep.QuietTactic
import Derived.Test.YtmkmbbjgepcioaaGreatDoorCAShelf
import Derived.Lib.OthersKept
import Derived.Laws.RangeAny
import Derived.Deep.LoopGhost
import Derived.Test.YtmkmbbjgepcioaaGreatDoorCA02
import Derived.Test.YtmkmbbjgepcioaaGreatDoorCA04
import Derived.DeepKeys4
namespace Go.Proofs.YtmkmbbjgepcioaaGreatDoor
set_option maxHeartbeats 1000000
set_option maxRecDepth 100000
section
open Go.RowKit
def slz:ByteArray:=⟨#[47,0]⟩
theorem zgw:slz.data.toList=[47,0]:=rfl
theorem zpt (s:ByteArray) (pos:Nat) (h:pos<s.size) (ha:128≤(s[pos]'h).toNat) :pos+(Utf8.decode s pos).2≤s.size∧∀j (hj:j<s.size),pos≤j→j<pos+(Utf8.decode s pos).2→128≤(s[j]'hj).toNat:=by
 have hn:¬(s[pos]'h).toNat<128:=by omega
 have hg:∀k (hk:k<s.size),s.get! k=s[k]'hk:=fun k hk=>get_at s k hk;have key:∀k,(decide (pos+k<s.size)&&(s.get! (pos+k)).toNat / 64==2)=true→pos+k<s.size∧∀hk:pos+k<s.size,128≤(s[pos+k]'hk).toNat:=by
  intro k hk;simp only [Bool.and_eq_true,decide_eq_true_eq,beq_iff_eq] at hk;refine ⟨hk.1,fun hlt=>?_⟩;rw [←hg _ hlt];omega
 have pin:∀j (hj:j<s.size) k (hk:pos+k<s.size),j=pos+k→(∀hk:pos+k<s.size,128≤(s[pos+k]'hk).toNat)→128≤(s[j]'hj).toNat:=by
  intro j hj k hk e q;subst e;exact q hk
 have one:pos+1≤s.size∧∀j (hj:j<s.size),pos≤j→j<pos+1→128≤(s[j]'hj).toNat:=by
  refine ⟨by omega,fun j hj h1 h2=>?_⟩;obtain rfl:j=pos:=by omega
  exact ha
 simp only [Utf8.decode,get_at s pos h,hn,if_false]
 split
 · rename_i hc
   simp only [Bool.and_eq_true] at hc;obtain ⟨a1,b1⟩:=key 1 (by simpa using hc.2)
   split
   · refine ⟨by simp;omega,fun j hj h1 h2=>?_⟩;simp at h2
     rcases Nat.lt_or_ge j (pos+1) with q|q
     · exact one.2 j hj h1 q
     · exact pin j hj 1 a1 (by omega) b1
   · exact one
 · split
   · rename_i hc
     simp only [Bool.and_eq_true] at hc;obtain ⟨a1,b1⟩:=key 1 (by simpa using hc.1.2);obtain ⟨a2,b2⟩:=key 2 (by simpa using hc.2)
     split
     · refine ⟨by simp;omega,fun j hj h1 h2=>?_⟩;simp at h2
       rcases Nat.lt_or_ge j (pos+1) with q|q
       · exact one.2 j hj h1 q
       · rcases Nat.lt_or_ge j (pos+2) with q2|q2
         · exact pin j hj 1 a1 (by omega) b1
         · exact pin j hj 2 a2 (by omega) b2
     · exact one
   · split
     · rename_i hc
       simp only [Bool.and_eq_true] at hc;obtain ⟨a1,b1⟩:=key 1 (by simpa using hc.1.1.2);obtain ⟨a2,b2⟩:=key 2 (by simpa using hc.1.2);obtain ⟨a3,b3⟩:=key 3 (by simpa using hc.2)
       split
       · refine ⟨by simp;omega,fun j hj h1 h2=>?_⟩;simp at h2
         rcases Nat.lt_or_ge j (pos+1) with q|q
         · exact one.2 j hj h1 q
         · rcases Nat.lt_or_ge j (pos+2) with q2|q2
           · exact pin j hj 1 a1 (by omega) b1
           · rcases Nat.lt_or_ge j (pos+3) with q3|q3
             · exact pin j hj 2 a2 (by omega) b2
             · exact pin j hj 3 a3 (by omega) b3
       · exact one
     · exact one
theorem zl6 (r:Nat) (h:128≤r) (h2:r<2048):∃a b:UInt8,Utf8.encode (r:Int)=⟨#[a,b]⟩∧128≤b.toNat:=by
 have hv:Utf8.valid (r:Int)=true:=by simp [Utf8.valid];omega
 refine ⟨UInt8.ofNat (0xC0+r / 64),UInt8.ofNat (0x80+r%64),?_,?_⟩
 · simp only [Utf8.encode,hv,if_true,Int.toNat_natCast]
   rw [if_neg (by omega),if_pos (by omega)]
 · simp;omega
theorem zqL (r:Nat) (h:2048≤r):3≤(Utf8.encode (r:Int)).size:=by
 simp only [Utf8.encode,Int.toNat_natCast]
 by_cases hv:Utf8.valid (r:Int)=true
 · rw [if_pos hv,if_neg (by omega),if_neg (by omega)]
   split <;> simp [ByteArray.size]
 · rw [if_neg hv];decide
def zdK (w:World) (e:Ending) (w':World):Prop:=e = .returned (.int .i64 (-1))∧Below w.heap.size w w'
theorem zqX (w:World):Calls Tryz.prog 263 #[.string slz,.int .i32 65533] w (zdK w):=by
 go_enter Tryz.func263,Tryz.ntmps263
 go_wp2_with fail
 go_loopg [5,6] 2 (fun g _ _ wx=>∃i:Nat,i+g=2∧wx=w.iter slz i)
 case atStart=>exact ⟨0,by omega,rfl⟩
 case round =>
  obtain ⟨i,hig,rfl⟩:=hrel
  rcases gk with _|_|_|gk
  · obtain rfl:i=2:=by omega
    have hnx:=fun ty=>run_next_end (P:=Tryz.prog) w slz 2 ty (by decide)
    go_wp2
    go_ret
    exact ⟨rfl,(Below.refl _ _).alloc (Nat.le_refl _) _⟩
  · obtain rfl:i=1:=by omega
    have hnx:=fun ty=>run_next_ascii (P:=Tryz.prog) w slz 1 ty (by decide) (by decide);have hx:slz[1]=0:=rfl
    go_wp2
    go_roundg 0
    case measure=>omega
    case rel=>exact ⟨2,by omega,rfl⟩
  · obtain rfl:i=0:=by omega
    have hnx:=fun ty=>run_next_ascii (P:=Tryz.prog) w slz 0 ty (by decide) (by decide);have hx:slz[0]=47:=rfl
    go_wp2
    go_roundg 1
    case measure=>omega
    case rel=>exact ⟨1,by omega,rfl⟩
  · omega
theorem zm5 (r:Int) (hr:128≤r) (hne:(r==65533)=false) (hv:Lib.validRune r=false) (w:World):Calls Tryz.prog 263 #[.string slz,.int .i32 r] w (zdK w):=by
 have h0:0≤r:=by omega
 have hsl:slz.size=2:=rfl;have HV:=zz hv;clear hv;go_enter Tryz.func263,Tryz.ntmps263
 go_wp2_with (go_at_call 287;refine (Tryz.utf8_ValidRune _ _).mono ?_;rintro e w' ⟨rfl,hw⟩;rw [hw,HV.out])
 go_ret
 exact ⟨rfl,Below.refl _ _⟩
theorem zsx {P:Program} {f:FuncId} {args:Array Value} {w:World} {a n:Nat} {v:Value} (h:Calls P f args (w.drewN (a+n)) fun e w'=>e = .returned v∧w'=w.drewN (a+n)) :Calls P f args (w.drewN (a+n)) fun e w''=>e = .returned v∧∃m,w''=w.drewN (a+m) :=
 h.mono fun _ _ ⟨he,hm⟩=>⟨he,n,hm⟩
theorem zns (c:Int) (w:World):Calls Tryz.prog 286 #[.string (slz.extract 2 2),.int .u8 c] w fun e w'=>e = .returned (.int .i64 (-1))∧w'=w:=by
 refine (Tryz.strings_IndexByte (slz.extract 2 2) c w).mono ?_;rintro e w' ⟨rfl,hw⟩;exact ⟨rfl,hw⟩
theorem zpK (r:Int) (a b:UInt8) (hr:128≤r) (hne:(r==65533)=false) (hv:Lib.validRune r=true) (he:Utf8.encode r=⟨#[a,b]⟩) (hb:128≤b.toNat) (w:World):Calls Tryz.prog 263 #[.string slz,.int .i32 r] w (zdK w):=by
 have h0:0≤r:=by omega
 have hsl:slz.size=2:=rfl;have e1:slz[1].toNat=0:=rfl;have e2:((⟨#[a,b]⟩:ByteArray)[1]'(by show 1<2;decide)).toNat=b.toNat:=rfl;have e3:((0:Int) !=(b.toNat:Int))=true:=by rw [bne_iff_ne];omega
 have HV:=zz hv;clear hv;go_enter Tryz.func263,Tryz.ntmps263
 go_wp2_with (go_at_call 287;refine (Tryz.utf8_ValidRune _ _).mono ?_;rintro e w' ⟨rfl,hw⟩;rw [hw,HV.out])
 go_step3
 go_wp2_with fail
 refine wp_loop_rounds 1 ?_;rw [rounds_succ]
 go_wp2_with fail
 go_step3
 go_wp2_with fail
 go_quiet (fail)
 go_wp2_with fail
 go_quiet ((go_at_call 286;exact zsx (zns _ _)))
 go_wp2_with fail
 rw [Exit.noGoto_ret]
 go_ret
 exact ⟨rfl,(Keep.refl zj w).drewN _ |>.all⟩
theorem zpw (r:Int) (hr:128≤r) (hne:(r==65533)=false) (hv:Lib.validRune r=true) (he:3≤(Utf8.encode r).size) (he2:(Utf8.encode r).size≤4) (w:World):Calls Tryz.prog 263 #[.string slz,.int .i32 r] w (zdK w):=by
 have h0:0≤r:=by omega
 have hsl:slz.size=2:=rfl;have HV:=zz hv;clear hv;go_enter Tryz.func263,Tryz.ntmps263
 go_wp2_with (go_at_call 287;refine (Tryz.utf8_ValidRune _ _).mono ?_;rintro e w' ⟨rfl,hw⟩;rw [hw,HV.out])
 go_step3
 go_wp2_with fail
 refine wp_loop_rounds 1 ?_;rw [rounds_succ]
 go_wp2_with fail
 rw [Exit.noGoto_ret]
 go_ret
 exact ⟨rfl,Below.refl _ _⟩
theorem zpo (r:Nat) (hr:128≤r) (w:World):Calls Tryz.prog 263 #[.string slz,.int .i32 r] w (zdK w):=by
 by_cases h1:r=65533
 · subst h1;exact zqX w
 · have hne:((r:Int)==65533)=false:=beq_eq_false_iff_ne.2 (by omega)
   cases hv:Lib.validRune (r:Int) with
   | false=>exact zm5 r (by omega) hne hv w
   | true =>
    by_cases h2:r<2048
    · obtain ⟨a,b,he,hb⟩:=zl6 r hr h2;exact zpK r a b (by omega) hne hv he hb w
    · exact zpw r (by omega) hne hv (zqL r (by omega)) (encode_size_le _) w
def zbO (l:List UInt8):Bool:=l.any fun x=>x==47||x==0
def zdo (s:ByteArray) (i:Nat):Prop:=∀j (hj:j<s.size),j<i→s[j].toNat≠47∧s[j].toNat≠0
theorem zi4 (s:ByteArray) (x:UInt8):x∈s.data.toList↔∃j,∃hj:j<s.size,s[j]=x:=by
 rw [List.mem_iff_getElem];constructor
 · rintro ⟨j,hj,h⟩;exact ⟨j,by simpa using hj,h⟩
 · rintro ⟨j,hj,h⟩;exact ⟨j,by simpa using hj,h⟩
theorem zg8 {s:ByteArray} {i:Nat} (hi:i<s.size) (h:s[i].toNat=47∨s[i].toNat=0):zbO s.data.toList=true:=by
 unfold zbO;rw [List.any_eq_true];refine ⟨s[i],(zi4 s _).2 ⟨i,hi,rfl⟩,?_⟩
 rcases h with h|h
 · have:s[i]=47:=UInt8.toNat_inj.1 h;simp [this]
 · have:s[i]=0:=UInt8.toNat_inj.1 h;simp [this]
theorem zkr {s:ByteArray} (h:zdo s s.size):zbO s.data.toList=false:=by
 unfold zbO;rw [List.any_eq_false];intro x hx;obtain ⟨j,hj,rfl⟩:=(zi4 s x).1 hx;obtain ⟨h1,h2⟩:=h j hj hj;simp only [Bool.or_eq_true,beq_iff_eq,not_or]
 exact ⟨fun q=>h1 (by rw [q];rfl),fun q=>h2 (by rw [q];rfl)⟩
def zke (s:ByteArray) (w:World) (e:Ending) (w':World):Prop:=∃n:Int,e = .returned (.int .i64 n)∧decide (0≤n)=zbO s.data.toList∧Below w.heap.size w w'
theorem zh6 (x:Nat) (n:Int) (hx:x<128) (hn:n=if x=47 then 0 else if x=0 then 1 else -1) (w:World):Calls Tryz.prog 263 #[.string slz,.int .i32 x] w fun e w'=>e = .returned (.int .i64 n)∧w'=w:=by
 refine (Tryz.strings_IndexRune_ascii slz x w (by omega) (by omega)).mono ?_;rintro e w' ⟨rfl,hw⟩;refine ⟨?_,hw⟩;have h:∀x:Fin 128,Lib.indexByte [47,0] (UInt8.ofNat x.1)=if x.1=47 then 0 else if x.1=0 then 1 else -1:=by decide
 rw [hn,zgw]
 congr 2
 exact h ⟨x,hx⟩
theorem zdo.more {s:ByteArray} {i k:Nat} (h:zdo s i) (hk:∀j (hj:j<s.size),i≤j→j<i+k→s[j].toNat≠47∧s[j].toNat≠0):zdo s (i+k):=by
 intro j hj hlt
 rcases Nat.lt_or_ge j i with q|q
 · exact h j hj q
 · exact hk j hj q hlt
theorem zmV (s:ByteArray) (h8:s.size≤8) (w:World):Calls Tryz.prog 221 #[.string s,.string slz] w (zke s w):=by
 have hemp:slz.toList.isEmpty=false:=by rw [Lib.toList_data];rfl
 have hsl:slz.size=2:=rfl;have h8z:decide ((8:Int)<(s.size:Int))=false:=decide_eq_false (by omega);go_enter Tryz.func221,Tryz.ntmps221
 go_wp2_with (go_at_call 264;refine (Tryz.strings_shouldUseASCIISet _ _).mono ?_;rintro e w' ⟨rfl,hw⟩;rw [hw,h8z])
 go_loopg [9,10] s.size (fun g _ _ wx=>∃i:Nat,i+g=s.size∧Below w.heap.size w wx∧wx.heap[w.heap.size]? = some (.stringIter s i)∧zdo s i)
 case atStart=>exact ⟨0,by omega,(Below.refl _ _).alloc (Nat.le_refl _) _,World.iter_heap w s 0,fun _ _ h=>absurd h (Nat.not_lt_zero _)⟩
 case round =>
  obtain ⟨i,hig,hbe,hit,hno⟩:=hrel;have hsz:w.heap.size<wr.heap.size:=(Array.getElem?_eq_some_iff.1 hit).1;have HI:=zz hit;have HN:=zz hno;clear hit hno
  cases gk with
  | zero =>
   obtain rfl:i=s.size:=by omega
   have hnx:=fun ty=>Lib.run_next_end_at (P:=Tryz.prog) wr w.heap.size s s.size ty HI.out (by omega)
   go_wp2
   go_ret
   exact ⟨-1,rfl,by rw [zkr HN.out];rfl,hbe⟩
  | succ g =>
   have hi:i<s.size:=by omega
   have hnx:=fun ty=>Lib.run_next_any_at (P:=Tryz.prog) wr w.heap.size s i ty HI.out hi;have hb2:Below w.heap.size w (wr.iterAt w.heap.size s (i+(Utf8.decode s i).2)):=Lib.below_iterAt hbe (Nat.le_refl _) _ _;have hh2:=Lib.iterAt_heap wr w.heap.size s i (i+(Utf8.decode s i).2) HI.out;have hz2:=Lib.iterAt_size wr w.heap.size s (i+(Utf8.decode s i).2);generalize wr.iterAt w.heap.size s (i+(Utf8.decode s i).2)=w2 at *;by_cases hx:s[i].toNat<128
   · have hd:=decode_ascii s i hi hx;rw [hd] at hnx;rw [hd] at hh2;obtain ⟨x,hxx⟩:∃x:Nat,s[i].toNat=x:=⟨_,rfl⟩;rw [hxx] at hnx hx;have HX:=zz hxx;have H2:=zz hh2;clear hd hxx hh2 hz2;by_cases hq:x=47∨x=0
     · obtain ⟨n,hn,hn0⟩:∃n:Int,n=(if x=47 then 0 else if x=0 then 1 else -1)∧0≤n:=by
        refine ⟨_,rfl,?_⟩;rcases hq with rfl|rfl <;> decide
       have HQ:=zz hq;have HNN:=zz hn;clear hq hn
       go_wp2_with (go_at_call 263;refine (zh6 x n hx HNN.out _).mono ?_;rintro e w' ⟨rfl,hw⟩;rw [hw])
       go_ret
       refine ⟨i,rfl,?_,hb2⟩;rw [zg8 hi (by rw [HX.out];exact HQ.out)];simp
     · obtain ⟨n,hn,hn0⟩:∃n:Int,n=(if x=47 then 0 else if x=0 then 1 else -1)∧n<0:=by
        refine ⟨_,rfl,?_⟩;rw [if_neg (by omega),if_neg (by omega)];decide
       have HQ:=zz hq;have HNN:=zz hn;clear hq hn
       go_wp2_with (go_at_call 263;refine (zh6 x n hx HNN.out _).mono ?_;rintro e w' ⟨rfl,hw⟩;rw [hw])
       go_roundg g
       case measure=>omega
       case rel =>
        refine ⟨i+1,by omega,hb2,H2.out,HN.out.more fun j hj h1 h2=>?_⟩;obtain rfl:j=i:=by omega
        have:=HQ.out;rw [HX.out];omega
   · have hs:=zpt s i hi (by omega);have hd:=decode_high s i hi (by omega);generalize (Utf8.decode s i).1=r at *;generalize (Utf8.decode s i).2=k at *;obtain ⟨hs1,hs2⟩:=hs;obtain ⟨hd1,hd2⟩:=hd;have H2:=zz hh2;have HS:=zz hs2;clear hh2 hz2 hs2
     go_wp2_with (go_at_call 263;refine (zpo r hd1 _).mono ?_;rintro e w3 ⟨rfl,hb3⟩)
     go_roundg (s.size-(i+k))
     case measure=>omega
     case rel =>
      refine ⟨i+k,by omega,hb2.trans (hb3.mono hb2.size),?_,HN.out.more fun j hj h1 h2=>?_⟩
      · rw [hb3.block _ (Array.getElem?_eq_some_iff.1 H2.out).1];exact H2.out
      · have:=HS.out j hj h1 h2;omega
theorem zlo:∀l:List UInt8,decide (0≤Lib.indexAny l [47,0])=zbO l
 | []=>rfl
 | b::l=>by
  have ih:=zlo l;have hge:=Lib.indexAny_ge [47,0] l;unfold Lib.indexAny zbO;unfold zbO at ih;rw [List.any_cons,←ih];by_cases hb:(List.contains [47,0] b)=true
  · rw [if_pos hb];have:(b==47||b==0)=true:=by simpa using hb
    rw [this];simp
  · rw [if_neg hb];have:(b==47||b==0)=false:=by simpa using hb
    rw [this,Bool.false_or]
    split
    · rename_i h
      have:Lib.indexAny l [47,0]=-1:=by simpa using h
      rw [this]
    · rename_i h
      have:Lib.indexAny l [47,0]≠-1:=by simpa using h
      simp only [decide_eq_decide]
      omega
theorem zn4 (s:ByteArray) (h:s.size<4294967281) (w:World):Calls Tryz.prog 186 #[.string s,.string slz] w fun e w'=>e = .returned (.bool (zbO s.data.toList))∧Below w.heap.size w w':=by
 have hall:Calls Tryz.prog 221 #[.string s,.string slz] w (zke s w):=by
  by_cases h8:s.size≤8
  · exact zmV s h8 w
  · refine (Tryz.strings_IndexAny_long (fun w=>by kernel_rfl) s slz w (by decide) (by omega) h (by decide) (by rw [zgw];intro j b;match j with|0=>simp;rintro rfl;decide|1=>simp;rintro rfl;decide|j+2=>simp)).mono ?_;rintro e w' ⟨rfl,hw⟩;exact ⟨_,rfl,by rw [zgw];exact zlo _,by rw [hw];exact ((Below.refl _ _).alloc (Nat.le_refl _) _).alloc (by simp) _⟩
 have H:=zz hall;clear hall;go_enter Tryz.func186,Tryz.ntmps186
 go_wp2_with fail
 refine H.out.mono ?_;rintro e w' ⟨n,rfl,hn,hb⟩;have HN:=zz hn;clear hn
 go_wp2
 go_ret
 exact ⟨by rw [←HN.out];rfl,hb⟩
def zF (l:List UInt8):Bool:=!l.isEmpty&&(decide (l.length≤40)&&(l !=[46]&&(l !=[46,46]&&!zbO l)))
def za3 (s:ByteArray) (w:World) (e:Ending) (w':World):Prop:=e = .returned (.bool (zF s.data.toList))∧Below w.heap.size w w'
theorem za3.of {s:ByteArray} {w w':World} {b:Bool} {e:Ending} (he:e = .returned (.bool b)) (h:zF s.data.toList=b) (hb:Below w.heap.size w w'):za3 s w e w':=⟨by rw [h];exact he,hb⟩
theorem zhO {s:ByteArray} (h1:1≤s.size) (h2:s.size≤40) (h3:(s.toList==[46])=false) (h4:(s.toList==[46,46])=false):zF s.data.toList=!zbO s.data.toList:=by
 rw [Lib.toList_data] at h3 h4;have hl:s.data.toList.length=s.size:=(Lib.size_eq s).symm;have he:s.data.toList.isEmpty=false:=by
  cases h:s.data.toList with
  | nil=>rw [h,List.length_nil] at hl;omega
  | cons _ _=>rfl
 unfold zF;rw [he,hl,bne,bne,h3,h4];simp [h2]
theorem zcn {s:ByteArray} (h:s.size<1∨40<s.size∨(s.toList==[46])=true∨(s.toList==[46,46])=true):zF s.data.toList=false:=by
 rw [Lib.toList_data] at h;have hl:s.data.toList.length=s.size:=(Lib.size_eq s).symm;unfold zF;rw [hl,bne,bne]
 rcases h with h|h|h|h
 · have:s.data.toList=[]:=List.eq_nil_of_length_eq_zero (by omega);simp [this]
 · simp [Nat.not_le.2 h]
 · rw [h];simp
 · rw [h];simp
theorem zmY (s:ByteArray) (w:World):Calls Tryz.prog 139 #[.string s] w (za3 s w):=by
 by_cases h1:s.size<1
 · have e0:s.toList=[]:=by rw [Lib.toList_data];exact List.eq_nil_of_length_eq_zero (by rw [←Lib.size_eq];omega)
   have hr:=zcn (s:=s) (.inl h1);have HR:=zz hr;clear hr;go_enter Tryz.func139,Tryz.ntmps139
   go_wp2_with fail
   go_ret
   exact za3.of rfl HR.out (Below.refl _ _)
 · have e0:s.toList.isEmpty=false:=by
    rw [Lib.toList_data]
    cases h:s.data.toList with
    | nil=>have:=Lib.size_eq s;rw [h,List.length_nil] at this;omega
    | cons _ _=>rfl
   by_cases h2:40<s.size
   · have e2:decide ((s.size:Int)≤40)=false:=decide_eq_false (by omega);have hr:=zcn (s:=s) (.inr (.inl h2));have HR:=zz hr;clear hr;go_enter Tryz.func139,Tryz.ntmps139
     go_wp2_with fail
     go_ret
     exact za3.of rfl HR.out (Below.refl _ _)
   · have e2:decide ((s.size:Int)≤40)=true:=decide_eq_true (by omega)
     cases h3:s.toList==[46] with
     | true =>
      have hr:=zcn (s:=s) (.inr (.inr (.inl h3)));have HR:=zz hr;clear hr;go_enter Tryz.func139,Tryz.ntmps139
      go_wp2_with fail
      go_ret
      exact za3.of rfl HR.out (Below.refl _ _)
     | false =>
      cases h4:s.toList==[46,46] with
      | true =>
       have hr:=zcn (s:=s) (.inr (.inr (.inr h4)));have HR:=zz hr;clear hr;go_enter Tryz.func139,Tryz.ntmps139
       go_wp2_with fail
       go_ret
       exact za3.of rfl HR.out (Below.refl _ _)
      | false =>
       have hr:=zhO (s:=s) (by omega) (by omega) h3 h4;have HR:=zz hr;clear hr;go_enter Tryz.func139,Tryz.ntmps139
       go_wp2_with (go_at_call 186;refine (zn4 s (by omega) _).mono ?_;rintro e w' ⟨rfl,hb⟩)
       go_ret
       exact za3.of rfl HR.out hb
theorem zqo (s:ByteArray) (w:World):Calls Tryz.prog 127 #[.string s] w (za3 s w):=by
 by_cases h1:s.size<1
 · have e1:decide ((s.size:Int)<1)=true:=decide_eq_true (by omega);have hr:=zcn (s:=s) (.inl h1);have HR:=zz hr;clear hr;go_enter Tryz.func127,Tryz.ntmps127
   go_wp2_with fail
   go_ret
   exact za3.of rfl HR.out (Below.refl _ _)
 · have e1:decide ((s.size:Int)<1)=false:=decide_eq_false (by omega);by_cases h2:40<s.size
   · have e2:decide ((40:Int)<(s.size:Int))=true:=decide_eq_true (by omega);have hr:=zcn (s:=s) (.inr (.inl h2));have HR:=zz hr;clear hr;go_enter Tryz.func127,Tryz.ntmps127
     go_wp2_with fail
     go_ret
     exact za3.of rfl HR.out (Below.refl _ _)
   · have e2:decide ((40:Int)<(s.size:Int))=false:=decide_eq_false (by omega)
     cases h3:s.toList==[46] with
     | true =>
      have hr:=zcn (s:=s) (.inr (.inr (.inl h3)));have HR:=zz hr;clear hr;go_enter Tryz.func127,Tryz.ntmps127
      go_wp2_with fail
      go_ret
      exact za3.of rfl HR.out (Below.refl _ _)
     | false =>
      cases h4:s.toList==[46,46] with
      | true =>
       have hr:=zcn (s:=s) (.inr (.inr (.inr h4)));have HR:=zz hr;clear hr;go_enter Tryz.func127,Tryz.ntmps127
       go_wp2_with fail
       go_ret
       exact za3.of rfl HR.out (Below.refl _ _)
      | false =>
       have hr:=zhO (s:=s) (by omega) (by omega) h3 h4;have HR:=zz hr;clear hr;go_enter Tryz.func127,Tryz.ntmps127
       go_wp2_with fail
       go_loop [3] (fun i=>∃k:Nat,k≤s.size∧i = .int .i64 k∧zdo s k) (fun i=>s.size-(intOf i).toNat)
       case atStart=>exact ⟨0,Nat.zero_le _,rfl,fun _ _ h=>absurd h (Nat.not_lt_zero _)⟩
       case round =>
        obtain ⟨k,hk,rfl,hno⟩:=hrel;have HN:=zz hno;clear hno;by_cases hlt:k<s.size
        · by_cases q1:s[k].toNat=47
          · have f1:((s[k].toNat:Int)==47)=true:=by rw [q1];rfl
            have ha:=zg8 hlt (.inl q1);have HA:=zz ha;clear ha q1
            go_wp2
            go_ret
            exact za3.of rfl (by rw [HR.out,HA.out];rfl) (Below.refl _ _)
          · have f1:((s[k].toNat:Int)==47)=false:=beq_eq_false_iff_ne.2 (by omega);by_cases q2:s[k].toNat=0
            · have f2:((s[k].toNat:Int)==0)=true:=by rw [q2];rfl
              have ha:=zg8 hlt (.inr q2);have HA:=zz ha;clear ha q2
              go_wp2
              go_ret
              exact za3.of rfl (by rw [HR.out,HA.out];rfl) (Below.refl _ _)
            · have f2:((s[k].toNat:Int)==0)=false:=beq_eq_false_iff_ne.2 (by omega)
              go_wp2
              go_round
              case rel =>
               refine ⟨k+1,by omega,by go_num,HN.out.more fun j hj h1 h2=>?_⟩;obtain rfl:j=k:=by omega
               exact ⟨q1,q2⟩
              case measure=>simp [intOf];omega
        · obtain rfl:k=s.size:=by omega
          go_wp2
          go_ret
          exact za3.of rfl (by rw [HR.out,zkr HN.out];rfl) (Below.refl _ _)
end
section
abbrev Pth:Type:=List UInt8
def zT:Pth→Pth→List Pth
 | cur,[]=>[cur]
 | cur,x::b=>if x=47 then cur::zT [] b else zT (cur++[x]) b
def nmP (p:Pth):List Pth:=zT [] p
def zaN:Pth→Pth→List Pth
 | _,[]=>[]
 | cur,x::b=>if x=47 then cur::zaN (cur++[x]) b else zaN (cur++[x]) b
def zl (p:Pth):List Pth:=zaN [] p
def zah (p:Pth):Pth:=(p.reverse.takeWhile (fun x=>x !=47)).reverse
def parN (p:Pth):Pth:=((p.reverse.dropWhile (fun x=>x !=47)).drop 1).reverse
def zcJ {α:Type} (lt:α→α→Bool) (x:α):List α→List α
 | []=>[x]
 | y::l=>if lt y x=true then y::zcJ lt x l else x::y::l
def zaB {α:Type} (lt:α→α→Bool) (l:List α):List α:=l.foldr (zcJ lt) []
def insK (p:Pth):List Pth→List Pth
 | []=>[p]
 | q::l=>if p=q then q::l else if p<q then p::q::l else q::insK p l
def zaA (l:List Pth):List Pth:=l.foldr insK []
def zL (f:FileD):Nat:=if f.k≠1∧f.k≠2∧f.k≠3 then 3 else if 8<(nmP f.p).length∨(nmP f.p).any (fun s=>!zF s)=true then 7 else if 65536<f.d.length then 5 else 0
def zbk (done:List FileD) (p:Pth):Bool:=match done.getLast? with
 | some g=>decide (p≤g.p)
 | none=>false
def zaH:List FileD→List FileD→Nat
 | _,[]=>0
 | done,f::l=>if zL f≠0 then zL f else if zbk done f.p=true then 18 else if (zl f.p).any (fun d=>done.any (fun g=>g.p==d))=true then 13 else zaH (done++[f]) l
def zY (l:List FileD):List (Pth×Pth):=l.flatMap fun f=>(zl f.p++[f.p]).map fun d=>(parN d,zah d)
def zU (l:List (Pth×Pth)) (d:Pth):List Pth:=zaA ((l.filter (fun e=>e.1==d)).map (·.2))
def zbr (l:List FileD):Bool:=(zY l).any fun e=>decide (512<(zU (zY l) e.1).length)
def zf (l:List FileD):Nat:=if 1000<l.length then 4 else if zaH [] l≠0 then zaH [] l else if zbr l=true then 4 else 0
structure ChangeD where
 old:FileD
 new:FileD
deriving DecidableEq
def zbE:FileD:=⟨[],0,[]⟩
def getF (l:List FileD) (p:Pth):FileD:=(l.find? (fun f=>f.p==p)).getD zbE
def hasF (l:List FileD) (p:Pth):Bool:=l.any (fun f=>f.p==p)
def zaz (o n:FileD):Option ChangeD:=if o.k≠n.k∨o.d≠n.d then some ⟨o,n⟩ else none
def zJ (a b:List FileD):List ChangeD:=(zaA (a.map (·.p)++b.map (·.p))).filterMap fun p=>zaz (getF a p) (getF b p)
structure PairD where
 old:Pth
 new:Pth
 sc:Nat
deriving DecidableEq
def zbt:List (List UInt8)→List (List UInt8)→Nat
 | _,[]=>0
 | x,s::y=>if s∈x then zbt (x.erase s) y+1 else zbt x y
def zbn (a b:List UInt8):Nat:=if a=b then 100 else 200*zbt (zi a) (zi b) / ((zi a).length+(zi b).length)
def zaG (a b:Pth):Nat:=if zah a=zah b then 0 else 1
def zaJ (f:FileD):Bool:=(f.k==1||f.k==2)&&decide (0<f.d.length)
def zO (l:List ChangeD):List FileD:=l.filterMap fun c=>if c.new.k=0∧zaJ c.old=true then some c.old else none
def zP (l:List ChangeD):List FileD:=l.filterMap fun c=>if c.new.k=0∧zaJ c.old=true then none else if c.old.k=0∧zaJ c.new=true then some c.new else none
def zcu (f g:FileD):Option (Nat×FileD)→Bool
 | none=>true
 | some x=>decide (zaG f.p g.p<zaG f.p x.2.p)
def zaC (f:FileD):List FileD→Nat→Option (Nat×FileD)→Option (Nat×FileD)
 | [],_,b=>b
 | g::l,k,b=>zaC f l (k+1) (if f.d=g.d∧zcu f g b=true then some (k,g) else b)
def zr:List FileD→List FileD→List PairD×List FileD×List FileD
 | [],rest=>([],[],rest)
 | f::gone,rest=>match zaC f rest 0 none with
  | none=>((zr gone rest).1,f::(zr gone rest).2.1,(zr gone rest).2.2)
  | some x=>(⟨f.p,x.2.p,100⟩::(zr gone (rest.eraseIdx x.1)).1,(zr gone (rest.eraseIdx x.1)).2.1,(zr gone (rest.eraseIdx x.1)).2.2)
structure LikD where
 old:Pth
 new:Pth
 sc:Nat
 near:Nat
deriving DecidableEq
def zaK (a b:LikD):Bool:=decide (b.sc<a.sc)||(a.sc==b.sc&&(decide (a.near<b.near)||(a.near==b.near&&(decide (a.old<b.old)||(a.old==b.old&&decide (a.new<b.new))))))
def zbl (gone come:List FileD):List LikD :=
 if gone.length≤100∧come.length≤100 then gone.flatMap fun f=>come.filterMap fun g=>if 50≤zbn f.d g.d then some ⟨f.p,g.p,zbn f.d g.d,zaG f.p g.p⟩ else none else []
def zac:List LikD→List Pth→List Pth→List PairD
 | [],_,_=>[]
 | x::l,a,b=>if x.old∈a∨x.new∈b then zac l a b else ⟨x.old,x.new,x.sc⟩::zac l (x.old::a) (x.new::b)
def zad (l:List ChangeD):List PairD :=
 let x:=zr (zO l) (zP l)
 zaB (fun a b=>decide (a.old<b.old)) (x.1++zac (zaB zaK (zbl x.2.1 x.2.2)) [] [])
structure ClashD where
 p:Pth
 why:Nat
deriving DecidableEq
structure MSt where
 t:List FileD
 c:List ClashD
 e:Nat
def MSt.stay (s:MSt) (p:Pth) (f:FileD):MSt:={ s with t:=s.t++[{ f with p:=p }] }
def MSt.clash (s:MSt) (p:Pth) (why:Nat):MSt:={ s with c:=s.c++[⟨p,why⟩] }
structure SideD where
 f:List FileD
 l:List PairD
def zX (base l:List FileD):SideD:=⟨l,zad (zJ base l)⟩
def SideD.goes (s:SideD) (p:Pth):Pth×Bool:=match s.l.find? (fun x=>x.old==p) with
 | some x=>(x.new,true)
 | none=>(p,hasF s.f p)
def zao (k:Int):Bool:=k==1||k==2
def zbi (b x y:Int):Int×Bool:=if b=y∨b=x then (if x=b then y else x,true) else (x,decide (x=y))
def zaI (base:FileD) (lines:Int) (x y:FileD):List UInt8×Bool×Nat :=
 if x.d=y.d∨y.d=base.d then (x.d,true,0) else if x.d=base.d then (y.d,true,0) else
 if (zao lines&&zao x.k&&zao y.k)=true then
  match zcE base.d x.d y.d with
  | some r=>(r.1,r.2,0)
  | none=>([],false,4)
 else (x.d,false,0)
def MSt.both (s:MSt) (p:Pth) (base:FileD) (lines:Int) (x y:FileD):MSt :=
 let k:=zbi base.k x.k y.k
 let d:=zaI base lines x y
 let s1:=if k.2=true then s else s.clash p 3
 let s2:MSt:={ s1 with e:=if s1.e=0 then d.2.2 else s1.e }
 let s3:=if d.2.1=true then s2 else s2.clash p 1
 s3.stay p ⟨p,k.1,d.1⟩
def MSt.alone (s:MSt) (f:FileD) (q:Pth) (x:FileD):MSt :=
 if q=f.p∧x.k=f.k∧x.d=f.d then s else (s.stay q x).clash q 2
def MSt.file (o t:SideD) (s:MSt) (f:FileD):MSt :=
 let po:=o.goes f.p
 let pt:=t.goes f.p
 let x:=getF o.f po.1
 let y:=getF t.f pt.1
 if po.2=true∧pt.2=false then s.alone f po.1 x else
 if pt.2=true∧po.2=false then s.alone f pt.1 y else
 if po.2=false then s else
 if po.1≠pt.1∧po.1≠f.p∧pt.1≠f.p then ((s.stay po.1 x).stay pt.1 y).clash f.p 4 else
 if pt.1=f.p then s.both po.1 f f.k x y else s.both pt.1 f f.k x y
def SideD.isNew (s:SideD) (base:List FileD) (p:Pth):Bool:=hasF s.f p&&!hasF base p&&!s.l.any (fun x=>x.new==p)
def MSt.fresh1 (base:List FileD) (o t:SideD) (s:MSt) (p:Pth):MSt :=
 match o.isNew base p,t.isNew base p with
 | true,true=>s.both p zbE 1 (getF o.f p) (getF t.f p)
 | true,false=>s.stay p (getF o.f p)
 | false,true=>s.stay p (getF t.f p)
 | false,false=>s
def zS (base ours theirs:List FileD):MSt :=
 let o:=zX base ours
 let t:=zX base theirs
 let s:=base.foldl (MSt.file o t) ⟨[],[],0⟩
 (zaA (ours.map (·.p)++theirs.map (·.p))).foldl (MSt.fresh1 base o t) s
def atN (l:List FileD) (p:Pth):Nat:=l.countP (fun f=>f.p==p)
def zba (l:List FileD) (p:Pth):Nat:=l.countP (fun f=>(zl f.p).contains p)
def zbp (l:List FileD) (bel:Bool) (p:Pth):Bool:=atN l p==0&&(!bel||zba l p==0)
def zaU (l:List FileD) (bel:Bool):Nat→Pth→Pth
 | 0,p=>p++[126]
 | n+1,p=>if zbp l bel (p++[126])=true then p++[126] else zaU l bel n (p++[126])
def za1 (l:List FileD) (bel:Bool) (p:Pth):Pth:=zaU l bel (l.map (fun f=>f.p.length)).sum p
def zK (l:List FileD) (i:Nat) (p:Pth):List FileD:=l.modify i fun f=>{ f with p:=p }
def zan (s:List FileD×List ClashD) (i:Nat):List FileD×List ClashD:=match s.1[i]? with
 | none=>s
 | some f=>if (s.1.take i).any (fun g=>g.p==f.p)=true then (zK s.1 i (za1 s.1 false f.p),s.2++[⟨f.p,5⟩]) else s
def zaM (s:List FileD×List ClashD) (i:Nat):List FileD×List ClashD:=match s.1[i]? with
 | none=>s
 | some f=>if 0<zba s.1 f.p then (zK s.1 i (za1 s.1 true f.p),s.2++[⟨f.p,6⟩]) else s
def zW (l:List FileD):List FileD:=zaB (fun a b=>decide (a.p<b.p)) l
def zak (l:List FileD) (c:List ClashD):List FileD×List ClashD :=
 let s:=(List.range l.length).foldl zan (l,c)
 (List.range l.length).foldl zaM (zW s.1,s.2)
def ltC (a b:ClashD):Bool:=decide (a.p<b.p)||(a.p==b.p&&decide (a.why<b.why))
def insC (x:ClashD):List ClashD→List ClashD
 | []=>[x]
 | y::l=>if x=y then y::l else if ltC x y=true then x::y::l else y::insC x l
def za8 (l:List ClashD):List ClashD:=l.foldr insC []
def zN (base ours theirs:List FileD):Except Nat (List FileD×List ClashD) :=
 if zf base≠0 then .error (zf base) else if zf ours≠0 then .error (zf ours) else if zf theirs≠0 then .error (zf theirs) else
 let s:=zS base ours theirs
 if s.e≠0 then .error s.e else
 let r:=zak s.t s.c
 let out:=zW r.1
 if zf out≠0 then .error (zf out) else .ok (out,za8 r.2)
end
section
open Go.RowKit Go.WideMaps Go.Maps
abbrev CK:Type:={ c:Pth×Int // c.1.length≤maxLen∧(Lit.int .i64 c.2).wf=true }
def clV (s:CK):Value := .agg #[strC s.1.1,.int .i64 s.1.2]
def keyC (s:CK):Lit := .string (keyBytes [.string s.1.1,.int .i64 s.1.2])
theorem zgN (s:CK):WideAt.IsKeyLit (keyC s):=trivial
theorem zck:Keyed Tryz.prog 86:=Keyed.of_law (deep_law_laid (by kernel_rfl) (m:=3) (by omega) (of_decide_eq_true (by kernel_rfl)) (by kernel_rfl) (by kernel_rfl))
theorem zgH:Tryz.prog.cellsOf 86=2:=by kernel_rfl
theorem zqJ:Tryz.prog.cellsOf 9=1:=by kernel_rfl
theorem zoS:Tryz.prog.cellsOf 3=1:=by kernel_rfl
theorem zsR:Tryz.prog.keyType 86=true:=by kernel_rfl
theorem zjw:∃m,Tryz.prog.types.size=m+1+1:=by
 have h:(1:Nat)<Tryz.prog.types.size:=of_decide_eq_true (by kernel_rfl);exact ⟨Tryz.prog.types.size-2,by omega⟩
theorem zi6 (d:Nat) (v:Value):Tryz.prog.keyLits (d+1) 9 [v]=match v with
    | .string s=>if s.size≤maxLen then some [.string s.data.toList] else none
    | _=>none:=by
 unfold Program.keyLits;simp only [Tryz.underlying9]
 cases v <;> rfl
theorem zjx (d:Nat) (v:Value):Tryz.prog.keyLits (d+1) 3 [v]=match v with
    | .int q n=>if q = .i64∧(Lit.int .i64 n).wf=true then some [.int .i64 n] else none
    | _=>none:=by
 unfold Program.keyLits;simp only [Tryz.underlying3]
 cases v <;> rfl
theorem zj1 (d:Nat) (c0 c1:Value):Tryz.prog.keyLits (d+1+1) 86 [c0,c1]=(Tryz.prog.keyLits (d+1) 9 [c0]).bind fun x=>(Tryz.prog.keyLits (d+1) 3 [c1]).map fun y=>x++y:=by
 conv=>lhs;unfold Program.keyLits
 simp only [Tryz.underlying86]
 rw [if_pos ⟨by rw [zgH];rfl,by first|rfl|simp⟩];simp only [List.mapM_cons,List.mapM_nil,zqJ,zoS]
 show Option.map List.flatten ((Tryz.prog.keyLits (d+1) 9 [c0]).bind fun x=>((Tryz.prog.keyLits (d+1) 3 [c1]).bind fun y=>some [y]).bind fun z=>some (x::z))=_
 cases Tryz.prog.keyLits (d+1) 9 [c0] with
 | none=>rfl
 | some x =>
  cases Tryz.prog.keyLits (d+1) 3 [c1] with
  | none=>rfl
  | some y=>simp
theorem zda (s:CK):keyOf Tryz.prog 86 (clV s)=some (keyC s):=by
 obtain ⟨⟨p,n⟩,h1,h2⟩:=s;obtain ⟨m,hm⟩:=zjw;simp only at h1 h2;unfold keyOf clV keyC;simp only [Tryz.underlying86]
 rw [if_pos (by simp [zsR,Value.formed,Tryz.underlying86,zgH]),hm];show Option.map _ (Tryz.prog.keyLits (m+1+1+1) 86 [strC p,.int .i64 n])=_;rw [zj1,zi6,zjx];simp only [strC]
 rw [if_pos (by simpa [ByteArray.size] using h1),if_pos ⟨trivial,h2⟩];simp
theorem zgQ {s t:CK} (h:keyC s=keyC t):s=t:=by
 have:=zck.inj (zda s) (h▸zda t);unfold clV strC at this;injection this with this;injection this with this;injection this with e1 this;injection this with e2 _;injection e1 with e1;injection e2 with _ e2;injection e1 with e1;injection e1 with e1;exact Subtype.ext (Prod.ext e1 e2)
theorem zew {v:Value} {kl:Lit} (h:keyOf Tryz.prog 86 v=some kl):∃s,v=clV s∧kl=keyC s:=by
 obtain ⟨m,hm⟩:=zjw;unfold keyOf at h;simp only [Tryz.underlying86] at h
 split at h
 · rename_i hf
   rw [Bool.and_eq_true] at hf;have hf2:=hf.2;unfold Value.formed at hf2
   split at hf2
   · rename_i cs
     simp only [Tryz.underlying86,zgH,beq_iff_eq] at hf2;obtain ⟨l⟩:=cs
     match l,hf2 with
     | [c0,c1],_ =>
      rw [hm] at h;have h5:Option.map (fun ls=>Lit.string (keyBytes ls)) (Tryz.prog.keyLits (m+1+1+1) 86 [c0,c1])=some kl:=h;clear h;rw [zj1,zi6,zjx] at h5
      cases c0 with
      | string s =>
       simp only at h5;by_cases q1:s.size≤maxLen
       · rw [if_pos q1] at h5
         cases c1 with
         | int k n =>
          simp only at h5;by_cases q2:k = .i64∧(Lit.int .i64 n).wf=true
          · rw [if_pos q2] at h5;obtain ⟨rfl,q2⟩:=q2;simp at h5;exact ⟨⟨(s.data.toList,n),by have:=q1;unfold ByteArray.size at this;rw [Array.length_toList];exact this,q2⟩,rfl,h5.symm⟩
          · rw [if_neg q2] at h5;simp at h5
         | _=>simp at h5
       · rw [if_neg q1] at h5;simp at h5
      | _=>simp at h5
   · cases hf2
   · rw [Tryz.underlying86] at hf2;cases hf2
 · cases h
abbrev Mc:=CK→Option Value
def zhg:Mc:=fun _=>none
def cput (f:Mc) (s:CK) (v:Value):Mc:=fun t=>if t=s then some v else f t
def DatC (D:DataW Value) (f:Mc):Prop:=Tidy D∧∀s,(f s=none→has D (keyC s)=false)∧∀v,f s=some v→has D (keyC s)=true∧∀z,D.atKey (keyC s) z = .held v
def VC (w:World) (b n:Nat) (f:Mc):Prop:=∃D,w.ownsMap Tryz.prog 86 zab b n D∧Maps.size D=n∧DatC D f
def VK (w:World) (b r n:Nat) (f:Mc) (left:CK→Bool) (cnt:Nat):Prop:=∃D L,w.ranges Tryz.prog 86 zab b r n D L cnt∧Maps.size D=n∧DatC D f∧(∀s,L (keyC s)=left s)∧∀kl,L kl=true→∃s,kl=keyC s
section
variable {w w':World} {b n:Nat} {f:Mc}
theorem DatC.has {D:DataW Value} (h:DatC D f) (s:CK):has D (keyC s)=(f s).isSome:=by
 obtain ⟨h1,h2⟩:=h.2 s
 cases hf:f s with
 | none=>rw [h1 hf];rfl
 | some v=>rw [(h2 v hf).1];rfl
theorem DatC.at_ {D:DataW Value} (h:DatC D f) (s:CK) (z:Value):D.atKey (keyC s) (.held z) = .held ((f s).getD z):=by
 obtain ⟨h1,h2⟩:=h.2 s
 cases hf:f s with
 | none=>rw [atKey_of_not_has (h1 hf)];rfl
 | some v=>rw [(h2 v hf).2];rfl
theorem DatC.put {D:DataW Value} (h:DatC D f) (s:CK) (v:Value):DatC (D.put (keyC s) (.held v)) (cput f s v):=by
 refine ⟨h.1.put (zgN s) _,fun t=>?_⟩;unfold cput;by_cases e:t=s
 · subst e;rw [if_pos rfl];refine ⟨fun q=>by simp at q,fun u hu=>?_⟩;have hu:=Option.some.inj hu;subst hu;exact ⟨has_put_same h.1.isMap (zgN t) _,fun z=>atKey_put_same h.1.isMap (zgN t) _ z⟩
 · rw [if_neg e];have hne:keyC t≠keyC s:=fun q=>e (zgQ q);obtain ⟨h1,h2⟩:=h.2 t;exact ⟨fun q=>by rw [has_put_other hne];exact h1 q,fun u hu=>⟨by rw [has_put_other hne];exact (h2 u hu).1,fun z=>by rw [atKey_put_other hne];exact (h2 u hu).2 z⟩⟩
theorem VC.made (w:World):VC (w.alloc (.map #[] 0)) w.heap.size 0 zhg :=
 ⟨.map [],World.ownsMap_made _ _ _ _,rfl,tidy_empty,fun s=>⟨fun _=>by simp [has_eq],fun v h=>by cases h⟩⟩
theorem VC.lt (h:VC w b n f):b<w.heap.size:=by
 obtain ⟨D,h1,_⟩:=h;exact h1.lt
theorem VC.block (h:VC w b n f) (hb:w'.heap[b]? = w.heap[b]?):VC w' b n f:=by
 obtain ⟨D,⟨es,clock,q1,q2⟩,h2⟩:=h;exact ⟨D,⟨es,clock,hb.trans q1,q2⟩,h2⟩
theorem VC.keep {S:Nat→Prop} (h:VC w b n f) (hk:Keep S w w') (hb:¬S b):VC w' b n f:=h.block (hk.block b h.lt hb)
theorem VC.alloc (h:VC w b n f) (o:Obj):VC (w.alloc o) b n f:=h.block (Below.heap_alloc w o b h.lt)
theorem VC.setCell (h:VC w b n f) {p:Addr} (hp:b≠p.block) (u:Value):VC (w.setCell p u) b n f:=h.block (Below.heap_setCell w p u b hp)
theorem VC.drewN (h:VC w b n f) (k:Nat):VC (w.drewN k) b n f:=h
theorem VC.look {t e:TypeId} (h:VC w b n f) (ht:Tryz.prog.underlying t=some (.map 86 e)) {z:Value} (hz:(zeroValue e).run Tryz.prog w = .ok z w) {s:CK} :(Instr.lookup t (.map (some b)) (clV s) false).run Tryz.prog w = .ok ((f s).getD z) w:=by
 obtain ⟨D,h1,h2,h3⟩:=h;obtain ⟨v,ps,hrun,hv⟩:=h1.lookup zck ht hz (zd := .held z) (zp:=[]) rfl (zda s);rw [h3.at_] at hv;rw [hrun,(zdd hv).1]
theorem VC.look_ok {t e:TypeId} (h:VC w b n f) (ht:Tryz.prog.underlying t=some (.map 86 e)) {z:Value} (hz:(zeroValue e).run Tryz.prog w = .ok z w) {s:CK} :(Instr.lookup t (.map (some b)) (clV s) true).run Tryz.prog w = .ok (.tuple #[(f s).getD z,.bool (f s).isSome]) w:=by
 obtain ⟨D,h1,h2,h3⟩:=h;obtain ⟨v,ps,hrun,hv⟩:=h1.look_ok zck ht hz (zd := .held z) (zp:=[]) rfl (zda s);rw [h3.at_] at hv;rw [hrun,(zdd hv).1,h3.has]
theorem VC.len {t e:TypeId} (h:VC w b n f) (ht:Tryz.prog.underlying t=some (.map 86 e)) (ty:TypeId):(Builtin.len_ #[t] ty #[.map (some b)]).run Tryz.prog w = .ok (.int .i64 (n:Nat)) w:=by
 obtain ⟨D,h1,h2,h3⟩:=h;rw [h1.len ht,h2]
theorem znk {D:DataW Value} {m:Nat} (h:w.ownsMap Tryz.prog 86 zab b m D):w.ownsMap Tryz.prog 86 zab b (Maps.size D) D:=by
 obtain ⟨es,clock,h1,h2,h3,h4⟩:=h;refine ⟨es,clock,h1,h2,?_,h4⟩;subst h4;simp [Maps.size,length_sorted]
theorem VC.store {t e:TypeId} (h:VC w b n f) (ht:Tryz.prog.underlying t=some (.map 86 e)) (hn:n<maxLen) {s:CK} (v:Value) :∃w',(Instr.mapUpdate t (.map (some b)) (clV s) v).run Tryz.prog w = .ok () w'∧VC w' b (if (f s).isSome then n else n+1) (cput f s v)∧Keep (Only b) w w'∧w'.heap.size=w.heap.size:=by
 obtain ⟨D,h1,h2,h3⟩:=h;obtain ⟨w',hrun,q1,q2⟩:=h1.store zck ht hn (zda s) (d := .held v) (ps:=[]) rfl;refine ⟨w',hrun,⟨_,?_,?_,h3.put s v⟩,zb6 q2.grown,?_⟩
 · have hz:Maps.size (D.put (keyC s) (.held v))=if (f s).isSome then n else n+1:=by rw [size_put h3.1,h3.has,h2]
   rw [←hz];exact znk q1
 · rw [size_put h3.1,h3.has,h2]
 · obtain ⟨es,clock,es',clock',_,rfl⟩:=q2;simp [ChangeMaps.setBlock]
theorem VK.owns {r:Nat} {left:CK→Bool} {cnt:Nat} (h:VK w b r n f left cnt):VC w b n f:=by
 obtain ⟨D,L,h1,h2,h3,_⟩:=h;exact ⟨D,h1.owns,h2,h3⟩
theorem VK.lt {r:Nat} {left:CK→Bool} {cnt:Nat} (h:VK w b r n f left cnt):r<w.heap.size:=by
 obtain ⟨D,L,h1,_⟩:=h;exact h1.lt
theorem VK.ne {r:Nat} {left:CK→Bool} {cnt:Nat} (h:VK w b r n f left cnt):r≠b:=by
 obtain ⟨D,L,h1,_⟩:=h;exact h1.ne
theorem VK.left_eq {r:Nat} {left:CK→Bool} {cnt:Nat} (h:VK w b r n f left cnt):w.rangeLeft b r=cnt:=by
 obtain ⟨D,L,h1,_⟩:=h;exact h1.left_eq
theorem VK.keep {S:Nat→Prop} {r:Nat} {left:CK→Bool} {cnt:Nat} (h:VK w b r n f left cnt) (hk:Keep S w w') (hb:¬S b) (hr:¬S r):VK w' b r n f left cnt:=by
 have h4:=h.owns.lt;have h5:=h.lt;obtain ⟨D,L,⟨es,clock,since,seen,c0,q1,q2,q3,q4,q5,q6⟩,h2,h3⟩:=h;exact ⟨D,L,⟨es,clock,since,seen,c0,(hk.block b h4 hb).trans q1,q2,q3,q4,(hk.block r h5 hr).trans q5,q6⟩,h2,h3⟩
theorem VC.range {t e:TypeId} (h:VC w b n f) (ht:Tryz.prog.underlying t=some (.map 86 e)) :∃w',(Instr.range t (.map (some b))).run Tryz.prog w = .ok (.pointer (some ⟨w.heap.size,0,none⟩)) w'∧VK w' b w.heap.size n f (fun s=>(f s).isSome) n∧Keep zj w w'∧w'.heap.size=w.heap.size+1:=by
 obtain ⟨D,h1,h2,h3⟩:=h;obtain ⟨w',hrun,q1,q2,q3⟩:=h1.range zck ht;refine ⟨w',hrun,⟨D,_,by rw [←h2];rw [h2] at q1 ⊢;exact q1,h2,h3,fun s=>h3.has s,fun kl hk=>?_⟩,⟨q2.os,q2.tape,q2.output,q2.size,fun k hk _=>q2.block k hk (by simp)⟩,q3⟩;obtain ⟨es,clock,since,seen,c0,_,F,_,_,_,_,_,_,hx,_⟩:=q1;obtain ⟨x,hx1,rfl⟩:=hx kl hk;have hkk:=fit_keys F _ (List.mem_map.2 ⟨x,hx1,rfl⟩);obtain ⟨v,hv⟩:=hkk;obtain ⟨s,_,hs⟩:=zew hv;exact ⟨s,hs⟩
end
theorem zhj (s t:CK):(keyC s).sameKey (keyC t)=decide (s=t):=by
 by_cases h:s=t
 · subst h;simp [keyC,Lit.sameKey]
 · rw [sameKey_ne (fun q=>h (zgQ q)),decide_eq_false h]
theorem VK.next {w:World} {b r n:Nat} {f:Mc} {left:CK→Bool} {cnt:Nat} (h:VK w b r n f left cnt) (ty:TypeId) :(cnt=0∧(∀s,left s=false)∧(Instr.next (.pointer (some ⟨r,0,none⟩)) false ty).run Tryz.prog w = .ok (.tuple #[.bool false]) w) ∨∃s v w' cnt',left s=true∧f s=some v∧(Instr.next (.pointer (some ⟨r,0,none⟩)) false ty).run Tryz.prog w = .ok (.tuple #[.bool true,clV s,v]) w' ∧VK w' b r n f (fun x=>left x&&!decide (x=s)) cnt'∧cnt'<cnt∧Keep (Only r) w w'∧w'.heap.size=w.heap.size∧(Instr.entry (.pointer (some ⟨r,0,none⟩))).run Tryz.prog w' = .ok (.tuple #[clV s,v]) w':=by
 obtain ⟨D,L,h1,h2,h3,h4,h5⟩:=h
 rcases h1.next zck ty with ⟨q1,q2,q3⟩|⟨key,v,kl,y,w',cnt',q1,q2,q3,q4,q5,q6,q7,q8,q9,q10⟩
 · exact .inl ⟨q1,fun s=>by rw [←h4];exact q2 _,q3⟩
 · obtain ⟨s,rfl,rfl⟩:=zew q1;have hy:y=(.held v,[]):=(Option.some.inj q3).symm;subst hy;have hh:=has_true_of_atKey q4;rw [h3.has] at hh;obtain ⟨u,hu⟩:=Option.isSome_iff_exists.1 hh;have:=q4 (.held v);rw [((h3.2 s).2 u hu).2] at this;injection this with this;subst this;refine .inr ⟨s,u,w',cnt',by rw [←h4];exact q2,hu,q5,⟨D,_,q6,h2,h3,fun t=>by simp only [h4,zhj],fun kl hk=>h5 kl (by simp only [Bool.and_eq_true] at hk;exact hk.1)⟩,q7,zb6 q8,q9,q10⟩
end
end Go.Proofs.YtmkmbbjgepcioaaGreatDoor
