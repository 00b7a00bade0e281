/- Plain: three texts merged with sides changed about, and how long that is. No statement of the seat is proved here. -/
import Derived.Test.YtmkmbbjgepcioaaGreatDoorSAHq
import Derived.Test.YtmkmbbjgepcioaaGreatDoorSA04
import Derived.BigQuiet
import Derived.Deep.QuietTactic
import Derived.Test.YtmkmbbjgepcioaaGreatDoorCAShelf
import Derived.Lib.OthersKept
import Derived.Laws.RangeAny
import Derived.Deep.LoopGhost
import Derived.Test.YtmkmbbjgepcioaaGreatDoorSA01
import Derived.Test.YtmkmbbjgepcioaaGreatDoorSA03
import Derived.DeepKeys4
namespace Go.Proofs.YtmkmbbjgepcioaaGreatDoor
set_option maxHeartbeats 1000000
set_option maxRecDepth 100000
section
open Go.RowKit
def slz:ByteArray:=⟨#[47,0]⟩
theorem zfT:slz.data.toList=[47,0]:=rfl
theorem zr9 (s:ByteArray) (pos:Nat) (h:pos<s.size) (ha:128≤(s[pos]'h).toNat) :pos+(Utf8.decode s pos).2≤s.size∧∀j (hj:j<s.size),pos≤j→j<pos+(Utf8.decode s pos).2→128≤(s[j]'hj).toNat:=by
 have hn:¬(s[pos]'h).toNat<128:=by omega
 have hg:∀k (hk:k<s.size),s.get! k=s[k]'hk:=fun k hk=>get_at s k hk;have key:∀k,(decide (pos+k<s.size)&&(s.get! (pos+k)).toNat / 64==2)=true→pos+k<s.size∧∀hk:pos+k<s.size,128≤(s[pos+k]'hk).toNat:=by
  intro k hk;simp only [Bool.and_eq_true,decide_eq_true_eq,beq_iff_eq] at hk;refine ⟨hk.1,fun hlt=>?_⟩;rw [←hg _ hlt];omega
 have pin:∀j (hj:j<s.size) k (hk:pos+k<s.size),j=pos+k→(∀hk:pos+k<s.size,128≤(s[pos+k]'hk).toNat)→128≤(s[j]'hj).toNat:=by
  intro j hj k hk e q;subst e;exact q hk
 have one:pos+1≤s.size∧∀j (hj:j<s.size),pos≤j→j<pos+1→128≤(s[j]'hj).toNat:=by
  refine ⟨by omega,fun j hj h1 h2=>?_⟩;obtain rfl:j=pos:=by omega
  exact ha
 simp only [Utf8.decode,get_at s pos h,hn,if_false]
 split
 · rename_i hc
   simp only [Bool.and_eq_true] at hc;obtain ⟨a1,b1⟩:=key 1 (by simpa using hc.2)
   split
   · refine ⟨by simp;omega,fun j hj h1 h2=>?_⟩;simp at h2
     rcases Nat.lt_or_ge j (pos+1) with q|q
     · exact one.2 j hj h1 q
     · exact pin j hj 1 a1 (by omega) b1
   · exact one
 · split
   · rename_i hc
     simp only [Bool.and_eq_true] at hc;obtain ⟨a1,b1⟩:=key 1 (by simpa using hc.1.2);obtain ⟨a2,b2⟩:=key 2 (by simpa using hc.2)
     split
     · refine ⟨by simp;omega,fun j hj h1 h2=>?_⟩;simp at h2
       rcases Nat.lt_or_ge j (pos+1) with q|q
       · exact one.2 j hj h1 q
       · rcases Nat.lt_or_ge j (pos+2) with q2|q2
         · exact pin j hj 1 a1 (by omega) b1
         · exact pin j hj 2 a2 (by omega) b2
     · exact one
   · split
     · rename_i hc
       simp only [Bool.and_eq_true] at hc;obtain ⟨a1,b1⟩:=key 1 (by simpa using hc.1.1.2);obtain ⟨a2,b2⟩:=key 2 (by simpa using hc.1.2);obtain ⟨a3,b3⟩:=key 3 (by simpa using hc.2)
       split
       · refine ⟨by simp;omega,fun j hj h1 h2=>?_⟩;simp at h2
         rcases Nat.lt_or_ge j (pos+1) with q|q
         · exact one.2 j hj h1 q
         · rcases Nat.lt_or_ge j (pos+2) with q2|q2
           · exact pin j hj 1 a1 (by omega) b1
           · rcases Nat.lt_or_ge j (pos+3) with q3|q3
             · exact pin j hj 2 a2 (by omega) b2
             · exact pin j hj 3 a3 (by omega) b3
       · exact one
     · exact one
theorem zmm (r:Nat) (h:128≤r) (h2:r<2048):∃a b:UInt8,Utf8.encode (r:Int)=⟨#[a,b]⟩∧128≤b.toNat:=by
 have hv:Utf8.valid (r:Int)=true:=by simp [Utf8.valid];omega
 refine ⟨UInt8.ofNat (0xC0+r / 64),UInt8.ofNat (0x80+r%64),?_,?_⟩
 · simp only [Utf8.encode,hv,if_true,Int.toNat_natCast]
   rw [if_neg (by omega),if_pos (by omega)]
 · simp;omega
theorem znc (r:Nat) (h:2048≤r):3≤(Utf8.encode (r:Int)).size:=by
 simp only [Utf8.encode,Int.toNat_natCast]
 by_cases hv:Utf8.valid (r:Int)=true
 · rw [if_pos hv,if_neg (by omega),if_neg (by omega)]
   split <;> simp [ByteArray.size]
 · rw [if_neg hv];decide
def zd4 (w:World) (e:Ending) (w':World):Prop:=e = .returned (.int .i64 (-1))∧Below w.heap.size w w'
theorem znT (w:World):Calls Tryz.prog 263 #[.string slz,.int .i32 65533] w (zd4 w):=by
 go_enter Tryz.func263,Tryz.ntmps263
 go_wp2_with fail
 go_loopg [5,6] 2 (fun g _ _ wx=>∃i:Nat,i+g=2∧wx=w.iter slz i)
 case atStart=>exact ⟨0,by omega,rfl⟩
 case round =>
  obtain ⟨i,hig,rfl⟩:=hrel
  rcases gk with _|_|_|gk
  · obtain rfl:i=2:=by omega
    have hnx:=fun ty=>run_next_end (P:=Tryz.prog) w slz 2 ty (by decide)
    go_wp2
    go_ret
    exact ⟨rfl,(Below.refl _ _).alloc (Nat.le_refl _) _⟩
  · obtain rfl:i=1:=by omega
    have hnx:=fun ty=>run_next_ascii (P:=Tryz.prog) w slz 1 ty (by decide) (by decide);have hx:slz[1]=0:=rfl
    go_wp2
    go_roundg 0
    case measure=>omega
    case rel=>exact ⟨2,by omega,rfl⟩
  · obtain rfl:i=0:=by omega
    have hnx:=fun ty=>run_next_ascii (P:=Tryz.prog) w slz 0 ty (by decide) (by decide);have hx:slz[0]=47:=rfl
    go_wp2
    go_roundg 1
    case measure=>omega
    case rel=>exact ⟨1,by omega,rfl⟩
  · omega
theorem ztd (r:Int) (hr:128≤r) (hne:(r==65533)=false) (hv:Lib.validRune r=false) (w:World):Calls Tryz.prog 263 #[.string slz,.int .i32 r] w (zd4 w):=by
 have h0:0≤r:=by omega
 have hsl:slz.size=2:=rfl;have HV:=zz hv;clear hv;go_enter Tryz.func263,Tryz.ntmps263
 go_wp2_with (go_at_call 287;refine (Tryz.utf8_ValidRune _ _).mono ?_;rintro e w' ⟨rfl,hw⟩;rw [hw,HV.out])
 go_ret
 exact ⟨rfl,Below.refl _ _⟩
theorem zmx {P:Program} {f:FuncId} {args:Array Value} {w:World} {a n:Nat} {v:Value} (h:Calls P f args (w.drewN (a+n)) fun e w'=>e = .returned v∧w'=w.drewN (a+n)) :Calls P f args (w.drewN (a+n)) fun e w''=>e = .returned v∧∃m,w''=w.drewN (a+m) :=
 h.mono fun _ _ ⟨he,hm⟩=>⟨he,n,hm⟩
theorem zpZ (c:Int) (w:World):Calls Tryz.prog 286 #[.string (slz.extract 2 2),.int .u8 c] w fun e w'=>e = .returned (.int .i64 (-1))∧w'=w:=by
 refine (Tryz.strings_IndexByte (slz.extract 2 2) c w).mono ?_;rintro e w' ⟨rfl,hw⟩;exact ⟨rfl,hw⟩
theorem znF (r:Int) (a b:UInt8) (hr:128≤r) (hne:(r==65533)=false) (hv:Lib.validRune r=true) (he:Utf8.encode r=⟨#[a,b]⟩) (hb:128≤b.toNat) (w:World):Calls Tryz.prog 263 #[.string slz,.int .i32 r] w (zd4 w):=by
 have h0:0≤r:=by omega
 have hsl:slz.size=2:=rfl;have e1:slz[1].toNat=0:=rfl;have e2:((⟨#[a,b]⟩:ByteArray)[1]'(by show 1<2;decide)).toNat=b.toNat:=rfl;have e3:((0:Int) !=(b.toNat:Int))=true:=by rw [bne_iff_ne];omega
 have HV:=zz hv;clear hv;go_enter Tryz.func263,Tryz.ntmps263
 go_wp2_with (go_at_call 287;refine (Tryz.utf8_ValidRune _ _).mono ?_;rintro e w' ⟨rfl,hw⟩;rw [hw,HV.out])
 go_step3
 go_wp2_with fail
 refine wp_loop_rounds 1 ?_;rw [rounds_succ]
 go_wp2_with fail
 go_step3
 go_wp2_with fail
 go_quiet (fail)
 go_wp2_with fail
 go_quiet ((go_at_call 286;exact zmx (zpZ _ _)))
 go_wp2_with fail
 rw [Exit.noGoto_ret]
 go_ret
 exact ⟨rfl,(Keep.refl zl w).drewN _ |>.all⟩
theorem zm5 (r:Int) (hr:128≤r) (hne:(r==65533)=false) (hv:Lib.validRune r=true) (he:3≤(Utf8.encode r).size) (he2:(Utf8.encode r).size≤4) (w:World):Calls Tryz.prog 263 #[.string slz,.int .i32 r] w (zd4 w):=by
 have h0:0≤r:=by omega
 have hsl:slz.size=2:=rfl;have HV:=zz hv;clear hv;go_enter Tryz.func263,Tryz.ntmps263
 go_wp2_with (go_at_call 287;refine (Tryz.utf8_ValidRune _ _).mono ?_;rintro e w' ⟨rfl,hw⟩;rw [hw,HV.out])
 go_step3
 go_wp2_with fail
 refine wp_loop_rounds 1 ?_;rw [rounds_succ]
 go_wp2_with fail
 rw [Exit.noGoto_ret]
 go_ret
 exact ⟨rfl,Below.refl _ _⟩
theorem znz (r:Nat) (hr:128≤r) (w:World):Calls Tryz.prog 263 #[.string slz,.int .i32 r] w (zd4 w):=by
 by_cases h1:r=65533
 · subst h1;exact znT w
 · have hne:((r:Int)==65533)=false:=beq_eq_false_iff_ne.2 (by omega)
   cases hv:Lib.validRune (r:Int) with
   | false=>exact ztd r (by omega) hne hv w
   | true =>
    by_cases h2:r<2048
    · obtain ⟨a,b,he,hb⟩:=zmm r hr h2;exact znF r a b (by omega) hne hv he hb w
    · exact zm5 r (by omega) hne hv (znc r (by omega)) (encode_size_le _) w
def zb0 (l:List UInt8):Bool:=l.any fun x=>x==47||x==0
def zdt (s:ByteArray) (i:Nat):Prop:=∀j (hj:j<s.size),j<i→s[j].toNat≠47∧s[j].toNat≠0
theorem zlF (s:ByteArray) (x:UInt8):x∈s.data.toList↔∃j,∃hj:j<s.size,s[j]=x:=by
 rw [List.mem_iff_getElem];constructor
 · rintro ⟨j,hj,h⟩;exact ⟨j,by simpa using hj,h⟩
 · rintro ⟨j,hj,h⟩;exact ⟨j,by simpa using hj,h⟩
theorem zhr {s:ByteArray} {i:Nat} (hi:i<s.size) (h:s[i].toNat=47∨s[i].toNat=0):zb0 s.data.toList=true:=by
 unfold zb0;rw [List.any_eq_true];refine ⟨s[i],(zlF s _).2 ⟨i,hi,rfl⟩,?_⟩
 rcases h with h|h
 · have:s[i]=47:=UInt8.toNat_inj.1 h;simp [this]
 · have:s[i]=0:=UInt8.toNat_inj.1 h;simp [this]
theorem zkE {s:ByteArray} (h:zdt s s.size):zb0 s.data.toList=false:=by
 unfold zb0;rw [List.any_eq_false];intro x hx;obtain ⟨j,hj,rfl⟩:=(zlF s x).1 hx;obtain ⟨h1,h2⟩:=h j hj hj;simp only [Bool.or_eq_true,beq_iff_eq,not_or]
 exact ⟨fun q=>h1 (by rw [q];rfl),fun q=>h2 (by rw [q];rfl)⟩
def zjS (s:ByteArray) (w:World) (e:Ending) (w':World):Prop:=∃n:Int,e = .returned (.int .i64 n)∧decide (0≤n)=zb0 s.data.toList∧Below w.heap.size w w'
theorem zjA (x:Nat) (n:Int) (hx:x<128) (hn:n=if x=47 then 0 else if x=0 then 1 else -1) (w:World):Calls Tryz.prog 263 #[.string slz,.int .i32 x] w fun e w'=>e = .returned (.int .i64 n)∧w'=w:=by
 refine (Tryz.strings_IndexRune_ascii slz x w (by omega) (by omega)).mono ?_;rintro e w' ⟨rfl,hw⟩;refine ⟨?_,hw⟩;have h:∀x:Fin 128,Lib.indexByte [47,0] (UInt8.ofNat x.1)=if x.1=47 then 0 else if x.1=0 then 1 else -1:=by decide
 rw [hn,zfT]
 congr 2
 exact h ⟨x,hx⟩
theorem zdt.more {s:ByteArray} {i k:Nat} (h:zdt s i) (hk:∀j (hj:j<s.size),i≤j→j<i+k→s[j].toNat≠47∧s[j].toNat≠0):zdt s (i+k):=by
 intro j hj hlt
 rcases Nat.lt_or_ge j i with q|q
 · exact h j hj q
 · exact hk j hj q hlt
theorem zp0 (s:ByteArray) (h8:s.size≤8) (w:World):Calls Tryz.prog 221 #[.string s,.string slz] w (zjS s w):=by
 have hemp:slz.toList.isEmpty=false:=by rw [Lib.toList_data];rfl
 have hsl:slz.size=2:=rfl;have h8z:decide ((8:Int)<(s.size:Int))=false:=decide_eq_false (by omega);go_enter Tryz.func221,Tryz.ntmps221
 go_wp2_with (go_at_call 264;refine (Tryz.strings_shouldUseASCIISet _ _).mono ?_;rintro e w' ⟨rfl,hw⟩;rw [hw,h8z])
 go_loopg [9,10] s.size (fun g _ _ wx=>∃i:Nat,i+g=s.size∧Below w.heap.size w wx∧wx.heap[w.heap.size]? = some (.stringIter s i)∧zdt s i)
 case atStart=>exact ⟨0,by omega,(Below.refl _ _).alloc (Nat.le_refl _) _,World.iter_heap w s 0,fun _ _ h=>absurd h (Nat.not_lt_zero _)⟩
 case round =>
  obtain ⟨i,hig,hbe,hit,hno⟩:=hrel;have hsz:w.heap.size<wr.heap.size:=(Array.getElem?_eq_some_iff.1 hit).1;have HI:=zz hit;have HN:=zz hno;clear hit hno
  cases gk with
  | zero =>
   obtain rfl:i=s.size:=by omega
   have hnx:=fun ty=>Lib.run_next_end_at (P:=Tryz.prog) wr w.heap.size s s.size ty HI.out (by omega)
   go_wp2
   go_ret
   exact ⟨-1,rfl,by rw [zkE HN.out];rfl,hbe⟩
  | succ g =>
   have hi:i<s.size:=by omega
   have hnx:=fun ty=>Lib.run_next_any_at (P:=Tryz.prog) wr w.heap.size s i ty HI.out hi;have hb2:Below w.heap.size w (wr.iterAt w.heap.size s (i+(Utf8.decode s i).2)):=Lib.below_iterAt hbe (Nat.le_refl _) _ _;have hh2:=Lib.iterAt_heap wr w.heap.size s i (i+(Utf8.decode s i).2) HI.out;have hz2:=Lib.iterAt_size wr w.heap.size s (i+(Utf8.decode s i).2);generalize wr.iterAt w.heap.size s (i+(Utf8.decode s i).2)=w2 at *;by_cases hx:s[i].toNat<128
   · have hd:=decode_ascii s i hi hx;rw [hd] at hnx;rw [hd] at hh2;obtain ⟨x,hxx⟩:∃x:Nat,s[i].toNat=x:=⟨_,rfl⟩;rw [hxx] at hnx hx;have HX:=zz hxx;have H2:=zz hh2;clear hd hxx hh2 hz2;by_cases hq:x=47∨x=0
     · obtain ⟨n,hn,hn0⟩:∃n:Int,n=(if x=47 then 0 else if x=0 then 1 else -1)∧0≤n:=by
        refine ⟨_,rfl,?_⟩;rcases hq with rfl|rfl <;> decide
       have HQ:=zz hq;have HNN:=zz hn;clear hq hn
       go_wp2_with (go_at_call 263;refine (zjA x n hx HNN.out _).mono ?_;rintro e w' ⟨rfl,hw⟩;rw [hw])
       go_ret
       refine ⟨i,rfl,?_,hb2⟩;rw [zhr hi (by rw [HX.out];exact HQ.out)];simp
     · obtain ⟨n,hn,hn0⟩:∃n:Int,n=(if x=47 then 0 else if x=0 then 1 else -1)∧n<0:=by
        refine ⟨_,rfl,?_⟩;rw [if_neg (by omega),if_neg (by omega)];decide
       have HQ:=zz hq;have HNN:=zz hn;clear hq hn
       go_wp2_with (go_at_call 263;refine (zjA x n hx HNN.out _).mono ?_;rintro e w' ⟨rfl,hw⟩;rw [hw])
       go_roundg g
       case measure=>omega
       case rel =>
        refine ⟨i+1,by omega,hb2,H2.out,HN.out.more fun j hj h1 h2=>?_⟩;obtain rfl:j=i:=by omega
        have:=HQ.out;rw [HX.out];omega
   · have hs:=zr9 s i hi (by omega);have hd:=decode_high s i hi (by omega);generalize (Utf8.decode s i).1=r at *;generalize (Utf8.decode s i).2=k at *;obtain ⟨hs1,hs2⟩:=hs;obtain ⟨hd1,hd2⟩:=hd;have H2:=zz hh2;have HS:=zz hs2;clear hh2 hz2 hs2
     go_wp2_with (go_at_call 263;refine (znz r hd1 _).mono ?_;rintro e w3 ⟨rfl,hb3⟩)
     go_roundg (s.size-(i+k))
     case measure=>omega
     case rel =>
      refine ⟨i+k,by omega,hb2.trans (hb3.mono hb2.size),?_,HN.out.more fun j hj h1 h2=>?_⟩
      · rw [hb3.block _ (Array.getElem?_eq_some_iff.1 H2.out).1];exact H2.out
      · have:=HS.out j hj h1 h2;omega
theorem zma:∀l:List UInt8,decide (0≤Lib.indexAny l [47,0])=zb0 l
 | []=>rfl
 | b::l=>by
  have ih:=zma l;have hge:=Lib.indexAny_ge [47,0] l;unfold Lib.indexAny zb0;unfold zb0 at ih;rw [List.any_cons,←ih];by_cases hb:(List.contains [47,0] b)=true
  · rw [if_pos hb];have:(b==47||b==0)=true:=by simpa using hb
    rw [this];simp
  · rw [if_neg hb];have:(b==47||b==0)=false:=by simpa using hb
    rw [this,Bool.false_or]
    split
    · rename_i h
      have:Lib.indexAny l [47,0]=-1:=by simpa using h
      rw [this]
    · rename_i h
      have:Lib.indexAny l [47,0]≠-1:=by simpa using h
      simp only [decide_eq_decide]
      omega
theorem zmS (s:ByteArray) (h:s.size<4294967281) (w:World):Calls Tryz.prog 186 #[.string s,.string slz] w fun e w'=>e = .returned (.bool (zb0 s.data.toList))∧Below w.heap.size w w':=by
 have hall:Calls Tryz.prog 221 #[.string s,.string slz] w (zjS s w):=by
  by_cases h8:s.size≤8
  · exact zp0 s h8 w
  · refine (Tryz.strings_IndexAny_long (fun w=>by kernel_rfl) s slz w (by decide) (by omega) h (by decide) (by rw [zfT];intro j b;match j with|0=>simp;rintro rfl;decide|1=>simp;rintro rfl;decide|j+2=>simp)).mono ?_;rintro e w' ⟨rfl,hw⟩;exact ⟨_,rfl,by rw [zfT];exact zma _,by rw [hw];exact ((Below.refl _ _).alloc (Nat.le_refl _) _).alloc (by simp) _⟩
 have H:=zz hall;clear hall;go_enter Tryz.func186,Tryz.ntmps186
 go_wp2_with fail
 refine H.out.mono ?_;rintro e w' ⟨n,rfl,hn,hb⟩;have HN:=zz hn;clear hn
 go_wp2
 go_ret
 exact ⟨by rw [←HN.out];rfl,hb⟩
def zI (l:List UInt8):Bool:=!l.isEmpty&&(decide (l.length≤40)&&(l !=[46]&&(l !=[46,46]&&!zb0 l)))
def zbc (s:ByteArray) (w:World) (e:Ending) (w':World):Prop:=e = .returned (.bool (zI s.data.toList))∧Below w.heap.size w w'
theorem zbc.of {s:ByteArray} {w w':World} {b:Bool} {e:Ending} (he:e = .returned (.bool b)) (h:zI s.data.toList=b) (hb:Below w.heap.size w w'):zbc s w e w':=⟨by rw [h];exact he,hb⟩
theorem zkc {s:ByteArray} (h1:1≤s.size) (h2:s.size≤40) (h3:(s.toList==[46])=false) (h4:(s.toList==[46,46])=false):zI s.data.toList=!zb0 s.data.toList:=by
 rw [Lib.toList_data] at h3 h4;have hl:s.data.toList.length=s.size:=(Lib.size_eq s).symm;have he:s.data.toList.isEmpty=false:=by
  cases h:s.data.toList with
  | nil=>rw [h,List.length_nil] at hl;omega
  | cons _ _=>rfl
 unfold zI;rw [he,hl,bne,bne,h3,h4];simp [h2]
theorem zcw {s:ByteArray} (h:s.size<1∨40<s.size∨(s.toList==[46])=true∨(s.toList==[46,46])=true):zI s.data.toList=false:=by
 rw [Lib.toList_data] at h;have hl:s.data.toList.length=s.size:=(Lib.size_eq s).symm;unfold zI;rw [hl,bne,bne]
 rcases h with h|h|h|h
 · have:s.data.toList=[]:=List.eq_nil_of_length_eq_zero (by omega);simp [this]
 · simp [Nat.not_le.2 h]
 · rw [h];simp
 · rw [h];simp
theorem zof (s:ByteArray) (w:World):Calls Tryz.prog 139 #[.string s] w (zbc s w):=by
 by_cases h1:s.size<1
 · have e0:s.toList=[]:=by rw [Lib.toList_data];exact List.eq_nil_of_length_eq_zero (by rw [←Lib.size_eq];omega)
   have hr:=zcw (s:=s) (.inl h1);have HR:=zz hr;clear hr;go_enter Tryz.func139,Tryz.ntmps139
   go_wp2_with fail
   go_ret
   exact zbc.of rfl HR.out (Below.refl _ _)
 · have e0:s.toList.isEmpty=false:=by
    rw [Lib.toList_data]
    cases h:s.data.toList with
    | nil=>have:=Lib.size_eq s;rw [h,List.length_nil] at this;omega
    | cons _ _=>rfl
   by_cases h2:40<s.size
   · have e2:decide ((s.size:Int)≤40)=false:=decide_eq_false (by omega);have hr:=zcw (s:=s) (.inr (.inl h2));have HR:=zz hr;clear hr;go_enter Tryz.func139,Tryz.ntmps139
     go_wp2_with fail
     go_ret
     exact zbc.of rfl HR.out (Below.refl _ _)
   · have e2:decide ((s.size:Int)≤40)=true:=decide_eq_true (by omega)
     cases h3:s.toList==[46] with
     | true =>
      have hr:=zcw (s:=s) (.inr (.inr (.inl h3)));have HR:=zz hr;clear hr;go_enter Tryz.func139,Tryz.ntmps139
      go_wp2_with fail
      go_ret
      exact zbc.of rfl HR.out (Below.refl _ _)
     | false =>
      cases h4:s.toList==[46,46] with
      | true =>
       have hr:=zcw (s:=s) (.inr (.inr (.inr h4)));have HR:=zz hr;clear hr;go_enter Tryz.func139,Tryz.ntmps139
       go_wp2_with fail
       go_ret
       exact zbc.of rfl HR.out (Below.refl _ _)
      | false =>
       have hr:=zkc (s:=s) (by omega) (by omega) h3 h4;have HR:=zz hr;clear hr;go_enter Tryz.func139,Tryz.ntmps139
       go_wp2_with (go_at_call 186;refine (zmS s (by omega) _).mono ?_;rintro e w' ⟨rfl,hb⟩)
       go_ret
       exact zbc.of rfl HR.out hb
theorem zsz (s:ByteArray) (w:World):Calls Tryz.prog 127 #[.string s] w (zbc s w):=by
 by_cases h1:s.size<1
 · have e1:decide ((s.size:Int)<1)=true:=decide_eq_true (by omega);have hr:=zcw (s:=s) (.inl h1);have HR:=zz hr;clear hr;go_enter Tryz.func127,Tryz.ntmps127
   go_wp2_with fail
   go_ret
   exact zbc.of rfl HR.out (Below.refl _ _)
 · have e1:decide ((s.size:Int)<1)=false:=decide_eq_false (by omega);by_cases h2:40<s.size
   · have e2:decide ((40:Int)<(s.size:Int))=true:=decide_eq_true (by omega);have hr:=zcw (s:=s) (.inr (.inl h2));have HR:=zz hr;clear hr;go_enter Tryz.func127,Tryz.ntmps127
     go_wp2_with fail
     go_ret
     exact zbc.of rfl HR.out (Below.refl _ _)
   · have e2:decide ((40:Int)<(s.size:Int))=false:=decide_eq_false (by omega)
     cases h3:s.toList==[46] with
     | true =>
      have hr:=zcw (s:=s) (.inr (.inr (.inl h3)));have HR:=zz hr;clear hr;go_enter Tryz.func127,Tryz.ntmps127
      go_wp2_with fail
      go_ret
      exact zbc.of rfl HR.out (Below.refl _ _)
     | false =>
      cases h4:s.toList==[46,46] with
      | true =>
       have hr:=zcw (s:=s) (.inr (.inr (.inr h4)));have HR:=zz hr;clear hr;go_enter Tryz.func127,Tryz.ntmps127
       go_wp2_with fail
       go_ret
       exact zbc.of rfl HR.out (Below.refl _ _)
      | false =>
       have hr:=zkc (s:=s) (by omega) (by omega) h3 h4;have HR:=zz hr;clear hr;go_enter Tryz.func127,Tryz.ntmps127
       go_wp2_with fail
       go_loop [3] (fun i=>∃k:Nat,k≤s.size∧i = .int .i64 k∧zdt s k) (fun i=>s.size-(intOf i).toNat)
       case atStart=>exact ⟨0,Nat.zero_le _,rfl,fun _ _ h=>absurd h (Nat.not_lt_zero _)⟩
       case round =>
        obtain ⟨k,hk,rfl,hno⟩:=hrel;have HN:=zz hno;clear hno;by_cases hlt:k<s.size
        · by_cases q1:s[k].toNat=47
          · have f1:((s[k].toNat:Int)==47)=true:=by rw [q1];rfl
            have ha:=zhr hlt (.inl q1);have HA:=zz ha;clear ha q1
            go_wp2
            go_ret
            exact zbc.of rfl (by rw [HR.out,HA.out];rfl) (Below.refl _ _)
          · have f1:((s[k].toNat:Int)==47)=false:=beq_eq_false_iff_ne.2 (by omega);by_cases q2:s[k].toNat=0
            · have f2:((s[k].toNat:Int)==0)=true:=by rw [q2];rfl
              have ha:=zhr hlt (.inr q2);have HA:=zz ha;clear ha q2
              go_wp2
              go_ret
              exact zbc.of rfl (by rw [HR.out,HA.out];rfl) (Below.refl _ _)
            · have f2:((s[k].toNat:Int)==0)=false:=beq_eq_false_iff_ne.2 (by omega)
              go_wp2
              go_round
              case rel =>
               refine ⟨k+1,by omega,by go_num,HN.out.more fun j hj h1 h2=>?_⟩;obtain rfl:j=k:=by omega
               exact ⟨q1,q2⟩
              case measure=>simp [intOf];omega
        · obtain rfl:k=s.size:=by omega
          go_wp2
          go_ret
          exact zbc.of rfl (by rw [HR.out,zkE HN.out];rfl) (Below.refl _ _)
end
section
abbrev Pth:Type:=List UInt8
def z7:Pth→Pth→List Pth
 | cur,[]=>[cur]
 | cur,x::b=>if x=47 then cur::z7 [] b else z7 (cur++[x]) b
def nmP (p:Pth):List Pth:=z7 [] p
def zaZ:Pth→Pth→List Pth
 | _,[]=>[]
 | cur,x::b=>if x=47 then cur::zaZ (cur++[x]) b else zaZ (cur++[x]) b
def zj (p:Pth):List Pth:=zaZ [] p
def zap (p:Pth):Pth:=(p.reverse.takeWhile (fun x=>x !=47)).reverse
def parN (p:Pth):Pth:=((p.reverse.dropWhile (fun x=>x !=47)).drop 1).reverse
def zc0 {α:Type} (lt:α→α→Bool) (x:α):List α→List α
 | []=>[x]
 | y::l=>if lt y x=true then y::zc0 lt x l else x::y::l
def zaJ {α:Type} (lt:α→α→Bool) (l:List α):List α:=l.foldr (zc0 lt) []
def insK (p:Pth):List Pth→List Pth
 | []=>[p]
 | q::l=>if p=q then q::l else if p<q then p::q::l else q::insK p l
def zat (l:List Pth):List Pth:=l.foldr insK []
def zP (f:FileD):Nat:=if f.k≠1∧f.k≠2∧f.k≠3 then 3 else if 8<(nmP f.p).length∨(nmP f.p).any (fun s=>!zI s)=true then 7 else if 65536<f.d.length then 5 else 0
def zbg (done:List FileD) (p:Pth):Bool:=match done.getLast? with
 | some g=>decide (p≤g.p)
 | none=>false
def zax:List FileD→List FileD→Nat
 | _,[]=>0
 | done,f::l=>if zP f≠0 then zP f else if zbg done f.p=true then 18 else if (zj f.p).any (fun d=>done.any (fun g=>g.p==d))=true then 13 else zax (done++[f]) l
def z8 (l:List FileD):List (Pth×Pth):=l.flatMap fun f=>(zj f.p++[f.p]).map fun d=>(parN d,zap d)
def zab (l:List (Pth×Pth)) (d:Pth):List Pth:=zat ((l.filter (fun e=>e.1==d)).map (·.2))
def zbx (l:List FileD):Bool:=(z8 l).any fun e=>decide (512<(zab (z8 l) e.1).length)
def zg (l:List FileD):Nat:=if 1000<l.length then 4 else if zax [] l≠0 then zax [] l else if zbx l=true then 4 else 0
structure ChangeD where
 old:FileD
 new:FileD
deriving DecidableEq
def zbJ:FileD:=⟨[],0,[]⟩
def getF (l:List FileD) (p:Pth):FileD:=(l.find? (fun f=>f.p==p)).getD zbJ
def hasF (l:List FileD) (p:Pth):Bool:=l.any (fun f=>f.p==p)
def zaH (o n:FileD):Option ChangeD:=if o.k≠n.k∨o.d≠n.d then some ⟨o,n⟩ else none
def zT (a b:List FileD):List ChangeD:=(zat (a.map (·.p)++b.map (·.p))).filterMap fun p=>zaH (getF a p) (getF b p)
structure PairD where
 old:Pth
 new:Pth
 sc:Nat
deriving DecidableEq
def zbN:List (List UInt8)→List (List UInt8)→Nat
 | _,[]=>0
 | x,s::y=>if s∈x then zbN (x.erase s) y+1 else zbN x y
def zbr (a b:List UInt8):Nat:=if a=b then 100 else 200*zbN (zf a) (zf b) / ((zf a).length+(zf b).length)
def zaS (a b:Pth):Nat:=if zap a=zap b then 0 else 1
def zaL (f:FileD):Bool:=(f.k==1||f.k==2)&&decide (0<f.d.length)
def zY (l:List ChangeD):List FileD:=l.filterMap fun c=>if c.new.k=0∧zaL c.old=true then some c.old else none
def zX (l:List ChangeD):List FileD:=l.filterMap fun c=>if c.new.k=0∧zaL c.old=true then none else if c.old.k=0∧zaL c.new=true then some c.new else none
def zcJ (f g:FileD):Option (Nat×FileD)→Bool
 | none=>true
 | some x=>decide (zaS f.p g.p<zaS f.p x.2.p)
def zaG (f:FileD):List FileD→Nat→Option (Nat×FileD)→Option (Nat×FileD)
 | [],_,b=>b
 | g::l,k,b=>zaG f l (k+1) (if f.d=g.d∧zcJ f g b=true then some (k,g) else b)
def zr:List FileD→List FileD→List PairD×List FileD×List FileD
 | [],rest=>([],[],rest)
 | f::gone,rest=>match zaG f rest 0 none with
  | none=>((zr gone rest).1,f::(zr gone rest).2.1,(zr gone rest).2.2)
  | some x=>(⟨f.p,x.2.p,100⟩::(zr gone (rest.eraseIdx x.1)).1,(zr gone (rest.eraseIdx x.1)).2.1,(zr gone (rest.eraseIdx x.1)).2.2)
structure LikD where
 old:Pth
 new:Pth
 sc:Nat
 near:Nat
deriving DecidableEq
def zaT (a b:LikD):Bool:=decide (b.sc<a.sc)||(a.sc==b.sc&&(decide (a.near<b.near)||(a.near==b.near&&(decide (a.old<b.old)||(a.old==b.old&&decide (a.new<b.new))))))
def zbt (gone come:List FileD):List LikD :=
 if gone.length≤100∧come.length≤100 then gone.flatMap fun f=>come.filterMap fun g=>if 50≤zbr f.d g.d then some ⟨f.p,g.p,zbr f.d g.d,zaS f.p g.p⟩ else none else []
def zal:List LikD→List Pth→List Pth→List PairD
 | [],_,_=>[]
 | x::l,a,b=>if x.old∈a∨x.new∈b then zal l a b else ⟨x.old,x.new,x.sc⟩::zal l (x.old::a) (x.new::b)
def zay (l:List ChangeD):List PairD :=
 let x:=zr (zY l) (zX l)
 zaJ (fun a b=>decide (a.old<b.old)) (x.1++zal (zaJ zaT (zbt x.2.1 x.2.2)) [] [])
structure ClashD where
 p:Pth
 why:Nat
deriving DecidableEq
structure MSt where
 t:List FileD
 c:List ClashD
 e:Nat
def MSt.stay (s:MSt) (p:Pth) (f:FileD):MSt:={ s with t:=s.t++[{ f with p:=p }] }
def MSt.clash (s:MSt) (p:Pth) (why:Nat):MSt:={ s with c:=s.c++[⟨p,why⟩] }
structure SideD where
 f:List FileD
 l:List PairD
def zU (base l:List FileD):SideD:=⟨l,zay (zT base l)⟩
def SideD.goes (s:SideD) (p:Pth):Pth×Bool:=match s.l.find? (fun x=>x.old==p) with
 | some x=>(x.new,true)
 | none=>(p,hasF s.f p)
def zM (k:Int):Bool:=k==1||k==2
def zaj (b x y:Int):Int×Bool:=if b=y∨b=x then (if x=b then y else x,true) else (x,decide (x=y))
def zZ (base:FileD) (lines:Int) (x y:FileD):List UInt8×Bool×Nat :=
 if x.d=y.d∨y.d=base.d then (x.d,true,0) else if x.d=base.d then (y.d,true,0) else
 if (zM lines&&zM x.k&&zM y.k)=true then
  match zbL base.d x.d y.d with
  | some r=>(r.1,r.2,0)
  | none=>([],false,4)
 else (x.d,false,0)
def MSt.both (s:MSt) (p:Pth) (base:FileD) (lines:Int) (x y:FileD):MSt :=
 let k:=zaj base.k x.k y.k
 let d:=zZ base lines x y
 let s1:=if k.2=true then s else s.clash p 3
 let s2:MSt:={ s1 with e:=if s1.e=0 then d.2.2 else s1.e }
 let s3:=if d.2.1=true then s2 else s2.clash p 1
 s3.stay p ⟨p,k.1,d.1⟩
def MSt.alone (s:MSt) (f:FileD) (q:Pth) (x:FileD):MSt :=
 if q=f.p∧x.k=f.k∧x.d=f.d then s else (s.stay q x).clash q 2
def MSt.file (o t:SideD) (s:MSt) (f:FileD):MSt :=
 let po:=o.goes f.p
 let pt:=t.goes f.p
 let x:=getF o.f po.1
 let y:=getF t.f pt.1
 if po.2=true∧pt.2=false then s.alone f po.1 x else
 if pt.2=true∧po.2=false then s.alone f pt.1 y else
 if po.2=false then s else
 if po.1≠pt.1∧po.1≠f.p∧pt.1≠f.p then ((s.stay po.1 x).stay pt.1 y).clash f.p 4 else
 if pt.1=f.p then s.both po.1 f f.k x y else s.both pt.1 f f.k x y
def SideD.isNew (s:SideD) (base:List FileD) (p:Pth):Bool:=hasF s.f p&&!hasF base p&&!s.l.any (fun x=>x.new==p)
def MSt.fresh1 (base:List FileD) (o t:SideD) (s:MSt) (p:Pth):MSt :=
 match o.isNew base p,t.isNew base p with
 | true,true=>s.both p zbJ 1 (getF o.f p) (getF t.f p)
 | true,false=>s.stay p (getF o.f p)
 | false,true=>s.stay p (getF t.f p)
 | false,false=>s
def zk (base ours theirs:List FileD):MSt :=
 let o:=zU base ours
 let t:=zU base theirs
 let s:=base.foldl (MSt.file o t) ⟨[],[],0⟩
 (zat (ours.map (·.p)++theirs.map (·.p))).foldl (MSt.fresh1 base o t) s
def atN (l:List FileD) (p:Pth):Nat:=l.countP (fun f=>f.p==p)
def za8 (l:List FileD) (p:Pth):Nat:=l.countP (fun f=>(zj f.p).contains p)
def zaz (l:List FileD) (bel:Bool) (p:Pth):Bool:=atN l p==0&&(!bel||za8 l p==0)
def zaP (l:List FileD) (bel:Bool):Nat→Pth→Pth
 | 0,p=>p++[126]
 | n+1,p=>if zaz l bel (p++[126])=true then p++[126] else zaP l bel n (p++[126])
def zau (l:List FileD) (bel:Bool) (p:Pth):Pth:=zaP l bel (l.map (fun f=>f.p.length)).sum p
def zA (l:List FileD) (i:Nat) (p:Pth):List FileD:=l.modify i fun f=>{ f with p:=p }
def zQ (s:List FileD×List ClashD) (i:Nat):List FileD×List ClashD:=match s.1[i]? with
 | none=>s
 | some f=>if (s.1.take i).any (fun g=>g.p==f.p)=true then (zA s.1 i (zau s.1 false f.p),s.2++[⟨f.p,5⟩]) else s
def zah (s:List FileD×List ClashD) (i:Nat):List FileD×List ClashD:=match s.1[i]? with
 | none=>s
 | some f=>if 0<za8 s.1 f.p then (zA s.1 i (zau s.1 true f.p),s.2++[⟨f.p,6⟩]) else s
def zS (l:List FileD):List FileD:=zaJ (fun a b=>decide (a.p<b.p)) l
def zR (l:List FileD) (c:List ClashD):List FileD×List ClashD :=
 let s:=(List.range l.length).foldl zQ (l,c)
 (List.range l.length).foldl zah (zS s.1,s.2)
def ltC (a b:ClashD):Bool:=decide (a.p<b.p)||(a.p==b.p&&decide (a.why<b.why))
def insC (x:ClashD):List ClashD→List ClashD
 | []=>[x]
 | y::l=>if x=y then y::l else if ltC x y=true then x::y::l else y::insC x l
def zaY (l:List ClashD):List ClashD:=l.foldr insC []
def zG (base ours theirs:List FileD):Except Nat (List FileD×List ClashD) :=
 if zg base≠0 then .error (zg base) else if zg ours≠0 then .error (zg ours) else if zg theirs≠0 then .error (zg theirs) else
 let s:=zk base ours theirs
 if s.e≠0 then .error s.e else
 let r:=zR s.t s.c
 let out:=zS r.1
 if zg out≠0 then .error (zg out) else .ok (out,zaY r.2)
end
section
open Go.RowKit Go.WideMaps Go.Maps
abbrev CK:Type:={ c:Pth×Int // c.1.length≤maxLen∧(Lit.int .i64 c.2).wf=true }
def clV (s:CK):Value := .agg #[strC s.1.1,.int .i64 s.1.2]
def keyC (s:CK):Lit := .string (keyBytes [.string s.1.1,.int .i64 s.1.2])
theorem zhF (s:CK):WideAt.IsKeyLit (keyC s):=trivial
theorem zcB:Keyed Tryz.prog 86:=Keyed.of_law (deep_law_laid (by kernel_rfl) (m:=3) (by omega) (of_decide_eq_true (by kernel_rfl)) (by kernel_rfl) (by kernel_rfl))
theorem zhN:Tryz.prog.cellsOf 86=2:=by kernel_rfl
theorem zoJ:Tryz.prog.cellsOf 9=1:=by kernel_rfl
theorem ztZ:Tryz.prog.cellsOf 3=1:=by kernel_rfl
theorem ztb:Tryz.prog.keyType 86=true:=by kernel_rfl
theorem zjN:∃m,Tryz.prog.types.size=m+1+1:=by
 have h:(1:Nat)<Tryz.prog.types.size:=of_decide_eq_true (by kernel_rfl);exact ⟨Tryz.prog.types.size-2,by omega⟩
theorem ziJ (d:Nat) (v:Value):Tryz.prog.keyLits (d+1) 9 [v]=match v with
    | .string s=>if s.size≤maxLen then some [.string s.data.toList] else none
    | _=>none:=by
 unfold Program.keyLits;simp only [Tryz.underlying9]
 cases v <;> rfl
theorem zmd (d:Nat) (v:Value):Tryz.prog.keyLits (d+1) 3 [v]=match v with
    | .int q n=>if q = .i64∧(Lit.int .i64 n).wf=true then some [.int .i64 n] else none
    | _=>none:=by
 unfold Program.keyLits;simp only [Tryz.underlying3]
 cases v <;> rfl
theorem zkx (d:Nat) (c0 c1:Value):Tryz.prog.keyLits (d+1+1) 86 [c0,c1]=(Tryz.prog.keyLits (d+1) 9 [c0]).bind fun x=>(Tryz.prog.keyLits (d+1) 3 [c1]).map fun y=>x++y:=by
 conv=>lhs;unfold Program.keyLits
 simp only [Tryz.underlying86]
 rw [if_pos ⟨by rw [zhN];rfl,by first|rfl|simp⟩];simp only [List.mapM_cons,List.mapM_nil,zoJ,ztZ]
 show Option.map List.flatten ((Tryz.prog.keyLits (d+1) 9 [c0]).bind fun x=>((Tryz.prog.keyLits (d+1) 3 [c1]).bind fun y=>some [y]).bind fun z=>some (x::z))=_
 cases Tryz.prog.keyLits (d+1) 9 [c0] with
 | none=>rfl
 | some x =>
  cases Tryz.prog.keyLits (d+1) 3 [c1] with
  | none=>rfl
  | some y=>simp
theorem zdl (s:CK):keyOf Tryz.prog 86 (clV s)=some (keyC s):=by
 obtain ⟨⟨p,n⟩,h1,h2⟩:=s;obtain ⟨m,hm⟩:=zjN;simp only at h1 h2;unfold keyOf clV keyC;simp only [Tryz.underlying86]
 rw [if_pos (by simp [ztb,Value.formed,Tryz.underlying86,zhN]),hm];show Option.map _ (Tryz.prog.keyLits (m+1+1+1) 86 [strC p,.int .i64 n])=_;rw [zkx,ziJ,zmd];simp only [strC]
 rw [if_pos (by simpa [ByteArray.size] using h1),if_pos ⟨trivial,h2⟩];simp
theorem zgW {s t:CK} (h:keyC s=keyC t):s=t:=by
 have:=zcB.inj (zdl s) (h▸zdl t);unfold clV strC at this;injection this with this;injection this with this;injection this with e1 this;injection this with e2 _;injection e1 with e1;injection e2 with _ e2;injection e1 with e1;injection e1 with e1;exact Subtype.ext (Prod.ext e1 e2)
theorem zeQ {v:Value} {kl:Lit} (h:keyOf Tryz.prog 86 v=some kl):∃s,v=clV s∧kl=keyC s:=by
 obtain ⟨m,hm⟩:=zjN;unfold keyOf at h;simp only [Tryz.underlying86] at h
 split at h
 · rename_i hf
   rw [Bool.and_eq_true] at hf;have hf2:=hf.2;unfold Value.formed at hf2
   split at hf2
   · rename_i cs
     simp only [Tryz.underlying86,zhN,beq_iff_eq] at hf2;obtain ⟨l⟩:=cs
     match l,hf2 with
     | [c0,c1],_ =>
      rw [hm] at h;have h5:Option.map (fun ls=>Lit.string (keyBytes ls)) (Tryz.prog.keyLits (m+1+1+1) 86 [c0,c1])=some kl:=h;clear h;rw [zkx,ziJ,zmd] at h5
      cases c0 with
      | string s =>
       simp only at h5;by_cases q1:s.size≤maxLen
       · rw [if_pos q1] at h5
         cases c1 with
         | int k n =>
          simp only at h5;by_cases q2:k = .i64∧(Lit.int .i64 n).wf=true
          · rw [if_pos q2] at h5;obtain ⟨rfl,q2⟩:=q2;simp at h5;exact ⟨⟨(s.data.toList,n),by have:=q1;unfold ByteArray.size at this;rw [Array.length_toList];exact this,q2⟩,rfl,h5.symm⟩
          · rw [if_neg q2] at h5;simp at h5
         | _=>simp at h5
       · rw [if_neg q1] at h5;simp at h5
      | _=>simp at h5
   · cases hf2
   · rw [Tryz.underlying86] at hf2;cases hf2
 · cases h
abbrev Mc:=CK→Option Value
def zgu:Mc:=fun _=>none
def cput (f:Mc) (s:CK) (v:Value):Mc:=fun t=>if t=s then some v else f t
def DatC (D:DataW Value) (f:Mc):Prop:=Tidy D∧∀s,(f s=none→has D (keyC s)=false)∧∀v,f s=some v→has D (keyC s)=true∧∀z,D.atKey (keyC s) z = .held v
def VC (w:World) (b n:Nat) (f:Mc):Prop:=∃D,w.ownsMap Tryz.prog 86 zak b n D∧Maps.size D=n∧DatC D f
def VK (w:World) (b r n:Nat) (f:Mc) (left:CK→Bool) (cnt:Nat):Prop:=∃D L,w.ranges Tryz.prog 86 zak b r n D L cnt∧Maps.size D=n∧DatC D f∧(∀s,L (keyC s)=left s)∧∀kl,L kl=true→∃s,kl=keyC s
section
variable {w w':World} {b n:Nat} {f:Mc}
theorem DatC.has {D:DataW Value} (h:DatC D f) (s:CK):has D (keyC s)=(f s).isSome:=by
 obtain ⟨h1,h2⟩:=h.2 s
 cases hf:f s with
 | none=>rw [h1 hf];rfl
 | some v=>rw [(h2 v hf).1];rfl
theorem DatC.at_ {D:DataW Value} (h:DatC D f) (s:CK) (z:Value):D.atKey (keyC s) (.held z) = .held ((f s).getD z):=by
 obtain ⟨h1,h2⟩:=h.2 s
 cases hf:f s with
 | none=>rw [atKey_of_not_has (h1 hf)];rfl
 | some v=>rw [(h2 v hf).2];rfl
theorem DatC.put {D:DataW Value} (h:DatC D f) (s:CK) (v:Value):DatC (D.put (keyC s) (.held v)) (cput f s v):=by
 refine ⟨h.1.put (zhF s) _,fun t=>?_⟩;unfold cput;by_cases e:t=s
 · subst e;rw [if_pos rfl];refine ⟨fun q=>by simp at q,fun u hu=>?_⟩;have hu:=Option.some.inj hu;subst hu;exact ⟨has_put_same h.1.isMap (zhF t) _,fun z=>atKey_put_same h.1.isMap (zhF t) _ z⟩
 · rw [if_neg e];have hne:keyC t≠keyC s:=fun q=>e (zgW q);obtain ⟨h1,h2⟩:=h.2 t;exact ⟨fun q=>by rw [has_put_other hne];exact h1 q,fun u hu=>⟨by rw [has_put_other hne];exact (h2 u hu).1,fun z=>by rw [atKey_put_other hne];exact (h2 u hu).2 z⟩⟩
theorem VC.made (w:World):VC (w.alloc (.map #[] 0)) w.heap.size 0 zgu :=
 ⟨.map [],World.ownsMap_made _ _ _ _,rfl,tidy_empty,fun s=>⟨fun _=>by simp [has_eq],fun v h=>by cases h⟩⟩
theorem VC.lt (h:VC w b n f):b<w.heap.size:=by
 obtain ⟨D,h1,_⟩:=h;exact h1.lt
theorem VC.block (h:VC w b n f) (hb:w'.heap[b]? = w.heap[b]?):VC w' b n f:=by
 obtain ⟨D,⟨es,clock,q1,q2⟩,h2⟩:=h;exact ⟨D,⟨es,clock,hb.trans q1,q2⟩,h2⟩
theorem VC.keep {S:Nat→Prop} (h:VC w b n f) (hk:Keep S w w') (hb:¬S b):VC w' b n f:=h.block (hk.block b h.lt hb)
theorem VC.alloc (h:VC w b n f) (o:Obj):VC (w.alloc o) b n f:=h.block (Below.heap_alloc w o b h.lt)
theorem VC.setCell (h:VC w b n f) {p:Addr} (hp:b≠p.block) (u:Value):VC (w.setCell p u) b n f:=h.block (Below.heap_setCell w p u b hp)
theorem VC.drewN (h:VC w b n f) (k:Nat):VC (w.drewN k) b n f:=h
theorem VC.look {t e:TypeId} (h:VC w b n f) (ht:Tryz.prog.underlying t=some (.map 86 e)) {z:Value} (hz:(zeroValue e).run Tryz.prog w = .ok z w) {s:CK} :(Instr.lookup t (.map (some b)) (clV s) false).run Tryz.prog w = .ok ((f s).getD z) w:=by
 obtain ⟨D,h1,h2,h3⟩:=h;obtain ⟨v,ps,hrun,hv⟩:=h1.lookup zcB ht hz (zd := .held z) (zp:=[]) rfl (zdl s);rw [h3.at_] at hv;rw [hrun,(zdB hv).1]
theorem VC.look_ok {t e:TypeId} (h:VC w b n f) (ht:Tryz.prog.underlying t=some (.map 86 e)) {z:Value} (hz:(zeroValue e).run Tryz.prog w = .ok z w) {s:CK} :(Instr.lookup t (.map (some b)) (clV s) true).run Tryz.prog w = .ok (.tuple #[(f s).getD z,.bool (f s).isSome]) w:=by
 obtain ⟨D,h1,h2,h3⟩:=h;obtain ⟨v,ps,hrun,hv⟩:=h1.look_ok zcB ht hz (zd := .held z) (zp:=[]) rfl (zdl s);rw [h3.at_] at hv;rw [hrun,(zdB hv).1,h3.has]
theorem VC.len {t e:TypeId} (h:VC w b n f) (ht:Tryz.prog.underlying t=some (.map 86 e)) (ty:TypeId):(Builtin.len_ #[t] ty #[.map (some b)]).run Tryz.prog w = .ok (.int .i64 (n:Nat)) w:=by
 obtain ⟨D,h1,h2,h3⟩:=h;rw [h1.len ht,h2]
theorem zor {D:DataW Value} {m:Nat} (h:w.ownsMap Tryz.prog 86 zak b m D):w.ownsMap Tryz.prog 86 zak b (Maps.size D) D:=by
 obtain ⟨es,clock,h1,h2,h3,h4⟩:=h;refine ⟨es,clock,h1,h2,?_,h4⟩;subst h4;simp [Maps.size,length_sorted]
theorem VC.store {t e:TypeId} (h:VC w b n f) (ht:Tryz.prog.underlying t=some (.map 86 e)) (hn:n<maxLen) {s:CK} (v:Value) :∃w',(Instr.mapUpdate t (.map (some b)) (clV s) v).run Tryz.prog w = .ok () w'∧VC w' b (if (f s).isSome then n else n+1) (cput f s v)∧Keep (Only b) w w'∧w'.heap.size=w.heap.size:=by
 obtain ⟨D,h1,h2,h3⟩:=h;obtain ⟨w',hrun,q1,q2⟩:=h1.store zcB ht hn (zdl s) (d := .held v) (ps:=[]) rfl;refine ⟨w',hrun,⟨_,?_,?_,h3.put s v⟩,zci q2.grown,?_⟩
 · have hz:Maps.size (D.put (keyC s) (.held v))=if (f s).isSome then n else n+1:=by rw [size_put h3.1,h3.has,h2]
   rw [←hz];exact zor q1
 · rw [size_put h3.1,h3.has,h2]
 · obtain ⟨es,clock,es',clock',_,rfl⟩:=q2;simp [ChangeMaps.setBlock]
theorem VK.owns {r:Nat} {left:CK→Bool} {cnt:Nat} (h:VK w b r n f left cnt):VC w b n f:=by
 obtain ⟨D,L,h1,h2,h3,_⟩:=h;exact ⟨D,h1.owns,h2,h3⟩
theorem VK.lt {r:Nat} {left:CK→Bool} {cnt:Nat} (h:VK w b r n f left cnt):r<w.heap.size:=by
 obtain ⟨D,L,h1,_⟩:=h;exact h1.lt
theorem VK.ne {r:Nat} {left:CK→Bool} {cnt:Nat} (h:VK w b r n f left cnt):r≠b:=by
 obtain ⟨D,L,h1,_⟩:=h;exact h1.ne
theorem VK.left_eq {r:Nat} {left:CK→Bool} {cnt:Nat} (h:VK w b r n f left cnt):w.rangeLeft b r=cnt:=by
 obtain ⟨D,L,h1,_⟩:=h;exact h1.left_eq
theorem VK.keep {S:Nat→Prop} {r:Nat} {left:CK→Bool} {cnt:Nat} (h:VK w b r n f left cnt) (hk:Keep S w w') (hb:¬S b) (hr:¬S r):VK w' b r n f left cnt:=by
 have h4:=h.owns.lt;have h5:=h.lt;obtain ⟨D,L,⟨es,clock,since,seen,c0,q1,q2,q3,q4,q5,q6⟩,h2,h3⟩:=h;exact ⟨D,L,⟨es,clock,since,seen,c0,(hk.block b h4 hb).trans q1,q2,q3,q4,(hk.block r h5 hr).trans q5,q6⟩,h2,h3⟩
theorem VC.range {t e:TypeId} (h:VC w b n f) (ht:Tryz.prog.underlying t=some (.map 86 e)) :∃w',(Instr.range t (.map (some b))).run Tryz.prog w = .ok (.pointer (some ⟨w.heap.size,0,none⟩)) w'∧VK w' b w.heap.size n f (fun s=>(f s).isSome) n∧Keep zl w w'∧w'.heap.size=w.heap.size+1:=by
 obtain ⟨D,h1,h2,h3⟩:=h;obtain ⟨w',hrun,q1,q2,q3⟩:=h1.range zcB ht;refine ⟨w',hrun,⟨D,_,by rw [←h2];rw [h2] at q1 ⊢;exact q1,h2,h3,fun s=>h3.has s,fun kl hk=>?_⟩,⟨q2.os,q2.tape,q2.output,q2.size,fun k hk _=>q2.block k hk (by simp)⟩,q3⟩;obtain ⟨es,clock,since,seen,c0,_,F,_,_,_,_,_,_,hx,_⟩:=q1;obtain ⟨x,hx1,rfl⟩:=hx kl hk;have hkk:=fit_keys F _ (List.mem_map.2 ⟨x,hx1,rfl⟩);obtain ⟨v,hv⟩:=hkk;obtain ⟨s,_,hs⟩:=zeQ hv;exact ⟨s,hs⟩
end
theorem zgU (s t:CK):(keyC s).sameKey (keyC t)=decide (s=t):=by
 by_cases h:s=t
 · subst h;simp [keyC,Lit.sameKey]
 · rw [sameKey_ne (fun q=>h (zgW q)),decide_eq_false h]
theorem VK.next {w:World} {b r n:Nat} {f:Mc} {left:CK→Bool} {cnt:Nat} (h:VK w b r n f left cnt) (ty:TypeId) :(cnt=0∧(∀s,left s=false)∧(Instr.next (.pointer (some ⟨r,0,none⟩)) false ty).run Tryz.prog w = .ok (.tuple #[.bool false]) w) ∨∃s v w' cnt',left s=true∧f s=some v∧(Instr.next (.pointer (some ⟨r,0,none⟩)) false ty).run Tryz.prog w = .ok (.tuple #[.bool true,clV s,v]) w' ∧VK w' b r n f (fun x=>left x&&!decide (x=s)) cnt'∧cnt'<cnt∧Keep (Only r) w w'∧w'.heap.size=w.heap.size∧(Instr.entry (.pointer (some ⟨r,0,none⟩))).run Tryz.prog w' = .ok (.tuple #[clV s,v]) w':=by
 obtain ⟨D,L,h1,h2,h3,h4,h5⟩:=h
 rcases h1.next zcB ty with ⟨q1,q2,q3⟩|⟨key,v,kl,y,w',cnt',q1,q2,q3,q4,q5,q6,q7,q8,q9,q10⟩
 · exact .inl ⟨q1,fun s=>by rw [←h4];exact q2 _,q3⟩
 · obtain ⟨s,rfl,rfl⟩:=zeQ q1;have hy:y=(.held v,[]):=(Option.some.inj q3).symm;subst hy;have hh:=has_true_of_atKey q4;rw [h3.has] at hh;obtain ⟨u,hu⟩:=Option.isSome_iff_exists.1 hh;have:=q4 (.held v);rw [((h3.2 s).2 u hu).2] at this;injection this with this;subst this;refine .inr ⟨s,u,w',cnt',by rw [←h4];exact q2,hu,q5,⟨D,_,q6,h2,h3,fun t=>by simp only [h4,zgU],fun kl hk=>h5 kl (by simp only [Bool.and_eq_true] at hk;exact hk.1)⟩,q7,zci q8,q9,q10⟩
end
section
def swK (k:Nat):Nat:=if k=1 then 2 else if k=2 then 1 else k
def swC (c:ChunkD):ChunkD:=⟨swK c.kind,c.b,c.t,c.o⟩
theorem zhT (b o t:List (List UInt8)):zV b t o=swK (zV b o t):=by
 unfold zV swK;by_cases h1:b=o
 · subst h1;by_cases h2:b=t
   · subst h2;simp
   · have h3:¬t=b:=fun e=>h2 e.symm;simp [h2,h3]
 · by_cases h2:b=t
   · subst h2;have h3:¬o=b:=fun e=>h1 e.symm;simp [h1,h3]
   · by_cases h3:o=t
     · subst h3;simp [h1]
     · have h4:¬t=o:=fun e=>h3 e.symm;simp [h1,h2,h3,h4]
theorem zfZ (l:List ChunkD) (b o t:List (List UInt8)):addC (l.map swC) b t o=(addC l b o t).map swC:=by
 unfold addC;rw [show b.length+t.length+o.length=b.length+o.length+t.length from by omega]
 split
 · rfl
 · rw [List.getLast?_map]
   cases h:l.getLast? with
   | none=>simp [swC,zhT b o t]
   | some p =>
    simp only [Option.map_some]
    have e:(zV b t o=0∧(swC p).kind=0)↔(zV b o t=0∧p.kind=0):=by
     rw [zhT];have key:∀k,swK k=0↔k=0:=fun k=>by unfold swK;split <;> (try split) <;> omega
     unfold swC;simp only [key]
    by_cases q:zV b o t=0∧p.kind=0
    · rw [if_pos q,if_pos (e.2 q),List.map_append,List.map_dropLast];simp [swC,swK]
    · rw [if_neg q,if_neg (fun h=>q (e.1 h)),List.map_append];simp [swC,zhT b o t]
def swS (s:CurC):CurC:=⟨s.out.map swC,s.f,s.j,s.i⟩
theorem zqO (b o t:List (List UInt8)) (s:CurC) (k:Nat) (x y:Int):zam b t o (swS s) k y x=swS (zam b o t s k x y):=by
 unfold zam;by_cases h:x<0∨y<0
 · rw [if_pos h,if_pos h.symm]
 · rw [if_neg h,if_neg fun q=>h q.symm];unfold swS;simp only
   rw [zfZ,zfZ]
theorem zj8 (b o t:List (List UInt8)):∀(l:List (Int×Int)) (k:Nat) (s:CurC),zaB b t o (l.map fun x=>(x.2,x.1)) k (swS s)=swS (zaB b o t l k s)
 | [],_,_=>rfl
 | (x,y)::l,k,s=>by
  show zaB b t o (l.map fun x=>(x.2,x.1)) (k+1) (zam b t o (swS s) k y x)=swS (zaB b o t l (k+1) (zam b o t s k x y));rw [zqO,zj8 b o t l]
theorem zlV {α β:Type}:∀(l:List α) (m:List β),m.zip l=(l.zip m).map fun x=>(x.2,x.1)
 | [],_=>by simp
 | _::_,[]=>by simp
 | x::l,y::m=>by simp [zlV l m]
theorem zt1 (b o t:List (List UInt8)):zac b t o=(zac b o t).map swC:=by
 unfold zac;simp only
 rw [zlV (zu (zx b o) 0) (zu (zx b t) 0)];have:=zj8 b o t ((zu (zx b o) 0).zip (zu (zx b t) 0)) 0 ⟨[],0,0,0⟩;rw [show swS ⟨[],0,0,0⟩=⟨[],0,0,0⟩ from rfl] at this;rw [this];unfold swS;simp only
 rw [zfZ]
def ChOk (c:ChunkD):Prop:=(c.kind=0∧c.b=c.o∧c.b=c.t)∨(c.kind=zV c.b c.o c.t∧c.kind≠0)
theorem zgr {l:List ChunkD} (h:∀c∈l,ChOk c) (b o t:List (List UInt8)):∀c∈addC l b o t,ChOk c:=by
 have h0:∀b o t:List (List UInt8),zV b o t=0→b=o∧b=t:=fun b o t e=>by
  unfold zV at e
  split at e
  · assumption
  · split at e
    · cases e
    · split at e
      · cases e
      · split at e <;> cases e
 have h1:ChOk ⟨zV b o t,b,o,t⟩:=by
  by_cases q:zV b o t=0
  · exact .inl ⟨q,h0 b o t q⟩
  · exact .inr ⟨rfl,q⟩
 unfold addC
 split
 · exact h
 · cases hl:l.getLast? with
   | none =>
    simp only
    intro c hc
    rcases List.mem_append.1 hc with q|q
    · exact h c q
    · rw [List.mem_singleton.1 q];exact h1
   | some p =>
    simp only
    split
    · rename_i hq
      intro c hc
      rcases List.mem_append.1 hc with q|q
      · exact h c (List.dropLast_subset _ q)
      · rw [List.mem_singleton.1 q];obtain ⟨e1,e2⟩:=h0 b o t hq.1
        rcases h p (List.mem_of_getLast? hl) with ⟨_,e3,e4⟩|⟨_,e3⟩
        · exact .inl ⟨rfl,by simp only [e1,e3],by simp only [←e2,←e4]⟩
        · exact absurd hq.2 e3
    · intro c hc
      rcases List.mem_append.1 hc with q|q
      · exact h c q
      · rw [List.mem_singleton.1 q];exact h1
theorem zkR (b o t:List (List UInt8)):∀(l:List (Int×Int)) (k:Nat) (s:CurC),(∀c∈s.out,ChOk c)→∀c∈(zaB b o t l k s).out,ChOk c
 | [],_,_,h=>h
 | (x,y)::l,k,s,h=>by
  refine zkR b o t l (k+1) _ ?_;unfold zam
  split
  · exact h
  · exact zgr (zgr h _ _ _) _ _ _
theorem zl4 (b o t:List (List UInt8)):∀c∈zac b o t,ChOk c:=by
 unfold zac;exact zgr (zkR b o t _ _ _ (by simp)) _ _ _
theorem zl1 {c:ChunkD} (h:ChOk c):(zbB (swC c)).length=(zbB c).length∧(c.kind≠4→zbB (swC c)=zbB c):=by
 obtain ⟨k,b,o,t⟩:=c
 rcases h with ⟨h1,h2,h3⟩|⟨h1,h2⟩
 · simp only at h1 h2 h3;subst h1;exact ⟨rfl,fun _=>rfl⟩
 · simp only at h1 h2;have hk:k≤4:=by
    rw [h1];unfold zV
    split
    · omega
    · split
      · omega
      · split
        · omega
        · split <;> omega
   rcases (by omega:k=1∨k=2∨k=3∨k=4) with rfl|rfl|rfl|rfl
   · exact ⟨rfl,fun _=>rfl⟩
   · exact ⟨rfl,fun _=>rfl⟩
   · have e:o=t:=by
      unfold zV at h1
      split at h1
      · cases h1
      · split at h1
        · assumption
        · split at h1
          · cases h1
          · split at h1 <;> cases h1
     subst e;exact ⟨rfl,fun _=>rfl⟩
   · refine ⟨?_,fun q=>absurd rfl q⟩;show (zaW++[10]++zD t++(zbf++[10]++zD b)++(zbn++[10]++zD o)++(zch++[10])).length=(zaW++[10]++zD o++(zbf++[10]++zD b)++(zbn++[10]++zD t)++(zch++[10])).length;simp only [List.length_append]
     omega
theorem zpu (k:Nat):(swK k !=4)=(k !=4):=by
 have key:swK k=4↔k=4:=by unfold swK;split <;> (try split) <;> omega
 rw [Bool.eq_iff_iff];simp [key]
theorem zjr (b o t:List UInt8):(zbL b t o=none∧zbL b o t=none)∨∃x y c,zbL b o t=some (x,c)∧zbL b t o=some (y,c)∧y.length=x.length∧(c=true→y=x):=by
 unfold zbL;by_cases h:(zf b).length≤4000∧(zf o).length≤4000∧(zf t).length≤4000
 · rw [if_pos h,if_pos ⟨h.1,h.2.2,h.2.1⟩];refine .inr ⟨_,zai ((zac (zf b) (zf o) (zf t)).map swC),_,rfl,?_,?_,?_⟩
   · rw [zt1,List.all_map]
     congr 2
     have:((fun c:ChunkD=>c.kind !=4) ∘ swC)=fun c=>c.kind !=4:=by
      funext c
      exact zpu c.kind
     rw [this]
   · have:=zl4 (zf b) (zf o) (zf t);generalize zac (zf b) (zf o) (zf t)=l at this
     induction l with
     | nil=>rfl
     | cons c l ih =>
      unfold zai at ih ⊢;rw [List.map_cons,List.flatMap_cons,List.flatMap_cons,List.length_append,List.length_append,(zl1 (this c (List.mem_cons_self ..))).1,ih fun d hd=>this d (List.mem_cons_of_mem _ hd)]
   · have:=zl4 (zf b) (zf o) (zf t);generalize zac (zf b) (zf o) (zf t)=l at this;intro hc
     induction l with
     | nil=>rfl
     | cons c l ih =>
      rw [List.all_cons,Bool.and_eq_true,bne_iff_ne] at hc;unfold zai at ih ⊢;rw [List.map_cons,List.flatMap_cons,List.flatMap_cons,(zl1 (this c (List.mem_cons_self ..))).2 hc.1,ih (fun d hd=>this d (List.mem_cons_of_mem _ hd)) hc.2]
 · rw [if_neg h,if_neg fun q=>h ⟨q.1,q.2.2,q.2.1⟩];exact .inl ⟨rfl,rfl⟩
end
end Go.Proofs.YtmkmbbjgepcioaaGreatDoor
