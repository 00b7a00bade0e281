/- Contracts of the small functions of package codec: fail, must, none. No statement of the seat is proved here. -/
import Derived.Test.YtmkmbbjgepcioaaGreatDoorRows
import Derived.Test.YtmkmbbjgepcioaaGreatDoorSA01
import Derived.BigQuiet
import Derived.Deep.QuietTactic
namespace Go.Proofs.YtmkmbbjgepcioaaGreatDoor
open Go.RowKit
def bv (x:UInt8):Value := .int .u8 (x.toNat:Int)
abbrev Id:={l:List UInt8 // l.length=32}
def idL (i:Id):List Value:=i.1.map bv
def idC (i:Id):Array Value:=(idL i).toArray
def idV (i:Id):Value := .agg (idC i)
theorem za2 (i:Id):(idL i).length=32:=by simp [idL,i.2]
theorem zy (i:Id):(idC i).size=32:=by simp [idC,za2]
theorem zbq (i:Id):∀v∈idL i,v.oneCell'=true:=by
 intro v hv;obtain ⟨x,_,rfl⟩:=List.mem_map.1 hv;rfl
def noId:Id:=⟨List.replicate 32 0,by simp⟩
def isNone (i:Id):Bool:=i==noId
theorem zk9 (i:Id):idC i=((i.1.map fun x=>(x.toNat:Int)).map (Value.int .u8)).toArray:=by
 unfold idC idL;rw [List.map_map];rfl
theorem zq8 (i j:Id):((i.1.map fun x=>(x.toNat:Int))==(j.1.map fun x=>(x.toNat:Int)))=(i==j):=by
 rw [Bool.eq_iff_iff];simp only [beq_iff_eq]
 constructor
 · intro h;apply Subtype.ext;have hinj:∀a b:List UInt8,a.map (fun x=>(x.toNat:Int))=b.map (fun x=>(x.toNat:Int))→a=b:=by
    intro a
    induction a with
    | nil=>intro b h;cases b <;> simp_all
    | cons x a ih =>
     intro b h
     cases b with
     | nil=>simp at h
     | cons y b =>
      simp only [List.map_cons,List.cons.injEq] at h;rw [ih b h.2,UInt8.toNat_inj.1 (Int.ofNat_inj.1 h.1)]
   exact hinj _ _ h
 · rintro rfl;rfl
theorem zaN:(Tryz.prog.info? 33).map (·.size)=some 32:=by kernel_rfl
theorem zs6:(Tryz.prog.info? 5).map (·.size)=some 1:=by kernel_rfl
theorem zdD (w:World) (i j:Id):(binOp .eql 33 (idV i) (idV j)).run Tryz.prog w = .ok (.bool (i==j)) w:=by
 obtain ⟨inf,hi,hs⟩:∃inf,Tryz.prog.info? 5=some inf∧inf.size=1:=by
  have:=zs6
  cases h:Tryz.prog.info? 5 with
  | none=>rw [h] at this;cases this
  | some inf=>exact ⟨inf,rfl,by rw [h] at this;simpa using this⟩
 have h:=zr1 (P:=Tryz.prog) w 9998 (t:=33) (len:=32) Tryz.underlying33 Tryz.underlying5 hi hs (i.1.map fun x=>(x.toNat:Int)) (j.1.map fun x=>(x.toNat:Int)) (by simp [i.2]) (by simp [j.2]);rw [←zk9,←zk9,zq8] at h;show (binOp .eql 33 (.agg (idC i)) (.agg (idC j))).run Tryz.prog w=_;rw [run_eql_struct,h];rfl
theorem zts:Tryz.prog.eqGuardType Tryz.prog.depth 33=false:=by kernel_rfl
theorem zfg (op:BinOp) (x y:Operand) (i j:Id) (w:World):(eqGuard op 33 x y (idV i) (idV j)).run Tryz.prog w = .ok () w :=
 run_eqGuard_agg (P:=Tryz.prog) w op 33 x y (idC i) (idC j) zts
theorem zm0 {w:World} {g:Nat} {t:TypeId} {i:Id} (h:Blk w g t (idC i)):(Instr.loadAt 33 (.pointer (some ⟨g,0,none⟩))).run Tryz.prog w = .ok (idV i) w :=
 zcd (P:=Tryz.prog) h 0 (idC i) Tryz.underlying33 rfl (by rw [zy];exact zaN) (by simp)
theorem zbF (w:World):(zeroValue 33).run Tryz.prog w = .ok (idV noId) w:=by kernel_rfl
end Go.Proofs.YtmkmbbjgepcioaaGreatDoor
