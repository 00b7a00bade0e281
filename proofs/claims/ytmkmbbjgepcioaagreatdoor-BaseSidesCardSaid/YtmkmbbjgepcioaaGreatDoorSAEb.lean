/- errors.As at a number's type (a worked proof of the kit's, turned to this seat); base.plain. No statement of the seat is proved here. -/
import Derived.Test.YtmkmbbjgepcioaaGreatDoorProg
import Derived.WalkKit
import Derived.LaidEql
import Derived.Stop.Asserts
import Derived.RowKitTokens
namespace Go.Proofs.YtmkmbbjgepcioaaGreatDoor
set_option maxHeartbeats 4000000
open Go.RowKit Go.Extern.Stop Go.Stop Go.Extern
theorem zte (t:Value) (w:World) :Calls Tryz.prog 37 #[.nilIface,t] w fun e w'=>e = .returned (.bool false)∧w'=w:=by
 go_enter Tryz.func37,Tryz.ntmps37
 go_wp2
 go_ret
 exact ⟨rfl,rfl⟩
theorem zpM (t:Addr) (w:World):(ReflectliteValue.unpack (.iface 105 (.pointer (some t)))).run Tryz.prog w = .ok (.agg #[.pointer (some ⟨4,105,none⟩),.pointer (some ⟨w.heap.size,0,none⟩),.int .u64 150]) (w.alloc (.cells #[.pointer (some t)] 105)):=by kernel_rfl
theorem zqZ (a:Addr) (w:World):(ReflectliteValue.methodAny (ReflectliteValue.valueError "reflectlite.Value.Type" 0) (fun t _ _ _=>ReflectliteType.toType t) #[.agg #[.pointer (some ⟨4,105,none⟩),.pointer (some a),.int .u64 150]]).run Tryz.prog w
    = .ok (.iface 197 (.agg #[.pointer (some ⟨4,105,none⟩)])) w:=by kernel_rfl
theorem zmz (h:Value) (w:World):(Go.method 530 197 (.agg #[h]) "Kind").run Tryz.prog w = .ok (311,h) w:=by kernel_rfl
theorem zp4 (w:World):((ReflectliteType.abiMethod fun t=>(fun a:Nat=>Value.int IntKind.u8 (a:Int)) <$> Rtype.kind t) #[.pointer (some ⟨4,105,none⟩)]).run Tryz.prog w = .ok (.int .u8 22) w:=by kernel_rfl
theorem zoO (w:World):((ReflectliteType.abiMethod fun t=>(fun a:Nat=>Value.int IntKind.u8 (a:Int)) <$> Rtype.kind t) #[.pointer (some ⟨4,94,none⟩)]).run Tryz.prog w = .ok (.int .u8 2) w:=by kernel_rfl
theorem rlm (z:Sem Value) (f:TypeId→Addr→Nat→Nat→Sem Value) (v:Value) :ReflectliteValue.method z f #[v]=(do match ←ReflectliteValue.parts v with|none=>z|some (t,a,fl)=>f t a fl (fl%32)):=rfl
theorem zke (a:Addr) (w:World):(ReflectliteValue.parts (.agg #[.pointer (some ⟨4,105,none⟩),.pointer (some a),.int .u64 150])).run Tryz.prog w = .ok (some (105,a,150)) w:=by kernel_rfl
theorem zp3 (a p:Addr) (W:World) (ha:W.cell? a=some (.pointer (some p))) :(ReflectliteValue.method (ReflectliteValue.valueError "reflectlite.Value.IsNil" 0) ReflectliteValue.isNil #[.agg #[.pointer (some ⟨4,105,none⟩),.pointer (some a),.int .u64 150]]).run Tryz.prog W = .ok (.bool false) W:=by
 rw [rlm];simp only [Sem.run_bind,zke,Result.andThen]
 simp [ReflectliteValue.isNil,loadVar,isAgg,underlying,Tryz.underlying105,ha,Result.andThen]
theorem zpV (h:Value) (w:World):(Go.method 530 197 (.agg #[h]) "Elem").run Tryz.prog w = .ok (325,.agg #[h]) w:=by kernel_rfl
theorem zoF (h:Value) (w:World):(Go.method 530 197 (.agg #[h]) "Implements").run Tryz.prog w = .ok (326,.agg #[h]) w:=by kernel_rfl
theorem znC (h:Value) (w:World):(Go.method 530 197 (.agg #[h]) "AssignableTo").run Tryz.prog w = .ok (323,.agg #[h]) w:=by kernel_rfl
theorem ztu (w:World):(ReflectliteType.method ReflectliteType.elem #[.agg #[.pointer (some ⟨4,105,none⟩)]]).run Tryz.prog w = .ok (.iface 197 (.agg #[.pointer (some ⟨4,94,none⟩)])) w:=by kernel_rfl
theorem zpA (w:World):(ReflectliteType.relation "Implements" ReflectliteType.implements_ #[.agg #[.pointer (some ⟨4,94,none⟩)],.iface 197 (.agg #[.pointer (some ⟨4,39,none⟩)])]).run Tryz.prog w = .ok (.bool true) w:=by kernel_rfl
theorem zrR (v:Value) (w:World):(ReflectliteType.typeOf #[.iface 94 v]).run Tryz.prog w = .ok (.iface 197 (.agg #[.pointer (some ⟨4,94,none⟩)])) w:=by kernel_rfl
theorem zmP (w:World):(ReflectliteType.relation "AssignableTo" ReflectliteType.assignableTo #[.agg #[.pointer (some ⟨4,94,none⟩)],.iface 197 (.agg #[.pointer (some ⟨4,94,none⟩)])]).run Tryz.prog w = .ok (.bool true) w:=by kernel_rfl
theorem zrp (e:Int) (w:World):(ReflectliteValue.unpack (.iface 94 (.int .i64 e))).run Tryz.prog w = .ok (.agg #[.pointer (some ⟨4,94,none⟩),.pointer (some ⟨w.heap.size,0,none⟩),.int .u64 130]) (w.alloc (.cells #[.int .i64 e] 94)):=by kernel_rfl
theorem zrW (w:World):(Rtype.elem? 105).run Tryz.prog w = .ok (some 94) w:=by kernel_rfl
theorem zps (p:Addr) (w:World):(ReflectliteValue.mk 94 p ReflectliteValue.flagAddr).run Tryz.prog w = .ok (.agg #[.pointer (some ⟨4,94,none⟩),.pointer (some p),.int .u64 386]) w:=by kernel_rfl
theorem zn7 (a p:Addr) (W:World) (ha:W.cell? a=some (.pointer (some p))) :(ReflectliteValue.method (ReflectliteValue.valueError "reflectlite.Value.Elem" 0) ReflectliteValue.elem #[.agg #[.pointer (some ⟨4,105,none⟩),.pointer (some a),.int .u64 150]]).run Tryz.prog W
     = .ok (.agg #[.pointer (some ⟨4,94,none⟩),.pointer (some p),.int .u64 386]) W:=by
 rw [rlm];simp only [Sem.run_bind,zke,Result.andThen]
 simp [ReflectliteValue.elem,loadVar,isAgg,underlying,Tryz.underlying105,ha,Result.andThen,zrW,zps]
theorem rls (v x:Value):ReflectliteValue.set #[v,x]=(do
    let (some (dst,a,fl),some (src,b,_)):=(←ReflectliteValue.parts v,←ReflectliteValue.parts x)
     | unsupported (.noEntry "extern/(internal/reflectlite.Value).Set.zeroValue")
    if fl / ReflectliteValue.flagAddr%2==0 then unsupported (.noEntry "extern/(internal/reflectlite.Value).Set.unaddressable")
    let val ←loadVar src b
    if ←Rtype.directlyAssignable dst src then storeVar dst a val
    else if ←Rtype.implements dst src then
     if (←Rtype.kind src)==20 then
      match val with
      | .nilIface=>unsupported (.noEntry "extern/reflectlite: a nil value of one interface type handed on as a value of another")
      | _=>storeVar dst a val
     else storeVar dst a (.iface src val)
    else panicString ("reflectlite.Set: value of type " ++ (←Rtype.spelt src) ++ " is not assignable to type " ++ (←Rtype.spelt dst))
    pure (.tuple #[])):=rfl
theorem zrb (a:Addr) (w:World):(ReflectliteValue.parts (.agg #[.pointer (some ⟨4,94,none⟩),.pointer (some a),.int .u64 386])).run Tryz.prog w = .ok (some (94,a,386)) w:=by kernel_rfl
theorem zmC (a:Addr) (w:World):(ReflectliteValue.parts (.agg #[.pointer (some ⟨4,94,none⟩),.pointer (some a),.int .u64 130])).run Tryz.prog w = .ok (some (94,a,130)) w:=by kernel_rfl
theorem zsq (w:World):(Rtype.directlyAssignable 94 94).run Tryz.prog w = .ok true w:=by kernel_rfl
theorem zne (ta b:Addr) (e:Int) (old:Value) (W:World) (hb:W.cell? b=some (.int .i64 e)) (ht:W.cell? ta=some old) (hf:W.frozen? ta=false) :(ReflectliteValue.set #[.agg #[.pointer (some ⟨4,94,none⟩),.pointer (some ta),.int .u64 386],.agg #[.pointer (some ⟨4,94,none⟩),.pointer (some b),.int .u64 130]]).run Tryz.prog W = .ok (.tuple #[]) (W.setCell ta (.int .i64 e)):=by
 rw [rls];simp only [Sem.run_bind,zrb,zmC,Result.andThen]
 simp [ReflectliteValue.flagAddr,loadVar,isAgg,underlying,Tryz.underlying94,hb,Result.andThen,zsq,storeVar,Value.cells,storeCells,Addr.add];rw [run_store Tryz.prog W ta _ _ (by rfl)];simp [ht,hf]
theorem zpR (e:Int) (t:Addr) (old:Value) (w:World) (hg:w.cell? ⟨0,0,none⟩=some (.iface 197 (.agg #[.pointer (some ⟨4,39,none⟩)]))) (ht0:w.cell? t=some old) (hf0:w.frozen? t=false) :Calls Tryz.prog 37 #[.iface 94 (.int .i64 e),.iface 105 (.pointer (some t))] w fun ev w'=>ev = .returned (.bool true)∧w'=((((w.alloc (.cells #[.pointer (some t)] 105)).alloc (.cells #[.pointer (some ⟨4,105,none⟩),.pointer (some ⟨w.heap.size,0,none⟩),.int .u64 150] 152)).alloc (.cells #[.pointer (some ⟨4,105,none⟩),.pointer (some ⟨w.heap.size,0,none⟩),.int .u64 150] 152)).alloc (.cells #[.int .i64 e] 94)).setCell t (.int .i64 e):=by
 have h6:=@run_callFunc_extern Tryz.prog 63 _ (fun args=>ReflectliteValue.unpack (args.getD 0 (.tuple #[]))) Tryz.func63 (by kernel_rfl) (by kernel_rfl) (by kernel_rfl) (by kernel_rfl);have h7:=@run_callFunc_extern Tryz.prog 64 _ (ReflectliteValue.methodAny (ReflectliteValue.valueError "reflectlite.Value.Type" 0) (fun t _ _ _=>ReflectliteType.toType t)) Tryz.func64 (by kernel_rfl) (by kernel_rfl) (by kernel_rfl) (by kernel_rfl);have h8:=@run_callFunc_extern Tryz.prog 65 _ (ReflectliteValue.method (ReflectliteValue.valueError "reflectlite.Value.IsNil" 0) ReflectliteValue.isNil) Tryz.func65 (by kernel_rfl) (by kernel_rfl) (by kernel_rfl) (by kernel_rfl);have h27:=@run_callFunc_extern Tryz.prog 311 _ (ReflectliteType.abiMethod fun t=>do pure (.int .u8 (←Rtype.kind t))) Tryz.func311 (by kernel_rfl) (by kernel_rfl) (by kernel_rfl) (by kernel_rfl);have h37:=@run_callFunc_extern Tryz.prog 325 _ (ReflectliteType.method ReflectliteType.elem) Tryz.func325 (by kernel_rfl) (by kernel_rfl) (by kernel_rfl) (by kernel_rfl);have h38:=@run_callFunc_extern Tryz.prog 326 _ (ReflectliteType.relation "Implements" ReflectliteType.implements_) Tryz.func326 (by kernel_rfl) (by kernel_rfl) (by kernel_rfl) (by kernel_rfl);have h10:=@run_callFunc_extern Tryz.prog 54 _ ReflectliteType.typeOf Tryz.func54 (by kernel_rfl) (by kernel_rfl) (by kernel_rfl) (by kernel_rfl);have h35:=@run_callFunc_extern Tryz.prog 323 _ (ReflectliteType.relation "AssignableTo" ReflectliteType.assignableTo) Tryz.func323 (by kernel_rfl) (by kernel_rfl) (by kernel_rfl) (by kernel_rfl);have h11:=@run_callFunc_extern Tryz.prog 99 _ (ReflectliteValue.method (ReflectliteValue.valueError "reflectlite.Value.Elem" 0) ReflectliteValue.elem) Tryz.func99 (by kernel_rfl) (by kernel_rfl) (by kernel_rfl) (by kernel_rfl);have h12:=@run_callFunc_extern Tryz.prog 100 _ ReflectliteValue.set Tryz.func100 (by kernel_rfl) (by kernel_rfl) (by kernel_rfl) (by kernel_rfl);have tO:=zrR;have mA:=znC;have a25:=zmP;have v25:=zrp;have f6:=zpM;have f7:=zqZ;have mK:=zmz;have mE:=zpV;have mI:=zoF;have k27:=zp4;have k25:=zoO;have e27:=ztu;have i25:=zpA;have n8:=zp3 ⟨w.heap.size,0,none⟩ t ((w.alloc (.cells #[.pointer (some t)] 105)).alloc (.cells #[.pointer (some ⟨4,105,none⟩),.pointer (some ⟨w.heap.size,0,none⟩),.int .u64 150] 152)) (by simp);have hlt:0<w.heap.size:=by
  rcases Nat.eq_zero_or_pos w.heap.size with h0|h
  · simp [World.cell?,h0] at hg
  · exact h
 have hg2:((w.alloc (.cells #[.pointer (some t)] 105)).alloc (.cells #[.pointer (some ⟨4,105,none⟩),.pointer (some ⟨w.heap.size,0,none⟩),.int .u64 150] 152)).cell? ⟨0,0,none⟩=some (.iface 197 (.agg #[.pointer (some ⟨4,39,none⟩)])):=by
  rw [World.cell?_alloc_lt _ _ ⟨0,0,none⟩ (by simp),World.cell?_alloc_lt _ _ ⟨0,0,none⟩ hlt];exact hg
 have htl:t.block<w.heap.size:=by
  rcases Nat.lt_or_ge t.block w.heap.size with h|h
  · exact h
  · simp [World.cell?,Array.getElem?_eq_none h] at ht0
 have el:=zn7 ⟨w.heap.size,0,none⟩ t (((w.alloc (.cells #[.pointer (some t)] 105)).alloc (.cells #[.pointer (some ⟨4,105,none⟩),.pointer (some ⟨w.heap.size,0,none⟩),.int .u64 150] 152)).alloc (.cells #[.pointer (some ⟨4,105,none⟩),.pointer (some ⟨w.heap.size,0,none⟩),.int .u64 150] 152)) (by rw [World.cell?_alloc_lt _ _ ⟨w.heap.size,0,none⟩ (by simp;omega)];simp);have st:=zne t ⟨w.heap.size+1+1+1,0,none⟩ e old ((((w.alloc (.cells #[.pointer (some t)] 105)).alloc (.cells #[.pointer (some ⟨4,105,none⟩),.pointer (some ⟨w.heap.size,0,none⟩),.int .u64 150] 152)).alloc (.cells #[.pointer (some ⟨4,105,none⟩),.pointer (some ⟨w.heap.size,0,none⟩),.int .u64 150] 152)).alloc (.cells #[.int .i64 e] 94))
  (by rw [World.cell?_alloc_at _ _ _ _ (by simp)];rfl)
  (by rw [World.cell?_alloc_lt _ _ t (by simp;omega),World.cell?_alloc_lt _ _ t (by simp;omega),World.cell?_alloc_lt _ _ t (by simp;omega),World.cell?_alloc_lt _ _ t htl];exact ht0)
  (by rw [World.frozen?_alloc_old _ _ t (by simp;omega),World.frozen?_alloc_old _ _ t (by simp;omega),World.frozen?_alloc_old _ _ t (by simp;omega),World.frozen?_alloc_old _ _ t (Nat.ne_of_lt htl)];exact hf0)
 go_enter Tryz.func37,Tryz.ntmps37
 go_wp2
 refine wp_loop_rounds 1 ?_;rw [rounds_succ]
 go_wp2
 go_ret
 exact ⟨rfl,rfl⟩
end Go.Proofs.YtmkmbbjgepcioaaGreatDoor
