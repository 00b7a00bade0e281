/- Contract of base.plain. No statement of the seat is proved here. -/
import Derived.Test.YtmkmbbjgepcioaaGreatDoorSAHq
import Derived.Test.YtmkmbbjgepcioaaGreatDoorSAEb
import Derived.Test.YtmkmbbjgepcioaaGreatDoorSA01
import Derived.Deep.DeepCutAuto
namespace Go.Proofs.YtmkmbbjgepcioaaGreatDoor
set_option maxRecDepth 100000
open Go.RowKit
theorem zmy (w:World):Calls Tryz.prog 25 #[.nilIface] w fun e w'=>e = .returned .nilIface∧Below w.heap.size w w':=by
 have b1:=(Below.refl w.heap.size w).alloc (Nat.le_refl _) (.cells #[.int .i64 0] 94);have HB:=zz b1;clear b1;go_enter Tryz.func25,Tryz.ntmps25
 go_wp2_with (go_at_call 37;(with_reducible refine (zte _ _).mono ?_);rintro _ w1 ⟨rfl,rfl⟩)
 go_ret
 exact ⟨rfl,HB.out⟩
theorem zit (k:Int) (w:World) (hg:w.cell? ⟨0,0,none⟩=some (.iface 197 (.agg #[.pointer (some ⟨4,39,none⟩)]))) :Calls Tryz.prog 25 #[.iface 94 (.int .i64 k)] w fun e w'=>e = .returned (if k=0 then .nilIface else .iface 94 (.int .i64 k))∧Below w.heap.size w w':=by
 have h1:(w.alloc (.cells #[.int .i64 0] 94)).cell? ⟨0,0,none⟩=some (.iface 197 (.agg #[.pointer (some ⟨4,39,none⟩)])):=by
  rw [World.cell?_alloc_lt _ _ ⟨0,0,none⟩ (by
   rcases Nat.eq_zero_or_pos w.heap.size with h0|h
   · simp [World.cell?,h0] at hg
   · exact h)]
  exact hg
 have q0:Blk (w.alloc (.cells #[.int .i64 0] 94)) w.heap.size 94 #[.int .i64 0]:=Blk.new _ _ _;have hs:w.heap.size+1=(w.alloc (.cells #[.int .i64 0] 94)).heap.size:=by simp
 have b1:=(Below.refl w.heap.size w).alloc (Nat.le_refl _) (.cells #[.int .i64 0] 94)
 have HA:Hid (Calls Tryz.prog 37 #[.iface 94 (.int .i64 k),.iface 105 (.pointer (some ⟨w.heap.size,0,none⟩))] (w.alloc (.cells #[.int .i64 0] 94)) fun e w'=>e = .returned (.bool true)∧Blk w' w.heap.size 94 #[.int .i64 k]∧Below w.heap.size w w'):=zz ((zpR k ⟨w.heap.size,0,none⟩ (.int .i64 0) _ h1 (by simp) (q0.frozen 0)).mono (by
  rintro e w' ⟨rfl,rfl⟩;generalize w.alloc (.cells #[.int .i64 0] 94)=wa at *;refine ⟨rfl,((((q0.alloc _).alloc _).alloc _).alloc _).set_ 0 (.int .i64 k),?_⟩;exact ((((b1.alloc (by omega) _).alloc (by simp;omega) _).alloc (by simp;omega) _).alloc (by simp;omega) _).setCell (p:=⟨w.heap.size,0,none⟩) (Nat.le_refl _) _))
 clear q0 hs b1 h1 hg;go_enter Tryz.func25,Tryz.ntmps25
 go_upto_region 3 with (go_at_call 37;(with_reducible refine HA.out.mono ?_);rintro _ w1 ⟨rfl,hb,hbe⟩;have HB:=zz hb;have HE:=zz hbe;clear hb hbe)
 have d0:w1.cell? ⟨w.heap.size,0,none⟩=some (.int .i64 k):=by simpa using HB.out.cell 0
 by_cases hk:k=0
 · subst hk
   go_wp2_with fail
   go_ret
   exact ⟨rfl,HE.out⟩
 · have d1:(k==0)=false:=by simpa using hk
   go_wp2_with fail
   go_ret
   exact ⟨rfl,HE.out⟩
end Go.Proofs.YtmkmbbjgepcioaaGreatDoor
