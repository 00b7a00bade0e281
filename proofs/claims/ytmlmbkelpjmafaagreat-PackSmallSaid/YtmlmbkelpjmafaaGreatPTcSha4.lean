/- Contracts of sum's Sum and Of. No statement of the seat is proved here. -/
import Derived.Test.YtmlmbkelpjmafaaGreatPTcSha3
namespace Go.Proofs.YtmlmbkelpjmafaaGreat
open Go.RowKit
def byteAt (x : UInt32) (k : Nat) : UInt8 := UInt8.ofNat (x.toNat / 2 ^ (24 - 8 * k))
def outW (l : List UInt32) : List UInt8 := l.flatMap (fun x => [byteAt x 0, byteAt x 1, byteAt x 2, byteAt x 3])
theorem outW_len (l : List UInt32) : (outW l).length = 4 * l.length := by
 induction l with
 | nil => rfl
 | cons x l ih => simp only [outW, List.flatMap_cons, List.length_append, List.length_cons, List.length_nil] at *; omega
theorem outW_at (l : List UInt32) (i k : Nat) (hi : i < l.length) (hk : k < 4) : (outW l)[4 * i + k]? = some (byteAt (l.getD i 0) k) := by
 induction l generalizing i with
 | nil => simp at hi
 | cons x l ih =>
  cases i with
  | zero =>
   match k, hk with
   | 0, _ | 1, _ | 2, _ | 3, _ => rfl
  | succ i =>
   have := ih i (by simpa using hi)
   rw [show 4 * (i + 1) + k = (4 * i + k) + 4 by omega]
   simpa [outW] using this
def padB (n L : Nat) : List UInt8 := (128 :: List.replicate ((119 - n) % 64) 0) ++ be 8 (L * 8)
def shaM (b : List UInt8) : List UInt8 := b ++ padB (b.length % 64) b.length
def shaB (b : List UInt8) : List UInt8 := outW (stU (blk (shaM b) ((shaM b).length / 64)))
theorem shaB_len (b : List UInt8) : (shaB b).length = 32 := outW_len _
def sha (b : List UInt8) : Id := ⟨shaB b, shaB_len b⟩
theorem byte_u8 (x : UInt32) (k : Nat) : ((x.toNat : Int) / (2 ^ (24 - 8 * k) : Nat)) % 256 = ((byteAt x k).toNat : Int) := by
 unfold byteAt
 rw [UInt8.toNat_ofNat']
 omega
theorem zero_hash (w : World) : (zeroValue 103).run Tryz.prog w = .ok (.agg (hashC st0 (List.replicate 64 0) 0 0)) w := by kernel_rfl
theorem info_hash : (Tryz.prog.info? 103).map (·.size) = some 74 := by kernel_rfl
theorem hash_one (s : St) (wt : List UInt8) (n all : Int) : ∀ v ∈ (hashC s wt n all).toList, v.oneCell' = true := by
 intro v hv
 simp only [hashC, hashL, List.mem_append, List.mem_cons, List.not_mem_nil, or_false] at hv
 rcases hv with (hv | hv) | rfl | rfl
 · exact u32_one _ v hv
 · exact bvs_one _ v hv
 · rfl
 · rfl
theorem load_hash {w : World} {g : Nat} {t : TypeId} {s : St} {wt : List UInt8} {n all : Int} (h : Blk w g t (hashC s wt n all)) (hw : wt.length = 64) : (Instr.loadAt 103 (.pointer (some ⟨g, 0, none⟩))).run Tryz.prog w = .ok (.agg (hashC s wt n all)) w :=
 run_loadAt_blk (P := Tryz.prog) h 0 (hashC s wt n all) Tryz.underlying103 rfl (by rw [hashC_size _ _ _ _ hw]; exact info_hash) (by simp)
theorem made_bytes (n : Nat) : madeCells #[Value.int .u8 0] (n * 1) = ((List.replicate n (0 : UInt8)).map bv).toArray := by
 apply Array.ext'
 apply List.ext_getElem
 · simp [madeCells]
 · intro i h1 h2
   simp [madeCells, bv, Nat.mod_one]
theorem wpList_make_bytes {ops : Array Oper} {rest : List Oper} {o : Oper} {a : Act} {w : World} {Q : Exit → Act → World → Prop} (hgd : o.guard = none) {l c : Operand} (ho : o.op = .makeSlice 22 l c) (n : Nat) (hn : n ≤ 1000000) {Z Y : Int} (hl : a.eval l = .int .i64 Z) (hc : a.eval c = .int .i64 Y) (hZ : Z = (n : Int)) (hY : Y = (n : Int))
    (h : wpList Tryz.prog ops Q rest (a.put o.dst (.slice (some ⟨w.heap.size, 0, none⟩) n n)) (w.alloc (.cells ((List.replicate n (0 : UInt8)).map bv).toArray 5))) : wpList Tryz.prog ops Q (o :: rest) a w :=
 wpList_plain hgd fun _ hK => by
  obtain ⟨i, hi, h1, h2, h3⟩ := info_parts (show (Tryz.prog.info? 5).map (fun i => (i.zero, i.size, i.bytes)) = some (some (.int .u8 0), 1, 1) by kernel_rfl)
  have hrun := run_makeSlice (P := Tryz.prog) w 22 5 i (.int .u8 0) Tryz.underlying22 hi h1 .i64 .i64 (n : Int) (n : Int) (by omega) (Int.le_refl _) (by rw [h2]; simp; omega) (by rw [h3]; omega) (by omega)
  rw [Int.toNat_natCast, h2] at hrun
  rw [show (Value.int .u8 0).cells = #[Value.int .u8 0] from rfl, made_bytes] at hrun
  subst hZ hY
  unfold Oper.wp execOp
  simp only [ho, hl, hc, Sem.run_bind, hrun, Result.andThen_ok, Sem.run_pure]
  exact hK _ _ h
theorem own_blk {w : World} {g base : Nat} {l : List UInt8} (h : Blk w g 5 (l.map bv).toArray) (hb : base ≤ g) (hl : l.length ≤ maxLen) : Own w base 5 1 (some ⟨g, 0, none⟩) l.length l.length (l.map bv) :=
 ⟨by simp, .inr ⟨g, l.length, (l.map bv).toArray, rfl, hb, h, Nat.le_refl _, hl, by simp, by simpa using List.take_of_length_le (by simp)⟩⟩
theorem Own.apart {w : World} {base g : Nat} {e : TypeId} {size : Nat} {A : Option Addr} {n c : Nat} {xs : List Value} (h : Own w base e size A n c xs) (hg : g < base) : Apart n g A := by
 intro _ ad hA
 rcases h.2 with ⟨hv, _⟩ | ⟨g', cap, cur, hv, hbg, _⟩
 · injection hv with hv _ _
   rw [hv] at hA
   cases hA
 · injection hv with hv _ _
   rw [hv] at hA
   injection hA with hA
   rw [← hA]
   show g' ≠ g
   omega
theorem pad_at (z : Nat) : ((List.replicate (z + 1) (0 : UInt8)).map bv).toArray[0]? = some (bv 0) := by simp [List.replicate_succ]
theorem pad_set (z : Nat) : ((List.replicate (z + 1) (0 : UInt8)).map bv).toArray.setIfInBounds 0 (.int .u8 128) = ((128 :: List.replicate z (0 : UInt8)).map bv).toArray := by
 apply Array.ext'
 simp [List.replicate_succ]
 rfl
set_option maxHeartbeats 4000000 in
set_option maxRecDepth 100000 in
theorem sum_any (t : List UInt8) (g : Nat) (w : World) (hh : HashI w g t) (ht : t.length ≤ 100000000000) :
    Calls Tryz.prog 27 #[.pointer (some ⟨g, 0, none⟩)] w fun r w' => r = .returned (idV (sha t)) ∧ Keep Nothing w w' := by
 obtain ⟨wt, hb, hwt⟩ := hh
 have lg := hb.lt
 have HW := Lib.hid hwt
 have HM := Lib.hid (show shaM t = t ++ padB (t.length % 64) t.length from rfl)
 have HSH := Lib.hid (show (sha t).1 = outW (stU (blk (shaM t) ((shaM t).length / 64))) from rfl)
 obtain ⟨ID, hID⟩ : ∃ ID, sha t = ID := ⟨_, rfl⟩
 rw [hID] at HSH
 rw [hID]
 clear hID hwt
 obtain ⟨ST, hST⟩ : ∃ ST, blk t (t.length / 64) = ST := ⟨_, rfl⟩
 obtain ⟨nn, hnn⟩ : ∃ nn, t.length % 64 = nn := ⟨_, rfl⟩
 obtain ⟨z, hz⟩ : ∃ z, (119 - nn) % 64 = z := ⟨_, rfl⟩
 have hn64 : nn < 64 := by omega
 have hz64 : z < 64 := by omega
 have hzi : ((119 : Int) - (nn : Int)) % 64 = (z : Int) := by omega
 rw [hST, hnn] at hb
 rw [hnn] at HM
 have HP := Lib.hid (show padB nn t.length = (128 :: List.replicate z 0) ++ be 8 (t.length * 8) from by unfold padB; rw [hz])
 have HST := Lib.hid hST
 have HNN := Lib.hid hnn
 clear hST hnn hz
 obtain ⟨L, hL⟩ : ∃ L, t.length = L := ⟨_, rfl⟩
 rw [hL] at hb
 have HL := Lib.hid hL
 have hLb : L ≤ 100000000000 := by omega
 clear hL ht
 have q1 : Blk (w.alloc (.cells (idC noId) 29)) w.heap.size 29 (idC noId) := Blk.new _ _ _
 have k0 : Keep Nothing w (w.alloc (.cells (idC noId) 29)) := (Keep.refl _ _).alloc _
 have b0 := (hb.alloc (.cells (idC noId) 29))
 have hzs : (hashC st0 (List.replicate 64 0) 0 0).size = (hashC ST wt (nn : Int) (L : Int)).size := by rw [hashC_size _ _ _ _ HW.out.1, hashC_size _ _ _ _ (by simp)]
 have HZS := Lib.hid hzs
 have hzh := zero_hash
 have HZH := Lib.hid hzh
 clear hzs hzh
 generalize hashC st0 (List.replicate 64 0) 0 0 = ZH at *
 go_enter Tryz.func27, Tryz.ntmps27
 go_wp2_with (first | (refine wpList_allocAgg rfl rfl (zero_noId _) ?_; generalize w.alloc (.cells (idC noId) 29) = w1 at *) | (refine wpList_load rfl rfl rfl (load_hash b0 HW.out.1) ?_) | (refine wpList_allocAgg rfl rfl (HZH.out _) ?_) | (refine wpList_storeBlk rfl rfl (vs := hashC ST wt (nn : Int) (L : Int)) rfl rfl (Blk.new _ _ _) HZS.out (by rw [hashC_size _ _ _ _ HW.out.1]; exact info_hash) (hash_one _ _ _ _) ?_; intro w2 hc2 hkc hzc; clear hzc; have cn := (hc2.cell 72).trans (hashC_n HW.out.1).1) | (refine wpList_make_bytes rfl rfl (z + 1) (by omega) rfl rfl (by omega) (by omega) ?_; have hp3 := Blk.new w2 5 ((List.replicate (z + 1) (0 : UInt8)).map bv).toArray; have hc3 := hc2.alloc (.cells ((List.replicate (z + 1) (0 : UInt8)).map bv).toArray 5); have k3 : Keep Nothing w1 (w2.alloc (.cells ((List.replicate (z + 1) (0 : UInt8)).map bv).toArray 5)) := (Keep.ofNew hkc).alloc _; have y3 : w1.heap.size < w2.heap.size := hc2.lt; generalize w2.alloc (.cells ((List.replicate (z + 1) (0 : UInt8)).map bv).toArray 5) = w3 at *; generalize w2.heap.size = pb at *; have c3 := (hp3.cell 0).trans (pad_at z); have f3 := hp3.frozen 0))
 have hp4 := hp3.set_ 0 (.int .u8 128)
 rw [pad_set] at hp4
 have hc4 := hc3.far (p := ⟨pb, 0, none⟩) (by simp; omega) (.int .u8 128)
 have yk := k0.size
 have k4 : Keep Nothing w1 (w3.setCell ⟨pb, 0, none⟩ (.int .u8 128)) := k3.setCell (p := ⟨pb, 0, none⟩) (.inr (by simp; omega)) _
 have z4 : w3.heap.size ≤ (w3.setCell ⟨pb, 0, none⟩ (.int .u8 128)).heap.size := by simp [World.setCell]
 have lp3 := hp3.lt
 generalize w3.setCell ⟨pb, 0, none⟩ (.int .u8 128) = w4 at *
 have hb4 := (hb.keep k0 (fun h => h)).keep k4 (fun h => h)
 have q4 := q1.keep k4 (fun h => h)
 have lq1 := q1.lt
 generalize hqq : w.heap.size = q at *
 have hqle : w.heap.size ≤ q := by omega
 clear hqq
 generalize w1.heap.size = cc at *
 clear q1 b0 hc2 hkc cn hp3 hc3 k3 c3 f3
 have o4 := own_blk (base := pb) hp4 (Nat.le_refl _) (by simp; unfold maxLen; omega)
 obtain ⟨P0, hP0⟩ : ∃ P0, (128 :: List.replicate z (0 : UInt8)) = P0 := ⟨_, rfl⟩
 have hPl : P0.length = z + 1 := by rw [← hP0]; simp
 rw [hP0] at o4 hp4 HP
 have hsl : z + 1 = P0.length := hPl.symm
 rw [hsl]
 have HPL := Lib.hid hPl
 clear hP0 hPl hsl
 obtain ⟨V, hV⟩ : ∃ V, L * 8 = V := ⟨_, rfl⟩
 have hw8 : IntKind.u64.wrap ((L : Int) * 8) = (V : Int) := by simp [IntKind.wrap, IntKind.signed, IntKind.bits]; omega
 have HV := Lib.hid hV
 clear hV
 go_loopg [4, 5] 8 (fun f s4 s5 wr => ∃ bs A' c', f ≤ 8 ∧ s5 = .int .i64 (8 * (f : Int) - 8) ∧ s4 = .slice A' bs.length c' ∧ bs ++ be f V = P0 ++ be 8 V ∧ Own wr pb 5 1 A' bs.length c' (bs.map bv) ∧ Kept pb [5] [] w4 wr ∧ bs.length ≤ 73)
 case atStart => exact ⟨P0, some ⟨pb, 0, none⟩, P0.length, Nat.le_refl _, rfl, rfl, rfl, o4, Kept.refl _ _ _ _, by rw [HPL.out]; omega⟩
 case round =>
  clear hp4 o4
  obtain ⟨bs, A', c', hf8, rfl, rfl, hpre, ho, hkp, hbl⟩ := hrel
  have HPR := Lib.hid hpre
  have hbl2 : bs.length + gk = P0.length + 8 := by have := congrArg List.length hpre; simpa [be_len] using this
  clear hpre
  have zz := hkp.size
  cases gk with
  | zero =>
   have hbs : bs = padB nn t.length := by
    have := HPR.out
    rw [show be 0 V = [] from rfl, List.append_nil] at this
    rw [HP.out, this, HL.out, HV.out]
   have HBS := Lib.hid hbs
   clear hbs hbl2
   have hc5 := hkp.blk hc4 (by simp) (by decide)
   have q5 := hkp.blk q4 (by simp) (by decide)
   have lc5 := hc5.lt
   have hap := ho.apart (g := cc) y3
   have HAP := Lib.hid hap
   have hcm := ho.cap_le
   clear hap
   go_wp2_with fail
   have rv : Reads (wr.alloc (.cells #[.slice A' bs.length c'] 22)) (wr.heap.size + 1) 1 (some ⟨wr.heap.size, 0, none⟩) 1 [.slice A' bs.length c'] := Reads.of_cells (n := 1) (heap_alloc_new _ _) rfl rfl
   have hrs : RowsAt (wr.alloc (.cells #[.slice A' bs.length c'] 22)) (wr.heap.size + 1) cc (some ⟨wr.heap.size, 0, none⟩) [⟨A', c', bs⟩] := by
    refine ⟨⟨rv, fun _ ad e => ?_⟩, fun r hr => ?_⟩
    · injection e with e
      rw [← e]
      show wr.heap.size ≠ cc
      omega
    · simp only [List.mem_singleton] at hr
      subst hr
      exact ⟨((ho.reads.alloc (Nat.le_refl _) _).more (Nat.le_succ _)), HAP.out, hcm.1, hcm.2⟩
   have hh : HashI (wr.alloc (.cells #[.slice A' bs.length c'] 22)) cc t := by
    refine ⟨wt, ?_, HW.out⟩
    have := hc5.alloc (.cells #[.slice A' bs.length c'] 22)
    rw [HST.out, HNN.out, HL.out]
    exact this
   have q6 := q5.alloc (.cells #[.slice A' bs.length c'] 22)
   have z6 : wr.heap.size + 1 ≤ (wr.alloc (.cells #[.slice A' bs.length c'] 22)).heap.size := by simp
   have k6 : Keep (Only cc) w (wr.alloc (.cells #[.slice A' bs.length c'] 22)) := ((k0.trans k4).then_ (hkp.alloc _) (fun i hi h => by
    rcases h with h | ⟨h, _⟩
    · simp at h
    · omega)).mono (fun _ _ h => h.elim)
   have hrow : rowsB [⟨A', c', bs⟩] = bs := by simp [rowsB]
   generalize wr.alloc (.cells #[.slice A' bs.length c'] 22) = w6 at *
   clear hc5 q5 ho hkp rv hb4 hc4 q4 k4 k0
   refine (write_any [⟨A', c', bs⟩] _ 1 t cc _ _ hh hrs z6 (by rw [hrow]; have := HL.out; omega) (by simp)).mono ?_
   rintro r w7 ⟨rfl, hi7, hk7⟩
   rw [hrow, HBS.out, ← HM.out] at hi7
   have q7 := q6.keep hk7 (by unfold Only; omega)
   have k7 := k6.trans hk7
   have z7 := hk7.size
   clear hh hrs q6 k6 hk7 hrow HAP
   obtain ⟨wt7, hb7, hw7⟩ := hi7
   obtain ⟨S7, hS7⟩ : ∃ S7, blk (shaM t) ((shaM t).length / 64) = S7 := ⟨_, rfl⟩
   rw [hS7] at hb7
   have HO := Lib.hid (show ID.1 = outW (stU S7) from by rw [HSH.out, hS7])
   clear hS7 HSH
   generalize (((shaM t).length % 64 : Nat) : Int) = n7 at *
   generalize ((shaM t).length : Int) = a7 at *
   have k8 : Keep (Only cc) w (w7.alloc (.cells (idC noId) 29)) := k7.alloc _
   have o8 : Blk (w7.alloc (.cells (idC noId) 29)) w7.heap.size 29 (idC noId) := Blk.new _ _ _
   have q8 := q7.alloc (.cells (idC noId) 29)
   have hb8 := hb7.alloc (.cells (idC noId) 29)
   have k9 : Keep Nothing w (w7.alloc (.cells (idC noId) 29)) := k8.mono (fun i hi h => by unfold Only at h; omega)
   obtain ⟨OB, hOB⟩ : ∃ OB, outW (stU S7) = OB := ⟨_, rfl⟩
   have hOat : ∀ i k, i < 8 → k < 4 → OB[4 * i + k]? = some (byteAt ((stU S7).getD i 0) k) := fun i k h1 h2 => by rw [← hOB]; exact outW_at (stU S7) i k h1 h2
   have HOAT := Lib.hid hOat
   have HID := Lib.hid (show ID.1 = OB from by rw [HO.out, hOB])
   have hix := fun W j hj => index_st W S7 j hj
   have HIX := Lib.hid hix
   have hl7 := load_st hb8 hw7.1
   clear hOB hOat hix HO k8
   obtain ⟨TC, hTC⟩ : ∃ TC, stC S7 = TC := ⟨_, rfl⟩
   rw [hTC] at hl7 HIX
   have HLD := Lib.hid hl7
   clear hTC hl7
   have lo8 := o8.lt
   go_wp2_with (first | (refine wpList_allocAgg rfl rfl (zero_noId _) ?_; generalize w7.alloc (.cells (idC noId) 29) = w8 at *; generalize w7.heap.size = ob at *) | (refine wpList_load rfl rfl rfl HLD.out ?_))
   generalize stU S7 = SU at *
   go_loopg [41] 8 (fun f i wr => ∃ j : Nat, j + f = 8 ∧ i = .int .i64 j ∧ Blk wr ob 29 (spl (idC noId) 0 ((OB.take (4 * j)).map bv)) ∧ Blk wr q 29 (idC noId) ∧ Keep Nothing w wr)
   case atStart => exact ⟨0, by omega, rfl, by simpa [spl] using o8, q8, k9⟩
   case round =>
    clear o8 q8 k9 HLD hb8 q7 hb7
    obtain ⟨j, hjf, rfl, ho, hqb, hk⟩ := hrel
    have HJF := Lib.hid hjf
    have hj8 : j ≤ 8 := by omega
    clear hjf
    by_cases hlt : j < 8
    · have hix := fun W => HIX.out W j hlt
      have hat := fun k h => HOAT.out j k hlt h
      generalize SU.getD j 0 = x at *
      have HAT := Lib.hid hat
      clear hat
      go_wp2_with fail
      clear hix
      go_loopg [45] 4 (fun f i wr => ∃ m : Nat, m + f = 4 ∧ i = .int .i64 m ∧ Blk wr ob 29 (spl (idC noId) 0 ((OB.take (4 * j + m)).map bv)) ∧ Blk wr q 29 (idC noId) ∧ Keep Nothing w wr)
      case atStart => exact ⟨0, by omega, rfl, ho, hqb, hk⟩
      case round =>
       clear ho hqb hk
       obtain ⟨m, hmf, rfl, ho, hqb, hk⟩ := hrel
       have HMF := Lib.hid hmf
       have hm4 : m ≤ 4 := by omega
       clear hmf
       by_cases hlm : m < 4
       · have hb1 := HAT.out m hlm
         have hbo : 4 * j + m < OB.length := (List.getElem?_eq_some_iff.1 hb1).1
         have hbv := byte_u8 x m
         have hset : (spl (idC noId) 0 ((OB.take (4 * j + m)).map bv)).setIfInBounds (4 * j + m) (bv (byteAt x m)) = spl (idC noId) 0 ((OB.take (4 * j + m + 1)).map bv) := by
          have := spl_snoc (idC noId) ((OB.take (4 * j + m)).map bv) (bv (byteAt x m)) (by simp [idC_size]; omega)
          rw [show ((OB.take (4 * j + m)).map bv).length = 4 * j + m by simp; omega] at this
          rw [this, List.take_succ_eq_append_getElem hbo, List.map_append, List.map_singleton]
          rw [List.getElem?_eq_getElem hbo] at hb1
          injection hb1 with hb1
          rw [hb1]
         obtain ⟨v0, hv0⟩ : ∃ v0, (spl (idC noId) 0 ((OB.take (4 * j + m)).map bv))[4 * j + m]? = some v0 := ⟨_, Array.getElem?_eq_getElem (by simp [spl, idC_size]; omega)⟩
         have c1 := (ho.cell (4 * j + m)).trans hv0
         have f1 := ho.frozen (4 * j + m)
         have HST2 := Lib.hid hset
         have hxl := u32_lt x
         generalize byteAt x m = y at *
         generalize x.toNat = xn at *
         clear hset hb1 hbo hv0
         have hm : m = 0 ∨ m = 1 ∨ m = 2 ∨ m = 3 := by omega
         have i0 : (0 : Int) ≤ (j : Int) := by omega
         rcases hm with rfl | rfl | rfl | rfl
         · simp at hbv
           have hbv2 : (xn : Int) / 16777216 = (y.toNat : Int) := by omega
           have c2 : wr.cell? ⟨ob, 4 * j, none⟩ = some v0 := c1
           have f2 : wr.frozen? ⟨ob, 4 * j, none⟩ = false := f1
           clear c1 f1
           go_wp2_with fail
           go_roundg (gk - 1)
           case measure => have := HMF.out; omega
           case rel =>
            refine ⟨1, by have := HMF.out; omega, by go_num, ?_, hqb.far (p := ⟨ob, 4 * j, none⟩) (by simp; omega) _, hk.setCell (p := ⟨ob, 4 * j, none⟩) (.inr (by simp; omega)) _⟩
            have := ho.set_ (4 * j) (.int .u8 (y.toNat : Int))
            rw [show 4 * j + 1 = 4 * j + 0 + 1 from rfl, ← HST2.out]
            exact this
         · simp at hbv
           have c2 : wr.cell? ⟨ob, 4 * j + 1, none⟩ = some v0 := c1
           have f2 : wr.frozen? ⟨ob, 4 * j + 1, none⟩ = false := f1
           clear c1 f1
           go_wp2_with fail
           go_roundg (gk - 1)
           case measure => have := HMF.out; omega
           case rel =>
            refine ⟨2, by have := HMF.out; omega, by go_num, ?_, hqb.far (p := ⟨ob, 4 * j + 1, none⟩) (by simp; omega) _, hk.setCell (p := ⟨ob, 4 * j + 1, none⟩) (.inr (by simp; omega)) _⟩
            have := ho.set_ (4 * j + 1) (.int .u8 (y.toNat : Int))
            rw [show 4 * j + 2 = 4 * j + 1 + 1 from rfl, ← HST2.out]
            exact this
         · simp at hbv
           have c2 : wr.cell? ⟨ob, 4 * j + 2, none⟩ = some v0 := c1
           have f2 : wr.frozen? ⟨ob, 4 * j + 2, none⟩ = false := f1
           clear c1 f1
           go_wp2_with fail
           go_roundg (gk - 1)
           case measure => have := HMF.out; omega
           case rel =>
            refine ⟨3, by have := HMF.out; omega, by go_num, ?_, hqb.far (p := ⟨ob, 4 * j + 2, none⟩) (by simp; omega) _, hk.setCell (p := ⟨ob, 4 * j + 2, none⟩) (.inr (by simp; omega)) _⟩
            have := ho.set_ (4 * j + 2) (.int .u8 (y.toNat : Int))
            rw [show 4 * j + 3 = 4 * j + 2 + 1 from rfl, ← HST2.out]
            exact this
         · simp at hbv
           have c2 : wr.cell? ⟨ob, 4 * j + 3, none⟩ = some v0 := c1
           have f2 : wr.frozen? ⟨ob, 4 * j + 3, none⟩ = false := f1
           clear c1 f1
           go_wp2_with fail
           go_roundg (gk - 1)
           case measure => have := HMF.out; omega
           case rel =>
            refine ⟨4, by have := HMF.out; omega, by go_num, ?_, hqb.far (p := ⟨ob, 4 * j + 3, none⟩) (by simp; omega) _, hk.setCell (p := ⟨ob, 4 * j + 3, none⟩) (.inr (by simp; omega)) _⟩
            have := ho.set_ (4 * j + 3) (.int .u8 (y.toNat : Int))
            rw [show 4 * j + 4 = 4 * j + 3 + 1 from rfl, ← HST2.out]
            exact this
       · obtain rfl : m = 4 := by omega
         go_wp2_with fail
         go_roundg (8 - (j + 1))
         case measure => have := HJF.out; omega
         case rel => exact ⟨j + 1, by omega, by go_num, by rw [show 4 * (j + 1) = 4 * j + 4 by omega]; exact ho, hqb, hk⟩
    · obtain rfl : j = 8 := by omega
      have hOl : OB.length = 32 := by rw [← HID.out]; exact ID.2
      rw [List.take_of_length_le (by omega), spl_id OB (.inl hOl)] at ho
      have hid2 : idOf OB = ID := by
       unfold idOf
       rw [dif_pos hOl]
       exact Subtype.ext HID.out.symm
      rw [hid2] at ho
      clear hid2 hOl
      go_wp2_with (first | (refine wpList_load rfl rfl rfl (load_id ho) ?_) | (refine wpList_storeBlk rfl rfl (vs := idC ID) rfl rfl hqb (by rw [idC_size, idC_size]) (by rw [idC_size]; exact info42) (idL_one _) ?_; intro w9 hq9 hk9 hz9))
      refine bodyPost_ret (v := idV ID) (results_cell rfl _ _ rfl (run_loadVar_cells w9 _ (idC ID) Tryz.underlying29 rfl (by rw [idC_size]; exact info42) (fun j v hj => by rw [add_at, hq9.cell, ← hj]; simp))) rfl ⟨rfl, ?_⟩
      exact hk.then_ hk9 (by unfold Only; intro i hi h; omega)
  | succ k =>
   have hc5 := hkp.blk hb4 (by simp) (by decide)
   have cn := (hc5.cell 73).trans (hashC_n HW.out.1).2
   have hbe : be (k + 1) V = UInt8.ofNat (V / 256 ^ k) :: be k V := rfl
   have hcv := mod_shr V k
   generalize UInt8.ofNat (V / 256 ^ k) = y at *
   have HB := Lib.hid hbe
   have k8 : k < 8 := by omega
   have hl2 : bs.length + 1 ≤ 73 := by have := HPL.out; omega
   clear hbe hbl2
   rw [show 8 * ((k + 1 : Nat) : Int) - 8 = 8 * (k : Int) from by omega]
   go_wp2_with (first | (at_builtin; refine wpList_append_sl rfl elemU8 rfl rfl (ho.alloc _) rfl (Reads.of_cells (n := 1) (xs := [bv y]) (heap_alloc_new _ _) rfl rfl) (bvs_one [y]) (by unfold maxLen; omega) (by omega) (by simp; omega) ?_; intro A2 c2 w6 ho2 hk2))
   go_roundg k
   case measure => omega
   case rel => exact ⟨bs ++ [y], A2, c2, by omega, by go_num, by simp, by rw [← HPR.out, HB.out]; simp, by simpa using ho2, (hkp.alloc _).trans hk2, by simp; omega⟩
end Go.Proofs.YtmlmbkelpjmafaaGreat
