/- Contract of tree.above. No statement of the seat is proved here. -/
import Derived.Test.YtbaapjlmpmpocaaGreatDoorDT18
namespace Go.Proofs.YtbaapjlmpmpocaaGreatDoor
open Go.RowKit Go.Maps
theorem insK_len (p : Pth) : ∀ l : List Pth, RiseP l → (insK p l).length = if p ∈ l then l.length else l.length + 1
 | [], _ => by simp [insK]
 | q :: l, h => by
  have h2 := List.pairwise_cons.1 h
  unfold insK
  by_cases e : p = q
  · subst e
    simp
  · rw [if_neg e]
    by_cases hlt : p < q
    · rw [if_pos hlt, if_neg]
      · simp
      · intro hm
        rcases List.mem_cons.1 hm with r | r
        · exact e r
        · exact pth_asym hlt (h2.1 p r)
    · rw [if_neg hlt, List.length_cons, insK_len p l h2.2]
      by_cases hm : p ∈ l
      · rw [if_pos hm, if_pos (List.mem_cons_of_mem _ hm)]
        rfl
      · rw [if_neg hm, if_neg (by simp [e, hm])]
        rfl
theorem keysP_snoc (l : List Pth) (x : Pth) : keysP (l ++ [x]) = insK x (keysP l) :=
 rise_unique (keysP_rise _) (insK_rise x (keysP_rise l)) fun y => by
  rw [mem_keysP, mem_insK, mem_keysP, List.mem_append, List.mem_singleton]
  exact Or.comm
theorem namesOf_snoc (l : List (Pth × Pth)) (d e s : Pth) : namesOf (l ++ [(e, s)]) d = if e = d then insK s (namesOf l d) else namesOf l d := by
 unfold namesOf
 rw [List.filter_append]
 by_cases h : e = d
 · subst h
   rw [if_pos rfl]
   simp [keysP_snoc]
 · rw [if_neg h]
   have : (e == d) = false := beq_eq_false_iff_ne.2 h
   simp [this]
theorem mem_namesOf {l : List (Pth × Pth)} {d s : Pth} : s ∈ namesOf l d ↔ (d, s) ∈ l := by
 unfold namesOf
 rw [mem_keysP, List.mem_map]
 constructor
 · rintro ⟨⟨a, b⟩, h, rfl⟩
   rw [List.mem_filter] at h
   have : a = d := by simpa using h.2
   rw [← this]
   exact h.1
 · intro h
   exact ⟨(d, s), List.mem_filter.2 ⟨h, by simp⟩, rfl⟩
theorem namesOf_len (l : List (Pth × Pth)) (d s : Pth) : (namesOf (l ++ [(d, s)]) d).length = if (d, s) ∈ l then (namesOf l d).length else (namesOf l d).length + 1 := by
 rw [namesOf_snoc, if_pos rfl, insK_len s (namesOf l d) (keysP_rise _)]
 by_cases h : (d, s) ∈ l
 · rw [if_pos (mem_namesOf.2 h), if_pos h]
 · rw [if_neg (fun q => h (mem_namesOf.1 q)), if_neg h]
theorem namesOf_other (l : List (Pth × Pth)) {d e : Pth} (s : Pth) (h : e ≠ d) : namesOf (l ++ [(e, s)]) d = namesOf l d := by
 rw [namesOf_snoc, if_neg h]
theorem keysP_len : ∀ l : List Pth, (keysP l).length ≤ l.length
 | [] => Nat.le_refl _
 | x :: l => by
  have := insK_len x (keysP l) (keysP_rise l)
  have ih := keysP_len l
  show (insK x (keysP l)).length ≤ _
  rw [this]
  split <;> simp <;> omega
theorem namesOf_le (l : List (Pth × Pth)) (d : Pth) : (namesOf l d).length ≤ l.length := by
 unfold namesOf
 refine Nat.le_trans (keysP_len _) ?_
 rw [List.length_map]
 exact List.length_filter_le _ _
structure Ent (w : World) (z be : Nat) (D : List Nat) (l : List (Pth × Pth)) : Prop where
 bz : z ≤ be
 out : be ∉ D
 dz : ∀ d ∈ D, z ≤ d
 dm : ∀ d ∈ D, ∃ n f, VM w d n f
 map : ∃ n fE, VM w be n fE ∧ n ≤ l.length ∧ (∀ dir, fE dir = none → ∀ s, (dir, s) ∉ l) ∧
  (∀ dir v, fE dir = some v → ∃ bd fd, v = .map (some bd) ∧ bd ∈ D ∧ VM w bd (namesOf l dir).length fd ∧ (∃ s, (dir, s) ∈ l) ∧ ∀ s, (fd s).isSome = true ↔ (dir, s) ∈ l) ∧
  (∀ dir dir' bd, fE dir = some (.map (some bd)) → fE dir' = some (.map (some bd)) → dir = dir')
def EntS (be : Nat) (D : List Nat) : Nat → Prop := fun k => k = be ∨ k ∈ D
theorem Ent.keep {S : Nat → Prop} {w w' : World} {z be : Nat} {D : List Nat} {l : List (Pth × Pth)} (h : Ent w z be D l) (hk : Keep S w w') (hb : ¬ S be) (hD : ∀ d ∈ D, ¬ S d) : Ent w' z be D l := by
 obtain ⟨n, fE, h1, h2, h3, h4, h5⟩ := h.map
 exact ⟨h.bz, h.out, h.dz, fun d hd => by
  obtain ⟨n, f, q⟩ := h.dm d hd
  exact ⟨n, f, q.keep hk (hD d hd)⟩, n, fE, h1.keep hk hb, h2, h3, fun dir v e => by
  obtain ⟨bd, fd, q1, q2, q3, q4, q5⟩ := h4 dir v e
  exact ⟨bd, fd, q1, q2, q3.keep hk (hD bd q2), q4, q5⟩, h5⟩
theorem zero_mp (w : World) : (zeroValue 55).run Tryz.prog w = .ok (.map none) w := by kernel_rfl
theorem eq_mapnil (w : World) : (binOp .eql 55 (.map none) (.map none)).run Tryz.prog w = .ok (.bool true) w := by kernel_rfl
theorem eq_mapsome (w : World) (b : Nat) : (binOp .eql 55 (.map (some b)) (.map none)).run Tryz.prog w = .ok (.bool false) w := by kernel_rfl
theorem Ent.fresh {w w2 w3 : World} {z be n bd : Nat} {D : List Nat} {l : List (Pth × Pth)} {fE : Mp} {dir name : Pth} {v : Value} (h : Ent w z be D l) (hz : z ≤ w.heap.size) (hbd : bd = w.heap.size) (hv : VM w be n fE) (hn : n ≤ l.length) (hno : ∀ dir, fE dir = none → ∀ s, (dir, s) ∉ l)
    (hyes : ∀ dir v, fE dir = some v → ∃ bd fd, v = .map (some bd) ∧ bd ∈ D ∧ VM w bd (namesOf l dir).length fd ∧ (∃ s, (dir, s) ∈ l) ∧ ∀ s, (fd s).isSome = true ↔ (dir, s) ∈ l) (hinj : ∀ dir dir' bd, fE dir = some (.map (some bd)) → fE dir' = some (.map (some bd)) → dir = dir')
    (hf : fE dir = none) (v2 : VM w2 be (n + 1) (mput fE dir (.map (some bd)))) (k2 : Keep (Only be) (w.alloc (.map #[] 0)) w2) (v3 : VM w3 bd 1 (mput mpNil name v)) (k3 : Keep (Only bd) w2 w3) :
    ∃ D', Ent w3 z be D' (l ++ [(dir, name)]) ∧ Keep (EntS be D) w w3 ∧ ∀ d ∈ D', d ∈ D ∨ w.heap.size ≤ d := by
 have hbe := hv.lt
 refine ⟨D ++ [bd], ⟨h.bz, ?_, ?_, ?_, n + 1, _, v2.keep k3 (by unfold Only; omega), by rw [List.length_append]; simp; omega, ?_, ?_, ?_⟩, ?_, ?_⟩
 · intro hm
   rcases List.mem_append.1 hm with q | q
   · exact h.out q
   · have := List.mem_singleton.1 q
     omega
 · intro d hd
   rcases List.mem_append.1 hd with q | q
   · exact h.dz d q
   · rw [List.mem_singleton.1 q]; omega
 · intro d hd
   rcases List.mem_append.1 hd with q | q
   · obtain ⟨n', f, r⟩ := h.dm d q
     have hlt := r.lt
     exact ⟨n', f, ((r.alloc _).keep k2 (by unfold Only; intro e; exact h.out (e ▸ q))).keep k3 (by unfold Only; omega)⟩
   · rw [List.mem_singleton.1 q]; exact ⟨1, _, v3⟩
 · intro dir' hq s hm
   unfold mput at hq
   split at hq
   · cases hq
   · rename_i hne
     rcases List.mem_append.1 hm with q | q
     · exact hno dir' hq s q
     · rw [List.mem_singleton] at q
       injection q with q1 q2
       exact hne q1
 · intro dir' u hq
   unfold mput at hq
   split at hq
   · rename_i he
     subst he
     obtain rfl := Option.some.inj hq
     refine ⟨bd, mput mpNil name v, rfl, List.mem_append_right _ (List.mem_singleton.2 rfl), ?_, ⟨name, by simp⟩, fun s => ?_⟩
     · have e0 : namesOf l dir' = [] := by
        rcases List.eq_nil_or_concat (namesOf l dir') with q | ⟨a, b, q⟩
        · exact q
        · exact absurd (mem_namesOf.1 (by rw [q, List.concat_eq_append]; simp : b ∈ namesOf l dir')) (hno dir' hf b)
       rw [namesOf_len, if_neg (hno dir' hf name), e0]
       exact v3
     · unfold mput
       by_cases hs : s = name
       · subst hs
         simp
       · rw [if_neg hs]
         have := hno dir' hf s
         simp [mpNil, this, hs]
   · rename_i hne
     obtain ⟨b', fd, q1, q2, q3, q4, q5⟩ := hyes dir' u hq
     have hb' := q3.lt
     refine ⟨b', fd, q1, List.mem_append_left _ q2, ?_, ?_, fun s => ?_⟩
     · rw [namesOf_other _ _ (fun e => hne e.symm)]
       exact ((q3.alloc _).keep k2 (by unfold Only; intro e; exact h.out (e ▸ q2))).keep k3 (by unfold Only; omega)
     · obtain ⟨s, hs⟩ := q4
       exact ⟨s, List.mem_append_left _ hs⟩
     · rw [q5]
       constructor
       · exact fun q => List.mem_append_left _ q
       · intro q
         rcases List.mem_append.1 q with r | r
         · exact r
         · rw [List.mem_singleton] at r
           injection r with r1 r2
           exact absurd r1 hne
 · intro d1 d2 b' h1 h2
   have hlt : ∀ dir', fE dir' = some (.map (some b')) → b' < w.heap.size := fun dir' q => by
    obtain ⟨b2, fd, q1, _, q3, _⟩ := hyes dir' _ q
    injection q1 with q1
    injection q1 with q1
    subst q1
    exact q3.lt
   unfold mput at h1 h2
   split at h1
   · rename_i e1
     split at h2
     · rename_i e2; rw [e1, e2]
     · injection h1 with h1
       injection h1 with h1
       injection h1 with h1
       have := hlt d2 h2
       omega
   · split at h2
     · injection h2 with h2
       injection h2 with h2
       injection h2 with h2
       have := hlt d1 h1
       omega
     · exact hinj d1 d2 b' h1 h2
 · have k0 : Keep (EntS be D) w (w.alloc (.map #[] 0)) := (Keep.refl _ _).alloc _
   have k1 : Keep (EntS be D) w w2 := k0.trans (k2.mono fun i _ q => .inl q)
   exact k1.then_ k3 fun i hi q => by unfold Only at q; omega
 · intro d hd
   rcases List.mem_append.1 hd with q | q
   · exact .inl q
   · rw [List.mem_singleton.1 q]; exact .inr (by omega)
theorem Ent.more {w w3 : World} {z be bd n : Nat} {D : List Nat} {l : List (Pth × Pth)} {fE fd : Mp} {dir name : Pth} {v : Value} (h : Ent w z be D l) (hv : VM w be n fE) (hn : n ≤ l.length) (hno : ∀ dir, fE dir = none → ∀ s, (dir, s) ∉ l)
    (hyes : ∀ dir v, fE dir = some v → ∃ bd fd, v = .map (some bd) ∧ bd ∈ D ∧ VM w bd (namesOf l dir).length fd ∧ (∃ s, (dir, s) ∈ l) ∧ ∀ s, (fd s).isSome = true ↔ (dir, s) ∈ l) (hinj : ∀ dir dir' bd, fE dir = some (.map (some bd)) → fE dir' = some (.map (some bd)) → dir = dir')
    (hf : fE dir = some (.map (some bd))) (hbd : bd ∈ D) (hs : ∀ s, (fd s).isSome = true ↔ (dir, s) ∈ l) (v3 : VM w3 bd (if (fd name).isSome then (namesOf l dir).length else (namesOf l dir).length + 1) (mput fd name v)) (k3 : Keep (Only bd) w w3) :
    ∃ D', Ent w3 z be D' (l ++ [(dir, name)]) ∧ Keep (EntS be D) w w3 ∧ ∀ d ∈ D', d ∈ D ∨ w.heap.size ≤ d := by
 have hne : be ≠ bd := fun e => h.out (e ▸ hbd)
 refine ⟨D, ⟨h.bz, h.out, h.dz, fun d hd => by
  by_cases e : d = bd
  · rw [e]; exact ⟨_, _, v3⟩
  · obtain ⟨n', f, r⟩ := h.dm d hd
    exact ⟨n', f, r.keep k3 e⟩, n, fE, hv.keep k3 hne, by rw [List.length_append]; simp; omega, ?_, ?_, hinj⟩, k3.mono fun i _ q => .inr (by unfold Only at q; rw [q]; exact hbd), fun d hd => .inl hd⟩
 · intro dir' hq s hm
   rcases List.mem_append.1 hm with q | q
   · exact hno dir' hq s q
   · rw [List.mem_singleton] at q
     injection q with q1 q2
     rw [q1, hf] at hq
     cases hq
 · intro dir' u hq
   by_cases he : dir' = dir
   · subst he
     rw [hf] at hq
     obtain rfl := Option.some.inj hq
     refine ⟨bd, mput fd name v, rfl, hbd, ?_, ⟨name, by simp⟩, fun s => ?_⟩
     · rw [namesOf_len]
       by_cases hm : (dir', name) ∈ l
       · rw [if_pos hm]
         rw [if_pos ((hs name).2 hm)] at v3
         exact v3
       · rw [if_neg hm]
         rw [if_neg (fun q => hm ((hs name).1 q))] at v3
         exact v3
     · unfold mput
       by_cases hn' : s = name
       · subst hn'
         simp
       · rw [if_neg hn', hs]
         simp [hn']
   · obtain ⟨b', fd', q1, q2, q3, q4, q5⟩ := hyes dir' u hq
     have hb' : b' ≠ bd := fun e => he (hinj dir' dir bd (by rw [hq, q1, e]) hf)
     refine ⟨b', fd', q1, q2, ?_, ?_, fun s => ?_⟩
     · rw [namesOf_other _ _ (fun e => he e.symm)]
       exact q3.keep k3 hb'
     · obtain ⟨s, hs⟩ := q4
       exact ⟨s, List.mem_append_left _ hs⟩
     · rw [q5]
       constructor
       · exact fun q => List.mem_append_left _ q
       · intro q
         rcases List.mem_append.1 q with r | r
         · exact r
         · rw [List.mem_singleton] at r
           injection r with r1 r2
           exact absurd r1 he
def PutPost (z be : Nat) (D : List Nat) (l : List (Pth × Pth)) (e : Pth × Pth) (w : World) (r : Ending) (w' : World) : Prop := ∃ D', r = .returned (.tuple #[]) ∧ Ent w' z be D' (l ++ [e]) ∧ Keep (EntS be D) w w' ∧ ∀ d ∈ D', d ∈ D ∨ w.heap.size ≤ d
set_option maxHeartbeats 2000000 in
set_option maxRecDepth 100000 in
theorem put_any (p : Pth) (qe qi z be : Nat) (i : Int) (D : List Nat) (l : List (Pth × Pth)) (w : World) (hp : p.length ≤ 1000000) (hz : z ≤ w.heap.size) (hE : Ent w z be D l) (hqe : Blk w qe 56 #[.map (some be)]) (hqi : Blk w qi 3 #[.int .i64 i]) (hll : l.length ≤ 10000000) :
    Calls Tryz.prog 21 #[strC p, .pointer (some ⟨qe, 0, none⟩), .pointer (some ⟨qi, 0, none⟩)] w (PutPost z be D l (parN p, lastN p) w) := by
 have HP := Lib.hid (show PutPost z be D l (parN p, lastN p) w = fun r w' => ∃ D', r = .returned (.tuple #[]) ∧ Ent w' z be D' (l ++ [(parN p, lastN p)]) ∧ Keep (EntS be D) w w' ∧ ∀ d ∈ D', d ∈ D ∨ w.heap.size ≤ d from rfl)
 rw [HP.out]
 clear HP
 unfold strC
 have hsz : (⟨p.toArray⟩ : ByteArray).size = p.length := by simp [ByteArray.size]
 have HL := Lib.hid (show Calls Tryz.prog 22 #[.string ⟨p.toArray⟩, .int .u8 47] w (fun e w' => e = .returned (.int .i64 (Lib.lastIndexByte ⟨p.toArray⟩ 47)) ∧ w = w') from (Tryz.strings_LastIndexByte ⟨p.toArray⟩ 47 (by rw [hsz]; omega) w).mono fun _ _ h => ⟨h.1, h.2.symm⟩)
 have hex : ∃ kk : Int, Lib.lastIndexByte ⟨p.toArray⟩ 47 = kk ∧ -1 ≤ kk ∧ kk < p.length ∧ (⟨p.toArray⟩ : ByteArray).extract 0 (max kk 0).toNat = ⟨(parN p).toArray⟩ ∧ (⟨p.toArray⟩ : ByteArray).extract (kk + 1).toNat p.length = ⟨(lastN p).toArray⟩ ∧ (parN p).length ≤ p.length ∧ (lastN p).length ≤ p.length := by
  have hx : ∀ i j, (⟨p.toArray⟩ : ByteArray).extract i j = ⟨((p.take j).drop i).toArray⟩ := fun i j => by
   apply ByteArray.ext
   apply Array.ext'
   simp [List.drop_take]
  rcases lastIdx_at p with ⟨h0, hk⟩ | ⟨a, b, hab, h0, hk⟩
  · obtain ⟨e1, e2⟩ := last_none h0
    refine ⟨-1, hk, by omega, by omega, ?_, ?_, by rw [e2]; simp, by rw [e1]; exact Nat.le_refl _⟩
    · rw [hx, e2, show (max (-1 : Int) 0).toNat = 0 by decide, List.take_zero, List.drop_zero]
    · rw [hx, e1]; simp
  · obtain ⟨e1, e2⟩ := last_at h0 (p := a)
    rw [← hab] at e1 e2
    have hl : p.length = a.length + 1 + b.length := by rw [hab]; simp; omega
    refine ⟨a.length, hk, by omega, by omega, ?_, ?_, by rw [e2]; omega, by rw [e1]; omega⟩
    · rw [hx, e2, show (max (a.length : Int) 0).toNat = a.length by omega, List.drop_zero]
      rw [hab, List.take_append_of_le_length (Nat.le_refl _), List.take_length]
    · rw [hx, e1, List.take_length, show ((a.length : Int) + 1).toNat = a.length + 1 by omega, hab]
      rw [List.drop_append, List.drop_eq_nil_of_le (by omega)]
      simp
 obtain ⟨kk, hk, k1, k2, x1, x2, l1, l2⟩ := hex
 rw [hk] at HL
 generalize parN p = dir at *
 generalize lastN p = name at *
 have m0 : (0 : Int) ≤ max kk 0 := by omega
 have m1 : max kk 0 ≤ (p.length : Int) := by omega
 have m2 : (0 : Int) ≤ kk + 1 := by omega
 have m3 : kk + 1 ≤ (p.length : Int) := by omega
 have m4 : IntKind.i64.wrap (kk + 1) = kk + 1 := IntWalk.i64_in _ (by omega)
 clear hk
 obtain ⟨n, fE, hv, hn, hno, hyes, hinj⟩ := hE.map
 have HE := Lib.hid hE
 have HQE := Lib.hid hqe
 have HQI := Lib.hid hqi
 have hdl : dir.length ≤ maxLen := by unfold maxLen; omega
 have hnl : name.length ≤ maxLen := by unfold maxLen; omega
 have hlk := hv.look Tryz.underlying56 (zero_mp w) hdl
 unfold strC at hlk
 have hqeb : qe ≠ be := fun e => by
  obtain ⟨D0, ⟨es, clock, q1, _⟩, _⟩ := hv
  rw [← e, show w.heap[qe]? = _ from hqe] at q1
  cases q1
 have hqib : qi ≠ be := fun e => by
  obtain ⟨D0, ⟨es, clock, q1, _⟩, _⟩ := hv
  rw [← e, show w.heap[qi]? = _ from hqi] at q1
  cases q1
 have hqel := hqe.lt
 have hqil := hqi.lt
 cases hf : fE dir with
 | none =>
  rw [hf] at hlk
  simp only [Option.getD_none] at hlk
  have hbe := hv.lt
  have v1 : VM (w.alloc (.map #[] 0)) be n fE := hv.alloc _
  have v1d : VM (w.alloc (.map #[] 0)) w.heap.size 0 mpNil := VM.made w
  obtain ⟨w2, hst, v2, k2, z2⟩ := v1.store Tryz.underlying56 (by unfold maxLen; omega) hdl (.map (some w.heap.size))
  have v2d : VM w2 w.heap.size 0 mpNil := v1d.keep k2 (by unfold Only; omega)
  rw [hf] at v2
  have hlk2 := v2.look Tryz.underlying56 (zero_mp w2) hdl
  rw [show mput fE dir (.map (some w.heap.size)) dir = some (.map (some w.heap.size)) from if_pos rfl] at hlk2
  simp only [Option.getD_some] at hlk2
  have hlk3 := (show VM w2.drew be _ _ from v2.block rfl).look Tryz.underlying56 (zero_mp w2.drew) hdl
  rw [show mput fE dir (.map (some w.heap.size)) dir = some (.map (some w.heap.size)) from if_pos rfl] at hlk3
  simp only [Option.getD_some] at hlk3
  obtain ⟨w3, hst3, v3, k3, z3⟩ := (show VM w2.drew w.heap.size 0 mpNil from v2d.block rfl).store Tryz.underlying55 (by unfold maxLen; omega) hnl (.int .i64 i)
  have HFIN := Lib.hid (hE.fresh hz rfl hv hn hno hyes hinj hf v2 k2 v3 (Keep.ofDrewN (n := 1) k3))
  unfold strC at hst hlk2 hlk3 hst3
  have c2 := ((hqe.alloc (.map #[] 0)).keep k2 (by unfold Only; exact hqeb)).cell 0
  have c3 := ((hqi.alloc (.map #[] 0)).keep k2 (by unfold Only; exact hqib)).cell 0
  simp at c2 c3
  have c2d : w2.drew.cell? ⟨qe, 0, none⟩ = some (.map (some be)) := c2
  have c3d : w2.drew.cell? ⟨qi, 0, none⟩ = some (.int .i64 i) := c3
  have c1 := hqe.cell 0
  simp at c1
  have he := eq_mapnil w
  have hmm := @run_makeMap Tryz.prog
  go_enter Tryz.func21, Tryz.ntmps21
  go_wp2_with (go_at_call 22; refine HL.out.mono ?_; rintro _ _ ⟨rfl, rfl⟩)
  clear v1 v1d v2 v2d k2 v3 k3 hv hno hyes hinj hE
  go_region_law (fail)
  all_goals
   go_end0
   obtain ⟨D', q1, q2, q3⟩ := HFIN.out
   exact ⟨D', rfl, q1, q2, q3⟩
 | some v =>
  obtain ⟨bd, fd, rfl, hbd, hvd, _, hsd⟩ := hyes dir v hf
  rw [hf] at hlk
  simp only [Option.getD_some] at hlk
  have hlk3 := (show VM w.drew be _ _ from hv.block rfl).look Tryz.underlying56 (zero_mp w.drew) hdl
  rw [hf] at hlk3
  simp only [Option.getD_some] at hlk3
  have hnn := namesOf_le l dir
  obtain ⟨w3, hst3, v3, k3, z3⟩ := (show VM w.drew bd _ _ from hvd.block rfl).store Tryz.underlying55 (by unfold maxLen; omega) hnl (.int .i64 i)
  have HFIN := Lib.hid (hE.more hv hn hno hyes hinj hf hbd hsd v3 (Keep.ofDrewN (n := 1) k3))
  unfold strC at hlk3 hst3
  have c1 := hqe.cell 0
  have c3 := hqi.cell 0
  simp at c1 c3
  have c2d : w.drew.cell? ⟨qe, 0, none⟩ = some (.map (some be)) := c1
  have c3d : w.drew.cell? ⟨qi, 0, none⟩ = some (.int .i64 i) := c3
  have he := eq_mapsome w bd
  clear v3 k3 hv hno hyes hinj hE hvd hsd
  go_enter Tryz.func21, Tryz.ntmps21
  go_wp2_with (go_at_call 22; refine HL.out.mono ?_; rintro _ _ ⟨rfl, rfl⟩)
  go_region_law (fail)
  all_goals
   go_end0
   obtain ⟨D', q1, q2, q3⟩ := HFIN.out
   exact ⟨D', rfl, q1, q2, q3⟩
end Go.Proofs.YtbaapjlmpmpocaaGreatDoor
namespace Go.Proofs.YtbaapjlmpmpocaaGreatDoor
open Go.RowKit Go.Maps
structure CkS (w : World) (z qs qe qi qb qp bs be : Nat) (i : Int) (seen : List Pth) (D : List Nat) (l : List (Pth × Pth)) (b : Bool) : Prop where
 s : Blk w qs 55 #[.map (some bs)]
 e : Blk w qe 56 #[.map (some be)]
 i : Blk w qi 3 #[.int .i64 i]
 b : Blk w qb 4 #[.bool b]
 p : Blk w qp 59 #[.func (.func 21) #[] #[.pointer (some ⟨qe, 0, none⟩), .pointer (some ⟨qi, 0, none⟩)]]
 m : ∃ n fs, VM w bs n fs ∧ n ≤ seen.length ∧ ∀ t, (fs t).isSome = true ↔ t ∈ seen
 ent : Ent w z be D l
 bz : z ≤ bs
 ne : bs ≠ be
 nd : bs ∉ D
 zq : z ≤ qs ∧ z ≤ qe ∧ z ≤ qi ∧ z ≤ qb ∧ z ≤ qp
 qq : qs ≠ qb ∧ qe ≠ qb ∧ qi ≠ qb ∧ qp ≠ qb
theorem VM.noBlk {w : World} {b n : Nat} {f : Mp} (h : VM w b n f) {t : TypeId} {cs : Array Value} {q : Nat} (hq : Blk w q t cs) : q ≠ b := fun e => by
 obtain ⟨D0, ⟨es, clock, q1, _⟩, _⟩ := h
 rw [← e, show w.heap[q]? = _ from hq] at q1
 cases q1
theorem Ent.noBlk {w : World} {z be : Nat} {D : List Nat} {l : List (Pth × Pth)} (h : Ent w z be D l) {t : TypeId} {cs : Array Value} {q : Nat} (hq : Blk w q t cs) : q ≠ be := by
 obtain ⟨n, fE, h1, _⟩ := h.map
 exact h1.noBlk hq
def CkK (qb be : Nat) (D : List Nat) : Nat → Prop := fun k => k = qb ∨ k = be ∨ k ∈ D
theorem CkK.then_ {w w1 w2 : World} {qb be : Nat} {D D1 : List Nat} (h : Keep (CkK qb be D) w w1) (hD : ∀ d ∈ D1, d ∈ D ∨ w.heap.size ≤ d) (k : Keep (CkK qb be D1) w1 w2) : Keep (CkK qb be D) w w2 :=
 h.then_ k fun i hi q => by
  rcases q with q | q | q
  · exact .inl q
  · exact .inr (.inl q)
  · rcases hD i q with r | r
    · exact .inr (.inr r)
    · omega
def seenP (seen : List Pth) (ds : List Pth) : Bool := ds.any fun d => decide (d ∈ seen)
def entD (ds : List Pth) : List (Pth × Pth) := ds.map fun d => (parN d, lastN d)
def CkPost (z qs qe qi qb qp bs be : Nat) (i : Int) (seen : List Pth) (D : List Nat) (l : List (Pth × Pth)) (b : Bool) (ds : List Pth) (w : World) (r : Ending) (w' : World) : Prop :=
 ∃ D', r = .returned (.tuple #[]) ∧ CkS w' z qs qe qi qb qp bs be i seen D' (l ++ entD ds) (b || seenP seen ds) ∧ Keep (CkK qb be D) w w' ∧ ∀ d ∈ D', d ∈ D ∨ w.heap.size ≤ d
set_option maxHeartbeats 2000000 in
set_option maxRecDepth 100000 in
theorem seen_any (p : Pth) (z qs qe qi qb qp bs be : Nat) (i : Int) (seen : List Pth) (D : List Nat) (l : List (Pth × Pth)) (b : Bool) (w : World) (hp : p.length ≤ 1000000) (hz : z ≤ w.heap.size) (h : CkS w z qs qe qi qb qp bs be i seen D l b) (hll : l.length ≤ 10000000) :
    Calls Tryz.prog 24 #[strC p, .pointer (some ⟨qs, 0, none⟩), .pointer (some ⟨qb, 0, none⟩), .pointer (some ⟨qp, 0, none⟩)] w (CkPost z qs qe qi qb qp bs be i seen D l b [p] w) := by
 have HP := Lib.hid (show CkPost z qs qe qi qb qp bs be i seen D l b [p] w = fun r w' => ∃ D', r = .returned (.tuple #[]) ∧ CkS w' z qs qe qi qb qp bs be i seen D' (l ++ entD [p]) (b || seenP seen [p]) ∧ Keep (CkK qb be D) w w' ∧ ∀ d ∈ D', d ∈ D ∨ w.heap.size ≤ d from rfl)
 rw [HP.out]
 clear HP
 obtain ⟨n, fs, hv, hn, hs⟩ := h.m
 have hlk := hv.look_ok Tryz.underlying55 (zero_int w) (s := p) (by unfold maxLen; omega)
 have hsee : (fs p).isSome = decide (p ∈ seen) := by
  by_cases q : p ∈ seen
  · rw [(hs p).2 q, decide_eq_true q]
  · rw [decide_eq_false q]
    exact Bool.eq_false_iff.2 fun r => q ((hs p).1 r)
 rw [hsee] at hlk
 have hb1 : (b || seenP seen [p]) = (b || decide (p ∈ seen)) := by simp [seenP]
 rw [hb1]
 have HSL := Lib.hid (show ∀ b' : Bool, CkS (w.setCell ⟨qb, 0, none⟩ (.bool b')) z qs qe qi qb qp bs be i seen D l b' ∧ Keep (CkK qb be D) w (w.setCell ⟨qb, 0, none⟩ (.bool b')) from fun b' => by
  obtain ⟨a1, a2, a3, a4⟩ := h.qq
  have kk : Keep (Only qb) w (w.setCell ⟨qb, 0, none⟩ (.bool b')) := (Keep.refl (Only qb) w).setCell (p := ⟨qb, 0, none⟩) (.inl rfl) _
  have hbq : ¬ Only qb be := fun e => h.ent.noBlk h.b e.symm
  have hbs : ¬ Only qb bs := fun e => hv.noBlk h.b e.symm
  have hDq : ∀ d ∈ D, ¬ Only qb d := fun d hd e => by
   obtain ⟨n', f, q⟩ := h.ent.dm d hd
   exact q.noBlk h.b e.symm
  refine ⟨⟨h.s.far a1 _, h.e.far a2 _, h.i.far a3 _, ?_, h.p.far a4 _, ⟨n, fs, hv.keep kk hbs, hn, hs⟩, h.ent.keep kk hbq hDq, h.bz, h.ne, h.nd, h.zq, h.qq⟩, kk.mono fun k _ q => .inl q⟩
  have := h.b.set_ 0 (.bool b')
  simpa using this)
 have HB := Lib.hid (fun (W : World) (D' : List Nat) (b' : Bool) (hW : CkS W z qs qe qi qb qp bs be i seen D' l b') (hzW : z ≤ W.heap.size) => put_any p qe qi z be i D' l W hp hzW hW.ent hW.e hW.i hll)
 unfold PutPost at HB
 obtain ⟨HS1, HK1⟩ := HSL.out (b || decide (p ∈ seen))
 have HS1 := Lib.hid HS1
 have HK1 := Lib.hid HK1
 have c1 := h.s.cell 0
 have c2 := h.b.cell 0
 have f2 := h.b.frozen 0
 have c3 := HS1.out.p.cell 0
 simp at c1 c2 c3
 have HH := Lib.hid h
 have hzz := hz
 unfold strC at hlk HB
 unfold strC
 clear h hv hs hsee hb1 HSL
 generalize decide (p ∈ seen) = e at *
 cases b
 all_goals
  simp only [Bool.true_or, Bool.false_or] at HS1 HK1 c3 ⊢
  go_enter Tryz.func24, Tryz.ntmps24
  go_wp2_with (go_at_call 21; refine (HB.out _ D _ HS1.out (Nat.le_trans hzz HK1.out.size)).mono ?_)
  rintro _ w2 ⟨D', rfl, q1, q2, q3⟩
  have hsz := HK1.out.size
  have HS2 := Lib.hid q1
  have HK2 := Lib.hid q2
  have HD2 := Lib.hid q3
  clear q1 q2 q3
  go_wp2_with fail
  go_end0
  obtain ⟨a1, a2, a3, a4⟩ := HH.out.qq
  obtain ⟨n1, fs1, v1, v2, v3⟩ := HS1.out.m
  have nS : ∀ {t cs q}, Blk (w.setCell ⟨qb, 0, none⟩ _) q t cs → ¬ EntS be D q := fun hq q => by
   rcases q with q | q
   · exact HS1.out.ent.noBlk hq q
   · obtain ⟨n', f, r⟩ := HS1.out.ent.dm _ q
     exact r.noBlk hq rfl
  have nbs : ¬ EntS be D bs := fun q => by
   rcases q with q | q
   · exact HS1.out.ne q
   · exact HS1.out.nd q
  refine ⟨D', rfl, ⟨HS1.out.s.keep HK2.out (nS HS1.out.s), HS1.out.e.keep HK2.out (nS HS1.out.e), HS1.out.i.keep HK2.out (nS HS1.out.i), HS1.out.b.keep HK2.out (nS HS1.out.b), HS1.out.p.keep HK2.out (nS HS1.out.p), ⟨n1, fs1, v1.keep HK2.out nbs, v2, v3⟩, HS2.out, HS1.out.bz, HS1.out.ne, fun q => ?_, HS1.out.zq, HS1.out.qq⟩, HK1.out.then_ HK2.out fun k _ q => ?_, fun d hd => ?_⟩
  · rcases HD2.out bs q with r | r
    · exact HS1.out.nd r
    · have := v1.lt; omega
  · exact .inr q
  · rcases HD2.out d hd with r | r
    · exact .inl r
    · exact .inr (Nat.le_trans hsz r)
end Go.Proofs.YtbaapjlmpmpocaaGreatDoor
namespace Go.Proofs.YtbaapjlmpmpocaaGreatDoor
open Go.RowKit Go.Maps
theorem dirsFrom_snoc (x : UInt8) : ∀ (b cur : Pth), dirsFrom cur (b ++ [x]) = dirsFrom cur b ++ (if x = 47 then [cur ++ b] else [])
 | [], cur => by
  simp only [List.nil_append, dirsFrom, List.append_nil]
 | y :: b, cur => by
  have ih := dirsFrom_snoc x b (cur ++ [y])
  rw [List.cons_append, dirsFrom, dirsFrom, ih]
  have e : cur ++ [y] ++ b = cur ++ y :: b := by simp
  rw [e]
  split
  · simp
  · rfl
theorem dirsP_take {p : Pth} {k : Nat} {x : UInt8} (h : p[k]? = some x) : dirsP (p.take (k + 1)) = dirsP (p.take k) ++ (if x = 47 then [p.take k] else []) := by
 unfold dirsP
 rw [List.take_add_one, h]
 exact dirsFrom_snoc x _ _
theorem dirsP_len (p : Pth) : (dirsP p).length ≤ p.length := by
 have : ∀ (b cur : Pth), (dirsFrom cur b).length ≤ b.length := fun b => by
  induction b with
  | nil => intro cur; simp [dirsFrom]
  | cons x b ih =>
   intro cur
   unfold dirsFrom
   have := ih (cur ++ [x])
   split <;> simp <;> omega
 exact this p []
theorem entD_snoc (a : List Pth) (d : Pth) : entD (a ++ [d]) = entD a ++ [(parN d, lastN d)] := by simp [entD]
theorem seenP_append (seen a c : List Pth) : seenP seen (a ++ c) = (seenP seen a || seenP seen c) := by simp [seenP]
set_option maxHeartbeats 2000000 in
set_option maxRecDepth 100000 in
theorem above_any (p : Pth) (z qs qe qi qb qp bs be : Nat) (i : Int) (seen : List Pth) (D : List Nat) (l : List (Pth × Pth)) (b : Bool) (w : World) (hp : p.length ≤ 1000000) (hz : z ≤ w.heap.size) (h : CkS w z qs qe qi qb qp bs be i seen D l b) (hll : l.length ≤ 1000000) :
    Calls Tryz.prog 23 #[strC p, .func (.func 24) #[] #[.pointer (some ⟨qs, 0, none⟩), .pointer (some ⟨qb, 0, none⟩), .pointer (some ⟨qp, 0, none⟩)]] w (CkPost z qs qe qi qb qp bs be i seen D l b (dirsP p) w) := by
 have HP := Lib.hid (show CkPost z qs qe qi qb qp bs be i seen D l b (dirsP p) w = fun r w' => ∃ D', r = .returned (.tuple #[]) ∧ CkS w' z qs qe qi qb qp bs be i seen D' (l ++ entD (dirsP p)) (b || seenP seen (dirsP p)) ∧ Keep (CkK qb be D) w w' ∧ ∀ d ∈ D', d ∈ D ∨ w.heap.size ≤ d from rfl)
 rw [HP.out]
 clear HP
 have HH := Lib.hid h
 clear h
 unfold strC
 have hsz : (⟨p.toArray⟩ : ByteArray).size = p.length := by simp [ByteArray.size]
 go_enter Tryz.func23, Tryz.ntmps23
 go_wp2_with fail
 go_loopw [7] (fun s7 wr => ∃ (k : Nat) (D' : List Nat), s7 = .int .i64 (k : Nat) ∧ k ≤ p.length ∧ Hid (CkS wr z qs qe qi qb qp bs be i seen D' (l ++ entD (dirsP (p.take k))) (b || seenP seen (dirsP (p.take k)))) ∧ Hid (Keep (CkK qb be D) w wr) ∧ Hid (∀ d ∈ D', d ∈ D ∨ w.heap.size ≤ d)) (fun s7 _ => p.length - (intOf s7).toNat)
 case atStart => exact ⟨0, D, rfl, Nat.zero_le _, Lib.hid (by simpa [dirsP, dirsFrom, entD, seenP] using HH.out), Lib.hid (Keep.refl _ _), Lib.hid fun d hd => .inl hd⟩
 case round =>
  obtain ⟨k, D', rfl, hk, HS, HK, HD⟩ := hrel
  by_cases hlt : k < p.length
  · obtain ⟨x, hx⟩ : ∃ x, p[k]? = some x := ⟨_, List.getElem?_eq_getElem hlt⟩
    have HT := Lib.hid (dirsP_take hx)
    have i0 : (0 : Int) ≤ (k : Int) := by omega
    have i1 : (k : Int) < (p.length : Int) := by omega
    have hx1 : p[k] = x := by
     have := List.getElem?_eq_getElem hlt
     rw [hx] at this
     exact (Option.some.inj this).symm
    have hb : ((⟨p.toArray⟩ : ByteArray)[k]'(by rw [hsz]; exact hlt)) = x := hx1
    have he : (⟨p.toArray⟩ : ByteArray).extract 0 k = ⟨(p.take k).toArray⟩ := by
     apply ByteArray.ext
     apply Array.ext'
     simp
    have hdl := dirsP_len (p.take k)
    rw [List.length_take] at hdl
    have HC := Lib.hid (seen_any (p.take k) z qs qe qi qb qp bs be i seen D' (l ++ entD (dirsP (p.take k))) (b || seenP seen (dirsP (p.take k))) wr (by rw [List.length_take]; omega) (Nat.le_trans hz HK.out.size) HS.out (by rw [List.length_append, entD, List.length_map]; omega))
    unfold CkPost strC at HC
    clear hx1 hdl hx
    by_cases hx : x = 47
    · subst hx
      rw [if_pos rfl] at HT
      go_wp2_with (go_at_call 24; refine HC.out.mono ?_)
      rintro _ w2 ⟨D2, rfl, q1, q2, q3⟩
      have HS2 := Lib.hid (show CkS w2 z qs qe qi qb qp bs be i seen D2 (l ++ entD (dirsP (p.take (k + 1)))) (b || seenP seen (dirsP (p.take (k + 1)))) from by
       rw [HT.out, entD_snoc, seenP_append, ← List.append_assoc, ← Bool.or_assoc]
       exact q1)
      have HK2 := Lib.hid (CkK.then_ HK.out HD.out q2)
      have HD2 := Lib.hid (show ∀ d ∈ D2, d ∈ D ∨ w.heap.size ≤ d from fun d hd => by
       rcases q3 d hd with r | r
       · exact HD.out d r
       · exact .inr (Nat.le_trans HK.out.size r))
      clear q1 q2 q3
      go_wp2_with fail
      go_roundw
      case rel => exact ⟨k + 1, D2, by go_num, hlt, HS2, HK2, HD2⟩
      case measure => simp [intOf]; omega
    · have hne : ((x.toNat : Int) == 47) = false := beq_eq_false_iff_ne.2 fun e => hx (by apply UInt8.toNat_inj.1; show x.toNat = 47; omega)
      rw [if_neg hx, List.append_nil] at HT
      rw [← HT.out] at HS
      go_wp2_with fail
      go_roundw
      case rel => exact ⟨k + 1, D', by go_num, hlt, HS, HK, HD⟩
      case measure => simp [intOf]; omega
  · obtain rfl : k = p.length := by omega
    rw [List.take_length] at HS
    go_wp2_with fail
    go_end0
    exact ⟨D', rfl, HS.out, HK.out, HD.out⟩
end Go.Proofs.YtbaapjlmpmpocaaGreatDoor
