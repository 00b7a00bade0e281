/-
  Contracts of the reference's Has, wrong and EncodeCommit. No statement of the seat is proved here.
-/
import Derived.Test.YtppmolneklidfaaEcom
namespace Go.Proofs.Ytppmolneklidfaa
open Go.RowKit

attribute [local go_sem ↓] ld_id eq_id bd_com st_com

set_option maxHeartbeats 1000000 in
set_option maxRecDepth 100000 in
theorem has_any (l : List Id) (n : Nat) (hn : l.length = n) (x : Id) (A : Option Addr) (c : Nat) (B : Nat) (w : World) (hr : Reads w B 32 A n (idLs l)) (hB : B ≤ w.heap.size) (hl : n ≤ 9223372036854775807) :
    Calls Try.prog 62 #[.slice A n c, idV x] w fun r w' => r = .returned (.bool (hasId l x)) ∧ Keep Nothing w w' := by
  subst hn
  go_enter Try.func62, Try.ntmps62
  go_wp2_with (first | (refine wpList_boxed rfl rfl (cs := idC x) rfl ?_))
  have hb0 : Blk (w.alloc (.cells (idC x) 42)) w.heap.size 42 (idC x) := Blk.new _ _ _
  have hk0 : Keep Nothing w (w.alloc (.cells (idC x) 42)) := (Keep.refl _ _).alloc _
  have hrk : ∀ W, Keep Nothing w W → Reads W B 32 A l.length (idLs l) := fun W h => hr.kept h hB (fun _ _ q => q)
  have HR := Lib.hid hrk
  clear hrk
  generalize w.alloc (.cells (idC x) 42) = w0 at *
  generalize w.heap.size = q at *
  go_loopw [5] (fun i wr => ∃ k : Nat, k ≤ l.length ∧ i = .int .i64 k ∧ (l.take k).contains x = false ∧ Keep Nothing w wr ∧ Blk wr q 42 (idC x)) (fun i _ => l.length - (intOf i).toNat)
  case atStart => exact ⟨0, Nat.zero_le _, rfl, rfl, hk0, hb0⟩
  case round =>
    obtain ⟨k, hk, rfl, hno, hkw, hbx⟩ := hrel
    have HN := Lib.hid hno
    clear hno
    by_cases hlt : k < l.length
    · obtain ⟨y, hy⟩ : ∃ y, l[k]? = some y := ⟨_, List.getElem?_eq_getElem hlt⟩
      have hts : l.take (k + 1) = l.take k ++ [y] := by rw [List.take_succ_eq_append_getElem hlt]; congr 2; rw [List.getElem?_eq_getElem hlt] at hy; simpa using hy
      obtain ⟨g1, o1, rfl, _, hc1⟩ := (HR.out _ hkw).at0 (by omega) (by omega)
      have L1 := fun n => LdId.blk (hbx.drewN n)
      have L2 := fun n => ldId_at (w := wr.drewN n) (fun j u hj => hc1 j u hj) hy
      have G1 := fun (a b : Operand) (W : World) => guard_id .eql a b y x W
      have HT := Lib.hid hts
      have HY := Lib.hid hy
      have hi0 : (0 : Int) ≤ (k : Int) := Int.natCast_nonneg _
      have hi1 : (k : Int) < (l.length : Int) := by omega
      clear hc1 hts hy
      cases hxy : (y == x) with
      | true =>
        have E1 := fun W => run_EqId W y x
        rw [hxy] at E1
        have HF := Lib.hid hxy
        clear hxy
        go_wp2_with fail
        go_quiet (fail)
        go_wp2_with fail
        go_ret
        refine ⟨?_, hkw.drewN _⟩
        have e1 : y = x := eq_of_beq HF.out
        subst e1
        rw [show hasId l y = true from List.contains_iff_mem.2 (List.mem_of_getElem? HY.out)]
        rfl
      | false =>
        have E1 := fun W => run_EqId W y x
        rw [hxy] at E1
        have HF := Lib.hid hxy
        clear hxy
        go_wp2_with fail
        go_quiet (fail)
        go_wp2_with fail
        go_roundw
        case rel =>
          refine ⟨k + 1, by omega, by go_num, ?_, hkw.drewN _, hbx.drewN _⟩
          rw [HT.out, List.contains_eq_any_beq, List.any_append, ← List.contains_eq_any_beq, HN.out]
          have := HF.out
          simp only [beq_eq_false_iff_ne, ne_eq] at this
          rw [show [y].any (fun a => x == a) = (x == y) from by simp, beq_eq_false_iff_ne.2 (fun h => this h.symm)]
          rfl
        case measure => simp [intOf]; omega
    · obtain rfl : k = l.length := by omega
      go_wp2_with fail
      go_ret
      refine ⟨?_, hkw⟩
      have := HN.out
      rw [List.take_length] at this
      unfold hasId
      rw [this]
      rfl

set_option maxHeartbeats 4000000 in
set_option maxRecDepth 100000 in
theorem wrong_any (d : ComD) (A : Option Addr) (c : Nat) (w : World) (hr : Reads w w.heap.size 32 A d.parents.length (idLs d.parents)) (hl : d.parents.length ≤ 1000) (hc : d.parents.length ≤ c) (ha : d.author.size ≤ 9223372036854775807) (hm : d.msg.size ≤ 9223372036854775807) :
    Calls Try.prog 58 #[.agg (comC d.tree (.slice A d.parents.length c) d.author d.time d.msg)] w fun r w' => r = .returned (.int .i64 (ecE d)) ∧ Keep Nothing w w' := by
  obtain ⟨t, ps, au, tm, ms⟩ := d
  have hq0 : Blk (w.alloc (.cells (comC t (.slice A ps.length c) au tm ms) 45)) w.heap.size 45 (comC t (.slice A ps.length c) au tm ms) := Blk.new _ _ _
  have hk0 : Keep Nothing w (w.alloc (.cells (comC t (.slice A ps.length c) au tm ms) 45)) := (Keep.refl _ _).alloc _
  have G1 := fun (a b : Operand) (W : World) => guard_id .eql a b t noId W
  have E1 := fun W => run_EqId W t noId
  have L1 := ldId_com hq0
  have p1 := (hq0.cell 32).trans comC_at.1
  have HD := Lib.hid (show ∀ e, ecE0 ⟨t, ps, au, tm, ms⟩ = e → e ≠ 0 → ecE ⟨t, ps, au, tm, ms⟩ = e from fun _ h h0 => ecE_err0 h h0)
  cases hi : (t == noId) with
  | true =>
    rw [hi] at E1
    have HE := Lib.hid (HD.out 1 (by unfold ecE0 isNone; rw [hi]; rfl) (by decide))
    clear hi
    go_enter Try.func58, Try.ntmps58
    go_wp2_with (first | (refine wpList_boxed rfl rfl (cs := comC t (.slice A ps.length c) au tm ms) rfl ?_; generalize w.alloc (.cells (comC t (.slice A ps.length c) au tm ms) 45) = w1 at *; generalize w.heap.size = q at *) | (refine wpList_built rfl rfl (vs := #[]) rfl (build_noId _) ?_))
    go_ret
    exact ⟨by rw [HE.out]; rfl, hk0⟩
  | false =>
    rw [hi] at E1
    have HI := Lib.hid hi
    clear hi
    by_cases h8 : ps.length ≤ 8
    · have d8 : decide ((8 : Int) < (ps.length : Int)) = false := decide_eq_false (by omega)
      have HE0 := Lib.hid (show ecE0 ⟨t, ps, au, tm, ms⟩ = 0 from by unfold ecE0 isNone; rw [HI.out]; simp [note]; omega)
      have HS := Lib.hid (show ∃ bs, ecGo 0 bs [] ps = ecP ⟨t, ps, au, tm, ms⟩ from ⟨_, by unfold ecP; rw [HE0.out]⟩)
      clear HD
      go_enter Try.func58, Try.ntmps58
      go_wp2_with (first | (refine wpList_boxed rfl rfl (cs := comC t (.slice A ps.length c) au tm ms) rfl ?_; generalize w.alloc (.cells (comC t (.slice A ps.length c) au tm ms) 45) = w1 at *; generalize hq : w.heap.size = q at *; have HQ := Lib.hid hq; clear hq) | (refine wpList_built rfl rfl (vs := #[]) rfl (build_noId _) ?_))
      clear L1 p1 E1 G1
      go_loopw [3] (fun i wr => ∃ k, k ≤ ps.length ∧ i = .int .i64 (k : Nat) ∧ (∃ bs, ecGo 0 bs (ps.take k) (ps.drop k) = ecP ⟨t, ps, au, tm, ms⟩) ∧ Keep Nothing w wr ∧ Blk wr q 45 (comC t (.slice A ps.length c) au tm ms)) (fun i _ => ps.length - (intOf i).toNat)
      case atStart => exact ⟨0, Nat.zero_le _, rfl, HS.out, hk0, hq0⟩
      case round =>
        obtain ⟨k, hk, rfl, ⟨bs, hpre⟩, hkw, hqb⟩ := hrel
        have HE := Lib.hid hpre
        clear hpre hk0 hq0 HS
        have z := hkw.size
        have lq := hqb.lt
        by_cases hlt : k < ps.length
        · obtain ⟨x, hx⟩ : ∃ x, ps[k]? = some x := ⟨_, List.getElem?_eq_getElem hlt⟩
          have hdr : ps.drop k = x :: ps.drop (k + 1) := by rw [List.drop_eq_getElem_cons hlt]; congr 1; rw [List.getElem?_eq_getElem hlt] at hx; simpa using hx
          have htk : ps.take (k + 1) = ps.take k ++ [x] := by rw [List.take_succ_eq_append_getElem hlt]; congr 2; rw [List.getElem?_eq_getElem hlt] at hx; simpa using hx
          have hrw : Reads wr q 32 A ps.length (idLs ps) := hr.kept hkw (by have := HQ.out; omega) (fun _ _ h => h)
          have hrk : Reads wr q 32 A k (idLs (ps.take k)) := by rw [← idLs_take]; exact hrw.front (by omega)
          have HE2 := Lib.hid (show ecGo (note (note 0 (!isNone x) 1) (!hasId (ps.take k) x) 18) (bs ++ x.1) (ps.take (k + 1)) (ps.drop (k + 1)) = ecP ⟨t, ps, au, tm, ms⟩ from by rw [← HE.out, hdr, htk]; rfl)
          obtain ⟨g1, o1, rfl, _, hc1⟩ := hrw.at0 (by omega) (by omega)
          have L2 := ldId_at (w := wr) (fun j u hj => hc1 j u hj) hx
          have L3 := ldId_at (w := wr.drew) (fun j u hj => hc1 j u hj) hx
          have G1 := fun (a b : Operand) (W : World) => guard_id .eql a b x noId W
          have E1 := fun W => run_EqId W x noId
          have pv := (hqb.cell 32).trans comC_at.1
          clear hx hdr htk hrw hc1 HE
          have hi0 : (0 : Int) ≤ (k : Int) := Int.natCast_nonneg _
          have hi1 : (k : Int) < (ps.length : Int) := by omega
          cases hxn : (x == noId) with
          | true =>
            rw [hxn] at E1
            have HT := Lib.hid (show ecE ⟨t, ps, au, tm, ms⟩ = 1 from ecE_err (by rw [← HE2.out]; unfold isNone; rw [hxn, show note 0 (!true) 1 = 1 from rfl, note_err (by decide)]; exact ecGo_err _ _ _ _ (by decide)) (by decide))
            clear hxn hrk
            go_wp2_with (first | (refine wpList_built rfl rfl (vs := #[]) rfl (build_noId _) ?_))
            go_ret
            exact ⟨by rw [HT.out]; rfl, hkw⟩
          | false =>
            rw [hxn] at E1
            have HE3 := Lib.hid (show ecGo (note 0 (!hasId (ps.take k) x) 18) (bs ++ x.1) (ps.take (k + 1)) (ps.drop (k + 1)) = ecP ⟨t, ps, au, tm, ms⟩ from by rw [← HE2.out]; unfold isNone; rw [hxn]; rfl)
            have htl : (ps.take k).length = k := by rw [List.length_take]; omega
            have HTL := Lib.hid htl
            have hkc : (k : Int) ≤ (c : Int) := by omega
            have hzd : q ≤ wr.drew.heap.size := by show q ≤ wr.heap.size; omega
            clear hxn htl HE2
            go_wp2_with (first | (refine wpList_built rfl rfl (vs := #[]) rfl (build_noId _) ?_))
            clear L2 E1 G1
            go_region_law (first | (go_simp; go_at_call 62; refine (has_any (ps.take k) k HTL.out x _ c _ _ hrk.drew hzd (by omega)).mono ?_; rintro r w2 ⟨rfl, hk2⟩))
            all_goals
              have hkw2 := hkw.drew.trans hk2
              have hq2 := hqb.drew.keep hk2 (fun h => h)
              clear hk2 hrk L3 pv
              cases hh : hasId (ps.take k) x with
              | true =>
                have HT := Lib.hid (show ecE ⟨t, ps, au, tm, ms⟩ = 18 from ecE_err (by rw [← HE3.out, hh]; exact ecGo_err _ _ _ _ (by decide)) (by decide))
                clear hh
                go_wp2_with fail
                go_ret
                exact ⟨by rw [HT.out]; rfl, hkw2⟩
              | false =>
                have HT := Lib.hid (show ecGo 0 (bs ++ x.1) (ps.take (k + 1)) (ps.drop (k + 1)) = ecP ⟨t, ps, au, tm, ms⟩ from by rw [← HE3.out, hh]; rfl)
                clear hh
                go_wp2_with fail
                go_roundw
                case rel => exact ⟨k + 1, by omega, by go_num, ⟨_, HT.out⟩, hkw2, hq2⟩
                case measure => simp [intOf]; omega
        · have hk' : k = ps.length := by omega
          have HG := HE.out
          rw [hk', List.drop_length] at HG
          have HG2 := Lib.hid (show ecE ⟨t, ps, au, tm, ms⟩ = note (note 0 (decide ((au.size : Int) ≤ 1000)) 5) (decide ((ms.size : Int) ≤ 1000)) 5 from by unfold ecE; rw [← HG]; rfl)
          have p9 := (hqb.cell 33).trans comC_at.2.1
          have p10 := (hqb.cell 35).trans comC_at.2.2.2
          have p8 := (hqb.cell 32).trans comC_at.1
          clear HG HE hk'
          by_cases h1 : au.size ≤ 1000
          · have d1 : decide ((1000 : Int) < (au.size : Int)) = false := decide_eq_false (by omega)
            by_cases h2 : ms.size ≤ 1000
            · have d2 : decide ((1000 : Int) < (ms.size : Int)) = false := decide_eq_false (by omega)
              have HT := Lib.hid (show ecE ⟨t, ps, au, tm, ms⟩ = 0 from by rw [HG2.out, decide_eq_true (by omega), decide_eq_true (by omega)]; rfl)
              go_wp2_with fail
              go_ret
              exact ⟨by rw [HT.out]; rfl, hkw⟩
            · have d2 : decide ((1000 : Int) < (ms.size : Int)) = true := decide_eq_true (by omega)
              have HT := Lib.hid (show ecE ⟨t, ps, au, tm, ms⟩ = 5 from by rw [HG2.out, decide_eq_true (by omega), decide_eq_false (by omega)]; rfl)
              go_wp2_with fail
              go_ret
              exact ⟨by rw [HT.out]; rfl, hkw⟩
          · have d1 : decide ((1000 : Int) < (au.size : Int)) = true := decide_eq_true (by omega)
            have HT := Lib.hid (show ecE ⟨t, ps, au, tm, ms⟩ = 5 from by rw [HG2.out, decide_eq_false (by omega), note_err (by decide)]; rfl)
            go_wp2_with fail
            go_ret
            exact ⟨by rw [HT.out]; rfl, hkw⟩
    · have h8' : decide ((8 : Int) < (ps.length : Int)) = true := decide_eq_true (by omega)
      have HE := Lib.hid (HD.out 4 (by unfold ecE0 isNone; rw [HI.out]; simp [note]; omega) (by decide))
      clear h8
      go_enter Try.func58, Try.ntmps58
      go_wp2_with (first | (refine wpList_boxed rfl rfl (cs := comC t (.slice A ps.length c) au tm ms) rfl ?_; generalize w.alloc (.cells (comC t (.slice A ps.length c) au tm ms) 45) = w1 at *; generalize w.heap.size = q at *) | (refine wpList_built rfl rfl (vs := #[]) rfl (build_noId _) ?_))
      go_ret
      exact ⟨by rw [HE.out]; rfl, hk0⟩
end Go.Proofs.Ytppmolneklidfaa
