/-
  Contract of lines.numbers: lines as numbers out of a dictionary. No statement of the seat is proved here.
-/
import Derived.Test.YtlcidbbpjlpmjaaDoorProg
import Derived.Test.YtlcidbbpjlpmjaaDoorGen
import Derived.Test.YtlcidbbpjlpmjaaDoorQm
import Derived.OwnWalk
namespace Go.Proofs.YtlcidbbpjlpmjaaDoor
open Go.RowKit Go.WideMaps Go.Maps

section
variable {P : Program}
/-- 'make' of a row of n cells, each nought. -/
theorem wpList_make_one {ops : Array Oper} {rest : List Oper} {o : Oper} {a : Act} {w : World} {Q : Exit → Act → World → Prop} (hgd : o.guard = none) {t e : TypeId} {l c : Operand} (ho : o.op = .makeSlice t l c) {z : Value} {y : Nat} (ht : P.underlying t = some (.slice e)) (hi0 : (P.info? e).map (fun i => (i.zero, i.size, i.bytes)) = some (some z, 1, y)) (hzc : z.cells = #[z]) (hy : y ≤ 100)
    (n : Nat) (hn : n ≤ 1000000) {Z Y : Int} (hl : a.eval l = .int .i64 Z) (hc : a.eval c = .int .i64 Y) (hZ : Z = (n : Int)) (hY : Y = (n : Int))
    (h : wpList P ops Q rest (a.put o.dst (.slice (some ⟨w.heap.size, 0, none⟩) n n)) (w.alloc (.cells (Array.replicate n z) e))) : wpList P ops Q (o :: rest) a w :=
  wpList_plain hgd fun _ hK => by
    obtain ⟨i, hi, h1, h2, h3⟩ := info_parts hi0
    have hrun := run_makeSlice (P := P) w t e i z ht hi h1 .i64 .i64 (n : Int) (n : Int) (by omega) (Int.le_refl _) (by rw [h2]; simp; omega) (by rw [h3]; have h := Nat.mul_le_mul hy hn; rw [← Int.natCast_mul]; exact Int.ofNat_le.2 (Nat.le_trans h (show 100 * 1000000 ≤ 281474976710656 by omega))) (by omega)
    rw [Int.toNat_natCast, h2, hzc] at hrun
    have hmk : madeCells #[z] (n * 1) = Array.replicate n z := by
      apply Array.ext'
      apply List.ext_getElem
      · simp [madeCells]
      · intro i h1 h2
        simp [madeCells, Nat.mod_one]
    rw [hmk] at hrun
    subst hZ hY
    unfold Oper.wp execOp
    simp only [ho, hl, hc, Sem.run_bind, hrun, Result.andThen_ok, Sem.run_pure]
    exact hK _ _ h
end
/-- Lines as cells. -/
def strL (l : List (List UInt8)) : List Value := l.map strC
theorem strL_len (l : List (List UInt8)) : (strL l).length = l.length := by simp [strL]
theorem strL_at {l : List (List UInt8)} {k : Nat} {s : List UInt8} (h : l[k]? = some s) : (strL l)[k]? = some (strC s) := by simp [strL, h]
theorem Reads.strAt {w : World} {B n k : Nat} {A : Option Addr} {l : List (List UInt8)} {s : List UInt8} (h : Reads w B 1 A n (strL l)) (hs : l[k]? = some s) (hn : l.length = n) : ∃ g off, A = some ⟨g, off, none⟩ ∧ g < B ∧ w.cell? ⟨g, off + k, none⟩ = some (strC s) := by
  have hk : k < l.length := by
    rcases Nat.lt_or_ge k l.length with q | q
    · exact q
    · rw [List.getElem?_eq_none q] at hs; cases hs
  obtain ⟨g, off, e, hb, hc⟩ := h.at0 (by omega) (by omega)
  exact ⟨g, off, e, hb, hc _ _ (strL_at hs)⟩
abbrev Dic (w : World) (b : Nat) (d : List (List UInt8)) : Prop := Dict Tryd.prog 9 3 w b d
theorem zero_int (w : World) : (zeroValue 3).run Tryd.prog w = .ok (.int .i64 0) w := by kernel_rfl
theorem info_int : (Tryd.prog.info? 3).map (fun i => (i.zero, i.size, i.bytes)) = some (some (.int .i64 0), 1, 8) := by kernel_rfl
theorem keyedS : Keyed Tryd.prog 9 := string_keyed Tryd.underlying9
theorem keyOf_str {s : List UInt8} (hs : s.length ≤ maxLen) : keyOf Tryd.prog 9 (strC s) = some (keyS s) := by
  have := keyOf_string_mk (P := Tryd.prog) Tryd.underlying9 (s := ⟨s.toArray⟩) (show s.toArray.size ≤ maxLen by simpa using hs)
  simpa [strC, keyS] using this
theorem Dict.look {w : World} {b : Nat} {d : List (List UInt8)} (h : Dic w b d) {s : List UInt8} (hs : s.length ≤ maxLen) :
    ∃ c : Int, (Instr.lookup 98 (.map (some b)) (strC s) true).run Tryd.prog w = .ok (.tuple #[.int .i64 c, .bool (decide (s ∈ d))]) w ∧ (s ∈ d → c = (d.idxOf s : Nat)) := by
  obtain ⟨D, h1, h2, h3, h4, h5⟩ := h
  obtain ⟨v, ps, hrun, hv⟩ := h1.look_ok keyedS Tryd.underlying98 (zero_int w) (plainElem_int Tryd.underlying3 (by decide)) (keyOf_str hs)
  obtain ⟨c, rfl, hc, _⟩ := plainElem_int_inv Tryd.underlying3 hv
  refine ⟨c, by rw [hrun, h4], fun hm => ?_⟩
  rw [h5 s hm] at hc
  simp only [Prod.mk.injEq, DataW.lit.injEq, Lit.int.injEq, true_and] at hc
  exact hc.1.symm
theorem Dict.len {w : World} {b : Nat} {d : List (List UInt8)} (h : Dic w b d) (ty : TypeId) : (Builtin.len_ #[98] ty #[.map (some b)]).run Tryd.prog w = .ok (.int .i64 (d.length : Nat)) w := by
  obtain ⟨D, h1, h2, h3, h4, h5⟩ := h
  rw [h1.len Tryd.underlying98, h3]
theorem keep_grown {w w' : World} {b : Nat} (h : w.grownBy w' (some b)) : Keep (Only b) w w' := ⟨h.os, h.tape, h.output, h.size, fun k hk hn => h.block k hk (fun e => hn (by injection e))⟩
/-- Lines by their numbers. -/
def numL (d : List (List UInt8)) (l : List (List UInt8)) : List Value := l.map fun s => .int .i64 ((d.idxOf s : Nat) : Int)
theorem numL_len (d l : List (List UInt8)) : (numL d l).length = l.length := by simp [numL]
theorem numL_front {d t l : List (List UInt8)} (h : ∀ s ∈ l, s ∈ d) : numL (d ++ t) l = numL d l := by
  unfold numL
  apply List.map_congr_left
  intro s hs
  rw [idx_front (h s hs)]
theorem num_set (xs : List Value) (n k : Nat) (v z : Value) (hk : k < n) (hx : xs.length = k) : ((xs ++ List.replicate (n - k) z).toArray).setIfInBounds k v = (xs ++ [v] ++ List.replicate (n - (k + 1)) z).toArray := by
  apply Array.ext'
  rw [Array.toList_setIfInBounds, List.set_append_right _ _ (by omega), hx, Nat.sub_self]
  obtain ⟨m, hm⟩ : ∃ m, n - k = m + 1 := ⟨n - k - 1, by omega⟩
  rw [hm, List.replicate_succ, show n - (k + 1) = m by omega]
  simp
theorem num_at (xs : List Value) (n k : Nat) (z : Value) (hk : k < n) (hx : xs.length = k) : (xs ++ List.replicate (n - k) z).toArray[k]? = some z := by
  obtain ⟨m, hm⟩ : ∃ m, n - k = m + 1 := ⟨n - k - 1, by omega⟩
  rw [hm, List.replicate_succ]
  simp [hx]
def NumPost (d l : List (List UInt8)) (b : Nat) (w : World) (r : Ending) (w' : World) : Prop := ∃ G, r = .returned (.slice (some ⟨G, 0, none⟩) l.length l.length) ∧ Blk w' G 3 (numL (dict d l) l).toArray ∧ w.heap.size ≤ G ∧ Dic w' b (dict d l) ∧ Keep (Only b) w w'
set_option maxHeartbeats 2000000 in
set_option maxRecDepth 100000 in
theorem numbers_any (d l : List (List UInt8)) (b B c : Nat) (A : Option Addr) (w : World) (hd : Dic w b d) (hr : Reads w B 1 A l.length (strL l)) (hB : B ≤ b) (hl : l.length ≤ 100000) (hdl : d.length ≤ 100000) (hs : ∀ s ∈ l, s.length ≤ maxLen) :
    Calls Tryd.prog 51 #[.map (some b), .slice A l.length c] w (NumPost d l b w) := by
  have HP := Lib.hid (show NumPost d l b w = fun r w' => ∃ G, r = .returned (.slice (some ⟨G, 0, none⟩) l.length l.length) ∧ Blk w' G 3 (numL (dict d l) l).toArray ∧ w.heap.size ≤ G ∧ Dic w' b (dict d l) ∧ Keep (Only b) w w' from rfl)
  rw [HP.out]
  have hbl := hd.lt
  go_enter Tryd.func51, Tryd.ntmps51
  go_wp2_with (first | (refine wpList_make_one rfl rfl Tryd.underlying52 info_int rfl (by omega) l.length (by omega) rfl rfl rfl rfl ?_))
  have q0 : Blk (w.alloc (.cells (Array.replicate l.length (Value.int .i64 0)) 3)) w.heap.size 3 (Array.replicate l.length (Value.int .i64 0)) := Blk.new _ _ _
  have d0 : Dic (w.alloc (.cells (Array.replicate l.length (Value.int .i64 0)) 3)) b d := hd.alloc _
  have k0 : Keep (Only b) w (w.alloc (.cells (Array.replicate l.length (Value.int .i64 0)) 3)) := (Keep.refl _ _).alloc _
  generalize hG : w.heap.size = G at *
  generalize w.alloc (.cells (Array.replicate l.length (Value.int .i64 0)) 3) = w0 at *
  go_loopw [15] (fun i wr => ∃ k : Nat, k ≤ l.length ∧ i = .int .i64 k ∧ Blk wr G 3 (numL (dict d (l.take k)) (l.take k) ++ List.replicate (l.length - k) (Value.int .i64 0)).toArray ∧ Dic wr b (dict d (l.take k)) ∧ Keep (Only b) w wr) (fun i _ => l.length - (intOf i).toNat)
  case atStart => exact ⟨0, by omega, rfl, by simpa [dict, numL] using q0, by simpa [dict] using d0, k0⟩
  case round =>
    obtain ⟨k, hk, rfl, hq, hdk, hkp⟩ := hrel
    by_cases hlt : k < l.length
    · obtain ⟨s, hsk⟩ : ∃ s, l[k]? = some s := ⟨l[k], List.getElem?_eq_getElem hlt⟩
      have hss : s.length ≤ maxLen := hs s (List.mem_of_getElem? hsk)
      obtain ⟨g, off, rfl, hgB, hc⟩ := (hr.kept hkp (by omega) (fun i hi => by unfold Only; omega)).strAt hsk rfl
      obtain ⟨x, hlook, hx⟩ := hdk.look hss
      have htk : l.take (k + 1) = l.take k ++ [s] := by rw [List.take_add_one, hsk]; rfl
      have hDl := dict_len d (l.take k)
      have hlk : (l.take k).length = k := by simp; omega
      have hlen := hdk.len
      have hne : G ≠ b := by omega
      generalize hdd : dict d (l.take k) = dk at *
      have HD1 := Lib.hid (show dict d (l.take (k + 1)) = dict1 dk s from by rw [htk, dict_snoc, hdd])
      have HMem := Lib.hid (show ∀ t ∈ l.take k, t ∈ dk from fun t ht => by rw [← hdd]; exact dict_mem d _ t ht)
      have HTK := Lib.hid htk
      clear htk hdd
      by_cases hm : s ∈ dk
      · have hb0 : decide (s ∈ dk) = true := decide_eq_true hm
        rw [hb0] at hlook
        have hx1 := hx hm
        subst hx1
        have c1 := hq.cell k
        have f1 := hq.frozen k
        have c2 := c1.trans (num_at _ _ _ (.int .i64 0) hlt (by rw [numL_len, hlk]))
        have hq1 := hq.set_ k (.int .i64 ((dk.idxOf s : Nat) : Int))
        rw [num_set _ _ _ _ _ hlt (by rw [numL_len, hlk])] at hq1
        have HQ := Lib.hid hq1
        clear hq1 c1
        have hdm := hdk.setCell (p := ⟨G, k, none⟩) (fun e => hne e.symm) (.int .i64 ((dk.idxOf s : Nat) : Int))
        go_wp2
        go_roundw
        case rel => 
          refine ⟨k + 1, by omega, by go_num, ?_, ?_, hkp.setCell (.inr (by simp; omega)) _⟩
          · rw [HD1.out, HTK.out, show dict1 dk s = dk from by unfold dict1; rw [if_pos hm]]
            simpa [numL] using HQ.out
          · rw [HD1.out, show dict1 dk s = dk from by unfold dict1; rw [if_pos hm]]
            exact hdm
        case measure => simp [intOf]; omega
      · have hb0 : decide (s ∈ dk) = false := decide_eq_false hm
        rw [hb0] at hlook
        obtain ⟨D, e1, e2, e3, e4, e5⟩ := hdk
        have hwf : (Lit.int .i64 ((dk.length : Nat) : Int)).wf = true := Go.WalkArith.wf_i64 (by omega)
        have hG0 : G < wr.heap.size := hq.lt
        have HNX : ∀ w1, wr.grownBy w1 (some b) → w1.cell? ⟨G, k, none⟩ = some (.int .i64 0) ∧ w1.frozen? ⟨G, k, none⟩ = false ∧ Hid (Blk (w1.setCell ⟨G, k, none⟩ (.int .i64 ((dk.length : Nat) : Int))) G 3 (numL dk (l.take k) ++ [Value.int .i64 ((dk.length : Nat) : Int)] ++ List.replicate (l.length - (k + 1)) (Value.int .i64 0)).toArray) ∧ Hid (Keep (Only b) w (w1.setCell ⟨G, k, none⟩ (.int .i64 ((dk.length : Nat) : Int)))) := by
          intro w1 g1
          have hq2 : Blk w1 G 3 (numL dk (l.take k) ++ List.replicate (l.length - k) (Value.int .i64 0)).toArray := hq.keep (keep_grown g1) (by unfold Only; exact hne)
          have hq3 := hq2.set_ k (.int .i64 ((dk.length : Nat) : Int))
          rw [num_set _ _ _ _ _ hlt (by rw [numL_len, hlk])] at hq3
          exact ⟨(hq2.cell k).trans (num_at _ _ _ (.int .i64 0) hlt (by rw [numL_len, hlk])), hq2.frozen k, Lib.hid hq3, Lib.hid ((hkp.trans (keep_grown g1)).setCell (.inr (by show w.heap.size ≤ G; omega)) _)⟩
        have HNX := Lib.hid HNX
        go_wp2_with (first | (at_mapUpdate; refine wpList_mapUpdate_own _ rfl _ _ _ 98 rfl 9 3 keyedS Tryd.underlying98 _ b dk.length D rfl e1 (by unfold maxLen; omega) _ _ (keyS s) rfl rfl (keyOf_str hss) _ [] (plainElem_int Tryd.underlying3 hwf) ?_; intro w1 o1 g1; obtain ⟨c2, f2, HQ, HK⟩ := HNX.out w1 g1) | go_in)
        go_roundw
        case rel =>
          refine ⟨k + 1, by omega, by go_num, ?_, ?_, HK.out⟩
          · rw [HD1.out, HTK.out, show dict1 dk s = dk ++ [s] from by unfold dict1; rw [if_neg hm]]
            have e1 : numL (dk ++ [s]) (l.take k ++ [s]) = numL dk (l.take k) ++ [Value.int .i64 ((dk.length : Nat) : Int)] := by
              have e2 : numL (dk ++ [s]) (l.take k ++ [s]) = numL (dk ++ [s]) (l.take k) ++ numL (dk ++ [s]) [s] := by simp [numL]
              rw [e2, numL_front HMem.out]
              simp [numL, List.idxOf_append, hm]
            rw [e1]
            exact HQ.out
          · rw [HD1.out, show dict1 dk s = dk ++ [s] from by unfold dict1; rw [if_neg hm]]
            exact (Dict.put o1 e2 e3 e4 e5 hm).setCell (p := ⟨G, k, none⟩) (fun e => hne e.symm) _
        case measure => simp [intOf]; omega
    · have hkl : k = l.length := by omega
      go_wp2
      go_ret
      subst hkl
      refine ⟨G, rfl, ?_, by omega, ?_, hkp⟩
      · simpa using hq
      · simpa using hdk
end Go.Proofs.YtlcidbbpjlpmjaaDoor
