/-
  Contract of patch.Hunks. No statement of the seat is proved here.
-/
import Derived.Test.YtlcidbbpjlpmjaaDoorQj
import Derived.Test.YtlcidbbpjlpmjaaDoorQf
namespace Go.Proofs.YtlcidbbpjlpmjaaDoor
open Go.RowKit

theorem putH_bd (h : HkD) (op : Nat) (l : List (List UInt8)) : (putH h op l).eds.length ≤ h.eds.length + 1 ∧ (putH h op l).ls.length ≤ h.ls.length + l.length := by
  unfold putH
  split
  · omega
  · simp
theorem putL_bd (l : List HkD) (op : Nat) (x : List (List UInt8)) (E L : Nat) (h : ∀ h ∈ l, h.eds.length ≤ E ∧ h.ls.length ≤ L) : ∀ h ∈ putL l op x, h.eds.length ≤ E + 1 ∧ h.ls.length ≤ L + x.length := by
  rcases List.eq_nil_or_concat l with rfl | ⟨r, y, rfl⟩
  · intro h hh; simp [putL] at hh
  · rw [List.concat_eq_append] at h ⊢
    rw [putL_snoc]
    intro z hz
    rcases List.mem_append.1 hz with q | q
    · have := h z (List.mem_append_left _ q)
      omega
    · have := List.mem_singleton.1 q
      subst this
      have h1 := h y (by simp)
      have h2 := putH_bd y op x
      omega
theorem putL_ne (l : List HkD) (op : Nat) (x : List (List UInt8)) (h : l ≠ []) : putL l op x ≠ [] := by
  intro e
  have := putL_len l op x
  rw [e] at this
  exact h (List.eq_nil_of_length_eq_zero (by simpa using this.symm))
/-- What stays so while a script is taken to hunks: k steps are done, rest is to come. -/
structure CInv (a b : List (List UInt8)) (c : CutD) (k : Nat) (rest : List EdD) : Prop where
  ai : c.i + fromA rest = a.length
  bj : c.j + fromB rest = b.length
  ui : c.uns ≤ c.i
  uj : c.uns ≤ c.j
  op : c.opn = true → c.out ≠ []
  ol : c.out.length ≤ k
  bd : ∀ h ∈ c.out, h.eds.length ≤ 2 * k ∧ h.ls.length ≤ c.i + c.j + 10 * k
  al : ∀ e ∈ rest, 1 ≤ e.n ∧ e.op ≤ 2
theorem begin_bd2 (a : List (List UInt8)) (ar k I : Nat) (c : CutD) (har : ar ≤ 10) (hbd : ∀ h ∈ c.out, h.eds.length ≤ 2 * k ∧ h.ls.length ≤ I + 10 * k) : ∀ h ∈ (beginP a ar c).out, h.eds.length ≤ 2 * k + 1 ∧ h.ls.length ≤ I + 10 * k + 10 := by
  intro h hh
  unfold beginP at hh
  split at hh
  · have := hbd h hh
    omega
  · simp only [List.mem_append, List.mem_singleton] at hh
    rcases hh with hh | rfl
    · have := hbd h hh
      omega
    · have := putH_bd ⟨c.i - min ar c.uns, c.j - min ar c.uns, [], []⟩ 0 ((a.drop (c.i - min ar c.uns)).take (min ar c.uns))
      simp at this ⊢
      omega
theorem begin_ne (a : List (List UInt8)) (ar : Nat) (c : CutD) (h : c.opn = true → c.out ≠ []) : (beginP a ar c).out ≠ [] := by
  unfold beginP
  split
  · exact h (by assumption)
  · simp
theorem CInv.next {a b : List (List UInt8)} {c : CutD} {k ar : Nat} {e : EdD} {rest : List EdD} (h : CInv a b c k (e :: rest)) (har : ar ≤ 10) (last : Bool) : CInv a b (editP a b ar c e last) (k + 1) rest := by
  obtain ⟨ai, bj, ui, uj, op, ol, bd, al⟩ := h
  have hn := al e (by simp)
  have al' : ∀ e ∈ rest, 1 ≤ e.n ∧ e.op ≤ 2 := fun x hx => al x (by simp [hx])
  simp only [fromA, fromB, List.map_cons, List.sum_cons] at ai bj
  have l1 := putL_len
  unfold editP
  by_cases h0 : e.op = 0
  · rw [h0] at ai bj
    simp at ai bj
    simp only [h0, if_true]
    split
    · rename_i q
      refine ⟨by simp [fromA]; omega, by simp [fromB]; omega, by simp, by simp, fun _ => putL_ne _ _ _ (op q.1), by simp [putL_len]; omega, fun x hx => ?_, al'⟩
      have := putL_bd _ _ _ _ _ bd x hx
      simp at this ⊢
      omega
    · split
      · rename_i q
        refine ⟨by simp [fromA]; omega, by simp [fromB]; omega, by simp, by simp, fun q => by simp at q, by simp [putL_len]; omega, fun x hx => ?_, al'⟩
        have := putL_bd _ _ _ _ _ bd x hx
        simp at this ⊢
        omega
      · refine ⟨by simp [fromA]; omega, by simp [fromB]; omega, by simp, by simp, fun q => by simp at q, by simp; omega, fun x hx => ?_, al'⟩
        have := bd x hx
        simp at this ⊢
        omega
  · have hb2 := begin_bd2 a ar k (c.i + c.j) c har bd
    have hbl := begin_len a ar c
    have hbn := begin_ne a ar c op
    by_cases h1 : e.op = 1
    · rw [h1] at ai bj
      simp at ai bj
      simp only [h1]
      refine ⟨by simp [fromA]; omega, by simp [fromB]; omega, by simp; omega, by simp; omega, fun _ => by simpa using putL_ne _ _ _ hbn, by simp [putL_len]; omega, fun x hx => ?_, al'⟩
      have := putL_bd _ _ _ _ _ hb2 x (by simpa using hx)
      simp at this ⊢
      omega
    · have h2 : e.op = 2 := by omega
      rw [h2] at ai bj
      simp at ai bj
      simp only [h2]
      refine ⟨by simp [fromA]; omega, by simp [fromB]; omega, by simp; omega, by simp; omega, fun _ => by simpa using putL_ne _ _ _ hbn, by simp [putL_len]; omega, fun x hx => ?_, al'⟩
      have := putL_bd _ _ _ _ _ hb2 x (by simpa using hx)
      simp at this ⊢
      omega
theorem altern_all : ∀ (l : List EdD), altern l → ∀ e ∈ l, 1 ≤ e.n ∧ e.op ≤ 2
  | [], _, _, he => by simp at he
  | [x], h, e, he => by
    have := List.mem_singleton.1 he
    subst this
    exact h
  | x :: y :: l, h, e, he => by
    rcases List.mem_cons.1 he with rfl | he
    · exact ⟨h.1, h.2.1⟩
    · exact altern_all (y :: l) h.2.2.2 e he
theorem CInv.start (a b : List (List UInt8)) : CInv a b ⟨0, 0, [], false, 0⟩ 0 (diffP a b) :=
  ⟨by simpa using (diffP_of a b).2.1, by simpa using (diffP_of a b).2.2.1, Nat.le_refl _, Nat.le_refl _, fun q => by simp at q, Nat.zero_le _, by simp, altern_all _ (diffP_of a b).1⟩
/-- Any step of the cutter. -/
theorem edit_any (a b : List (List UInt8)) (q base B : Nat) (Aa Ab : Option Addr) (ca cb ar k : Nat) (c : CutD) (e : EdD) (rest : List EdD) (A : Option Addr) (cp : Nat) (last : Bool) (w : World) (p0 : Nat) (hc : CutS w q base (.slice Aa a.length ca) (.slice Ab b.length cb) ar c A cp p0) (hI : CInv a b c k (e :: rest)) (hk : k ≤ 8000) (hr : Reads w B 1 Aa a.length (strL a)) (hrb : Reads w B 1 Ab b.length (strL b)) (hB : B ≤ base) (hqB : B ≤ q)
    (hca : a.length ≤ ca) (hal : a.length ≤ 4000) (hcb : b.length ≤ cb) (hbl : b.length ≤ 4000) (har : ar ≤ 10) :
    Calls Tryd.prog 29 #[.pointer (some ⟨q, 0, none⟩), .agg #[.int .i64 (e.op : Int), .int .i64 (e.n : Int)], .bool last] w (EditPost a b q base (.slice Aa a.length ca) (.slice Ab b.length cb) ar c e last w) := by
  obtain ⟨ai, bj, ui, uj, op, ol, bd, al⟩ := hI
  have hn := al e (by simp)
  simp only [fromA, fromB, List.map_cons, List.sum_cons] at ai bj
  have bd' : ∀ h ∈ c.out, h.eds.length ≤ 90000 ∧ h.ls.length ≤ 90000 := fun h hh => by have := bd h hh; omega
  obtain ⟨eo, en⟩ := e
  simp only at ai bj hn
  have h3 : eo = 0 ∨ eo = 1 ∨ eo = 2 := by omega
  rcases h3 with rfl | rfl | rfl
  · simp at ai bj
    exact edit_keep a b q base B Aa ca _ ar c A cp en last w p0 hc hr hB hqB hca hal (by omega) (by omega) hn.1 har (by omega) op (fun h hh => by have := bd' h hh; omega)
  · simp at ai bj
    exact edit_del a b q base B Aa Ab ca cb ar c A cp en last w p0 hc hr hB hqB hca hal (by omega) (by omega) hn.1 ui uj har (by omega) op bd'
  · simp at ai bj
    exact edit_ins a b q base B Aa Ab ca cb ar c A cp en last w p0 hc hr hrb hB hqB hca hal hcb hbl (by omega) (by omega) hn.1 ui uj har (by omega) op bd'
end Go.Proofs.YtlcidbbpjlpmjaaDoor
