/-
  Hunks that may be, as hunks of numbers. No statement of the seat is proved here.
-/
import Derived.Test.YtlcidbbpjlpmjaaDoorRe
import Derived.Test.YtlcidbbpjlpmjaaDoorTa
import Derived.Test.YtlcidbbpjlpmjaaDoorTb
namespace Go.Proofs.YtlcidbbpjlpmjaaDoor
open Go.RowKit

/-- A hunk without signs. -/
def EdI.toD (e : EdI) : EdD := ⟨e.op.toNat, e.n.toNat⟩
def HkI.toD (h : HkI) : HkD := ⟨h.a.toNat, h.b.toNat, h.eds.map EdI.toD, h.ls⟩
theorem edsP_ok {len : Nat} : ∀ {l : List EdI} {p : Option Int} {c c' : Cnt}, edsP len p c l = some c' → c.all ≤ len → (∀ e ∈ l, 0 ≤ e.op ∧ e.op ≤ 2 ∧ 1 ≤ e.n) ∧ c'.all = c.all + sumN (l.map EdI.toD)
  | [], _, c, c', h, _ => by
    unfold edsP at h
    injection h with h
    subst h
    exact ⟨by simp, by simp [sumN]⟩
  | e :: l, p, c, c', h, hc => by
    unfold edsP at h
    split at h
    · cases h
    next hb =>
      simp only [Bool.not_eq_true] at hb
      obtain ⟨h1, h2, h3, h4, _⟩ := badE_false hb
      have ha : (addE c e).all = c.all + e.n.toNat := addE_all
      obtain ⟨q1, q2⟩ := edsP_ok h (by rw [ha]; omega)
      refine ⟨fun x hx => ?_, ?_⟩
      · rcases List.mem_cons.1 hx with rfl | hx
        · exact ⟨h1, h2, h3⟩
        · exact q1 x hx
      · rw [q2, ha]
        simp [sumN, EdI.toD, Nat.add_assoc]
theorem toD_toI {h : HkI} {c : Cnt} (hm : mayP h = some c) : h.toD.toI = h := by
  obtain ⟨h1, h2, _, h4, _⟩ := mayP_eds hm
  obtain ⟨q1, _⟩ := edsP_ok h1 (Nat.zero_le _)
  have hp := places_true h h4
  obtain ⟨a, b, eds, ls⟩ := h
  simp only at q1 hp
  simp only [HkI.toD, HkD.toI, HkI.mk.injEq, List.map_map, and_true]
  refine ⟨by omega, by omega, ?_⟩
  conv => rhs; rw [← List.map_id eds]
  refine List.map_congr_left fun e he => ?_
  obtain ⟨x1, x2, x3⟩ := q1 e he
  obtain ⟨op, n⟩ := e
  simp only at x1 x2 x3
  simp only [Function.comp, EdI.toD, EdD.toI, id, EdI.mk.injEq]
  omega
theorem okD_of {h : HkI} {c : Cnt} (hm : mayP h = some c) (h1 : h.eds.length ≤ 10000000) (h2 : h.ls.length ≤ 10000000) : OkD h.toD := by
  obtain ⟨e1, e2, _, _, _⟩ := mayP_eds hm
  obtain ⟨q1, q2⟩ := edsP_ok e1 (Nat.zero_le _)
  refine ⟨?_, fun e he => ?_, by simpa [HkI.toD] using h1, h2⟩
  · have : (HkI.toD h).eds = h.eds.map EdI.toD := rfl
    rw [this]
    have h0 : cnt0.all = 0 := rfl
    show sumN (h.eds.map EdI.toD) = h.ls.length
    omega
  · obtain ⟨x, hx, rfl⟩ := List.mem_map.1 he
    obtain ⟨x1, x2, x3⟩ := q1 x hx
    simp only [EdI.toD]
    omega
theorem edIs_toD {l : List EdI} (h : (l.map EdI.toD).map EdD.toI = l) : edLs (l.map EdI.toD) = edIs l := by rw [edLs_toI, h]
/-- Rows that read as hunks that may be read as hunks of numbers. -/
theorem HII.toD {w : World} {B : Nat} {A : Option Addr} {hs : List HkI} (h : HII w B A hs) (hm : ∀ x ∈ hs, okH x = true) : HIn w B A (hs.map HkI.toD) := by
  obtain ⟨tv, h1, h2, h3⟩ := h
  have hid : (hs.map HkI.toD).map HkD.toI = hs := by
    rw [List.map_map]
    conv => rhs; rw [← List.map_id hs]
    refine List.map_congr_left fun x hx => ?_
    obtain ⟨c, hc⟩ := Option.isSome_iff_exists.1 (hm x hx)
    exact toD_toI hc
  refine ⟨tv, by simpa using h1, by rw [hkIs_toI, hid]; simpa using h2, fun k x y z e1 e2 => ?_⟩
  rw [List.getElem?_map, Option.map_eq_some_iff] at e1
  obtain ⟨u, e3, rfl⟩ := e1
  obtain ⟨A, c, A', c', q1, q2, q3, q4, q5, q6, q7⟩ := h3 k u y z e3 e2
  obtain ⟨cn, hc⟩ := Option.isSome_iff_exists.1 (hm u (List.mem_of_getElem? e3))
  have hu := toD_toI hc
  have he : (u.eds.map EdI.toD).map EdD.toI = u.eds := congrArg HkI.eds hu
  exact ⟨A, c, A', c', by simpa [HkI.toD] using q1, q2, by simpa [HkI.toD] using q3, q4, q5, by simpa [HkI.toD, edIs_toD he] using q6, q7⟩
end Go.Proofs.YtlcidbbpjlpmjaaDoor
