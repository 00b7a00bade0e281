/-
  Plain law: the text of hunks of two small texts is not long. No statement of the seat is proved here.
-/
import Derived.Test.YtlcidbbpjlpmjaaDoorNd
import Derived.Test.YtlcidbbpjlpmjaaDoorNg
import Derived.Test.YtlcidbbpjlpmjaaDoorTe
import Derived.Test.YtlcidbbpjlpmjaaDoorPb
import Derived.Lib.ItoaLen
namespace Go.Proofs.YtlcidbbpjlpmjaaDoor

def wl (l : List (List UInt8)) : Nat := (l.map fun s => s.length + 4).sum
def wh (out : List HkD) : Nat := (out.map fun h => wl h.ls).sum
theorem wl_app (l m : List (List UInt8)) : wl (l ++ m) = wl l + wl m := by simp [wl]
theorem wh_app (l m : List HkD) : wh (l ++ m) = wh l + wh m := by simp [wh]
theorem wl_split (l : List (List UInt8)) (n : Nat) : wl (l.take n) + wl (l.drop n) = wl l := by rw [← wl_app, List.take_append_drop]
theorem wl_next (a : List (List UInt8)) (i n : Nat) : wl (a.take (i + n)) = wl (a.take i) + wl ((a.drop i).take n) := by rw [List.take_add, wl_app]
theorem wh_one (h : HkD) : wh [h] = wl h.ls := by simp [wh]
theorem wl_put (h : HkD) (op : Nat) (l : List (List UInt8)) : wl (putH h op l).ls = wl h.ls + wl l := by
  unfold putH
  split
  next q => rw [q]; simp [wl]
  next q => rw [wl_app]
theorem wh_putL (out : List HkD) (op : Nat) (l : List (List UInt8)) : wh (putL out op l) ≤ wh out + wl l := by
  rcases List.eq_nil_or_concat out with rfl | ⟨r, h, rfl⟩
  · simp [putL, wh]
  · rw [List.concat_eq_append, putL_snoc, wh_app, wh_app, wh_one, wh_one, wl_put]
    omega
theorem wl_take (l : List (List UInt8)) (n : Nat) : wl (l.take n) ≤ wl l := by have := wl_split l n; omega
theorem wl_drop (l : List (List UInt8)) (n : Nat) : wl (l.drop n) ≤ wl l := by have := wl_split l n; omega
section
variable (a b : List (List UInt8)) (ar : Nat)
def phi (c : RefD) : Nat := 2 * (wl (a.take c.i) + wl (b.take c.j))
theorem wh_step (c : RefD) (e : EdD) (more : Bool) (h : wh c.out ≤ phi a b c) : wh (refP a b ar c e more).out ≤ phi a b (refP a b ar c e more) := by
  unfold phi at h ⊢
  unfold refP
  have ha := wl_next a c.i e.n
  have hb := wl_next b c.j e.n
  split
  · split
    · have := wh_putL c.out 0 ((a.drop c.i).take e.n)
      simp only
      omega
    · have h1 : wh (if c.opn = true then putL c.out 0 ((a.drop c.i).take (min ar e.n)) else c.out) ≤ wh c.out + wl ((a.drop c.i).take e.n) := by
        split
        · have h2 := wh_putL c.out 0 ((a.drop c.i).take (min ar e.n))
          have h3 : (a.drop c.i).take (min ar e.n) = ((a.drop c.i).take e.n).take (min ar e.n) := by rw [List.take_take, Nat.min_eq_left (Nat.min_le_right _ _)]
          have h4 := wl_take ((a.drop c.i).take e.n) (min ar e.n)
          rw [← h3] at h4
          omega
        · omega
      have h5 : wh (if more = true then [putH ⟨c.i + e.n - min ar e.n, c.j + e.n - min ar e.n, [], []⟩ 0 ((a.drop (c.i + e.n - min ar e.n)).take (min ar e.n))] else []) ≤ wl ((a.drop c.i).take e.n) := by
        split
        · rw [wh_one, wl_put]
          have h3 : (a.drop (c.i + e.n - min ar e.n)).take (min ar e.n) = ((a.drop c.i).take e.n).drop (e.n - min ar e.n) := by
            rw [List.drop_take, List.drop_drop]
            congr 1
            · omega
            · congr 1; omega
          rw [h3]
          have := wl_drop ((a.drop c.i).take e.n) (e.n - min ar e.n)
          simp [wl] at this ⊢
          omega
        · simp [wh]
      simp only [wh_app]
      omega
  · split
    · have h1 := wh_putL (if c.opn = true then c.out else c.out ++ [⟨c.i, c.j, [], []⟩]) 1 ((a.drop c.i).take e.n)
      have h2 : wh (if c.opn = true then c.out else c.out ++ [⟨c.i, c.j, [], []⟩]) = wh c.out := by
        split
        · rfl
        · rw [wh_app]; simp [wh, wl]
      simp only
      omega
    · have h1 := wh_putL (if c.opn = true then c.out else c.out ++ [⟨c.i, c.j, [], []⟩]) 2 ((b.drop c.j).take e.n)
      have h2 : wh (if c.opn = true then c.out else c.out ++ [⟨c.i, c.j, [], []⟩]) = wh c.out := by
        split
        · rfl
        · rw [wh_app]; simp [wh, wl]
      simp only
      omega
theorem wh_all : ∀ (l : List EdD) (c : RefD), wh c.out ≤ phi a b c → wh (refsP a b ar c l).out ≤ phi a b (refsP a b ar c l)
  | [], _, h => h
  | e :: l, c, h => by
    rw [refsP]
    exact wh_all l _ (wh_step a b ar c e _ h)
theorem wh_hunks : wh (hunksP a b ar) ≤ 2 * (wl a + wl b) := by
  rw [hunks_ref]
  have := wh_all a b ar (diffP a b) ⟨0, 0, [], false⟩ (by simp [wh])
  have h1 := wl_take a (refsP a b ar ⟨0, 0, [], false⟩ (diffP a b)).i
  have h2 := wl_take b (refsP a b ar ⟨0, 0, [], false⟩ (diffP a b)).j
  unfold phi at this
  omega
end
theorem linesT_wl {op : Int} : ∀ l : List (List UInt8), (linesT op l).length ≤ wl l
  | [] => by simp [linesT]
  | s :: l => by
    have ih := linesT_wl (op := op) l
    have e : linesT op (s :: l) = lineT op s ++ linesT op l := by simp [linesT]
    have e2 : wl (s :: l) = s.length + 4 + wl l := by simp [wl]
    have e3 : (tailT s).length ≤ 3 := by unfold tailT; split <;> simp [lacks]
    rw [e, e2, List.length_append]
    simp only [lineT, List.length_cons, List.length_append]
    omega
theorem bodyT_wl : ∀ (eds : List EdI) (ls : List (List UInt8)), (bodyT eds ls).length ≤ wl ls
  | [], ls => by simp [bodyT]
  | e :: es, ls => by
    have h1 := linesT_wl (op := e.op) (ls.take e.n.toNat)
    have h2 := bodyT_wl es (ls.drop e.n.toNat)
    have h3 := wl_split ls e.n.toNat
    rw [bodyT, List.length_append]
    omega
theorem hkT_wl {h : HkI} (h2 : h.ls.length ≤ 1000000000) : (hkT h).length ≤ 200 + wl h.ls := by
  unfold hkT
  cases hm : mayP h with
  | none => simp
  | some c =>
    simp only
    obtain ⟨hE, hall, _, hpl, _⟩ := mayP_eds hm
    have p := places_le hpl
    have hb := bodyT_wl h.eds h.ls
    unfold Cnt.all at hall
    have i1 := Lib.itoa_length_le h.a (by omega) (by omega)
    have i2 := Lib.itoa_length_le h.b (by omega) (by omega)
    have i3 := Lib.itoa_length_le ((c.k + c.d : Nat) : Int) (by omega) (by omega)
    have i4 := Lib.itoa_length_le ((c.k + c.n : Nat) : Int) (by omega) (by omega)
    unfold headT
    simp only [List.length_append, List.length_cons, List.length_nil]
    omega
theorem hksT_wh : ∀ (hs : List HkD), (∀ h ∈ hs, h.ls.length ≤ 1000000000) → (hksT (hs.map HkD.toI)).length ≤ 200 * hs.length + wh hs
  | [], _ => by simp [hksT]
  | h :: hs, hb => by
    have ih := hksT_wh hs (fun x hx => hb x (by simp [hx]))
    have h1 := hkT_wl (h := h.toI) (hb h (by simp))
    have e : hksT ((h :: hs).map HkD.toI) = hkT h.toI ++ hksT (hs.map HkD.toI) := by simp [hksT]
    have e2 : wh (h :: hs) = wl h.ls + wh hs := by simp [wh]
    have e3 : wl h.toI.ls = wl h.ls := rfl
    rw [e, e2, List.length_append, List.length_cons]
    omega
theorem wl_sum20 : ∀ l : List (List UInt8), wl l ≤ 20 * sum20 l + 23 * l.length
  | [] => by simp [wl]
  | s :: l => by
    have ih := wl_sum20 l
    have e : wl (s :: l) = s.length + 4 + wl l := by simp [wl]
    have e2 : sum20 (s :: l) = s.length / 20 + sum20 l := by simp [sum20]
    rw [e, e2, List.length_cons]
    omega
theorem wl_good : ∀ l : List (List UInt8), wl (goodP l) ≤ wl l + l.length
  | [] => by simp [goodP, wl]
  | s :: l => by
    have ih := wl_good l
    have h1 := goodLine_len l.isEmpty s
    have e : wl (s :: l) = s.length + 4 + wl l := by simp [wl]
    have e2 : wl (goodP (s :: l)) = (goodLine l.isEmpty s).length + 4 + wl (goodP l) := by simp [goodP, wl]
    rw [e, e2, List.length_cons]
    omega
theorem wl_few {l : List (List UInt8)} (h : fewN l < 120) : wl (goodP l) ≤ 5300 := by
  have h1 := wl_good l
  have h2 := wl_sum20 l
  have h3 := fewN_len h
  unfold fewN at h
  rw [List.take_of_length_le (by omega)] at h
  omega
theorem text_small {a b : List (List UInt8)} (ar : Nat) (ha : fewN a < 120) (hb : fewN b < 120) : (hksT ((hunksP (goodP a) (goodP b) ar).map HkD.toI)).length ≤ 90000 := by
  have h1 := wl_few ha
  have h2 := wl_few hb
  have h3 := wh_hunks (goodP a) (goodP b) ar
  have l1 := fewN_len ha
  have l2 := fewN_len hb
  have g1 := goodP_len a
  have g2 := goodP_len b
  have h4 := hunksP_len (a := goodP a) (b := goodP b) (M := 120) (by omega) (by omega) ar
  have h5 := hksT_wh (hunksP (goodP a) (goodP b) ar) (fun h hh => by have := (hunksP_small (M := 120) (by omega) (by omega) ar h hh).2.1; omega)
  omega
end Go.Proofs.YtlcidbbpjlpmjaaDoor
