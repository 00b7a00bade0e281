/- Words for rows that a call owns (Own), for what a call may have touched (Tch), and the laws of append over them. No statement of the seat is proved here. -/
import Derived.Test.YtmlmbkelpjmafaaGreatPTLib
import Derived.Lib.AppendStr
import Derived.Deep.RegionHeld3
import Derived.StillTailTactics
import Derived.OwnWalk
import Derived.Deep.Onto
import Derived.Laws.CopyOwn
import Derived.Laws.BytesString
import Derived.Lib.Strings
namespace Go.Proofs.YtmlmbkelpjmafaaGreat
open Go.RowKit
def Tch (base : Nat) (E : List TypeId) (G : List Nat) (w : World) (k : Nat) : Prop := k ∈ G ∨ (base ≤ k ∧ ∃ e ∈ E, ∃ cs fz, w.heap[k]? = some (.cells cs e fz))
abbrev Kept (base : Nat) (E : List TypeId) (G : List Nat) (w w' : World) : Prop := Keep (Tch base E G w) w w'
section
variable {base : Nat} {E : List TypeId} {G : List Nat} {a b c w w' : World}
theorem Kept.refl (base : Nat) (E : List TypeId) (G : List Nat) (w : World) : Kept base E G w w := Keep.refl _ _
theorem Kept.trans (h : Kept base E G a b) (k : Kept base E G b c) : Kept base E G a c := by
 refine h.then_ k fun i hi q => ?_
 rcases q with q | ⟨h1, e, he, cs, fz, hc⟩
 · exact .inl q
 · by_cases hn : Tch base E G a i
   · exact hn
   · rw [h.block i hi hn] at hc
     exact .inr ⟨h1, e, he, cs, fz, hc⟩
theorem Kept.mono {base' : Nat} {E' : List TypeId} {G' : List Nat} (h : Kept base E G a b) (hb : base' ≤ base) (hE : ∀ e ∈ E, e ∈ E') (hG : ∀ k ∈ G, k ∈ G' ∨ a.heap.size ≤ k) : Kept base' E' G' a b := by
 refine Keep.mono h fun i hi q => ?_
 rcases q with q | ⟨h1, e, he, cs, fz, hc⟩
 · rcases hG i q with g | g
   · exact .inl g
   · omega
 · exact .inr ⟨by omega, e, hE e he, cs, fz, hc⟩
theorem Kept.drew (h : Kept base E G a w) : Kept base E G a w.drew := Keep.drew h
theorem Kept.drewN (h : Kept base E G a w) (n : Nat) : Kept base E G a (w.drewN n) := Keep.drewN h n
theorem Kept.ofDrewN {n : Nat} (h : Kept base E G (a.drewN n) w) : Kept base E G a w := Keep.ofDrewN h
theorem Kept.alloc (h : Kept base E G a w) (o : Obj) : Kept base E G a (w.alloc o) := Keep.alloc h o
theorem Kept.setCell (h : Kept base E G a w) {p : Addr} (hp : p.block ∈ G ∨ a.heap.size ≤ p.block) (u : Value) : Kept base E G a (w.setCell p u) := Keep.setCell h (hp.imp .inl id) u
theorem Kept.setRow (h : Kept base E G a w) {g : Nat} (hp : g ∈ G ∨ a.heap.size ≤ g) (cs : Array Value) : Kept base E G a (w.setRow g cs) := Keep.setRow h (hp.imp .inl id) cs
theorem Kept.ofKeep {S : Nat → Prop} (h : Keep S a w) (hs : ∀ i, i < a.heap.size → S i → i ∈ G) : Kept base E G a w := Keep.mono h fun i hi q => .inl (hs i hi q)
theorem Kept.ofBelow (h : Below a.heap.size a w) : Kept base E G a w := Below.keep_ h _
theorem Kept.blk {g : Nat} {t : TypeId} {cs : Array Value} (h : Kept base E G a w) (hb : Blk a g t cs) (hG : g ∉ G) (ht : t ∉ E) : Blk w g t cs :=
 hb.keep h fun q => by
  rcases q with q | ⟨_, e, he, cs', fz, hc⟩
  · exact hG q
  · unfold Blk at hb
    rw [hb] at hc
    injection hc with hc
    injection hc with _ hc
    subst hc
    exact ht he
theorem Kept.below {B : Nat} (h : Kept base E G a w) (hB : B ≤ base) (hz : B ≤ a.heap.size) (hG : ∀ k ∈ G, B ≤ k) : Below B a w :=
 Keep.below h hz fun i hi q => by
  rcases q with q | ⟨h1, _⟩
  · exact absurd (hG i q) (by omega)
  · omega
theorem Kept.all (h : Kept a.heap.size E [] a w) : Below a.heap.size a w := h.below (Nat.le_refl _) (Nat.le_refl _) (by simp)
theorem Kept.lift {base' : Nat} {E' : List TypeId} {G' : List Nat} (h : Kept base E G a b) (k : Kept base' E' G' b c) (hb : base ≤ base') (hE : ∀ e ∈ E', e ∈ E ∨ a.heap.size ≤ base') (hG : ∀ x ∈ G', x ∈ G ∨ a.heap.size ≤ x) : Kept base E G a c := by
 refine h.then_ k fun i hi q => ?_
 rcases q with q | ⟨h1, e, he, cs, fz, hc⟩
 · rcases hG i q with g | g
   · exact .inl g
   · omega
 · rcases hE e he with e1 | e1
   · by_cases hn : Tch base E G a i
     · exact hn
     · rw [h.block i hi hn] at hc
       exact .inr ⟨by omega, e, e1, cs, fz, hc⟩
   · omega
end
def Own (w : World) (base : Nat) (e : TypeId) (size : Nat) (A : Option Addr) (n c : Nat) (xs : List Value) : Prop := w.ownsRow base e size (.slice A n c) n xs
section
variable {base : Nat} {e : TypeId} {size : Nat} {A : Option Addr} {n c : Nat} {xs : List Value} {w w' : World}
theorem Own.nil (w : World) (base : Nat) (e : TypeId) (size : Nat) : Own w base e size none 0 0 [] := ⟨by simp, .inl ⟨rfl, rfl⟩⟩
theorem Own.drew (h : Own w base e size A n c xs) : Own w.drew base e size A n c xs := h
theorem Own.drewN (h : Own w base e size A n c xs) (k : Nat) : Own (w.drewN k) base e size A n c xs := h
theorem Own.alloc (h : Own w base e size A n c xs) (o : Obj) : Own (w.alloc o) base e size A n c xs := World.ownsRow.alloc h o
theorem Own.mono {base' : Nat} (h : Own w base e size A n c xs) (hb : base' ≤ base) : Own w base' e size A n c xs := World.ownsRow.mono h hb
theorem Own.reads (h : Own w base e size A n c xs) : Reads w w.heap.size size A n xs := Reads.of_own h
theorem Own.len (h : Own w base e size A n c xs) : xs.length = n * size := h.1
theorem Own.cap_le (h : Own w base e size A n c xs) : n ≤ c ∧ c ≤ maxLen := by
 rcases h.2 with ⟨h, rfl⟩ | ⟨g, cap, cur, h, _, _, h1, h2, _⟩
 · injection h with _ _ h; subst h; simp
 · injection h with _ _ h; subst h; exact ⟨h1, h2⟩
theorem Own.blockAt (h : Own w base e size A n c xs) : ∀ k, (Value.slice A n c).ownBlock = some k → base ≤ k ∧ k < w.heap.size ∧ ∃ cs, w.heap[k]? = some (.cells cs e (0, 0)) := by
 intro k hk
 rcases h.2 with ⟨hv, _⟩ | ⟨g, cap, cur, hv, hbg, hg, _⟩
 · rw [hv] at hk; simp [Value.ownBlock] at hk
 · rw [hv] at hk
   have : g = k := by simpa [Value.ownBlock] using hk
   subst this
   exact ⟨hbg, (Array.getElem?_eq_some_iff.1 hg).1, cur, hg⟩
theorem Own.same (h : Own w base e size A n c xs) (hk : ∀ k, base ≤ k → k < w.heap.size → (∃ cs, w.heap[k]? = some (.cells cs e (0, 0))) → w'.heap[k]? = w.heap[k]?) : Own w' base e size A n c xs := by
 refine ⟨h.1, ?_⟩
 rcases h.2 with hv | ⟨g, cap, cur, hv, hbg, hg, hr⟩
 · exact .inl hv
 · exact .inr ⟨g, cap, cur, hv, hbg, (hk g hbg (Array.getElem?_eq_some_iff.1 hg).1 ⟨cur, hg⟩).trans hg, hr⟩
theorem Own.setCell (h : Own w base e size A n c xs) {p : Addr} {t : TypeId} {cs : Array Value} (hp : Blk w p.block t cs) (ht : t ≠ e) (u : Value) : Own (w.setCell p u) base e size A n c xs :=
 h.same fun k _ _ ⟨cs', hc⟩ => Below.heap_setCell w p u k (by
  rintro rfl
  unfold Blk at hp
  rw [hp] at hc
  injection hc with hc
  injection hc with _ hc
  exact ht hc)
theorem Own.setRow (h : Own w base e size A n c xs) {g : Nat} {t : TypeId} {cs : Array Value} (hp : Blk w g t cs) (ht : t ≠ e) (cs' : Array Value) : Own (w.setRow g cs') base e size A n c xs :=
 h.same fun k _ _ ⟨cs'', hc⟩ => setRow_other w g k cs' (by
  rintro rfl
  unfold Blk at hp
  rw [hp] at hc
  injection hc with hc
  injection hc with _ hc
  exact ht hc)
theorem Own.kept {b' : Nat} {E : List TypeId} {G : List Nat} (h : Own w base e size A n c xs) (hk : Kept b' E G w w') (he : e ∉ E) (hG : ∀ g ∈ G, ∃ t cs, Blk w g t cs ∧ t ≠ e) : Own w' base e size A n c xs :=
 h.same fun k _ hlt ⟨cs, hc⟩ => hk.block k hlt fun q => by
  rcases q with q | ⟨_, e', he', cs', fz, hc'⟩
  · obtain ⟨t, cs', hb, ht⟩ := hG k q
    unfold Blk at hb
    rw [hb] at hc
    injection hc with hc
    injection hc with _ hc
    exact ht hc
  · rw [hc] at hc'
    injection hc' with hc'
    injection hc' with _ hc'
    subst hc'
    exact he he'
theorem Kept.of_grown {G : List Nat} {E : List TypeId} (h : Own w base e size A n c xs) (hg : w.grownBy w' (Value.slice A n c).ownBlock) (he : e ∈ E) : Kept base E G w w' :=
 Keep.grown (Keep.refl _ _) hg fun k hk => by
  obtain ⟨h1, _, cs, h3⟩ := h.blockAt k hk
  exact .inl (.inr ⟨h1, e, he, cs, _, h3⟩)
end
section
variable {P : Program}
theorem slice_of_own {w : World} {base : Nat} {e : TypeId} {size : Nat} {v : Value} {n : Nat} {xs : List Value} (h : w.ownsRow base e size v n xs) : ∃ A c, v = .slice A n c := by
 rcases h.2 with ⟨rfl, rfl⟩ | ⟨g, cap, cur, rfl, _⟩
 · exact ⟨_, _, rfl⟩
 · exact ⟨_, _, rfl⟩
theorem run_append_of_nil (w : World) (base : Nat) (t ty e : TypeId) (i : TypeInfo) (size : Nat) (ht : P.underlying t = some (.slice e)) (hi : P.info? e = some i)
    (v : Value) (n : Nat) (xs : List Value) (hown : w.ownsRow base e size v n xs) (c : Nat) : (Builtin.append_ #[t, t] ty #[v, .slice none 0 c]).run P w = .ok v w := by
 rcases hown.2 with ⟨rfl, rfl⟩ | ⟨g, cap, cur, rfl, _, _, hnc, _⟩
 · simp [Builtin.append_, run_underlying ht, sizeOf, typeInfo, hi, Builtin.lenOf, Builtin.firstCells]
 · simp [Builtin.append_, run_underlying ht, sizeOf, typeInfo, hi, Builtin.lenOf, Builtin.firstCells, hnc, storeCells]
structure Elem (P : Program) (t e : TypeId) (size bytes : Nat) : Prop where
 under : P.underlying t = some (.slice e)
 row : ∃ i z, P.info? e = some i ∧ i.zero = some z ∧ i.size = size ∧ i.bytes = bytes ∧ z.cells.size = size
 pos : 0 < size
theorem run_append_sl {w : World} {t e ty : TypeId} {size bytes : Nat} (H : Elem P t e size bytes) {base : Nat} {A : Option Addr} {n c : Nat} {xs : List Value} (hown : Own w base e size A n c xs)
    {B : Nat} {S : Option Addr} {m d : Nat} {news : List Value} (hr : Reads w B size S m news) (h1 : ∀ u ∈ news, u.oneCell' = true)
    (h63 : n + m ≤ maxLen) (hbytes : (n + m) * bytes ≤ 140737488355328) (hbase : base ≤ w.heap.size) :
    ∃ A' c' w', (Builtin.append_ #[t, t] ty #[.slice A n c, .slice S m d]).run P w = .ok (.slice A' (n + m) c') w' ∧ Own w' base e size A' (n + m) c' (xs ++ news) ∧ Kept base [e] [] w w' := by
 obtain ⟨ht, ⟨i, z, hi, hz, hsize, hby, hzs⟩, hpos⟩ := H
 rcases S with _ | ad
 · have hm : m = 0 := by
    rcases Nat.eq_zero_or_pos m with h0 | h0
    · exact h0
    · obtain ⟨ad, h, _⟩ := hr.2 h0
      cases h
   subst hm
   have hn : news = [] := List.eq_nil_of_length_eq_zero (by simpa using hr.1)
   subst hn
   exact ⟨A, c, w, run_append_of_nil w base t ty e i size ht hi _ n xs hown d, by simpa using hown, Kept.refl _ _ _ _⟩
 · have hcells : ∀ j u, news[j]? = some u → w.cell? (ad.add j) = some u := by
    intro j u hu
    rcases Nat.eq_zero_or_pos m with h0 | h0
    · subst h0
      have hn : news = [] := List.eq_nil_of_length_eq_zero (by simpa using hr.1)
      subst hn
      simp at hu
    · obtain ⟨ad', h, _, hc⟩ := hr.2 h0
      injection h with h
      subst h
      exact hc j u hu
   obtain ⟨v', w', hrun, h2, h3, _, h5⟩ := run_append_own_at (P := P) w base t ty e i z size bytes ht hi hz hsize hby hzs hpos _ n xs hown ad m d news hr.1 hcells h1 h63 hbytes hbase
   obtain ⟨A', c', rfl⟩ := slice_of_own h2
   exact ⟨A', c', w', hrun, h2, Kept.of_grown hown h3 (by simp)⟩
theorem run_append_str {w : World} {t u e ty : TypeId} (H : Elem P t e 1 1) (hz0 : (P.info? e).bind (·.zero) = some (.int .u8 0)) (hu : P.underlying u = some .string) {base : Nat} {A : Option Addr} {n c : Nat} {xs : List Value} (hown : Own w base e 1 A n c xs)
    {s : ByteArray} (h63 : n + s.size ≤ maxLen) (hbytes : n + s.size ≤ 140737488355328) (hbase : base ≤ w.heap.size) :
    ∃ A' c' w', (Builtin.append_ #[t, u] ty #[.slice A n c, .string s]).run P w = .ok (.slice A' (n + s.size) c') w' ∧ Own w' base e 1 A' (n + s.size) c' (xs ++ Lib.strCells s) ∧ Kept base [e] [] w w' := by
 obtain ⟨ht, ⟨i, z, hi, hz, hsize, hby, hzs⟩, hpos⟩ := H
 have hz' : i.zero = some (.int .u8 0) := by rw [hi] at hz0; simpa using hz0
 obtain ⟨v', w', hrun, h2, h3, _⟩ := Lib.run_append_own_string (P := P) w base t u ty e i ht hu hi hz' hsize hby _ n xs hown s h63 hbytes hbase
 obtain ⟨A', c', rfl⟩ := slice_of_own h2
 exact ⟨A', c', w', hrun, h2, Kept.of_grown hown h3 (by simp)⟩
theorem wp_append_run {o : Oper} {a : Act} {w : World} {K : Act → World → Prop} {Q : Exit → Act → World → Prop} {s x : Operand} {t u : TypeId}
    (ho : o.op = .call { callee := .builtin .append, args := #[s, x], argTypes := #[t, u] }) {v1 v2 v' : Value} {w' : World} (hs : a.eval s = v1) (hx : a.eval x = v2)
    (hrun : (Builtin.append_ #[t, u] o.type #[v1, v2]).run P w = .ok v' w') (h : K (a.put o.dst v') w') : o.wp P a w K Q := by
 unfold Oper.wp execOp
 simp only [ho, resolve, invoke, builtin, Sem.run_bind, Sem.run_pure, Result.andThen_ok, List.map_toArray, List.map_cons, List.map_nil, hs, hx, hrun]
 exact h
theorem wpList_append_sl {ops : Array Oper} {rest : List Oper} {o : Oper} {a : Act} {w : World} {Q : Exit → Act → World → Prop} (hgd : o.guard = none) {s x : Operand} {t e : TypeId} {size bytes : Nat} (H : Elem P t e size bytes)
    (ho : o.op = .call { callee := .builtin .append, args := #[s, x], argTypes := #[t, t] }) {base : Nat} {A : Option Addr} {n c : Nat} {xs : List Value} (hs : a.eval s = .slice A n c) (hown : Own w base e size A n c xs)
    {B : Nat} {S : Option Addr} {m d : Nat} {news : List Value} (hx : a.eval x = .slice S m d) (hr : Reads w B size S m news) (h1 : ∀ u ∈ news, u.oneCell' = true)
    (h63 : n + m ≤ maxLen) (hbytes : (n + m) * bytes ≤ 140737488355328) (hbase : base ≤ w.heap.size)
    (h : ∀ A' c' w', Own w' base e size A' (n + m) c' (xs ++ news) → Kept base [e] [] w w' → wpList P ops Q rest (a.put o.dst (.slice A' (n + m) c')) w') : wpList P ops Q (o :: rest) a w := by
 obtain ⟨A', c', w', hrun, h2, h3⟩ := run_append_sl (ty := o.type) (d := d) H hown hr h1 h63 hbytes hbase
 exact wpList_plain hgd fun _ hK => wp_append_run ho hs hx hrun (hK _ _ (h A' c' w' h2 h3))
theorem wpList_append_str {ops : Array Oper} {rest : List Oper} {o : Oper} {a : Act} {w : World} {Q : Exit → Act → World → Prop} (hgd : o.guard = none) {s x : Operand} {t u e : TypeId} (H : Elem P t e 1 1) (hz0 : (P.info? e).bind (·.zero) = some (.int .u8 0)) (hu : P.underlying u = some .string)
    (ho : o.op = .call { callee := .builtin .append, args := #[s, x], argTypes := #[t, u] }) {base : Nat} {A : Option Addr} {n c : Nat} {xs : List Value} (hs : a.eval s = .slice A n c) (hown : Own w base e 1 A n c xs)
    {st : ByteArray} (hx : a.eval x = .string st) (h63 : n + st.size ≤ maxLen) (hbytes : n + st.size ≤ 140737488355328) (hbase : base ≤ w.heap.size)
    (h : ∀ A' c' w', Own w' base e 1 A' (n + st.size) c' (xs ++ Lib.strCells st) → Kept base [e] [] w w' → wpList P ops Q rest (a.put o.dst (.slice A' (n + st.size) c')) w') : wpList P ops Q (o :: rest) a w := by
 obtain ⟨A', c', w', hrun, h2, h3⟩ := run_append_str (ty := o.type) (u := u) H hz0 hu hown (s := st) h63 hbytes hbase
 exact wpList_plain hgd fun _ hK => wp_append_run ho hs hx hrun (hK _ _ (h A' c' w' h2 h3))
theorem still_load {ops : Array Oper} {o : Oper} {a : Act} {w : World} {rest : List Oper} {Q : Act → Prop} (hgd : o.guard = none) {ty : TypeId} {x : Operand} (ho : o.op = .load ty x) {ad : Addr} {v : Value} (hx : a.eval x = .pointer (some ad)) (hrun : (Instr.loadAt ty (.pointer (some ad))).run P w = .ok v w)
    (h : wpStill P ops w Q rest (a.put o.dst v)) : wpStill P ops w Q (o :: rest) a := by
 refine wpStill_step fun K hK => ?_
 have hw : Region.wanted o (yielded ops a.tmps) = true := by simp [Region.wanted, hgd]
 rw [if_pos hw]
 unfold Oper.still execOp
 simp only [ho, hx, Sem.run_bind, hrun, Result.andThen_ok, Sem.run_pure]
 exact ⟨rfl, hK _ h⟩
theorem step_append_sl {ops : Array Oper} {o : Oper} {a : Act} {w : World} {K : Act → World → Prop} {Q : Exit → Act → World → Prop} {E : Prop} (hgd : o.guard = none) {s x : Operand} {t e : TypeId} {size bytes : Nat} (H : Elem P t e size bytes)
    (ho : o.op = .call { callee := .builtin .append, args := #[s, x], argTypes := #[t, t] }) {base : Nat} {A : Option Addr} {n c : Nat} {xs : List Value} (hs : a.eval s = .slice A n c) (hown : Own w base e size A n c xs)
    {B : Nat} {S : Option Addr} {m d : Nat} {news : List Value} (hx : a.eval x = .slice S m d) (hr : Reads w B size S m news) (h1 : ∀ u ∈ news, u.oneCell' = true)
    (h63 : n + m ≤ maxLen) (hbytes : (n + m) * bytes ≤ 140737488355328) (hbase : base ≤ w.heap.size)
    (h : ∀ A' c' w', Own w' base e size A' (n + m) c' (xs ++ news) → Kept base [e] [] w w' → K (a.put o.dst (.slice A' (n + m) c')) w') : if Region.wanted o (yielded ops a.tmps) = true then Oper.wp P o a w K Q else E := by
 have hw : Region.wanted o (yielded ops a.tmps) = true := by simp [Region.wanted, hgd]
 rw [if_pos hw]
 obtain ⟨A', c', w', hrun, h2, h3⟩ := run_append_sl (ty := o.type) (d := d) H hown hr h1 h63 hbytes hbase
 exact wp_append_run ho hs hx hrun (h A' c' w' h2 h3)
def byteV (x : UInt8) : Value := .int .u8 (x.toNat : Int)
theorem run_str_of {w : World} {B : Nat} {A : Option Addr} {n c : Nat} {l : List UInt8} (h : Reads w B 1 A n (l.map byteV)) : (Conv.bytesToString (.slice A n c)).run P w = .ok (.string ⟨l.toArray⟩) w := by
 have hn : l.length = n := by simpa using h.1
 have key : ∀ (l : List UInt8) (s : ByteArray), (l.map fun x => (x.toNat : Int)).foldl (fun r n => r.push (UInt8.ofNat n.toNat)) s = ⟨s.data ++ l.toArray⟩ := by
  intro l
  induction l with
  | nil => intro s; simp
  | cons x l ih =>
   intro s
   rw [List.map_cons, List.foldl_cons, ih, Int.toNat_natCast, UInt8.ofNat_toNat]
   simp [ByteArray.push]
 rcases A with _ | ad
 · have h0 : n = 0 := by
    rcases Nat.eq_zero_or_pos n with q | q
    · exact q
    · obtain ⟨ad, e, _⟩ := h.2 q
      cases e
   have : l = [] := List.eq_nil_of_length_eq_zero (by omega)
   subst this
   rfl
 · have hl : (loadCells ad n).run P w = .ok ((l.map fun x => (x.toNat : Int)).map (Value.int .u8)).toArray w := by
    have := run_loadCells_list (P := P) w ad (l.map byteV) (fun j v hv => by
     rcases Nat.eq_zero_or_pos n with q | q
     · have : l = [] := List.eq_nil_of_length_eq_zero (by omega)
       subst this
       simp at hv
     · obtain ⟨ad', e, _, hc⟩ := h.2 q
       injection e with e
       subst e
       exact hc j v hv)
    rw [List.length_map, hn] at this
    rw [this, List.map_map]
    rfl
   rw [run_bytesToString w ad n c _ hl, key]
   simp [ByteArray.empty, ByteArray.emptyWithCapacity]
   rfl
theorem wpList_convStr {ops : Array Oper} {rest : List Oper} {o : Oper} {a : Act} {w : World} {Q : Exit → Act → World → Prop} (hgd : o.guard = none) {src dst e : TypeId} {x : Operand} (ho : o.op = .convert src dst x)
    (hs : P.underlying src = some (.slice e)) (he : P.underlying e = some (.int .u8)) (hd : P.underlying dst = some .string) {B : Nat} {A : Option Addr} {n c : Nat} {l : List UInt8} (hx : a.eval x = .slice A n c) (h : Reads w B 1 A n (l.map byteV))
    (hk : wpList P ops Q rest (a.put o.dst (.string ⟨l.toArray⟩)) w) : wpList P ops Q (o :: rest) a w :=
 wpList_plain hgd fun _ hK => by
  unfold Oper.wp execOp
  simp only [ho, hx, Sem.run_bind, run_convert_bytes_string w src dst e A n c hs he hd, run_str_of h, Result.andThen_ok, Sem.run_pure]
  exact hK _ _ hk
theorem run_copy_blk {w : World} {dT ty e : TypeId} (hu : P.underlying dT = some (.slice e)) (hsz : (P.info? e).map (·.size) = some 1) {q : Nat} {t : TypeId} {cs : Array Value} (hb : Blk w q t cs) {n d : Nat} (hn : n = cs.size)
    {B : Nat} {S : Option Addr} {m c : Nat} {xs : List Value} (hr : Reads w B 1 S m xs) (h1 : ∀ u ∈ xs, u.oneCell' = true) (hm : m ≤ n) :
    ∃ w', (Builtin.copy_ #[dT, dT] ty #[.slice (some ⟨q, 0, none⟩) n d, .slice S m c]).run P w = .ok (.int .i64 (m : Int)) w' ∧ Blk w' q t (spl cs 0 xs) ∧ Keep (Only q) w w' := by
 have hx : xs.length = m := by simpa using hr.1
 rcases Nat.eq_zero_or_pos m with h0 | h0
 · subst h0
   have : xs = [] := List.eq_nil_of_length_eq_zero hx
   subst this
   refine ⟨w, by simpa [goInt] using run_copy_none (P := P) w dT dT ty e (some ⟨q, 0, none⟩) S n d 0 c hu hsz (by simp), ?_, Keep.refl _ _⟩
   simpa [spl] using hb
 · obtain ⟨ad, rfl, _, hc⟩ := hr.2 h0
   have hmin : xs.length = Nat.min m n := by rw [hx]; exact (Nat.min_eq_left hm).symm
   have := run_copy_row (P := P) w dT dT ty e q 0 n d ad m c cs t xs hu hsz hb hmin hc (by omega) h1
   refine ⟨w.setRow q (spl cs 0 xs), by rw [this, hx]; unfold spl; rw [hx]; rfl, hb.row _, Keep.setRow (Keep.refl (Only q) w) (.inl rfl) _⟩
theorem wp_copy_run {o : Oper} {a : Act} {w : World} {K : Act → World → Prop} {Q : Exit → Act → World → Prop} {s x : Operand} {t u : TypeId}
    (ho : o.op = .call { callee := .builtin .copy, args := #[s, x], argTypes := #[t, u] }) {v1 v2 v' : Value} {w' : World} (hs : a.eval s = v1) (hx : a.eval x = v2)
    (hrun : (Builtin.copy_ #[t, u] o.type #[v1, v2]).run P w = .ok v' w') (h : K (a.put o.dst v') w') : o.wp P a w K Q := by
 unfold Oper.wp execOp
 simp only [ho, resolve, invoke, builtin, Sem.run_bind, Sem.run_pure, Result.andThen_ok, List.map_toArray, List.map_cons, List.map_nil, hs, hx, hrun]
 exact h
theorem step_copy_blk {ops : Array Oper} {o : Oper} {a : Act} {w : World} {K : Act → World → Prop} {Q : Exit → Act → World → Prop} {E : Prop} (hgd : o.guard = none) {s x : Operand} {dT e : TypeId}
    (ho : o.op = .call { callee := .builtin .copy, args := #[s, x], argTypes := #[dT, dT] }) (hu : P.underlying dT = some (.slice e)) (hsz : (P.info? e).map (·.size) = some 1) {q : Nat} {t : TypeId} {cs : Array Value} {n d : Nat} (hs : a.eval s = .slice (some ⟨q, 0, none⟩) n d) (hb : Blk w q t cs) (hn : n = cs.size)
    {B : Nat} {S : Option Addr} {m c : Nat} {xs : List Value} (hx : a.eval x = .slice S m c) (hr : Reads w B 1 S m xs) (h1 : ∀ u ∈ xs, u.oneCell' = true) (hm : m ≤ n)
    (h : ∀ w', Blk w' q t (spl cs 0 xs) → Keep (Only q) w w' → K (a.put o.dst (.int .i64 (m : Int))) w') : if Region.wanted o (yielded ops a.tmps) = true then Oper.wp P o a w K Q else E := by
 have hw : Region.wanted o (yielded ops a.tmps) = true := by simp [Region.wanted, hgd]
 rw [if_pos hw]
 obtain ⟨w', hrun, h2, h3⟩ := run_copy_blk (ty := o.type) (d := d) (c := c) hu hsz hb hn hr h1 hm
 exact wp_copy_run ho hs hx hrun (h w' h2 h3)
theorem wpList_copy_blk {ops : Array Oper} {rest : List Oper} {o : Oper} {a : Act} {w : World} {Q : Exit → Act → World → Prop} (hgd : o.guard = none) {s x : Operand} {dT e : TypeId}
    (ho : o.op = .call { callee := .builtin .copy, args := #[s, x], argTypes := #[dT, dT] }) (hu : P.underlying dT = some (.slice e)) (hsz : (P.info? e).map (·.size) = some 1) {q : Nat} {t : TypeId} {cs : Array Value} {n d : Nat} (hs : a.eval s = .slice (some ⟨q, 0, none⟩) n d) (hb : Blk w q t cs) (hn : n = cs.size)
    {B : Nat} {S : Option Addr} {m c : Nat} {xs : List Value} (hx : a.eval x = .slice S m c) (hr : Reads w B 1 S m xs) (h1 : ∀ u ∈ xs, u.oneCell' = true) (hm : m ≤ n)
    (h : ∀ w', Blk w' q t (spl cs 0 xs) → Keep (Only q) w w' → wpList P ops Q rest (a.put o.dst (.int .i64 (m : Int))) w') : wpList P ops Q (o :: rest) a w := by
 obtain ⟨w', hrun, h2, h3⟩ := run_copy_blk (ty := o.type) (d := d) (c := c) hu hsz hb hn hr h1 hm
 exact wpList_plain hgd fun _ hK => wp_copy_run ho hs hx hrun (hK _ _ (h w' h2 h3))
theorem results_cell {fn : Func} {t : Tmp} {ty : TypeId} (h : fn.results = #[.cell t ty]) (tmps : Array Value) (w : World) {ad : Addr} (ht : tmps.getD t undef = .pointer (some ad)) {v : Value} (hl : (loadVar ty ad).run P w = .ok v w) :
    (results fn tmps).run P w = .ok v w := by
 simp only [Array.getD_eq_getD_getElem?] at ht
 simp [results, h, ht, asAddr, hl]
theorem fill_list : ∀ (vs : List Value) (off : Nat) (cs : Array Value), off + vs.length ≤ cs.size → (vs.zipIdx off).foldl (fun (c : Array Value) (p : Value × Nat) => c.setIfInBounds p.2 p.1) cs = spl cs off vs
 | [], off, cs, _ => by simp [spl]
 | v :: vs, off, cs, h => by
  simp only [List.length_cons] at h
  rw [List.zipIdx_cons, List.foldl_cons, fill_list vs (off + 1) _ (by simp; omega)]
  apply Array.ext'
  simp only [spl, Array.toList_setIfInBounds, List.length_cons]
  rw [List.take_add_one, List.take_set_of_le (Nat.le_refl _), List.getElem?_set_self (by simp; omega), List.drop_set_of_lt (by omega)]
  simp [Nat.add_assoc, Nat.add_comm 1]
theorem zipIdx_shift : ∀ (l : List Value) (k off : Nat), l.zipIdx (off + k) = (l.zipIdx k).map (fun p => (p.1, off + p.2))
 | [], _, _ => rfl
 | v :: l, k, off => by
  rw [List.zipIdx_cons, List.zipIdx_cons, List.map_cons, Nat.add_assoc, zipIdx_shift l (k + 1) off]
theorem fill_at (vs cs : Array Value) (off : Nat) (h : off + vs.size ≤ cs.size) : (vs.zipIdx.foldl (fun cs (c, j) => cs.setIfInBounds (off + j) c) cs) = spl cs off vs.toList := by
 have e := zipIdx_shift vs.toList 0 off
 rw [Nat.add_zero] at e
 rw [← fill_list vs.toList off cs (by simpa using h), ← Array.foldl_toList, Array.toList_zipIdx, e, List.foldl_map]
theorem run_buildSlice1 {t e : TypeId} {size bytes : Nat} (H : Elem P t e size bytes) {vs z : Array Value} (hz : ∀ w, (zeroValue e).run P w = .ok (.agg z) w) (hzs : z.size = size) (hv : vs.size = size) (hs : size ≤ 1000) (w : World) :
    (Instr.buildSlice t 1 #[(0, .agg vs)]).run P w = .ok (.slice (some ⟨w.heap.size, 0, none⟩) 1 1) (w.alloc (.cells vs e)) := by
 obtain ⟨ht, ⟨i, z', hi, hz', hsize, hby, hzs'⟩, hpos⟩ := H
 have hlen : ¬ (size > 16777216) := by omega
 have h0 : ¬ (size = 0) := by omega
 have hf := fill_at vs ((Array.range size).map (z[· % z.size]!)) 0 (by simp; omega)
 have hspl : spl ((Array.range size).map (z[· % z.size]!)) 0 vs.toList = vs := spl_all (by simp; omega)
 rw [hspl] at hf
 simp only [Nat.zero_add, Array.size_zipIdx, hv] at hf
 simp [Instr.buildSlice, run_underlying ht, sizeOf, typeInfo, hi, hsize, hlen, h0, hz w, Value.cells, Instr.fill, hv, newRow, newObj]
 rw [hf]
 rfl
theorem wpList_buildSlice1 {ops : Array Oper} {rest : List Oper} {o : Oper} {a : Act} {w : World} {Q : Exit → Act → World → Prop} (hgd : o.guard = none) {x : Operand} {t e : TypeId} {size bytes : Nat} (H : Elem P t e size bytes) (ho : o.op = .buildSlice t 1 #[(0, x)])
    {vs z : Array Value} (hz : ∀ w, (zeroValue e).run P w = .ok (.agg z) w) (hzs : z.size = size) (hv : vs.size = size) (hs : size ≤ 1000) (hx : a.eval x = .agg vs)
    (h : wpList P ops Q rest (a.put o.dst (.slice (some ⟨w.heap.size, 0, none⟩) 1 1)) (w.alloc (.cells vs e))) : wpList P ops Q (o :: rest) a w :=
 wpList_plain hgd fun _ hK => by
  unfold Oper.wp execOp
  simp only [ho, List.map_toArray, List.map_cons, List.map_nil, hx, Sem.run_bind, run_buildSlice1 H hz hzs hv hs w, Result.andThen_ok, Sem.run_pure]
  exact hK _ _ h
theorem wpList_storePart {ops : Array Oper} {rest : List Oper} {o : Oper} {a : Act} {w : World} {Q : Exit → Act → World → Prop} (hgd : o.guard = none) {ty : TypeId} {x y : Operand} (ho : o.op = .store ty x y) {q off : Nat} {t : TypeId} {cs vs : Array Value} (hx : a.eval x = .pointer (some ⟨q, off, none⟩)) (hy : a.eval y = .agg vs) (hb : Blk w q t cs) (hs : off + vs.size ≤ cs.size)
    (hi : (P.info? ty).map (·.size) = some vs.size) (h1 : ∀ v ∈ vs.toList, v.oneCell' = true)
    (h : ∀ w', Blk w' q t (spl cs off vs.toList) → Keep (Only q) w w' → w'.heap.size = w.heap.size → wpList P ops Q rest (a.put o.dst undef) w') : wpList P ops Q (o :: rest) a w := by
 refine wpList_store hgd ho hx hy (run_storeAt_blk (P := P) hb off hi hs h1) (h _ (hb.row _) ?_ ?_)
 · exact Keep.setRow (Keep.refl (Only q) w) (.inl rfl) _
 · simp
theorem Own.keepOnly {w w' : World} {base g : Nat} {e t : TypeId} {size : Nat} {A : Option Addr} {n c : Nat} {xs : List Value} {cs : Array Value} (h : Own w base e size A n c xs) (hk : Keep (Only g) w w') (hb : Blk w g t cs) (ht : t ≠ e) : Own w' base e size A n c xs :=
 h.kept (b' := 0) (E := []) (G := [g]) (Kept.ofKeep hk (by unfold Only; simp)) (by simp) (by intro g' hg; simp at hg; subst hg; exact ⟨t, cs, hb, ht⟩)
end
end Go.Proofs.YtmlmbkelpjmafaaGreat
