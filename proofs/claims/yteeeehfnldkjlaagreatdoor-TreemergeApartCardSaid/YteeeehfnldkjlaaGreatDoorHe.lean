/-
  Four rows of files that a call owns, one beside the other. No statement of the seat is proved here.
-/
import Derived.Test.YteeeehfnldkjlaaGreatDoorTZ20
import Derived.Test.YteeeehfnldkjlaaGreatDoorTZ19
namespace Go.Proofs.YteeeehfnldkjlaaGreatDoor
open Go.RowKit Go.Maps
/-- A row of files: where it stands, its room, its files. -/
abbrev FRow : Type := Option Addr × Nat × List FileD
def FRow.ok (w : World) (z : Nat) (r : FRow) : Prop := FM w z r.1 r.2.1 r.2.2
/-- The row does not lie in the block. -/
def FRow.off (r : FRow) (g : Nat) : Prop := ∀ a, r.1 = some a → a.block ≠ g
structure R4 (w : World) (z : Nat) (G : List Nat) (a b c d : FRow) : Prop where
  ra : a.ok w z
  rb : b.ok w z
  rc : c.ok w z
  rd : d.ok w z
  ab : Apart a.1 b.1
  ac : Apart a.1 c.1
  ad : Apart a.1 d.1
  bc : Apart b.1 c.1
  bd : Apart b.1 d.1
  cd : Apart c.1 d.1
  out : ∀ g ∈ G, g < w.heap.size ∧ a.off g ∧ b.off g ∧ c.off g ∧ d.off g
section
variable {w w' : World} {z : Nat} {G : List Nat} {a b c d : FRow}
theorem Apart.sym {A C : Option Addr} (h : Apart A C) : Apart C A := fun x y h1 h2 => (h y x h2 h1).symm
theorem R4.rot (h : R4 w z G a b c d) : R4 w z G b c d a := ⟨h.rb, h.rc, h.rd, h.ra, h.bc, h.bd, h.ab.sym, h.cd, h.ac.sym, h.ad.sym, fun g hg => let ⟨q0, q1, q2, q3, q4⟩ := h.out g hg; ⟨q0, q2, q3, q4, q1⟩⟩
theorem FRow.ok_lt {r : FRow} (h : r.ok w z) : ∀ x, r.1 = some x → z ≤ x.block ∧ x.block < w.heap.size := by
  obtain ⟨ds, _, h2, _⟩ := h
  exact fun x hx => ⟨(h2.blkA x hx).1, (h2.blkA x hx).2.1⟩
theorem R4.nil_ (w : World) (z : Nat) : R4 w z [] (none, 0, []) (none, 0, []) (none, 0, []) (none, 0, []) :=
  ⟨FM.nil_ _ _, FM.nil_ _ _, FM.nil_ _ _, FM.nil_ _ _, Apart.none_ _, Apart.none_ _, Apart.none_ _, Apart.none_ _, Apart.none_ _, Apart.none_ _, fun _ h => by cases h⟩
/-- A row stands where its own block, and the bytes' blocks, stand. -/
theorem FRow.ok_same {r : FRow} (h : r.ok w z) (hs : ∀ x, r.1 = some x → w'.heap[x.block]? = w.heap[x.block]?) {E : List TypeId} (hk : Kept z E [] w w') (hz : z ≤ w.heap.size) (he : 5 ∉ E) : r.ok w' z := by
  obtain ⟨ds, h1, h2, h3⟩ := h
  exact ⟨ds, h1, h2.same1 hs, fun x hx => (h3 x hx).frm hk hz (by intro g hg; cases hg) he (by intro g hg; cases hg)⟩
/-- All stands where only new blocks came, or blocks of files that are no rows turned. -/
theorem R4.same {E : List TypeId} {S : Nat → Prop} (h : R4 w z G a b c d) (hk : Kept z E [] w w') (hz : z ≤ w.heap.size) (he : 5 ∉ E) (hS : ∀ p, p < w.heap.size → ¬ S p → w'.heap[p]? = w.heap[p]?) (hn : ∀ r ∈ [a, b, c, d], ∀ x, FRow.ok w z r → r.1 = some x → ¬ S x.block) : R4 w' z G a b c d :=
  have key : ∀ r ∈ [a, b, c, d], FRow.ok w z r → FRow.ok w' z r := fun r hr ho => FRow.ok_same ho (fun x hx => hS x.block (FRow.ok_lt ho x hx).2 (hn r hr x ho hx)) hk hz he
  ⟨key a (by simp) h.ra, key b (by simp) h.rb, key c (by simp) h.rc, key d (by simp) h.rd, h.ab, h.ac, h.ad, h.bc, h.bd, h.cd, fun g hg => ⟨Nat.lt_of_lt_of_le (h.out g hg).1 hk.size, (h.out g hg).2⟩⟩
theorem R4.alloc (h : R4 w z G a b c d) (hz : z ≤ w.heap.size) (o : Obj) : R4 (w.alloc o) z G a b c d :=
  h.same (E := []) (S := fun _ => False) ((Kept.refl _ _ _ _).alloc o) hz (by simp) (fun p hp _ => heap_alloc_old w o hp) (fun _ _ _ _ _ q => q)
theorem R4.drew (h : R4 w z G a b c d) (hz : z ≤ w.heap.size) : R4 w.drew z G a b c d :=
  h.same (E := []) (S := fun _ => False) ((Kept.refl _ _ _ _).drew) hz (by simp) (fun _ _ _ => rfl) (fun _ _ _ _ _ q => q)
/-- A block in which no row lies is looked at. -/
theorem R4.watch (h : R4 w z G a b c d) {g : Nat} (hg : g < w.heap.size) (h1 : a.off g) (h2 : b.off g) (h3 : c.off g) (h4 : d.off g) : R4 w z (g :: G) a b c d :=
  ⟨h.ra, h.rb, h.rc, h.rd, h.ab, h.ac, h.ad, h.bc, h.bd, h.cd, fun x hx => by
    rcases List.mem_cons.1 hx with rfl | hx
    · exact ⟨hg, h1, h2, h3, h4⟩
    · exact h.out x hx⟩
theorem FRow.off_new {r : FRow} (h : r.ok w z) {g : Nat} (hg : w.heap.size ≤ g) : r.off g := fun x hx e => by
  have := (FRow.ok_lt h x hx).2
  omega
/-- A new block is looked at. -/
theorem R4.watchNew (h : R4 w z G a b c d) (hz : z ≤ w.heap.size) (o : Obj) : R4 (w.alloc o) z (w.heap.size :: G) a b c d :=
  (h.alloc hz o).watch (by simp) (FRow.off_new h.ra (Nat.le_refl _)) (FRow.off_new h.rb (Nat.le_refl _)) (FRow.off_new h.rc (Nat.le_refl _)) (FRow.off_new h.rd (Nat.le_refl _))
theorem R4.forget {G' : List Nat} (h : R4 w z G a b c d) (hG : ∀ g ∈ G', g ∈ G) : R4 w z G' a b c d := ⟨h.ra, h.rb, h.rc, h.rd, h.ab, h.ac, h.ad, h.bc, h.bd, h.cd, fun g hg => h.out g (hG g hg)⟩
/-- A store into a block that is looked at. -/
theorem R4.setCell (h : R4 w z G a b c d) (hz : z ≤ w.heap.size) {p : Addr} (hp : p.block ∈ G) (hzp : z ≤ p.block) {cs : Array Value} (hb : Blk w p.block 41 cs) (v : Value) : R4 (w.setCell p v) z G a b c d := by
  have hk : Kept z [41] [] w (w.setCell p v) := Keep.setCell (Keep.refl _ _) (.inl (.inr ⟨hzp, 41, by simp, cs, (0, 0), hb⟩)) v
  refine h.same (S := fun g => g = p.block) hk hz (by decide) (fun q _ hq => Below.heap_setCell w p v q hq) fun r hr x ho hx e => ?_
  have := (h.out p.block hp).2
  simp only [List.mem_cons, List.not_mem_nil, or_false] at hr
  rcases hr with rfl | rfl | rfl | rfl
  · exact this.1 x hx e
  · exact this.2.1 x hx e
  · exact this.2.2.1 x hx e
  · exact this.2.2.2 x hx e
theorem Apart.grew {w9 W : World} {D1 D2 D9 : Option Addr} {n n' c1 c9 : Nat} (h : Apart D1 D2) (hs : ∀ p, p < W.heap.size → NotB D1 n c1 p → w9.heap[p]? = W.heap[p]? ∧ NotB D9 n' c9 p) (h2 : ∀ x, D2 = some x → x.block < W.heap.size) : Apart D9 D2 ∧ ∀ x, D2 = some x → w9.heap[x.block]? = W.heap[x.block]? := by
  have nb : ∀ x, D2 = some x → NotB D1 n c1 x.block := fun x hx e => by
    cases D1 with
    | none => cases e
    | some y => exact h y x rfl hx (by injection e)
  exact ⟨fun y x e1 e2 e => (hs x.block (h2 x e2) (nb x e2)).2 (by subst e1; show some y.block = some x.block; rw [e]), fun x hx => (hs x.block (h2 x hx) (nb x hx)).1⟩
/-- A file is put behind the first row; the block it was built in is new. -/
theorem R4.push {w9 : World} {A9 : Option Addr} {c9 : Nat} {ds : List FT} {x : FT} {o : Obj} (h : R4 w z G a b c d) (hz : z ≤ w.heap.size) (hx : DataK w z x) (h1 : ds.map (·.1) = a.2.2) (h3 : ∀ y ∈ ds, DataK w z y)
    (o9 : Own w9 z 41 3 A9 (a.2.2.length + 1) c9 (ds.flatMap ftL ++ ftL x)) (k9 : Kept z [41] [] (w.alloc o) w9)
    (n9 : ∀ p, p < (w.alloc o).heap.size → NotB a.1 a.2.2.length a.2.1 p → w9.heap[p]? = (w.alloc o).heap[p]? ∧ NotB A9 (a.2.2.length + 1) c9 p) :
    R4 w9 z G (A9, c9, a.2.2 ++ [x.1]) b c d ∧ Kept z [41] [] w w9 ∧ ∀ g ∈ G, w9.heap[g]? = w.heap[g]? := by
  have kk : Kept z [41] [] w w9 := ((Kept.refl _ _ _ _).alloc o).trans k9
  have fr : ∀ y, DataK w z y → DataK w9 z y := fun y hy => hy.frm kk hz (by intro g hg; cases hg) (by decide) (by intro g hg; cases hg)
  have grew : ∀ (r : FRow), r.ok w z → Apart a.1 r.1 → Apart A9 r.1 ∧ r.ok w9 z := fun r hr ha => by
    obtain ⟨q1, q2⟩ := Apart.grew ha n9 (fun x hx => by have := (FRow.ok_lt hr x hx).2; simp; omega)
    exact ⟨q1, FRow.ok_same hr (fun x hx => (q2 x hx).trans (heap_alloc_old w o (FRow.ok_lt hr x hx).2)) kk hz (by decide)⟩
  have off : ∀ g ∈ G, w9.heap[g]? = w.heap[g]? ∧ FRow.off (A9, c9, a.2.2 ++ [x.1]) g := fun g hg => by
    obtain ⟨q0, q1, _⟩ := h.out g hg
    have nb : NotB a.1 a.2.2.length a.2.1 g := fun e => by
      rcases ha : a.1 with _ | y
      · rw [ha] at e; cases e
      · rw [ha] at e
        exact q1 y ha (by injection e)
    obtain ⟨r1, r2⟩ := n9 g (by simp; omega) nb
    exact ⟨r1.trans (heap_alloc_old w o q0), fun y hy e => r2 (by have hy : A9 = some y := hy; subst hy; show some y.block = some g; rw [e])⟩
  refine ⟨⟨FM.snoc h1 (fun y hy => fr y (h3 y hy)) (fr x hx) o9, (grew b h.rb h.ab).2, (grew c h.rc h.ac).2, (grew d h.rd h.ad).2, (grew b h.rb h.ab).1, (grew c h.rc h.ac).1, (grew d h.rd h.ad).1, h.bc, h.bd, h.cd, fun g hg => ?_⟩, kk, fun g hg => (off g hg).1⟩
  obtain ⟨q0, _, q2⟩ := h.out g hg
  exact ⟨Nat.lt_of_lt_of_le q0 kk.size, (off g hg).2, q2⟩
end
end Go.Proofs.YteeeehfnldkjlaaGreatDoor
