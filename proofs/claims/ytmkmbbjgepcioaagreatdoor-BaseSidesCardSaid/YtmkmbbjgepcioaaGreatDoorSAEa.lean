/- Histories as rows of numbers (plain): what stands above what, walks that meet it all, what is common and lowest. No statement of the seat is proved here. -/
import Derived.RowKit
namespace Go.Proofs.YtmkmbbjgepcioaaGreatDoor
abbrev Rw:=List (List Nat)
def par (R:Rw) (n:Nat):List Nat:=(R[n]?).getD []
def WfR (R:Rw):Prop:=∀n,∀q∈par R n,q<n
inductive Rch (R:Rw):Nat→Nat→Prop
 | refl (n:Nat):Rch R n n
 | up {n p m:Nat}:p∈par R n→Rch R p m→Rch R n m
section
variable {R:Rw} {n m k:Nat}
theorem Rch.le (hw:WfR R) (h:Rch R n m):m≤n:=by
 induction h with
 | refl=>exact Nat.le_refl _
 | up hp _ ih=>have:=hw _ _ hp;omega
theorem Rch.trans (h:Rch R n m) (g:Rch R m k):Rch R n k:=by
 induction h with
 | refl=>exact g
 | up hp _ ih=>exact .up hp (ih g)
theorem Rch.proper (h:Rch R n m) (hne:n≠m):∃p∈par R n,Rch R p m:=by
 cases h with
 | refl=>exact absurd rfl hne
 | up hp hr=>exact ⟨_,hp,hr⟩
theorem znW (h:k∈par R n):n<R.length:=by
 unfold par at h
 rcases Nat.lt_or_ge n R.length with q|q
 · exact q
 · rw [List.getElem?_eq_none q] at h;cases h
theorem Rch.lt (hw:WfR R) (hn:n<R.length) (h:Rch R n m):m<R.length:=by
 have:=h.le hw;omega
end
theorem zc5:∀(N:Nat) (l:List Nat),l.Nodup→(∀x∈l,x<N)→l.length≤N
 | 0,l,_,h=>by
  cases l with
  | nil=>exact Nat.le_refl _
  | cons x l=>exact absurd (h x (List.mem_cons_self)) (by omega)
 | N+1,l,hn,h=>by
  have ih:=zc5 N (l.erase N) (hn.erase N) (fun x hx=>by
   rw [hn.mem_erase_iff] at hx;have:=h x hx.2;omega)
  rw [List.length_erase] at ih
  split at ih <;> omega
structure Vis (R:Rw) (start out row:List Nat):Prop where
 nd:out.Nodup
 outL:∀x∈out,x<R.length
 outR:∀x∈out,∃s∈start,Rch R s x
 rowR:∀x∈row,∃s∈start,Rch R s x
 all:∀s∈start,s∈out∨s∈row
 up:∀x∈out,∀p∈par R x,p∈out∨p∈row
section
variable {R:Rw} {start out row row':List Nat} {x:Nat}
theorem Vis.begin (R:Rw) (start:List Nat):Vis R start [] start :=
 ⟨List.nodup_nil,(by simp),(by simp),fun x hx=>⟨x,hx,.refl x⟩,fun _ h => .inr h,(by simp)⟩
theorem Vis.skip (h:Vis R start out row) (hx:x∈out) (h1:∀y∈row,y=x∨y∈row') (h2:∀y∈row',y∈row):Vis R start out row' where
 nd:=h.nd
 outL:=h.outL
 outR:=h.outR
 rowR y hy:=h.rowR y (h2 y hy)
 all s hs:=by
  rcases h.all s hs with q|q
  · exact .inl q
  · rcases h1 s q with rfl|q
    · exact .inl hx
    · exact .inr q
 up y hy p hp:=by
  rcases h.up y hy p hp with q|q
  · exact .inl q
  · rcases h1 p q with rfl|q
    · exact .inl hx
    · exact .inr q
theorem Vis.meet (h:Vis R start out row) (hx:x∉out) (hr:x∈row) (hl:x<R.length) (h1:∀y∈row,y=x∨y∈row') (h2:∀p∈par R x,p∈row') (h3:∀y∈row',y∈row∨y∈par R x):Vis R start (out++[x]) row' where
 nd:=by
  rw [List.nodup_append];refine ⟨h.nd,by simp,fun a ha b hb e=>?_⟩;rw [List.mem_singleton] at hb;subst hb e;exact hx ha
 outL y hy:=by
  rcases List.mem_append.1 hy with q|q
  · exact h.outL y q
  · rw [List.mem_singleton] at q;subst q;exact hl
 outR y hy:=by
  rcases List.mem_append.1 hy with q|q
  · exact h.outR y q
  · rw [List.mem_singleton] at q;subst q;exact h.rowR y hr
 rowR y hy:=by
  rcases h3 y hy with q|q
  · exact h.rowR y q
  · obtain ⟨s,hs,hr'⟩:=h.rowR x hr;exact ⟨s,hs,hr'.trans (.up q (.refl y))⟩
 all s hs:=by
  rcases h.all s hs with q|q
  · exact .inl (List.mem_append.2 (.inl q))
  · rcases h1 s q with rfl|q
    · exact .inl (List.mem_append.2 (.inr (List.mem_singleton.2 rfl)))
    · exact .inr q
 up y hy p hp:=by
  rcases List.mem_append.1 hy with q|q
  · rcases h.up y q p hp with q|q
    · exact .inl (List.mem_append.2 (.inl q))
    · rcases h1 p q with rfl|q
      · exact .inl (List.mem_append.2 (.inr (List.mem_singleton.2 rfl)))
      · exact .inr q
  · rw [List.mem_singleton] at q;subst q;exact .inr (h2 p hp)
theorem Vis.done (h:Vis R start out []) (m:Nat):m∈out↔∃s∈start,Rch R s m:=by
 constructor
 · exact h.outR m
 · rintro ⟨s,hs,hr⟩;have h0:s∈out:=by
    rcases h.all s hs with q|q
    · exact q
    · cases q
   clear hs
   induction hr with
   | refl=>exact h0
   | up hp _ ih =>
    rcases h.up _ h0 _ hp with q|q
    · exact ih q
    · cases q
theorem Vis.len (h:Vis R start out row):out.length≤R.length:=by
 exact zc5 _ _ h.nd h.outL
theorem Vis.len_lt (h:Vis R start out row) (hx:x∉out) (hl:x<R.length):out.length<R.length:=by
 have hnd:(out++[x]).Nodup:=by
  rw [List.nodup_append];refine ⟨h.nd,by simp,fun a ha b hb e=>?_⟩;rw [List.mem_singleton] at hb;subst hb e;exact hx ha
 have:=zc5 R.length _ hnd (fun y hy=>by
  rcases List.mem_append.1 hy with q|q
  · exact h.outL y q
  · rw [List.mem_singleton] at q;subst q;exact hl)
 rw [List.length_append] at this;exact this
theorem Vis.row_lt (hw:WfR R) (h:Vis R start out row) (hs:∀s∈start,s<R.length) (hx:x∈row):x<R.length:=by
 obtain ⟨s,h1,h2⟩:=h.rowR x hx;exact h2.lt hw (hs s h1)
end
def Low (R:Rw) (a b x:Nat):Prop:=(Rch R a x∧Rch R b x)∧¬∃j,(Rch R a j∧Rch R b j)∧∃p∈par R j,Rch R p x
theorem Low.comm {R:Rw} {a b x:Nat} (h:Low R a b x):Low R b a x:=⟨h.1.symm,fun ⟨j,hj,hp⟩=>h.2 ⟨j,hj.symm,hp⟩⟩
theorem zqX {R:Rw} (hw:WfR R) {n m:Nat} (h:Rch R m n) (x:Nat):Low R n m x↔x=n:=by
 constructor
 · rintro ⟨⟨h1,_⟩,h2⟩
   rcases Nat.decEq n x with q|q
   · obtain ⟨p,hp,hr⟩:=h1.proper q;exact absurd ⟨n,⟨.refl n,h⟩,p,hp,hr⟩ h2
   · exact q.symm
 · rintro rfl;refine ⟨⟨.refl x,h⟩,?_⟩;rintro ⟨j,⟨h1,_⟩,p,hp,hr⟩;have e1:=h1.le hw;have e2:=hw j p hp;have e3:=hr.le hw;omega
end Go.Proofs.YtmkmbbjgepcioaaGreatDoor
