/-
  Plain: sides that changed other files than one another. No statement of the seat is proved here.
-/
import Derived.Test.YteeeehfnldkjlaaGreatDoorTZ15
namespace Go.Proofs.YteeeehfnldkjlaaGreatDoor

theorem hasF_filterMap {base : List FileD} (hb : Apt base) {F : FileD → Option FileD} (hF : ∀ f ∈ base, ∀ y, F f = some y → y.p = f.p) {f : FileD} (hf : f ∈ base) :
    (hasF (base.filterMap F) f.p = (F f).isSome) ∧ ∀ y, F f = some y → Apt (base.filterMap F) → getF (base.filterMap F) f.p = y := by
  have key : ∀ g ∈ base, ∀ y, F g = some y → y.p = f.p → g = f := fun g hg y e1 e2 => by
    have h1 := getF_mem hb hg
    have h2 := getF_mem hb hf
    have h3 := hF g hg y e1
    rw [← h1, ← h2, ← h3, e2]
  constructor
  · cases h : F f with
    | some y =>
      rw [Option.isSome_some, hasF_iff]
      exact ⟨y, List.mem_filterMap.2 ⟨f, hf, h⟩, hF f hf y h⟩
    | none =>
      cases q : hasF (base.filterMap F) f.p with
      | false => rfl
      | true =>
        obtain ⟨y, hy, e⟩ := hasF_iff.1 q
        obtain ⟨g, hg, e2⟩ := List.mem_filterMap.1 hy
        have := key g hg y e2 e
        rw [this, h] at e2
        cases e2
  · intro y h ha
    have := getF_mem ha (List.mem_filterMap.2 ⟨f, hf, h⟩)
    rwa [hF f hf y h] at this
def wantP (F G : FileD → Option FileD) (f : FileD) : Option FileD := if F f = some f then G f else F f
theorem sum_want {o t : List FileD} {W : FileD → Option FileD} : ∀ {base : List FileD}, (∀ f ∈ base, fileM ⟨o, []⟩ ⟨t, []⟩ f = ⟨(W f).toList, [], 0⟩) → sumM (base.map (fileM ⟨o, []⟩ ⟨t, []⟩)) = ⟨base.filterMap W, [], 0⟩
  | [], _ => rfl
  | f :: base, h => by
    rw [List.map_cons, sumM, h f (List.mem_cons_self ..), sum_want fun g hg => h g (List.mem_cons_of_mem _ hg)]
    unfold MSt.app
    simp only [List.append_nil, if_true, MSt.mk.injEq, and_true, List.filterMap_cons]
    cases W f <;> rfl
theorem both_left {f y : FileD} (h : y.p = f.p) : m0.both f.p f f.k f y = ⟨[y], [], 0⟩ := by
  rw [both_m0]
  have k1 : kindP f.k f.k y.k = (y.k, true) := by unfold kindP; simp
  have k2 : dataP f f.k f y = (y.d, true, 0) := by
    unfold dataP
    split
    · rename_i q
      rcases q with q | q
      · rw [q]
      · rw [q]
    · simp
  rw [k1, k2, ← h]
  rfl
theorem both_right {f y : FileD} (h : y.p = f.p) : m0.both f.p f f.k y f = ⟨[y], [], 0⟩ := by
  rw [both_m0]
  have k1 : kindP f.k y.k f.k = (y.k, true) := by
    unfold kindP
    rw [if_pos (.inl rfl)]
    by_cases q : y.k = f.k
    · rw [if_pos q, q]
    · rw [if_neg q]
  have k2 : dataP f f.k y f = (y.d, true, 0) := by
    unfold dataP
    rw [if_pos (.inr rfl)]
  rw [k1, k2, ← h]
  rfl
theorem alone_same (f : FileD) : m0.alone f f.p f = m0 := by
  unfold MSt.alone
  rw [if_pos ⟨rfl, rfl, rfl⟩]
theorem merge_apart {base : List FileD} {F G : FileD → Option FileD} (cb : checkT base = 0) (co : checkT (base.filterMap F) = 0) (ct : checkT (base.filterMap G) = 0) (cw : checkT (base.filterMap (wantP F G)) = 0)
    (hF : ∀ f ∈ base, ∀ y, F f = some y → y.p = f.p) (hG : ∀ f ∈ base, ∀ y, G f = some y → y.p = f.p) (h1 : ∀ f ∈ base, F f = some f ∨ G f = some f) :
    treemergeP base (base.filterMap F) (base.filterMap G) = .ok (base.filterMap (wantP F G), []) := by
  have tb := (checkT_tree cb).1
  have tO := (checkT_tree co).1
  have tt := (checkT_tree ct).1
  have sub : ∀ {H : FileD → Option FileD}, (∀ f ∈ base, ∀ y, H f = some y → y.p = f.p) → ∀ p, hasF (base.filterMap H) p = true → hasF base p = true := fun hH p hp => by
    obtain ⟨y, hy, e⟩ := hasF_iff.1 hp
    obtain ⟨g, hg, e2⟩ := List.mem_filterMap.1 hy
    exact hasF_iff.2 ⟨g, hg, by rw [← hH g hg y e2, e]⟩
  have nil : ∀ {H : FileD → Option FileD}, (∀ f ∈ base, ∀ y, H f = some y → y.p = f.p) → TreeOk (base.filterMap H) → detectP (diffT base (base.filterMap H)) = [] := fun hH th => by
    refine detect_come ?_
    rw [List.eq_nil_iff_forall_not_mem]
    intro f hf
    rw [mem_comeP th.apt tb.kinds th.kinds] at hf
    have := sub hH f.p (hasF_iff.2 ⟨f, hf.1, rfl⟩)
    rw [hf.2.1] at this
    cases this
  have n1 := nil hF tO
  have n2 := nil hG tt
  have hm : ∀ f ∈ base, fileM ⟨base.filterMap F, []⟩ ⟨base.filterMap G, []⟩ f = ⟨(wantP F G f).toList, [], 0⟩ := fun f hf => by
    obtain ⟨a1, a2⟩ := hasF_filterMap tb.apt hF hf
    obtain ⟨b1, b2⟩ := hasF_filterMap tb.apt hG hf
    rw [file_nil, a1, b1]
    rcases h1 f hf with h | h
    · have w : wantP F G f = G f := by unfold wantP; rw [if_pos h]
      rw [w, h, a2 f h tO.apt]
      cases hg : G f with
      | some y =>
        rw [b2 y hg tt.apt]
        simp only [Option.isSome_some, if_true]
        exact both_left (hG f hf y hg)
      | none =>
        simp only [Option.isSome_some, Option.isSome_none, if_true, Bool.false_eq_true, if_false]
        exact alone_same f
    · rw [h, b2 f h tt.apt]
      cases hfy : F f with
      | some y =>
        have w : wantP F G f = some y := by
          unfold wantP
          split
          · rename_i q
            rw [hfy] at q
            rw [h, ← q]
          · exact hfy
        rw [w, a2 y hfy tO.apt]
        simp only [Option.isSome_some, if_true]
        exact both_right (hF f hf y hfy)
      | none =>
        have w : wantP F G f = none := by
          unfold wantP
          rw [hfy, if_neg (by simp)]
        rw [w]
        simp only [Option.isSome_some, Option.isSome_none, if_true, Bool.false_eq_true, if_false]
        exact alone_same f
  have hg : gatherP base (base.filterMap F) (base.filterMap G) = ⟨base.filterMap (wantP F G), [], 0⟩ := by
    rw [gather_sum, side_nil n1, side_nil n2, sum_want hm]
    have : sumM ((keysP ((base.filterMap F).map (·.p) ++ (base.filterMap G).map (·.p))).map (freshM base ⟨base.filterMap F, []⟩ ⟨base.filterMap G, []⟩)) = m0 := by
      have key : ∀ ks : List Pth, (∀ p ∈ ks, hasF base p = true) → sumM (ks.map (freshM base ⟨base.filterMap F, []⟩ ⟨base.filterMap G, []⟩)) = m0 := fun ks => by
        induction ks with
        | nil => exact fun _ => rfl
        | cons p ks ih =>
          intro h
          rw [List.map_cons, sumM, ih fun q hq => h q (List.mem_cons_of_mem _ hq), app_m0, fresh_nil, if_pos (h p (List.mem_cons_self ..))]
      refine key _ fun p hp => ?_
      rw [mem_keysP, List.mem_append, List.mem_map, List.mem_map] at hp
      rcases hp with ⟨y, hy, rfl⟩ | ⟨y, hy, rfl⟩
      · exact sub hF y.p (hasF_iff.2 ⟨y, hy, rfl⟩)
      · exact sub hG y.p (hasF_iff.2 ⟨y, hy, rfl⟩)
    rw [this, app_m0]
  exact merge_ok cb co ct cw (by rw [hg]) (by rw [hg]) (by rw [hg])
end Go.Proofs.YteeeehfnldkjlaaGreatDoor
