/- Plain: what the merger gathers, put together file by file; where neither side has pairs. No statement of the seat is proved here. -/
import Derived.Test.YteeeehfnldkjlaaGreatDoorTC07
namespace Go.Proofs.YteeeehfnldkjlaaGreatDoor
def ThOk (l : List FileD) : Prop := ∀ f ∈ l, f.p ≠ []
def ClOk (l : List ClashD) : Prop := ∀ x ∈ l, x.p ≠ [] ∧ 1 ≤ x.why ∧ x.why ≤ 6
structure MOk (s : MSt) : Prop where
 t : ThOk s.t
 c : ClOk s.c
theorem MOk.stay {s : MSt} (h : MOk s) {p : Pth} (hp : p ≠ []) (f : FileD) : MOk (s.stay p f) := ⟨fun g hg => by
 rcases List.mem_append.1 hg with q | q
 · exact h.t g q
 · rw [List.mem_singleton.1 q]; exact hp, h.c⟩
theorem MOk.clash {s : MSt} (h : MOk s) {p : Pth} (hp : p ≠ []) {w : Nat} (h1 : 1 ≤ w) (h6 : w ≤ 6) : MOk (s.clash p w) := ⟨h.t, fun x hx => by
 rcases List.mem_append.1 hx with q | q
 · exact h.c x q
 · rw [List.mem_singleton.1 q]; exact ⟨hp, h1, h6⟩⟩
theorem MOk.nil_ : MOk ⟨[], [], 0⟩ := ⟨fun _ h => absurd h (by simp), fun _ h => absurd h (by simp)⟩
theorem MOk.both {s : MSt} (h : MOk s) {p : Pth} (hp : p ≠ []) (b : FileD) (n : Int) (x y : FileD) : MOk (s.both p b n x y) := by
 unfold MSt.both
 simp only
 refine MOk.stay ?_ hp _
 have h1 : MOk (if (kindP b.k x.k y.k).2 = true then s else s.clash p 3) := by
  split
  · exact h
  · exact h.clash hp (by omega) (by omega)
 split
 · exact ⟨h1.t, h1.c⟩
 · refine MOk.clash (w := 1) ?_ hp (by omega) (by omega)
   exact ⟨h1.t, h1.c⟩
theorem MOk.alone {s : MSt} (h : MOk s) {p : Pth} (hp : p ≠ []) (f x : FileD) : MOk (s.alone f p x) := by
 unfold MSt.alone
 split
 · exact h
 · exact (h.stay hp x).clash hp (by omega) (by omega)
theorem path_ne {f : FileD} (h : fileE f = 0) : f.p ≠ [] := by
 intro e
 have := (fileE_kind h).2.2.2 [] (by rw [e]; simp [nmP, nmFrom])
 simp [nameOk] at this
theorem TreeOk.ne {l : List FileD} (h : TreeOk l) : ThOk l := fun f hf => path_ne (h.file f hf)
theorem mem_insC {x y : ClashD} : ∀ {l : List ClashD}, y ∈ insC x l ↔ y = x ∨ y ∈ l
 | [] => by simp [insC]
 | z :: l => by
  unfold insC
  split
  · rename_i h
    subst h
    simp
  · split
    · simp
    · simp only [List.mem_cons, mem_insC (l := l)]
      constructor
      · rintro (h | h | h) <;> simp [h]
      · rintro (h | h | h) <;> simp [h]
theorem mem_clashesP {x : ClashD} : ∀ {l : List ClashD}, x ∈ clashesP l ↔ x ∈ l
 | [] => Iff.rfl
 | y :: l => by
  show x ∈ insC y (clashesP l) ↔ _
  rw [mem_insC, mem_clashesP, List.mem_cons]
theorem ltC_iff {a b : ClashD} : ltC a b = true ↔ a.p < b.p ∨ (a.p = b.p ∧ a.why < b.why) := by
 unfold ltC
 simp
theorem ltC_trans {a b c : ClashD} (h : ltC a b = true) (k : ltC b c = true) : ltC a c = true := by
 rw [ltC_iff] at *
 rcases h with h | ⟨h1, h2⟩ <;> rcases k with k | ⟨k1, k2⟩
 · exact .inl (pth_trans h k)
 · exact .inl (k1 ▸ h)
 · exact .inl (h1 ▸ k)
 · exact .inr ⟨h1.trans k1, by omega⟩
theorem ltC_tri (a b : ClashD) : ltC a b = true ∨ a = b ∨ ltC b a = true := by
 simp only [ltC_iff]
 rcases pth_tri a.p b.p with h | h | h
 · exact .inl (.inl h)
 · rcases Nat.lt_trichotomy a.why b.why with q | q | q
   · exact .inl (.inr ⟨h, q⟩)
   · refine .inr (.inl ?_)
     cases a; cases b
     simp only at h q
     rw [h, q]
   · exact .inr (.inr (.inr ⟨h.symm, q⟩))
 · exact .inr (.inr (.inl h))
theorem ltC_irrefl (a : ClashD) : ltC a a = false := by
 rw [Bool.eq_false_iff]
 intro h
 rw [ltC_iff] at h
 rcases h with h | h
 · exact List.lt_irrefl _ h
 · omega
def RiseC (l : List ClashD) : Prop := l.Pairwise fun a b => ltC a b = true
theorem insC_rise (p : ClashD) : ∀ {l : List ClashD}, RiseC l → RiseC (insC p l)
 | [], _ => by simp [insC, RiseC]
 | q :: l, h => by
  unfold RiseC at h ⊢
  rw [List.pairwise_cons] at h
  unfold insC
  split
  · exact List.pairwise_cons.2 h
  · rename_i hne
    split
    · rename_i hlt
      rw [List.pairwise_cons, List.pairwise_cons]
      refine ⟨fun z hz => ?_, h⟩
      rcases List.mem_cons.1 hz with rfl | hz
      · exact hlt
      · exact ltC_trans hlt (h.1 z hz)
    · rename_i hlt
      rw [List.pairwise_cons]
      refine ⟨fun z hz => ?_, insC_rise p h.2⟩
      rcases mem_insC.1 hz with rfl | hz
      · rcases ltC_tri q z with r | r | r
        · exact r
        · exact absurd r.symm hne
        · exact absurd r hlt
      · exact h.1 z hz
theorem clashesP_rise : ∀ l : List ClashD, RiseC (clashesP l)
 | [] => List.Pairwise.nil
 | x :: l => insC_rise x (clashesP_rise l)
theorem riseC_unique : ∀ {l m : List ClashD}, RiseC l → RiseC m → (∀ x, x ∈ l ↔ x ∈ m) → l = m
 | [], [], _, _, _ => rfl
 | [], y :: m, _, _, h => absurd ((h y).2 (List.mem_cons_self ..)) (by simp)
 | x :: l, [], _, _, h => absurd ((h x).1 (List.mem_cons_self ..)) (by simp)
 | x :: l, y :: m, h1, h2, h => by
  have a1 := List.pairwise_cons.1 h1
  have a2 := List.pairwise_cons.1 h2
  have hno : ∀ a b : ClashD, ltC a b = true → ¬ ltC b a = true := fun a b q r => by
   have := ltC_trans q r
   rw [ltC_irrefl] at this
   cases this
  have hxy : x = y := by
   rcases List.mem_cons.1 ((h x).1 (List.mem_cons_self ..)) with e | hx
   · exact e
   · rcases List.mem_cons.1 ((h y).2 (List.mem_cons_self ..)) with e | hy
     · exact e.symm
     · exact absurd (a1.1 y hy) (hno _ _ (a2.1 x hx))
  subst hxy
  rw [riseC_unique a1.2 a2.2 fun z => ?_]
  constructor
  · intro hz
    rcases List.mem_cons.1 ((h z).1 (List.mem_cons_of_mem _ hz)) with e | e
    · have := a1.1 z hz
      rw [e, ltC_irrefl] at this
      cases this
    · exact e
  · intro hz
    rcases List.mem_cons.1 ((h z).2 (List.mem_cons_of_mem _ hz)) with e | e
    · have := a2.1 z hz
      rw [e, ltC_irrefl] at this
      cases this
    · exact e
end Go.Proofs.YteeeehfnldkjlaaGreatDoor
namespace Go.Proofs.YteeeehfnldkjlaaGreatDoor
def MSt.app (s d : MSt) : MSt := ⟨s.t ++ d.t, s.c ++ d.c, if s.e = 0 then d.e else s.e⟩
def m0 : MSt := ⟨[], [], 0⟩
theorem app_m0 (s : MSt) : s.app m0 = s := by
 obtain ⟨t, c, e⟩ := s
 unfold MSt.app m0
 simp only [List.append_nil, MSt.mk.injEq, true_and]
 split <;> omega
theorem m0_app (s : MSt) : m0.app s = s := by
 unfold MSt.app m0
 simp
theorem app_assoc (a b c : MSt) : (a.app b).app c = a.app (b.app c) := by
 unfold MSt.app
 simp only [List.append_assoc, MSt.mk.injEq, true_and]
 by_cases h : a.e = 0 <;> simp [h]
theorem stay_app (s d : MSt) (p : Pth) (f : FileD) : (s.app d).stay p f = s.app (d.stay p f) := by
 unfold MSt.app MSt.stay
 simp
theorem clash_app (s d : MSt) (p : Pth) (w : Nat) : (s.app d).clash p w = s.app (d.clash p w) := by
 unfold MSt.app MSt.clash
 simp
theorem err_app (s d : MSt) (v : Nat) : ({ s.app d with e := if (s.app d).e = 0 then v else (s.app d).e } : MSt) = s.app { d with e := if d.e = 0 then v else d.e } := by
 unfold MSt.app
 by_cases h : s.e = 0 <;> simp [h]
theorem both_app (s d : MSt) (p : Pth) (b : FileD) (k : Int) (x y : FileD) : (s.app d).both p b k x y = s.app (d.both p b k x y) := by
 unfold MSt.both
 simp only
 rw [show (if (kindP b.k x.k y.k).2 = true then s.app d else (s.app d).clash p 3) = s.app (if (kindP b.k x.k y.k).2 = true then d else d.clash p 3) from by split <;> first | rfl | exact clash_app _ _ _ _]
 generalize (if (kindP b.k x.k y.k).2 = true then d else d.clash p 3) = d1
 rw [err_app]
 generalize ({ d1 with e := if d1.e = 0 then (dataP b k x y).2.2 else d1.e } : MSt) = d2
 split
 · exact stay_app _ _ _ _
 · rw [clash_app, stay_app]
theorem alone_app (s d : MSt) (f : FileD) (p : Pth) (x : FileD) : (s.app d).alone f p x = s.app (d.alone f p x) := by
 unfold MSt.alone
 split
 · rfl
 · rw [stay_app, clash_app]
theorem file_app (o t : SideD) (s d : MSt) (f : FileD) : MSt.file o t (s.app d) f = s.app (MSt.file o t d f) := by
 unfold MSt.file
 simp only
 split
 · exact alone_app _ _ _ _ _
 · split
   · exact alone_app _ _ _ _ _
   · split
     · rfl
     · split
       · rw [stay_app, stay_app, clash_app]
       · split
         · exact both_app _ _ _ _ _ _ _
         · exact both_app _ _ _ _ _ _ _
theorem fresh1_app (base : List FileD) (o t : SideD) (s d : MSt) (p : Pth) : MSt.fresh1 base o t (s.app d) p = s.app (MSt.fresh1 base o t d p) := by
 unfold MSt.fresh1
 split
 · exact both_app _ _ _ _ _ _ _
 · exact stay_app _ _ _ _
 · exact stay_app _ _ _ _
 · rfl
def sumM : List MSt → MSt
 | [] => m0
 | d :: l => d.app (sumM l)
theorem fold_app {α : Type} {step : MSt → α → MSt} (h : ∀ (s d : MSt) (a : α), step (s.app d) a = s.app (step d a)) : ∀ (l : List α) (s : MSt), l.foldl step s = s.app (sumM (l.map (step m0)))
 | [], s => (app_m0 s).symm
 | a :: l, s => by
  rw [List.foldl_cons, fold_app h l, List.map_cons, sumM, ← app_assoc]
  congr 1
  rw [← h, app_m0]
def fileM (o t : SideD) (f : FileD) : MSt := MSt.file o t m0 f
def freshM (base : List FileD) (o t : SideD) (p : Pth) : MSt := MSt.fresh1 base o t m0 p
theorem gather_sum (base ours theirs : List FileD) : gatherP base ours theirs = (sumM (base.map (fileM (sideP base ours) (sideP base theirs)))).app (sumM ((keysP (ours.map (·.p) ++ theirs.map (·.p))).map (freshM base (sideP base ours) (sideP base theirs)))) := by
 unfold gatherP
 simp only
 rw [fold_app (fun s d a => fresh1_app base (sideP base ours) (sideP base theirs) s d a), fold_app (fun s d a => file_app (sideP base ours) (sideP base theirs) s d a)]
 rw [show (⟨[], [], 0⟩ : MSt) = m0 from rfl, m0_app]
 rfl
theorem sumM_t : ∀ l : List MSt, (sumM l).t = l.flatMap (·.t)
 | [] => rfl
 | d :: l => by
  show d.t ++ (sumM l).t = _
  rw [sumM_t l, List.flatMap_cons]
theorem mem_gather {base ours theirs : List FileD} {g : FileD} : g ∈ (gatherP base ours theirs).t ↔ (∃ f ∈ base, g ∈ (fileM (sideP base ours) (sideP base theirs) f).t) ∨ ∃ p ∈ keysP (ours.map (·.p) ++ theirs.map (·.p)), g ∈ (freshM base (sideP base ours) (sideP base theirs) p).t := by
 rw [gather_sum]
 unfold MSt.app
 simp only [sumM_t, List.mem_append, List.flatMap_map, List.mem_flatMap]
theorem both_m0 (p : Pth) (b : FileD) (k : Int) (x y : FileD) : m0.both p b k x y = ⟨[⟨p, (kindP b.k x.k y.k).1, (dataP b k x y).1⟩], (if (kindP b.k x.k y.k).2 = true then [] else [⟨p, 3⟩]) ++ (if (dataP b k x y).2.1 = true then [] else [⟨p, 1⟩]), (dataP b k x y).2.2⟩ := by
 unfold MSt.both m0
 simp only
 by_cases h1 : (kindP b.k x.k y.k).2 = true
 · by_cases h2 : (dataP b k x y).2.1 = true
   · simp [h1, h2, MSt.stay]
   · simp [h1, h2, MSt.stay, MSt.clash]
 · by_cases h2 : (dataP b k x y).2.1 = true
   · simp [h1, h2, MSt.stay, MSt.clash]
   · simp [h1, h2, MSt.stay, MSt.clash]
theorem detect_gone {l : List ChangeD} (h : goneP l = []) : detectP l = [] := by
 unfold detectP
 simp only
 rw [h]
 have e : exactP [] (comeP l) = ([], [], comeP l) := rfl
 rw [e]
 have e2 : likelyP [] (comeP l) = [] := by unfold likelyP; split <;> rfl
 simp only
 rw [e2]
 rfl
theorem side_nil {base l : List FileD} (h : detectP (diffT base l) = []) : sideP base l = ⟨l, []⟩ := by
 unfold sideP
 rw [h]
theorem file_nil (o t : List FileD) (f : FileD) : fileM ⟨o, []⟩ ⟨t, []⟩ f = if hasF o f.p = true then (if hasF t f.p = true then m0.both f.p f f.k (getF o f.p) (getF t f.p) else m0.alone f f.p (getF o f.p)) else (if hasF t f.p = true then m0.alone f f.p (getF t f.p) else m0) := by
 unfold fileM MSt.file
 simp only [goes_none]
 cases h1 : hasF o f.p <;> cases h2 : hasF t f.p <;> simp
theorem isNew_nil (l base : List FileD) (p : Pth) : SideD.isNew ⟨l, []⟩ base p = (hasF l p && !hasF base p) := by
 unfold SideD.isNew
 simp
theorem fd_eta {y : FileD} {p : Pth} (h : y.p = p) : (⟨p, y.k, y.d⟩ : FileD) = y := by subst h; rfl
theorem stay_m0 {f : FileD} {p : Pth} (h : f.p = p) : m0.stay p f = ⟨[f], [], 0⟩ := by
 rw [stay_self _ h]
 rfl
theorem fresh_nil (base o t : List FileD) (p : Pth) : freshM base ⟨o, []⟩ ⟨t, []⟩ p = if hasF base p = true then m0 else if hasF o p = true then (if hasF t p = true then m0.both p zeroF 1 (getF o p) (getF t p) else ⟨[getF o p], [], 0⟩) else (if hasF t p = true then ⟨[getF t p], [], 0⟩ else m0) := by
 unfold freshM MSt.fresh1
 simp only [isNew_nil]
 cases h0 : hasF base p with
 | true => simp
 | false =>
  cases h1 : hasF o p with
  | true =>
   have e1 := (getF_has h1).2
   cases h2 : hasF t p with
   | true => simp
   | false => simp [stay_m0 e1]
  | false =>
   cases h2 : hasF t p with
   | true => simp [stay_m0 (getF_has h2).2]
   | false => simp
def AtOne (p : Pth) (l : List FileD) : Prop := l = [] ∨ ∃ g, l = [g] ∧ g.p = p
theorem alone_one (f : FileD) (x : FileD) : AtOne f.p (m0.alone f f.p x).t := by
 unfold MSt.alone
 split
 · exact .inl rfl
 · exact .inr ⟨_, rfl, rfl⟩
theorem file_nil_one (o t : List FileD) (f : FileD) : AtOne f.p (fileM ⟨o, []⟩ ⟨t, []⟩ f).t := by
 rw [file_nil]
 split
 · split
   · rw [both_m0]; exact .inr ⟨_, rfl, rfl⟩
   · exact alone_one _ _
 · split
   · exact alone_one _ _
   · exact .inl rfl
theorem fresh_nil_one (base o t : List FileD) (p : Pth) : AtOne p (freshM base ⟨o, []⟩ ⟨t, []⟩ p).t := by
 rw [fresh_nil]
 split
 · exact .inl rfl
 · split
   · rename_i h1
     split
     · rw [both_m0]; exact .inr ⟨_, rfl, rfl⟩
     · exact .inr ⟨_, rfl, (getF_has h1).2⟩
   · split
     · rename_i h2
       exact .inr ⟨_, rfl, (getF_has h2).2⟩
     · exact .inl rfl
theorem AtOne.mem {p : Pth} {l : List FileD} (h : AtOne p l) {g : FileD} (hg : g ∈ l) : g.p = p ∧ l = [g] := by
 rcases h with rfl | ⟨x, rfl, hx⟩
 · cases hg
 · rw [List.mem_singleton] at hg
   subst hg
   exact ⟨hx, rfl⟩
theorem nodup_flat {α : Type} {F : α → List FileD} {P : α → Pth} (hF : ∀ a, AtOne (P a) (F a)) : ∀ {l : List α}, (l.map P).Nodup → Apt (l.flatMap F)
 | [], _ => by simp [Apt]
 | a :: l, h => by
  rw [List.map_cons, List.nodup_cons] at h
  have ih := nodup_flat hF h.2
  rw [List.flatMap_cons]
  rcases hF a with e | ⟨g, e, hg⟩
  · rw [e]; exact ih
  · rw [e]
    unfold Apt at ih ⊢
    rw [List.singleton_append, List.map_cons, List.nodup_cons]
    refine ⟨fun q => h.1 ?_, ih⟩
    obtain ⟨x, hx, ex⟩ := List.mem_map.1 q
    obtain ⟨b, hb, hxb⟩ := List.mem_flatMap.1 hx
    rw [List.mem_map]
    exact ⟨b, hb, by rw [← (AtOne.mem (hF b) hxb).1, ex, hg]⟩
theorem gather_apt {base ours theirs : List FileD} (hb : Apt base) (ho : detectP (diffT base ours) = []) (ht : detectP (diffT base theirs) = []) : Apt (gatherP base ours theirs).t := by
 rw [gather_sum, side_nil ho, side_nil ht]
 unfold MSt.app
 simp only [sumM_t, List.flatMap_map]
 have h1 : Apt (base.flatMap fun f => (fileM ⟨ours, []⟩ ⟨theirs, []⟩ f).t) := nodup_flat (P := fun f : FileD => f.p) (fun f => file_nil_one ours theirs f) hb
 have h2 : Apt ((keysP (ours.map (·.p) ++ theirs.map (·.p))).flatMap fun p => (freshM base ⟨ours, []⟩ ⟨theirs, []⟩ p).t) := nodup_flat (P := fun p : Pth => p) (fun p => fresh_nil_one base ours theirs p) (by rw [List.map_id']; exact rise_nodup (keysP_rise _))
 unfold Apt at h1 h2 ⊢
 rw [List.map_append, List.nodup_append]
 refine ⟨h1, h2, fun a ha b hb' e => ?_⟩
 obtain ⟨g, hg, rfl⟩ := List.mem_map.1 ha
 obtain ⟨f, hf, hgf⟩ := List.mem_flatMap.1 hg
 obtain ⟨g', hg', rfl⟩ := List.mem_map.1 hb'
 obtain ⟨p, hp, hgp⟩ := List.mem_flatMap.1 hg'
 have e1 := ((file_nil_one ours theirs f).mem hgf).1
 have e2 := ((fresh_nil_one base ours theirs p).mem hgp).1
 have hbp : hasF base p = true := hasF_iff.2 ⟨f, hf, by rw [← e1, e, e2]⟩
 rw [fresh_nil, if_pos hbp] at hgp
 cases hgp
theorem gather_at_t {base ours theirs : List FileD} (hb : Apt base) (kb : KindsOk base) (ko : KindsOk ours) (ho : detectP (diffT base ours) = []) (ht : detectP (diffT base theirs) = []) {p : Pth} (he : getF base p = getF ours p) (g : FileD) : (g ∈ (gatherP base ours theirs).t ∧ g.p = p) ↔ hasF theirs p = true ∧ g = getF theirs p := by
 rw [mem_gather, side_nil ho, side_nil ht]
 cases h0 : hasF base p with
 | true =>
  have hk := kind_has kb h0
  have h1 : hasF ours p = true := by
   cases q : hasF ours p with
   | true => rfl
   | false => rw [he, getF_none q] at hk; exact absurd rfl hk
  obtain ⟨hm, hp⟩ := getF_has h0
  have key : (fileM ⟨ours, []⟩ ⟨theirs, []⟩ (getF base p)).t = if hasF theirs p = true then [getF theirs p] else [] := by
   rw [file_nil, hp, h1, if_pos rfl, ← he]
   cases h2 : hasF theirs p with
   | true =>
    have e2 := (getF_has h2).2
    rw [if_pos rfl, if_pos rfl, both_m0]
    have k1 : kindP (getF base p).k (getF base p).k (getF theirs p).k = ((getF theirs p).k, true) := by unfold kindP; simp
    have k2 : (dataP (getF base p) (getF base p).k (getF base p) (getF theirs p)).1 = (getF theirs p).d := by
     unfold dataP
     split
     · rename_i q
       rcases q with q | q
       · exact q
       · exact q.symm
     · simp
    rw [k1, k2]
    simp only [fd_eta e2]
   | false =>
    rw [if_neg (by simp), if_neg (by simp)]
    unfold MSt.alone
    rw [if_pos ⟨hp.symm, rfl, rfl⟩]
    rfl
  constructor
  · rintro ⟨⟨f, hf, hg⟩ | ⟨q, hq, hg⟩, e⟩
    · have e1 := ((file_nil_one ours theirs f).mem hg).1
      have : getF base p = f := by rw [← e, e1]; exact getF_mem hb hf
      rw [← this, key] at hg
      split at hg
      · rename_i h2
        rw [List.mem_singleton] at hg
        exact ⟨h2, hg⟩
      · cases hg
    · have e2 := ((fresh_nil_one base ours theirs q).mem hg).1
      rw [fresh_nil, if_pos (by rw [← e2, e]; exact h0)] at hg
      cases hg
  · rintro ⟨h2, rfl⟩
    refine ⟨.inl ⟨_, hm, ?_⟩, (getF_has h2).2⟩
    rw [key, if_pos h2]
    exact List.mem_singleton.2 rfl
 | false =>
  have h1 : hasF ours p = false := by
   cases q : hasF ours p with
   | false => rfl
   | true =>
    have := kind_has ko q
    rw [← he, getF_none h0] at this
    exact absurd rfl this
  constructor
  · rintro ⟨⟨f, hf, hg⟩ | ⟨q, hq, hg⟩, e⟩
    · have e1 := ((file_nil_one ours theirs f).mem hg).1
      rw [hasF_iff.2 ⟨f, hf, by rw [← e1, e]⟩] at h0
      cases h0
    · have e2 := ((fresh_nil_one base ours theirs q).mem hg).1
      obtain rfl : q = p := by rw [← e2, e]
      rw [fresh_nil, h0, h1] at hg
      simp only [Bool.false_eq_true, if_false] at hg
      split at hg
      · rename_i h2
        exact ⟨h2, List.mem_singleton.1 hg⟩
      · cases hg
  · rintro ⟨h2, rfl⟩
    refine ⟨.inr ⟨p, ?_, ?_⟩, (getF_has h2).2⟩
    · rw [mem_keysP, List.mem_append]
      exact .inr (mem_paths h2)
    · rw [fresh_nil, h0, h1, h2]
      simp
end Go.Proofs.YteeeehfnldkjlaaGreatDoor
