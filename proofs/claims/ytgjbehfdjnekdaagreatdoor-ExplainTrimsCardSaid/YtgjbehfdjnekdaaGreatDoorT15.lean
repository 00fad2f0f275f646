/- Parts of the proof of one statement: Sy9, Sy10. -/
import Derived.Test.YtgjbehfdjnekdaaGreatDoorT14
set_option linter.all false
section
/- Symbolic states: the walk through a region in order is right. -/
set_option linter.unusedVariables false
set_option linter.unusedSimpArgs false
namespace Go.Proofs.YtgjbehfdjnekdaaGreatDoor.Sy
open Go.RowKit
open Go.Proofs.YtgjbehfdjnekdaaGreatDoor.Aw
open Go.Proofs.YtgjbehfdjnekdaaGreatDoor.Xc (Tab TabOK XT TyOK Xv Xp toList_ba placesX run_places del look_del)
noncomputable section

/-- Fewer slots and objects. -/
theorem R.forget {X : Ctx} {σ σ' : St} {a : Act} {w : World} (h : R X σ a w) (hs : ∀ t v, Aw.look t σ'.sl = some v → Aw.look t σ.sl = some v ∨ v = .opt false (.one .any)) (ho : ∀ n x, Aw.look n σ'.ob = some x → Aw.look n σ.ob = some x) : R X σ' a w := by
  obtain ⟨ι, F, h⟩ := h
  let F' : Nat → Cells := fun n b q => (Aw.look n σ'.ob).isSome = true ∧ F n b q
  have hF : ∀ n b q, F' n b q → F n b q := fun _ _ _ h => h.2
  have hM : ∀ b q, b < w.heap.size → Mof X.M0 F' b q → Mof X.M0 F b q := by
    rintro b q _ (hm | ⟨n, hm⟩)
    · exact .inl hm
    · exact .inr ⟨n, hm.2⟩
  refine ⟨ι, F', {
    none_ := fun n hn b q hf => by have := hf.1; rw [hn] at this; cases this
    obj := fun n x hx => ?_
    disj := fun n m b q h1 h2 => h.disj n m b q h1.2 h2.2
    apart := fun n b q h1 => h.apart n b q h1.2
    old := fun n b q h1 => h.old n b q h1.2
    lt := fun n b q h1 => h.lt n b q h1.2
    m0lt := h.m0lt, finM := h.finM
    slot := fun t v hv => by
      rcases hs t v hv with h1 | rfl
      · exact AV.rel_mono (h.slot t v h1) (Ext.refl _ w) hM
      · intro e; cases e
    size := h.size, defers := h.defers, kept := h.kept }⟩
  have h1 := Ob.rel_mono (h.obj n x (ho n x hx)) (Ext.refl _ w) hM fun _ _ => rfl
  have : F' n = F n := by funext b q; simp only [F', hx, Option.isSome_some, true_and]
  rw [this]; exact h1

theorem lk_append {β : Type} {n : Nat} : ∀ {l m : List (Nat × β)}, lk n (l ++ m) = (lk n l).or (lk n m)
  | [], m => by simp [lk]
  | (k, x) :: l, m => by
    simp only [List.cons_append, lk]
    cases n.beq k with
    | true => rfl
    | false => simp only [cond_false]; exact lk_append
theorem lk_del {β : Type} {t s : Nat} : ∀ {l : List (Nat × β)} {v : β}, lk s (del t l) = some v → s ≠ t ∧ lk s l = some v
  | [], v, h => by simp [del, lk] at h
  | (k, x) :: l, v, h => by
    simp only [del] at h
    cases hk : k.beq t with
    | true =>
      rw [hk, cond_true] at h
      obtain ⟨h1, h2⟩ := lk_del h
      refine ⟨h1, ?_⟩
      simp only [lk]
      cases hs : s.beq k with
      | true => have e1 := Nat.eq_of_beq_eq_true hs; have e2 := Nat.eq_of_beq_eq_true hk; exact absurd (e1.trans e2) h1
      | false => rw [cond_false]; exact h2
    | false =>
      rw [hk, cond_false] at h
      simp only [lk] at h ⊢
      cases hs : s.beq k with
      | true =>
        rw [hs, cond_true] at h
        have e1 := Nat.eq_of_beq_eq_true hs; subst e1
        exact ⟨fun e => by subst e; simp at hk, by rw [cond_true]; exact h⟩
      | false =>
        rw [hs, cond_false] at h
        rw [cond_false]; exact lk_del h
theorem lk_del_ne {β : Type} {t s : Nat} (hne : s ≠ t) : ∀ {l : List (Nat × β)}, lk s (del t l) = lk s l
  | [] => rfl
  | (k, x) :: l => by
    simp only [del]
    cases hk : k.beq t with
    | true =>
      rw [cond_true, lk_del_ne hne]
      simp only [lk]
      cases hs : s.beq k with
      | true => exact absurd ((Nat.eq_of_beq_eq_true hs).trans (Nat.eq_of_beq_eq_true hk)) hne
      | false => rfl
    | false =>
      rw [cond_false]
      simp only [lk]
      rw [lk_del_ne hne]
theorem lk_cons_ne {β : Type} {t s : Nat} {v : β} {l : List (Nat × β)} (h : s ≠ t) : lk s ((t, v) :: l) = lk s l := by
  simp only [lk]
  cases hs : s.beq t with
  | true => exact absurd (Nat.eq_of_beq_eq_true hs) h
  | false => rfl
theorem frOb_lk {n : Nat} : ∀ {l : List (Nat × So)}, frOb n l = true → lk n l = none
  | [], _ => rfl
  | (m, x) :: l, h => by
    simp only [frOb, Bool.and_eq_true] at h
    simp only [lk]
    cases hs : n.beq m with
    | true => have := Nat.eq_of_beq_eq_true hs; subst this; simp at h
    | false => rw [cond_false]; exact frOb_lk h.2
theorem lk_den_sl {sl : List (Nat × Sv)} {ob : List (Nat × So)} {t : Nat} {v : AV} (h : Aw.look t (SS.den ⟨sl, ob⟩).sl = some v) : ∃ u, lk t sl = some u ∧ v = u.den := by
  have : Aw.look t (sl.map fun x => (x.1, x.2.den)) = some v := h
  rw [look_lk] at this
  obtain ⟨u, hu, rfl⟩ := Option.map_eq_some_iff.1 this
  exact ⟨u, hu, rfl⟩
theorem lk_den_ob {sl : List (Nat × Sv)} {ob : List (Nat × So)} {t : Nat} {v : Ob} (h : Aw.look t (SS.den ⟨sl, ob⟩).ob = some v) : ∃ u, lk t ob = some u ∧ v = u.den := by
  have : Aw.look t (ob.map fun x => (x.1, x.2.den)) = some v := h
  rw [look_lk] at this
  obtain ⟨u, hu, rfl⟩ := Option.map_eq_some_iff.1 this
  exact ⟨u, hu, rfl⟩

section
variable {P : Program} {Q : Exit → Act → World → Prop} {X : Ctx} {K : List Item} {T : Tab} {N : Nat} {ops : Array Oper}

structure GI (ops : Array Oper) (g : GM) (sl : List (Nat × Sv)) (ob : List (Nat × So)) : Prop where
  hj : (ops[g.j]?).bind (·.dst) = some g.t
  ht : lk g.t g.sl = some (.val (.one (.bool g.b)))
  sub : ∀ s v, lk s g.sl = some v → lk s sl = some v ∨ v = dead
  subo : ∀ n x, lk n g.ob = some x → lk n ob = some x

theorem GI.htT {g : GM} {sl : List (Nat × Sv)} {ob : List (Nat × So)} (h : GI ops g sl ob) : lk g.t sl = some (.val (.one (.bool g.b))) := by
  rcases h.sub _ _ h.ht with h1 | h1
  · exact h1
  · cases h1
theorem GI.put {j : Nat} {w : Bool} {t : Nat} {b : Bool} {gsl : List (Nat × Sv)} {gob : List (Nat × So)} {sl : List (Nat × Sv)} {ob ad : List (Nat × So)} {d : Nat} {v : Sv} (h : GI ops ⟨j, w, t, b, gsl, gob⟩ sl ob) (hd : d.beq t = false) (ha : ∀ n x, lk n ad = some x → lk n ob = none) : GI ops ⟨j, w, t, b, (d, dead) :: gsl, gob⟩ ((d, v) :: sl) (ad ++ ob) where
  hj := h.hj
  ht := by
    show lk t ((d, dead) :: gsl) = _
    rw [lk_cons_ne (fun e => by rw [← e] at hd; simp at hd)]; exact h.ht
  sub := fun s u hu => by
    have hu : lk s ((d, dead) :: gsl) = some u := hu
    by_cases e : s = d
    · subst e
      right
      simp only [lk] at hu
      have : s.beq s = true := by simp
      rw [this, cond_true] at hu; injection hu with hu; exact hu.symm
    · rw [lk_cons_ne e] at hu
      rw [lk_cons_ne e]; exact h.sub s u hu
  subo := fun n x hx => by
    have hob := h.subo n x hx
    rw [lk_append]
    cases hl : lk n ad with
    | none => rw [Option.none_or]; exact hob
    | some y => have := ha n y hl; rw [hob] at this; cases this

/-- A guarded operation. -/
theorem wpGd_ok (hT : TabOK P T) (hG : CG X) (hN : X.N = N) {j : Nat} {w : Bool} {t : Nat} {b : Bool} {gsl : List (Nat × Sv)} {gob : List (Nat × So)} {o : Oper} {sl : List (Nat × Sv)} {ob : List (Nat × So)} {lo : Nat} {k : GM → KS} (hg : o.guard = some (j, w)) (hI : GI ops ⟨j, w, t, b, gsl, gob⟩ sl ob) (h : wpGd P T N j w t b gsl gob o sl ob lo k) :
    ∃ gsl' sl' ob' lo', GI ops ⟨j, w, t, b, gsl', gob⟩ sl' ob' ∧ (b = w → StepG P X ops o (SS.den ⟨sl, ob⟩) (SS.den ⟨sl', ob'⟩)) ∧ (b ≠ w → StepG P X ops o (SS.den ⟨gsl, gob⟩) (SS.den ⟨gsl', gob⟩)) ∧ k ⟨j, w, t, b, gsl', gob⟩ sl' ob' lo' := by
  have htT : Aw.look t (SS.den ⟨sl, ob⟩).sl = some (D (boolP b)) := look_sl (σ := ⟨sl, ob⟩) hI.htT
  have htF : Aw.look t (SS.den ⟨gsl, gob⟩).sl = some (D (boolP b)) := look_sl (σ := ⟨gsl, gob⟩) hI.ht
  have hF : ∀ {d : Nat}, o.dst = some d → b ≠ w → StepG P X ops o (SS.den ⟨gsl, gob⟩) (SS.den ⟨(d, dead) :: gsl, gob⟩) := fun {d} hd hb => by
    refine stepG_false hg hI.hj htF hb hd (fun s v hv => ?_) fun n => rfl
    obtain ⟨u, hu, rfl⟩ := lk_den_sl hv
    by_cases e : s = d
    · subst e
      right
      simp only [lk] at hu
      have : s.beq s = true := by simp
      rw [this, cond_true] at hu; injection hu with hu; rw [← hu]; rfl
    · rw [lk_cons_ne e] at hu
      exact .inl ⟨e, look_sl (σ := ⟨gsl, gob⟩) hu⟩
  unfold wpGd at h
  split at h
  rotate_left; · exact h.elim
  rename_i d hd
  cases hb : d.blt N && !(d.beq t) with
  | false => rw [hb, cond_false] at h; exact h.elim
  | true =>
    rw [hb, cond_true] at h
    rw [Bool.and_eq_true] at hb
    have hdN := nlt hb.1
    have hdt : d.beq t = false := by simpa using hb.2
    have nil_ad : ∀ n x, lk n ([] : List (Nat × So)) = some x → lk n ob = none := fun n x hx => by cases hx
    split at h
    · rename_i f xs ts ho
      split at h
      · rename_i c ps hc hps
        obtain ⟨v, p, hp, hst, hk⟩ := wpCall_ok (X := X) hT hG (SubS.rfl' ⟨sl, ob⟩) ho hc hps h
        exact ⟨(d, dead) :: gsl, (d, v) :: sl, ob, lo, hI.put (v := v) (ad := []) hdt nil_ad, fun hbw => stepG_true hg hI.hj htT hbw ((hst (hp hbw)).1 d hd (by rw [hN]; exact hdN)), hF hd, hk⟩
      · exact h.elim
    · have main : ∀ {p : Option Prop} {v : Sv} {ad : List (Nat × So)} {lo' : Nat}, opS T ⟨sl, ob⟩ lo o.op = some ⟨p, some v, [], ad, lo'⟩ → (!(noV o.op) && frAll sl ob (names lo (lo' - lo))) = true → (∀ x ∈ ad, lo ≤ x.1 ∧ x.1 < lo') → impS b w p (k ⟨j, w, t, b, (d, dead) :: gsl, gob⟩ ((d, v) :: sl) (ad ++ ob) lo') →
          ∃ gsl' sl' ob' lo', GI ops ⟨j, w, t, b, gsl', gob⟩ sl' ob' ∧ (b = w → StepG P X ops o (SS.den ⟨sl, ob⟩) (SS.den ⟨sl', ob'⟩)) ∧ (b ≠ w → StepG P X ops o (SS.den ⟨gsl, gob⟩) (SS.den ⟨gsl', gob⟩)) ∧ k ⟨j, w, t, b, gsl', gob⟩ sl' ob' lo' := fun {p v ad lo'} he hb2 hadl h => by
        simp only [Bool.and_eq_true] at hb2
        obtain ⟨q1, q2⟩ := hb2
        have hdst : dstS X.N o = true := by unfold dstS; rw [hd, hN]; simp only [Bool.and_eq_true]; exact ⟨hb.1, q1⟩
        have hob : (b = w → Holds p) ∧ k ⟨j, w, t, b, (d, dead) :: gsl, gob⟩ ((d, v) :: sl) (ad ++ ob) lo' := by
          unfold impS at h
          cases p with
          | none => exact ⟨fun _ => trivial, h⟩
          | some p => exact h
        refine ⟨(d, dead) :: gsl, (d, v) :: sl, ad ++ ob, lo', hI.put hdt fun n x hx => ?_, fun hbw => stepG_true hg hI.hj htT hbw ?_, hF hd, hob.2⟩
        · have hmem : ∃ x, (n, x) ∈ ad := by
            clear h he hadl hob
            induction ad with
            | nil => simp [lk] at hx
            | cons y ad ih =>
              obtain ⟨m, y⟩ := y
              simp only [lk] at hx
              cases hs : n.beq m with
              | true => have := Nat.eq_of_beq_eq_true hs; subst this; exact ⟨y, List.mem_cons_self⟩
              | false => rw [hs, cond_false] at hx; obtain ⟨z, hz⟩ := ih hx; exact ⟨z, List.mem_cons_of_mem _ hz⟩
          obtain ⟨y, hy⟩ := hmem
          obtain ⟨h1, h2⟩ := hadl _ hy
          exact frOb_lk (frAll_ok q2 n (mem_names.2 ⟨h1, by omega⟩)).2
        · have := opS_ok (X := X) hT (SubS.rfl' ⟨sl, ob⟩) he (hob.1 hbw) hdst fun n h3 h4 => (frAll_ok q2 n (mem_names.2 ⟨h3, by have h4 : n < lo' := h4; omega⟩)).1
          rw [ap_den] at this
          have e : (SE.dst ⟨p, some v, [], ad, lo'⟩ o.dst ++ sl) = (d, v) :: sl := by rw [hd]; rfl
          rw [e] at this
          exact this
      split at h
      · rename_i p v lo' he
        cases hb2 : !(noV o.op) && frAll sl ob (names lo (lo' - lo)) with
        | false => rw [hb2, cond_false] at h; exact h.elim
        | true => rw [hb2, cond_true] at h; exact main he hb2 (fun x hx => by cases hx) h
      · rename_i p v ad lo' _ he
        cases hb2 : !(noV o.op) && frAll sl ob (names lo (lo' - lo)) && ad.all (fun x => lo.ble x.1 && x.1.blt lo') with
        | false => rw [hb2, cond_false] at h; exact h.elim
        | true =>
          rw [hb2, cond_true] at h
          rw [Bool.and_eq_true] at hb2
          refine main he hb2.1 (fun x hx => ?_) h
          have := List.all_eq_true.1 hb2.2 x hx
          rw [Bool.and_eq_true] at this
          exact ⟨nle this.1, nlt this.2⟩
      · exact h.elim

theorem boolOf_ok {σ : SS} {x : Operand} {r : Bool} (h : boolOf σ.sl x = some r) : σ.den.opd x = some (D (boolP r)) := by
  unfold boolOf at h
  split at h
  · rename_i b hb; injection h with h; subst h; exact opd_den (SubS.rfl' σ) hb
  · cases h
theorem constB_ok {τ : St} {x : Operand} {r : Bool} (h : constB x = some r) : τ.opd x = some (D (boolP r)) := by
  unfold constB at h
  split at h
  · injection h with h; subst h; rfl
  · cases h

theorem wpPick_ok (hN : X.N = N) {g : GM} {o : Oper} {sl : List (Nat × Sv)} {ob : List (Nat × So)} {lo : Nat} {k : KS} (hI : GI ops g sl ob) (h : wpPick N g.w g.t g.b g.sl g.ob o sl lo k) :
    ∃ sl' ob' lo', (g.b = g.w → StepS P X o (SS.den ⟨sl, ob⟩) (SS.den ⟨sl', ob'⟩)) ∧ (g.b ≠ g.w → StepS P X o (SS.den ⟨g.sl, g.ob⟩) (SS.den ⟨sl', ob'⟩)) ∧ k sl' ob' lo' := by
  have weak : ∀ {d : Nat} {v : Sv} {a : Act} {w : World}, R X ((SS.den ⟨sl, ob⟩).put d v.den) a w → R X (SS.den ⟨(d, v) :: g.sl, g.ob⟩) a w := fun {d v a w} hr => by
    refine R.forget hr (fun t u hu => ?_) fun n x hx => ?_
    · obtain ⟨u', hu', rfl⟩ := lk_den_sl hu
      have key : lk t ((d, v) :: sl) = some u' ∨ u' = dead := by
        simp only [lk] at hu' ⊢
        cases hs : t.beq d with
        | true => rw [hs, cond_true] at hu'; rw [cond_true]; exact .inl hu'
        | false => rw [hs, cond_false] at hu'; rw [cond_false]; exact hI.sub t u' hu'
      rcases key with h1 | rfl
      · exact .inl (look_sl (σ := ⟨(d, v) :: sl, ob⟩) h1)
      · exact .inr rfl
    · obtain ⟨x', hx', rfl⟩ := lk_den_ob hx
      exact look_ob (σ := ⟨sl, ob⟩) (hI.subo n x' hx')
  have hcT : (SS.den ⟨sl, ob⟩).opd (.tmp g.t) = some (D (boolP g.b)) := look_sl (σ := ⟨sl, ob⟩) hI.htT
  have hcF : (SS.den ⟨g.sl, g.ob⟩).opd (.tmp g.t) = some (D (boolP g.b)) := look_sl (σ := ⟨g.sl, g.ob⟩) hI.ht
  unfold wpPick at h
  split at h
  rotate_left; · exact h.elim
  rename_i t x y d ho hd
  cases hb : t.beq g.t && d.blt N with
  | false => rw [hb, cond_false] at h; exact h.elim
  | true =>
    rw [hb, cond_true] at h
    rw [Bool.and_eq_true] at hb
    have := Nat.eq_of_beq_eq_true hb.1; subst this
    have hdN : d < X.N := by rw [hN]; exact nlt hb.2
    split at h
    · rename_i hw
      split at h
      · rename_i r hx hy
        have hx' := boolOf_ok (σ := ⟨sl, ob⟩) hx
        refine ⟨_, _, _, fun hbw => ?_, fun hbw => ?_, h⟩
        · rw [hw] at hbw
          have := step_pick (P := P) (X := X) ho hd hdN hcT (v := D (boolP r)) (by rw [if_pos hbw]; exact hx')
          intro a w hr
          refine Oper.wp_mono (o := o) (fun a' w' h3 => ?_) (this a w hr)
          have e : (g.b && r) = r := by rw [hbw]; rfl
          rw [e]; exact weak (v := .val (.one (.bool r))) h3
        · rw [hw] at hbw
          have hbf : g.b = false := by cases hgb : g.b with | false => rfl | true => exact absurd hgb hbw
          have := step_pick (P := P) (X := X) ho hd hdN hcF (v := D (boolP false)) (by rw [if_neg (by rw [hbf]; simp)]; exact constB_ok hy)
          have e : (g.b && r) = false := by rw [hbf]; rfl
          rw [e]; exact this
      · exact h.elim
    · rename_i hw
      split at h
      · rename_i r hx hy
        have hy' := boolOf_ok (σ := ⟨sl, ob⟩) hy
        refine ⟨_, _, _, fun hbw => ?_, fun hbw => ?_, h⟩
        · rw [hw] at hbw
          have := step_pick (P := P) (X := X) ho hd hdN hcT (v := D (boolP r)) (by rw [if_neg (by rw [hbw]; simp)]; exact hy')
          intro a w hr
          refine Oper.wp_mono (o := o) (fun a' w' h3 => ?_) (this a w hr)
          have e : (g.b || r) = r := by rw [hbw]; rfl
          rw [e]; exact weak (v := .val (.one (.bool r))) h3
        · rw [hw] at hbw
          have hbf : g.b = true := by cases hgb : g.b with | true => rfl | false => exact absurd hgb hbw
          have := step_pick (P := P) (X := X) ho hd hdN hcF (v := D (boolP true)) (by rw [if_pos hbf]; exact constB_ok hx)
          have e : (g.b || r) = true := by rw [hbf]; rfl
          rw [e]; exact this
      · exact h.elim

theorem drop_head {l : List Oper} {i : Nat} {o : Oper} {r : List Oper} (h : l.drop i = o :: r) : l[i]? = some o ∧ l.drop (i + 1) = r := by
  have h1 : (l.drop i)[0]? = some o := by rw [h]; rfl
  rw [List.getElem?_drop] at h1
  refine ⟨by simpa using h1, ?_⟩
  have : (l.drop i).drop 1 = r := by rw [h]; rfl
  rw [List.drop_drop] at this
  exact this

theorem wpM_ok (hT : TabOK P T) (hG : CG X) (hN : X.N = N) {k : KS} (hk : ∀ sl ob lo, k sl ob lo → Go P Q X K (SS.den ⟨sl, ob⟩)) : ∀ (l : List Oper) (i : Nat), ops.toList.drop i = l →
    (∀ sl ob lo, wpM P T N ops k l none sl ob lo → Go P Q X (.inRegion ops (List.range' i l.length) :: K) (SS.den ⟨sl, ob⟩)) ∧
    (∀ g sl ob lo, GI ops g sl ob → wpM P T N ops k l (some g) sl ob lo → (g.b = g.w → Go P Q X (.inRegion ops (List.range' i l.length) :: K) (SS.den ⟨sl, ob⟩)) ∧ (g.b ≠ g.w → Go P Q X (.inRegion ops (List.range' i l.length) :: K) (SS.den ⟨g.sl, g.ob⟩)))
  | [], i, _ => ⟨fun sl ob lo h => go_inRegion (hk _ _ _ h), fun g sl ob lo _ h => h.elim⟩
  | o :: l, i, hl => by
    obtain ⟨ho, hl'⟩ := drop_head hl
    have ho : ops[i]? = some o := by simpa using ho
    obtain ⟨ih1, ih2⟩ := wpM_ok hT hG hN hk l (i + 1) hl'
    have hr : List.range' i (o :: l).length = i :: List.range' (i + 1) l.length := by rw [List.length_cons, List.range'_succ]
    rw [hr]
    have gd : ∀ (g : GM) sl ob lo, GI ops g sl ob → o.guard = some (g.j, g.w) → wpGd P T N g.j g.w g.t g.b g.sl g.ob o sl ob lo (fun g => wpM P T N ops k l (some g)) → (g.b = g.w → Go P Q X (.inRegion ops (i :: List.range' (i + 1) l.length) :: K) (SS.den ⟨sl, ob⟩)) ∧ (g.b ≠ g.w → Go P Q X (.inRegion ops (i :: List.range' (i + 1) l.length) :: K) (SS.den ⟨g.sl, g.ob⟩)) := fun g sl ob lo hI hg h => by
      obtain ⟨gsl', sl', ob', lo', hI', s1, s2, hk'⟩ := wpGd_ok (X := X) hT hG hN hg hI h
      obtain ⟨g1, g2⟩ := ih2 _ sl' ob' lo' hI' hk'
      exact ⟨fun hb => go_opG ho (s1 hb) (g1 hb), fun hb => go_opG ho (s2 hb) (g2 hb)⟩
    refine ⟨fun sl ob lo h => ?_, fun g sl ob lo hI h => ?_⟩
    · cases hgd : o.guard with
      | none =>
        have h : wpOne P T N o sl ob lo (wpM P T N ops k l none) := by simp only [wpM, hgd] at h; exact h
        obtain ⟨sl', ob', lo', hst, hk'⟩ := wpOne_ok (X := X) hT hG hN h
        exact go_op ho hgd hst (ih1 _ _ _ hk')
      | some jw =>
        obtain ⟨j, w⟩ := jw
        have h : (match (ops[j]?).bind (·.dst) with
          | some t => match boolAt sl t with
            | some b => wpGd P T N j w t b sl ob o sl ob lo fun g => wpM P T N ops k l (some g)
            | none => False
          | none => False) := by simp only [wpM, hgd] at h; exact h
        split at h
        · rename_i t ht
          split at h
          · rename_i b hb
            have hbl : lk t sl = some (.val (.one (.bool b))) := by
              unfold boolAt at hb
              split at hb
              · rename_i b' hb'; injection hb with hb; subst hb; exact hb'
              · cases hb
            have := gd ⟨j, w, t, b, sl, ob⟩ sl ob lo ⟨ht, hbl, fun _ _ h => .inl h, fun _ _ h => h⟩ hgd h
            by_cases e : b = w
            · exact this.1 e
            · exact this.2 e
          · exact h.elim
        · exact h.elim
    · cases hgd : o.guard with
      | none =>
        have h : wpPick N g.w g.t g.b g.sl g.ob o sl lo (wpM P T N ops k l none) := by simp only [wpM, hgd] at h; exact h
        obtain ⟨sl', ob', lo', s1, s2, hk'⟩ := wpPick_ok (P := P) (X := X) hN hI h
        exact ⟨fun hb => go_op ho hgd (s1 hb) (ih1 _ _ _ hk'), fun hb => go_op ho hgd (s2 hb) (ih1 _ _ _ hk')⟩
      | some jw =>
        obtain ⟨j, w⟩ := jw
        have h : bif j.beq g.j && (w == g.w) then wpGd P T N g.j g.w g.t g.b g.sl g.ob o sl ob lo (fun g => wpM P T N ops k l (some g)) else False := by simp only [wpM, hgd] at h; exact h
        cases hb : j.beq g.j && (w == g.w) with
        | false => rw [hb, cond_false] at h; exact h.elim
        | true =>
          rw [hb, cond_true] at h
          rw [Bool.and_eq_true] at hb
          have e1 := Nat.eq_of_beq_eq_true hb.1
          have e2 : w = g.w := by simpa using hb.2
          exact gd g sl ob lo hI (by rw [hgd, e1, e2]) h
end
end -- nc
end Go.Proofs.YtgjbehfdjnekdaaGreatDoor.Sy
end
section
/- Symbolic states: regions that draw their order; the walk through a body; the way in and out. -/
set_option linter.unusedVariables false
set_option linter.unusedSimpArgs false
namespace Go.Proofs.YtgjbehfdjnekdaaGreatDoor.Sy
open Go.RowKit
open Go.Proofs.YtgjbehfdjnekdaaGreatDoor.Aw
open Go.Proofs.YtgjbehfdjnekdaaGreatDoor.Xc (Tab TabOK XT TyOK Xv Xp toList_ba placesX run_places del look_del)
noncomputable section

def tmpsL : List Operand → List Nat
  | [] => []
  | .tmp t :: l => t :: tmpsL l
  | _ :: l => tmpsL l
def pk {β : Type} (l : List (Nat × β)) : List Nat → List (Nat × β)
  | [] => []
  | t :: ts => match lk t l with
    | some v => (t, v) :: pk l ts
    | none => pk l ts
theorem pk_mem {β : Type} {l : List (Nat × β)} : ∀ {ts : List Nat} {t : Nat} {v : β}, (t, v) ∈ pk l ts → lk t l = some v
  | [], t, v, h => by simp [pk] at h
  | s :: ts, t, v, h => by
    simp only [pk] at h
    split at h
    · rename_i u hu
      rcases List.mem_cons.1 h with h | h
      · injection h with h1 h2; subst h1; subst h2; exact hu
      · exact pk_mem h
    · exact pk_mem h
theorem lk_mem {β : Type} {t : Nat} {v : β} : ∀ {l : List (Nat × β)}, lk t l = some v → (t, v) ∈ l
  | [], h => by cases h
  | (s, u) :: l, h => by
    simp only [lk] at h
    cases hs : t.beq s with
    | true => rw [hs, cond_true] at h; injection h with h; subst h; rw [Nat.eq_of_beq_eq_true hs]; exact List.mem_cons_self
    | false => rw [hs, cond_false] at h; exact List.mem_cons_of_mem _ (lk_mem h)
def nmC : Sc → List Nat
  | .ref n _ => [n]
  | .el n _ _ _ => [n]
  | _ => []
def nmV : Sv → List Nat
  | .val (.one c) => nmC c
  | _ => []
def nmSl : List (Nat × Sv) → List Nat
  | [] => []
  | (_, v) :: l => nmV v ++ nmSl l
def needOb : Op → Bool
  | .load _ _ => true
  | .store _ _ _ => true
  | .indexAddr _ _ _ => true
  | .fieldAddr _ _ _ => true
  | .call _ => true
  | _ => false
def mini (o : Op) (sl : List (Nat × Sv)) (ob : List (Nat × So)) : SS :=
  ⟨pk sl (tmpsL o.operands.toList), bif needOb o then pk ob (nmSl (pk sl (tmpsL o.operands.toList))) else []⟩

def ancS (ops : Array Oper) : Nat → List (List Nat)
  | 0 => []
  | n + 1 => ancS ops n ++ [edges ops n ++ (edges ops n).flatMap fun j => (ancS ops n).getD j []]
def drawnB (ops : Array Oper) (es : List Eff) : Bool := ancOK ops (ancS ops ops.size) && effOK ops (ancS ops ops.size) es && frOK (ancS ops ops.size) es ops.size

abbrev KD := List Eff → KS
def wpDop (P : Program) (T : Tab) (N : Nat) (o : Oper) (acc : List Eff) (sl : List (Nat × Sv)) (ob : List (Nat × So)) (lo : Nat) (k : KD) : Prop := match o.guard with
  | some _ => False
  | none => match o.op with
    | .call ⟨.value g, xs, ts⟩ => match one (mini o.op sl ob).sl g, partsS (mini o.op sl ob).sl xs.toList, o.dst with
      | some c, some ps, some d => bif d.blt N then wpCall P T N c ps id (fun v => k (⟨denSl (mini o.op sl ob).sl, [], [(d, v.den)], [], [], []⟩ :: acc) ((d, v) :: sl) ob lo) else False
      | _, _, _ => False
    | op => match opS T (mini op sl ob) lo op with
      | some ⟨p, v, rm, ad, lo'⟩ => bif dstS N o && lo.ble lo' then nextS p (putK o.dst v rm ad sl ob lo' (k (SE.eff ⟨p, v, rm, ad, lo'⟩ o.dst lo (mini op sl ob) :: acc))) else False
      | none => False
def wpD (P : Program) (T : Tab) (N : Nat) (ops : Array Oper) (sl0 : List (Nat × Sv)) (ob0 : List (Nat × So)) (lo0 : Nat) (k : KS) (l : List Oper) : KD :=
  List.rec (fun acc sl ob lo => drawnB ops acc.reverse = true ∧ bif frAll sl0 ob0 (names lo0 (lo - lo0)) then k sl ob lo else False)
    (fun o _ ih acc sl ob lo => wpDop P T N o acc sl ob lo ih) l

section
variable {P : Program} {Q : Exit → Act → World → Prop} {X : Ctx} {K : List Item} {T : Tab} {N : Nat} {ops : Array Oper}

theorem subS_of {μ : SS} {τ : St} {rs : List (Nat × AV)} {ro : List (Nat × Ob)} (h1 : hasSl τ (denSl μ.sl)) (h2 : hasOb τ (denOb μ.ob)) : SubS μ τ :=
  ⟨fun t v h => h1 t v.den (List.mem_map.2 ⟨(t, v), lk_mem h, rfl⟩), fun n x h => h2 n x.den (List.mem_map.2 ⟨(n, x), lk_mem h, rfl⟩)⟩
theorem slIn_of {τ : St} : ∀ {l : List (Nat × AV)}, (∀ t v, (t, v) ∈ l → Aw.look t τ.sl = some v) → slIn τ l
  | [], _ => trivial
  | (t, v) :: l, h => ⟨h t v List.mem_cons_self, slIn_of fun t v hm => h t v (List.mem_cons_of_mem _ hm)⟩
theorem obIn_of {τ : St} : ∀ {l : List (Nat × Ob)}, (∀ t v, (t, v) ∈ l → Aw.look t τ.ob = some v) → obIn τ l
  | [], _ => trivial
  | (t, v) :: l, h => ⟨h t v List.mem_cons_self, obIn_of fun t v hm => h t v (List.mem_cons_of_mem _ hm)⟩
theorem mini_sl {o : Op} {sl : List (Nat × Sv)} {ob : List (Nat × So)} : ∀ t v, (t, v) ∈ denSl (mini o sl ob).sl → Aw.look t (SS.den ⟨sl, ob⟩).sl = some v := fun t v h => by
  obtain ⟨⟨s, u⟩, hm, he⟩ := List.mem_map.1 h
  injection he with e1 e2; subst e1; subst e2
  exact look_sl (σ := ⟨sl, ob⟩) (pk_mem hm)
theorem mini_ob {o : Op} {sl : List (Nat × Sv)} {ob : List (Nat × So)} : ∀ t v, (t, v) ∈ denOb (mini o sl ob).ob → Aw.look t (SS.den ⟨sl, ob⟩).ob = some v := fun t v h => by
  obtain ⟨⟨s, u⟩, hm, he⟩ := List.mem_map.1 h
  injection he with e1 e2; subst e1; subst e2
  have hm : (s, u) ∈ (bif needOb o then pk ob (nmSl (pk sl (tmpsL o.operands.toList))) else []) := hm
  cases hn : needOb o with
  | true => rw [hn, cond_true] at hm; exact look_ob (σ := ⟨sl, ob⟩) (pk_mem hm)
  | false => rw [hn, cond_false] at hm; cases hm

theorem wpDop_ok (hT : TabOK P T) (hG : CG X) (hN : X.N = N) {o : Oper} {acc : List Eff} {sl : List (Nat × Sv)} {ob : List (Nat × So)} {lo : Nat} {k : KD} (h : wpDop P T N o acc sl ob lo k) :
    ∃ e sl' ob' lo', k (e :: acc) sl' ob' lo' ∧ Valid P X ops o e ∧ slIn (SS.den ⟨sl, ob⟩) e.rs ∧ obIn (SS.den ⟨sl, ob⟩) e.ro ∧ e.ap (SS.den ⟨sl, ob⟩) = SS.den ⟨sl', ob'⟩ ∧ lo ≤ lo' ∧ ∀ n ∈ e.fr, lo ≤ n ∧ n < lo' := by
  unfold wpDop at h
  split at h
  · exact h.elim
  · rename_i hgd
    split at h
    · rename_i g xs ts ho
      split at h
      · rename_i c ps d hc hps hd
        cases hb : d.blt N with
        | false => rw [hb, cond_false] at h; exact h.elim
        | true =>
          rw [hb, cond_true] at h
          generalize hμ : mini o.op sl ob = μ at h hc hps
          -- the result does not hang on τ
          have key : ∃ v : Sv, (∀ τ, SubS ⟨μ.sl, []⟩ τ → StepS P X o τ (τ.put d v.den)) ∧ k (⟨denSl μ.sl, [], [(d, v.den)], [], [], []⟩ :: acc) ((d, v) :: sl) ob lo := by
            unfold wpCall at h
            split at h
            · rename_i f caps
              split at h
              · rename_i fn cs hf hcs
                obtain ⟨res, ⟨args, h3, h4⟩, h2⟩ := h
                exact ⟨resS res, fun τ hs => (step_call1 (X := X) (σ := ⟨μ.sl, []⟩) hT hG hs ho hc hps rfl hf hcs h3 h4).1 d hd (by rw [hN]; exact nlt hb), h2⟩
              · exact h.elim
            · rename_i p
              obtain ⟨res, ⟨args, h3, h4⟩, h2⟩ := h
              exact ⟨resS res, fun τ hs => (step_call2 (X := X) (σ := ⟨μ.sl, []⟩) hG hs ho hc hps h3 h4).1 d hd (by rw [hN]; exact nlt hb), h2⟩
            · exact h.elim
          obtain ⟨v, h1, h2⟩ := key
          refine ⟨_, _, _, _, h2, fun τ h3 h4 _ => ?_, ?_, trivial, ?_, Nat.le_refl _, fun n hn => by simp at hn⟩
          · have hs : SubS ⟨μ.sl, []⟩ τ := ⟨fun t v h => h3 t v.den (List.mem_map.2 ⟨(t, v), lk_mem h, rfl⟩), fun n x hx => by cases hx⟩
            have := h1 τ hs
            have e : (Eff.mk (denSl μ.sl) [] [(d, v.den)] [] [] []).ap τ = τ.put d v.den := by
              show (⟨_, _ ++ τ.ob.filter _⟩ : St) = ⟨_, _⟩
              congr 1
              exact List.filter_eq_self.2 fun x _ => rfl
            rw [e]
            exact StepG.plain hgd this
          · rw [← hμ]; exact slIn_of mini_sl
          · show (⟨_, _ ++ List.filter _ (SS.den ⟨sl, ob⟩).ob⟩ : St) = ⟨_, _⟩
            congr 1
            exact List.filter_eq_self.2 fun x _ => rfl
      · exact h.elim
    · split at h
      · rename_i p v rm ad lo' he
        cases hb : dstS N o && lo.ble lo' with
        | false => rw [hb, cond_false] at h; exact h.elim
        | true =>
          rw [hb, cond_true] at h
          rw [Bool.and_eq_true] at hb
          obtain ⟨h1, h2⟩ := nextS_iff h
          rw [putK_eq o.dst p] at h2
          refine ⟨_, _, _, _, h2, fun τ h3 h4 h5 => ?_, slIn_of mini_sl, obIn_of mini_ob, ap_den, nle hb.2, fun n hn => ?_⟩
          · have hs : SubS (mini o.op sl ob) τ := subS_of (rs := []) (ro := []) h3 h4
            exact StepG.plain hgd (opS_ok (X := X) hT hs he h1 (by rw [hN]; exact hb.1) fun n h6 h7 => h5 n (mem_names.2 ⟨h6, by have h7 : n < lo' := h7; omega⟩))
          · have hn : n ∈ names lo (lo' - lo) := hn
            have := mem_names.1 hn
            have := nle hb.2
            omega
      · exact h.elim

theorem valid_lo {es : List Eff} : True := trivial

theorem wpD_ok (hT : TabOK P T) (hG : CG X) (hN : X.N = N) {sl0 : List (Nat × Sv)} {ob0 : List (Nat × So)} {lo0 : Nat} {k : KS} : ∀ {l : List Oper} {acc : List Eff} {sl : List (Nat × Sv)} {ob : List (Nat × So)} {lo : Nat}, wpD P T N ops sl0 ob0 lo0 k l acc sl ob lo →
    ∃ es sl' ob' lo', drawnB ops (acc.reverse ++ es) = true ∧ frAll sl0 ob0 (names lo0 (lo' - lo0)) = true ∧ k sl' ob' lo' ∧ ValidL P X ops l es ∧ TextL (SS.den ⟨sl, ob⟩) es ∧ runL es (SS.den ⟨sl, ob⟩) = SS.den ⟨sl', ob'⟩ ∧ lo ≤ lo' ∧ ∀ e ∈ es, ∀ n ∈ e.fr, lo ≤ n ∧ n < lo'
  | [], acc, sl, ob, lo, h => by
    obtain ⟨h1, h2⟩ := (h : drawnB ops acc.reverse = true ∧ bif frAll sl0 ob0 (names lo0 (lo - lo0)) then k sl ob lo else False)
    cases hf : frAll sl0 ob0 (names lo0 (lo - lo0)) with
    | false => rw [hf, cond_false] at h2; exact h2.elim
    | true =>
      rw [hf, cond_true] at h2
      exact ⟨[], sl, ob, lo, by rw [List.append_nil]; exact h1, hf, h2, trivial, trivial, rfl, Nat.le_refl _, fun e he => by simp at he⟩
  | o :: l, acc, sl, ob, lo, h => by
    have h : wpDop P T N o acc sl ob lo (wpD P T N ops sl0 ob0 lo0 k l) := h
    obtain ⟨e, sl1, ob1, lo1, hk, hv, hr1, hr2, hap, hlo, hfr⟩ := wpDop_ok (X := X) (ops := ops) hT hG hN h
    obtain ⟨es, sl', ob', lo', q1, q2, q3, q4, q5, q6, q7, q8⟩ := wpD_ok hT hG hN hk
    refine ⟨e :: es, sl', ob', lo', ?_, q2, q3, ⟨hv, q4⟩, ⟨hr1, hr2, by rw [hap]; exact q5⟩, by show runL es (e.ap _) = _; rw [hap]; exact q6, Nat.le_trans hlo q7, fun e' he' n hn => ?_⟩
    · rw [List.reverse_cons, List.append_assoc] at q1; exact q1
    · rcases List.mem_cons.1 he' with rfl | he'
      · have := hfr n hn; omega
      · have := q8 e' he' n hn; omega

/-! ### Control -/
def stepC (P : Program) (Q : Exit → Act → World → Prop) (X : Ctx) (T : Tab) (N : Nat) (rec : List Item → KS) (K : List Item) (sl : List (Nat × Sv)) (ob : List (Nat × So)) (lo : Nat) : Code → Prop
  | .skip => rec K sl ob lo
  | .seq x y => rec (.code x :: .code y :: K) sl ob lo
  | .block id c => rec (.code c :: .inBlock id :: K) sl ob lo
  | .exit id => match exitTo id K with
    | some K' => rec K' sl ob lo
    | none => False
  | .cond x c d => match opd sl x with
    | some (.val (.one (.bool b))) => (b = true → rec (.code c :: K) sl ob lo) ∧ (b = false → rec (.code d :: K) sl ob lo)
    | _ => False
  | .region _ ops dr => bif dr then wpD P T N ops sl ob lo (rec K) ops.toList [] sl ob lo else wpM P T N ops (rec K) ops.toList none sl ob lo
  | .loop c => GoS P Q X (.code c :: .inLoop c :: K) sl ob lo
  | c => GoS P Q X (.code c :: K) sl ob lo
def stepK (P : Program) (Q : Exit → Act → World → Prop) (X : Ctx) (T : Tab) (N : Nat) (rec : List Item → KS) (K : List Item) (sl : List (Nat × Sv)) (ob : List (Nat × So)) (lo : Nat) : Prop := match K with
  | .code c :: K => stepC P Q X T N rec K sl ob lo c
  | .inBlock _ :: K => rec K sl ob lo
  | .inLoop c :: K => GoS P Q X (.code c :: .inLoop c :: K) sl ob lo
  | K => GoS P Q X K sl ob lo
def wp (P : Program) (Q : Exit → Act → World → Prop) (X : Ctx) (T : Tab) (N : Nat) (n : Nat) : List Item → KS :=
  Nat.rec (fun K sl ob lo => GoS P Q X K sl ob lo) (fun _ rec K sl ob lo => stepK P Q X T N rec K sl ob lo) n

theorem wp_go (hm : P.follows .mixedOrders = true) (hT : TabOK P T) (hG : CG X) (hN : X.N = N) : ∀ (n : Nat) {K : List Item} {sl : List (Nat × Sv)} {ob : List (Nat × So)} {lo : Nat}, wp P Q X T N n K sl ob lo → GoS P Q X K sl ob lo
  | 0, K, sl, ob, lo, h => h
  | n + 1, K, sl, ob, lo, h => by
    have h : stepK P Q X T N (wp P Q X T N n) K sl ob lo := h
    have ih : ∀ {K : List Item} {sl : List (Nat × Sv)} {ob : List (Nat × So)} {lo : Nat}, wp P Q X T N n K sl ob lo → GoS P Q X K sl ob lo := fun h => wp_go hm hT hG hN n h
    unfold stepK at h
    split at h
    · rename_i c K _
      unfold stepC at h
      split at h
      · exact ⟨go_skip (ih h).go⟩
      · exact ⟨go_seq (ih h).go⟩
      · exact ⟨go_block (ih h).go⟩
      · split at h
        · rename_i K' hK; exact ⟨go_exit hK (ih h).go⟩
        · exact h.elim
      · split at h
        · rename_i b hx
          exact ⟨go_cond (opd_den (SubS.rfl' ⟨sl, ob⟩) hx) (fun hb => (ih (h.1 hb)).go) (fun hb => (ih (h.2 hb)).go)⟩
        · exact h.elim
      · rename_i id ops dr _
        cases dr with
        | false =>
          rw [cond_false] at h
          refine ⟨go_region ?_⟩
          have := (wpM_ok (X := X) (K := K) (ops := ops) hT hG hN (k := wp P Q X T N n K) (fun sl ob lo h => (ih h).go) ops.toList 0 (by simp)).1 sl ob lo h
          rw [List.range_eq_range']
          simpa using this
        | true =>
          rw [cond_true] at h
          obtain ⟨es, sl', ob', lo', q1, q2, q3, q4, q5, q6, q7, q8⟩ := wpD_ok (X := X) hT hG hN h
          rw [List.reverse_nil, List.nil_append] at q1
          unfold drawnB at q1
          simp only [Bool.and_eq_true] at q1
          refine ⟨go_drawn (ancS ops ops.size) es hm q1.1.1 q1.1.2 q1.2 ?_ q4 q5 ?_⟩
          · rw [List.all_eq_true]
            intro e he
            rw [List.all_eq_true]
            intro n hn
            have := q8 e he n hn
            exact (frAll_ok q2 n (mem_names.2 ⟨this.1, by omega⟩)).1
          · rw [q6]; exact (ih q3).go
      · exact ⟨go_loop h.go⟩
      · exact h
    · exact ⟨go_inBlock (ih h).go⟩
    · exact ⟨go_inLoop h.go⟩
    · exact h

/-! ### The way in and out -/
def sloeS : Nat → List Sp → List (Nat × Sv)
  | _, [] => []
  | i, p :: l => (i, .val p) :: sloeS (i + 1) l
theorem sloe_den : ∀ (i : Nat) (l : List Sp), (sloeS i l).map (fun x => (x.1, x.2.den)) = sloe i (l.map Sp.den)
  | _, [] => rfl
  | i, p :: l => by
    simp only [sloeS, List.map_cons, sloe, sloe_den (i + 1) l]; rfl
theorem spc_intro (hT : TabOK P T) {f : FuncId} {fn : Func} {c : Code} {args res : List Sp} (hf : T.fn f = some fn) (hb : fn.body = some c) (hn : args.length.ble fn.ntmps = true) (pa : (args.map Sp.den).all Part.pure = true) (pr : (res.map Sp.den).all Part.pure = true)
    (g : ∀ w0 M, CG ⟨w0, M, fun _ _ => False, fn.ntmps⟩ → GoS P (Fin P fn w0 M (res.map Sp.den)) ⟨w0, M, fun _ _ => False, fn.ntmps⟩ [.code c] (sloeS 0 args) [] 0) : SPC P f args res where
  pc := pc_intro (hT.fn _ _ hf).1 hb (by rw [List.length_map]; exact nle hn) fun w0 M hG => by
    have := (g w0 M (CG.of hG)).go
    unfold SS.den at this
    rw [sloe_den] at this
    exact this
  pa := pa
  pr := pr

def resVS (T : Tab) (sl : List (Nat × Sv)) (ob : List (Nat × So)) : ResultVar → Option Sp
  | .tmp t => match lk t sl with
    | some (.val p) => some p
    | _ => none
  | .cell t ty => match lk t sl, T.ty ty with
    | some (.val (.one (.ref n 0))), some i => match lk n ob with
      | some (.box _ cs) => bif i.agg then (bif cs.length.beq i.size then some (.agg cs) else none) else match cs with
        | c :: _ => some (.one c)
        | [] => none
      | _ => none
    | _, _ => none
def resLS (T : Tab) (sl : List (Nat × Sv)) (ob : List (Nat × So)) : List ResultVar → Option (List Sp)
  | [] => some []
  | r :: l => match resVS T sl ob r, resLS T sl ob l with
    | some p, some ps => some (p :: ps)
    | _, _ => none
theorem resVS_ok (hT : TabOK P T) {sl : List (Nat × Sv)} {ob : List (Nat × So)} {r : ResultVar} {p : Sp} (h : resVS T sl ob r = some p) : ResIs P (SS.den ⟨sl, ob⟩) r p.den := by
  unfold resVS at h
  split at h
  · split at h
    · rename_i t p' hl; injection h with h; subst h; exact .tmp (look_sl (σ := ⟨sl, ob⟩) hl)
    · cases h
  · rename_i t ty
    split at h
    · rename_i n i hl hi
      split at h
      · rename_i T' cs hb
        have h1 := look_sl (σ := ⟨sl, ob⟩) hl
        have h2 := look_ob (σ := ⟨sl, ob⟩) hb
        have hA := (hT.ty _ _ hi).agg; have hS := (hT.ty _ _ hi).size
        cases ha : i.agg with
        | true =>
          rw [ha, cond_true] at h
          rw [ha] at hA
          cases hc : cs.length.beq i.size with
          | false => rw [hc, cond_false] at h; cases h
          | true =>
            rw [hc, cond_true] at h
            injection h with h; subst h
            have := Nat.eq_of_beq_eq_true hc
            exact .agg h1 h2 hA (by rw [List.length_map, this]; exact hS)
        | false =>
          rw [ha, cond_false] at h
          rw [ha] at hA
          split at h
          · rename_i c l
            injection h with h; subst h
            exact .one h1 h2 hA rfl
          · cases h
      · cases h
    · cases h
theorem resLS_ok (hT : TabOK P T) {sl : List (Nat × Sv)} {ob : List (Nat × So)} : ∀ {rs : List ResultVar} {ps : List Sp}, resLS T sl ob rs = some ps → ResL P (SS.den ⟨sl, ob⟩) rs (ps.map Sp.den)
  | [], ps, h => by simp only [resLS, Option.some.injEq] at h; subst h; exact .nil
  | r :: rs, ps, h => by
    simp only [resLS] at h
    split at h
    · rename_i p ps' h1 h2
      injection h with h; subst h
      exact .cons (resVS_ok hT h1) (resLS_ok hT h2)
    · cases h
theorem sgo_ret (hT : TabOK P T) {fn : Func} {w0 : World} {M : Cells} {n : Nat} {res ps : List Sp} {sl : List (Nat × Sv)} {ob : List (Nat × So)} {lo : Nat} (hr : resLS T sl ob fn.results.toList = some ps) (hpr : (res.map Sp.den).all Part.pure = true) (hle : LeS ps res) :
    GoS P (Fin P fn w0 M (res.map Sp.den)) ⟨w0, M, fun _ _ => False, n⟩ (.code .ret :: K) sl ob lo := ⟨go_retc (by simp) (resLS_ok hT hr) hle hpr⟩
theorem sgo_end (hT : TabOK P T) {fn : Func} {w0 : World} {M : Cells} {n : Nat} {res ps : List Sp} {sl : List (Nat × Sv)} {ob : List (Nat × So)} {lo : Nat} (hr : resLS T sl ob fn.results.toList = some ps) (hpr : (res.map Sp.den).all Part.pure = true) (hle : LeS ps res) :
    GoS P (Fin P fn w0 M (res.map Sp.den)) ⟨w0, M, fun _ _ => False, n⟩ [] sl ob lo := ⟨go_endc (by simp) (resLS_ok hT hr) hle hpr⟩
end
end -- nc
end Go.Proofs.YtgjbehfdjnekdaaGreatDoor.Sy
end
