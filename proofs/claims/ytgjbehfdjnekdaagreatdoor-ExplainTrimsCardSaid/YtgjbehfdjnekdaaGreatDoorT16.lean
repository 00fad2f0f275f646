/- Parts of the proof of one statement: Sy11, Sy12. -/
import Derived.Test.YtgjbehfdjnekdaaGreatDoorT15
set_option linter.all false
section
/- Symbolic states: told anew, frozen; loops. -/
set_option linter.unusedVariables false
set_option linter.unusedSimpArgs false
namespace Go.Proofs.YtgjbehfdjnekdaaGreatDoor.Sy
open Go.RowKit
open Go.Proofs.YtgjbehfdjnekdaaGreatDoor.Aw
open Go.Proofs.YtgjbehfdjnekdaaGreatDoor.Xc (Tab TabOK XT TyOK Xv Xp toList_ba placesX run_places del look_del)
noncomputable section

/-! ### Names told anew -/
def renN (l : List (Nat × Nat)) (n : Nat) : Nat := match lk n l with
  | some m => m
  | none => n
def renCap (l : List (Nat × Nat)) : Sc → Sc
  | .ref n 0 => .ref (renN l n) 0
  | c => c
def renC (l : List (Nat × Nat)) : Sc → Sc
  | .ref n off => .ref (renN l n) off
  | .el n i k j => .el (renN l n) i k j
  | .clo f cs => .clo f (cs.map (renCap l))
  | c => c
def renP (l : List (Nat × Nat)) : Sp → Sp
  | .one c => .one (renC l c)
  | .agg cs => .agg (cs.map (renC l))
def renV (l : List (Nat × Nat)) : Sv → Sv
  | .val p => .val (renP l p)
  | .tup ps => .tup (ps.map (renP l))
  | .opt b p => .opt b (renP l p)
def renO (l : List (Nat × Nat)) : So → So
  | .box T cs => .box T (cs.map (renC l))
  | x => x
theorem renCap_den (l : List (Nat × Nat)) (c : Sc) : (renCap l c).cap = c.cap.ren (renN l) := by
  unfold renCap
  split
  · rfl
  · rename_i hne
    have : c.cap = .dt c.pred := by
      unfold Sc.cap
      split
      · rename_i m; exact absurd rfl (hne m)
      · rfl
    rw [this]; rfl
theorem renC_den (l : List (Nat × Nat)) (c : Sc) : (renC l c).den = c.den.ren (renN l) := by
  cases c with
  | clo f cs =>
    show Cell.clo f _ = Cell.clo f _
    rw [List.map_map, List.map_map]
    congr 1
    exact List.map_congr_left fun c _ => renCap_den l c
  | _ => rfl
theorem renCs_den (l : List (Nat × Nat)) (cs : List Sc) : (cs.map (renC l)).map Sc.den = (cs.map Sc.den).map (Cell.ren (renN l)) := by
  rw [List.map_map, List.map_map]
  exact List.map_congr_left fun c _ => renC_den l c
theorem renP_den (l : List (Nat × Nat)) (p : Sp) : (renP l p).den = p.den.ren (renN l) := by
  cases p with
  | one c => show Part.one _ = Part.one _; rw [renC_den]
  | agg cs => show Part.agg _ = Part.agg _; rw [renCs_den]
theorem renV_den (l : List (Nat × Nat)) (v : Sv) : (renV l v).den = v.den.ren (renN l) := by
  cases v with
  | val p => show AV.val _ = AV.val _; rw [renP_den]
  | tup ps =>
    show AV.tup _ = AV.tup _
    rw [List.map_map, List.map_map]
    congr 1
    exact List.map_congr_left fun c _ => renP_den l c
  | opt b p => show AV.opt b _ = AV.opt b _; rw [renP_den]
theorem renO_den (l : List (Nat × Nat)) (x : So) : (renO l x).den = x.den.ren (renN l) := by
  cases x with
  | box T cs => show Ob.box T _ = Ob.box T _; rw [renCs_den]
  | row T k n f => rfl

/-! ### One state within another -/
def tomb : List Nat → List (Nat × Sv) → List (Nat × Sv)
  | [], sl => sl
  | t :: l, sl => (t, .opt false (.one .any)) :: tomb l sl
def memB (n : Nat) : List Nat → Bool
  | [] => false
  | m :: l => bif n.beq m then true else memB n l
theorem memB_iff {n : Nat} : ∀ {l : List Nat}, memB n l = true ↔ n ∈ l
  | [] => by simp [memB]
  | m :: l => by
    simp only [memB, List.mem_cons]
    cases h : n.beq m with
    | true => simp [Nat.eq_of_beq_eq_true h]
    | false =>
      rw [cond_false, memB_iff]
      have : n ≠ m := fun e => by subst e; simp at h
      simp [this]
theorem lk_tomb {t : Nat} {sl : List (Nat × Sv)} : ∀ {l : List Nat}, lk t (tomb l sl) = if t ∈ l then some (.opt false (.one .any)) else lk t sl
  | [] => by simp [tomb]
  | s :: l => by
    simp only [tomb, lk, List.mem_cons]
    cases h : t.beq s with
    | true => simp [Nat.eq_of_beq_eq_true h]
    | false =>
      rw [cond_false, lk_tomb]
      have : t ≠ s := fun e => by subst e; simp at h
      simp [this]
def SLe (u v : Sv) : Prop := u.den.le v.den
def subSl (sl : List (Nat × Sv)) (l : List (Nat × Nat)) : List (Nat × Sv) → Prop
  | [] => True
  | (t, v) :: r => (∃ u, lk t sl = some u ∧ SLe u (renV l v)) ∧ subSl sl l r
def subOb (ob : List (Nat × So)) (l : List (Nat × Nat)) : List (Nat × So) → Prop
  | [] => True
  | (n, x) :: r => (∃ y, lk (renN l n) ob = some y ∧ y.den = (renO l x).den) ∧ subOb ob l r
def keysOf {β : Type} : List (Nat × β) → List Nat
  | [] => []
  | x :: l => x.1 :: keysOf l
def nodupB : List Nat → Bool
  | [] => true
  | n :: l => !(memB n l) && nodupB l
/-- In front of sl0 stand keys of D alone. -/
def baseOK (sl sl0 : List (Nat × Sv)) (D : List Nat) (k : Nat) : Prop := sl.drop k = sl0 ∧ ((keysOf (sl.take k)).all fun t => memB t D) = true
structure SubW (sl : List (Nat × Sv)) (ob : List (Nat × So)) (l : List (Nat × Nat)) (vars : List (Nat × Sv)) (D : List Nat) (sl0 : List (Nat × Sv)) (obs : List (Nat × So)) : Prop where
  hv : subSl sl l vars
  base : baseOK sl sl0 (keysOf vars ++ D) (sl.length - sl0.length)
  fr : ((keysOf l).all fun n => frSl n sl0) = true
  ho : subOb ob l obs
  inj : nodupB ((keysOf obs).map (renN l)) = true

theorem subSl_at {sl : List (Nat × Sv)} {l : List (Nat × Nat)} : ∀ {vars : List (Nat × Sv)}, subSl sl l vars → ∀ {t v}, lk t vars = some v → ∃ u, lk t sl = some u ∧ SLe u (renV l v)
  | [], _, t, v, h => by cases h
  | (s, x) :: r, ⟨h1, h2⟩, t, v, h => by
    simp only [lk] at h
    cases hs : t.beq s with
    | true => rw [hs, cond_true] at h; injection h with h; subst h; rw [Nat.eq_of_beq_eq_true hs]; exact h1
    | false => rw [hs, cond_false] at h; exact subSl_at h2 h
theorem subOb_at {ob : List (Nat × So)} {l : List (Nat × Nat)} : ∀ {obs : List (Nat × So)}, subOb ob l obs → ∀ {t v}, lk t obs = some v → ∃ u, lk (renN l t) ob = some u ∧ u.den = (renO l v).den
  | [], _, t, v, h => by cases h
  | (s, x) :: r, ⟨h1, h2⟩, t, v, h => by
    simp only [lk] at h
    cases hs : t.beq s with
    | true => rw [hs, cond_true] at h; injection h with h; subst h; rw [Nat.eq_of_beq_eq_true hs]; exact h1
    | false => rw [hs, cond_false] at h; exact subOb_at h2 h
theorem lk_none_keys {β : Type} {t : Nat} : ∀ {l : List (Nat × β)}, t ∉ keysOf l → lk t l = none
  | [], _ => rfl
  | (s, x) :: l, h => by
    simp only [keysOf, List.mem_cons, not_or] at h
    simp only [lk]
    cases hs : t.beq s with
    | true => exact absurd (Nat.eq_of_beq_eq_true hs) h.1
    | false => rw [cond_false]; exact lk_none_keys h.2
theorem lk_keys {β : Type} {t : Nat} {v : β} : ∀ {l : List (Nat × β)}, lk t l = some v → t ∈ keysOf l
  | [], h => by cases h
  | (s, x) :: l, h => by
    simp only [lk] at h
    simp only [keysOf, List.mem_cons]
    cases hs : t.beq s with
    | true => exact .inl (Nat.eq_of_beq_eq_true hs)
    | false => rw [hs, cond_false] at h; exact .inr (lk_keys h)
theorem lk_base {sl sl0 : List (Nat × Sv)} {D : List Nat} {k t : Nat} (h : baseOK sl sl0 D k) (ht : t ∉ D) : lk t sl = lk t sl0 := by
  obtain ⟨h1, h2⟩ := h
  have : sl = sl.take k ++ sl0 := by rw [← h1, List.take_append_drop]
  rw [this, lk_append, lk_none_keys fun hm => ?_, Option.none_or]
  exact ht (memB_iff.1 (List.all_eq_true.1 h2 t hm))
theorem nodupB_ok : ∀ {l : List Nat}, nodupB l = true → l.Nodup
  | [], _ => .nil
  | n :: l, h => by
    simp only [nodupB, Bool.and_eq_true, Bool.not_eq_true'] at h
    refine List.nodup_cons.2 ⟨fun hm => ?_, nodupB_ok h.2⟩
    have := memB_iff.2 hm; rw [h.1] at this; cases this
theorem nodup_inj {f : Nat → Nat} : ∀ {l : List Nat}, (l.map f).Nodup → ∀ n ∈ l, ∀ m ∈ l, f n = f m → n = m
  | [], _, n, hn, _, _, _ => by cases hn
  | a :: l, h, n, hn, m, hm, e => by
    simp only [List.map_cons, List.nodup_cons] at h
    rcases List.mem_cons.1 hn with h1 | h1 <;> rcases List.mem_cons.1 hm with h2 | h2
    · rw [h1, h2]
    · exact absurd (List.mem_map.2 ⟨m, h2, by rw [← e, h1]⟩) h.1
    · exact absurd (List.mem_map.2 ⟨n, h1, by rw [e, h2]⟩) h.1
    · exact nodup_inj h.2 n h1 m h2 e

theorem renN_fr {l : List (Nat × Nat)} {n : Nat} (h : n ∉ keysOf l) : renN l n = n := by unfold renN; rw [lk_none_keys h]
theorem renCap_fr {l : List (Nat × Nat)} {c : Sc} (h : ∀ n ∈ keysOf l, frCap n c = true) : renCap l c = c := by
  unfold renCap
  split
  · rename_i n
    rw [renN_fr fun hm => by have := h n hm; simp [frCap] at this]
  · rfl
theorem renC_fr {l : List (Nat × Nat)} {c : Sc} (h : ∀ n ∈ keysOf l, frC n c = true) : renC l c = c := by
  cases c with
  | ref m off => show Sc.ref (renN l m) off = _; rw [renN_fr fun hm => by have := h m hm; simp [frC] at this]
  | el m i k j => show Sc.el (renN l m) i k j = _; rw [renN_fr fun hm => by have := h m hm; simp [frC] at this]
  | clo f cs =>
    show Sc.clo f (cs.map (renCap l)) = _
    congr 1
    have : cs.map (renCap l) = cs.map id := List.map_congr_left fun c hc => renCap_fr fun n hn => by
      have := h n hn
      simp only [frC, List.all_eq_true] at this
      exact this c hc
    rw [this, List.map_id]
  | _ => rfl
theorem renP_fr {l : List (Nat × Nat)} {p : Sp} (h : ∀ n ∈ keysOf l, frP n p = true) : renP l p = p := by
  cases p with
  | one c => show Sp.one (renC l c) = _; rw [renC_fr h]
  | agg cs =>
    show Sp.agg (cs.map (renC l)) = _
    congr 1
    have : cs.map (renC l) = cs.map id := List.map_congr_left fun c hc => renC_fr fun n hn => by
      have := h n hn
      simp only [frP, List.all_eq_true] at this
      exact this c hc
    rw [this, List.map_id]
theorem renV_fr {l : List (Nat × Nat)} {v : Sv} (h : ∀ n ∈ keysOf l, frV n v = true) : renV l v = v := by
  cases v with
  | val p => show Sv.val (renP l p) = _; rw [renP_fr h]
  | tup ps =>
    show Sv.tup (ps.map (renP l)) = _
    congr 1
    have : ps.map (renP l) = ps.map id := List.map_congr_left fun c hc => renP_fr fun n hn => by
      have := h n hn
      simp only [frV, List.all_eq_true] at this
      exact this c hc
    rw [this, List.map_id]
  | opt b p => show Sv.opt b (renP l p) = _; rw [renP_fr h]
theorem frSl_at {n t : Nat} {v : Sv} : ∀ {sl : List (Nat × Sv)}, frSl n sl = true → lk t sl = some v → frV n v = true
  | [], _, h => by cases h
  | (s, u) :: l, h, hl => by
    simp only [frSl, Bool.and_eq_true] at h
    simp only [lk] at hl
    cases hs : t.beq s with
    | true => rw [hs, cond_true] at hl; injection hl with hl; subst hl; exact h.1
    | false => rw [hs, cond_false] at hl; exact frSl_at h.2 hl

section
variable {P : Program} {Q : Exit → Act → World → Prop} {X : Ctx} {K : List Item} {T : Tab} {N : Nat} {sl sl0 : List (Nat × Sv)} {ob : List (Nat × So)} {lo : Nat}

theorem sgo_set {l : List (Nat × Nat)} {vars : List (Nat × Sv)} {D : List Nat} {obs : List (Nat × So)} (lo' : Nat) (h : SubW sl ob l vars D sl0 obs) (g : GoS P Q X K (vars ++ tomb D sl0) obs lo') : GoS P Q X K sl ob lo := by
  have hbase := h.base
  refine ⟨?_⟩
  intro a w hr
  refine g.go a w ?_
  obtain ⟨ι, F, hI⟩ := hr
  let ρ := renN l
  let F' : Nat → Cells := fun n b q => (lk n obs).isSome = true ∧ F (ρ n) b q
  have hM : ∀ b q, b < w.heap.size → Mof X.M0 F' b q → Mof X.M0 F b q := by
    rintro b q _ (hm | ⟨n, hm⟩)
    · exact .inl hm
    · exact .inr ⟨ρ n, hm.2⟩
  have hinj : ∀ n m, (lk n obs).isSome = true → (lk m obs).isSome = true → ρ n = ρ m → n = m := fun n m hn hm e => by
    obtain ⟨x, hx⟩ := Option.isSome_iff_exists.1 hn
    obtain ⟨y, hy⟩ := Option.isSome_iff_exists.1 hm
    exact nodup_inj (nodupB_ok h.inj) n (lk_keys hx) m (lk_keys hy) e
  refine ⟨fun n => ι (ρ n), F', {
    none_ := fun n hn b q hf => ?_
    obj := fun n x hx => ?_
    disj := fun n m b q h1 h2 => hinj n m h1.1 h2.1 (hI.disj _ _ b q h1.2 h2.2)
    apart := fun n b q h1 => hI.apart _ b q h1.2
    old := fun n b q h1 => hI.old _ b q h1.2
    lt := fun n b q h1 => hI.lt _ b q h1.2
    m0lt := hI.m0lt, finM := hI.finM
    slot := fun t v hv => ?_
    size := hI.size, defers := hI.defers, kept := hI.kept }⟩
  · obtain ⟨x, hx⟩ := Option.isSome_iff_exists.1 hf.1
    rw [look_ob (σ := ⟨vars ++ tomb D sl0, obs⟩) hx] at hn
    cases hn
  · obtain ⟨x', hx', rfl⟩ := lk_den_ob hx
    obtain ⟨y, hy, hyd⟩ := subOb_at h.ho hx'
    have h1 := hI.obj (ρ n) y.den (look_ob (σ := ⟨sl, ob⟩) hy)
    rw [hyd, renO_den] at h1
    have h2 := Ob.rel_ren (Ob.rel_mono (M' := Mof X.M0 F') h1 (Ext.refl _ w) hM fun _ _ => rfl)
    have : F' n = F (ρ n) := by funext b q; simp only [F', hx', Option.isSome_some, true_and]
    rw [this]; exact h2
  · obtain ⟨v', hv', rfl⟩ := lk_den_sl hv
    rw [lk_append] at hv'
    cases hl : lk t vars with
    | some u =>
      rw [hl] at hv'
      injection hv' with hv'; subst hv'
      obtain ⟨z, hz, hle⟩ := subSl_at h.hv hl
      have h1 := hI.slot t z.den (look_sl (σ := ⟨sl, ob⟩) hz)
      have h2 := hle _ _ _ _ h1
      rw [renV_den] at h2
      exact AV.rel_ren (AV.rel_mono h2 (Ext.refl _ w) hM)
    | none =>
      rw [hl, Option.none_or, lk_tomb] at hv'
      split at hv'
      · injection hv' with hv'; subst hv'
        intro e; cases e
      · rename_i hD
        have hnk : t ∉ keysOf vars ++ D := fun hm => by
          rcases List.mem_append.1 hm with hm | hm
          · have key : ∀ {vs : List (Nat × Sv)}, t ∈ keysOf vs → lk t vs ≠ none := by
              intro vs
              induction vs with
              | nil => intro h; cases h
              | cons x vs ih =>
                obtain ⟨s, u⟩ := x
                intro h
                simp only [lk]
                cases hs : t.beq s with
                | true => rw [cond_true]; simp
                | false =>
                  rw [cond_false]
                  simp only [keysOf, List.mem_cons] at h
                  rcases h with rfl | h
                  · simp at hs
                  · exact ih h
            exact key hm hl
          · exact hD hm
        have hl2 : lk t sl = some v' := by rw [lk_base hbase hnk]; exact hv'
        have h1 := hI.slot t v'.den (look_sl (σ := ⟨sl, ob⟩) hl2)
        have hren : renV l v' = v' := renV_fr fun n hn => frSl_at (List.all_eq_true.1 h.fr n hn) hv'
        rw [← hren, renV_den] at h1
        exact AV.rel_ren (AV.rel_mono h1 (Ext.refl _ w) hM)

/-- A loop: its state at the head by a variable, a measure that falls. -/
theorem sgo_loop {ι : Type} {c : Code} (vars : ι → List (Nat × Sv)) (obs : ι → List (Nat × So)) (D : List Nat) (Pre : ι → Prop) (m : ι → Nat) (x0 : ι) (l0 : List (Nat × Nat)) (lo1 : Nat) (h0 : Pre x0) (hs : SubW sl ob l0 (vars x0) D sl (obs x0))
    (step : ∀ x, Pre x → (∀ y l sl' ob' lo', Pre y → m y < m x → SubW sl' ob' l (vars y) D sl (obs y) → GoS P Q X (.code c :: .inLoop c :: K) sl' ob' lo') → GoS P Q X (.code c :: .inLoop c :: K) (vars x ++ tomb D sl) (obs x) lo1) :
    GoS P Q X (.code c :: .inLoop c :: K) sl ob lo := by
  have key : ∀ (n : Nat) (x : ι), m x = n → Pre x → GoS P Q X (.code c :: .inLoop c :: K) (vars x ++ tomb D sl) (obs x) lo1 := by
    intro n
    induction n using Nat.strongRecOn with
    | _ n ih =>
      intro x hm hx
      refine step x hx fun y l sl' ob' lo' hy hlt hsub => sgo_set lo1 hsub ?_
      exact ih (m y) (by omega) y rfl hy
  exact sgo_set lo1 hs (key _ x0 rfl h0)

/-- The length of a slice is bounded. -/
theorem sgo_bound (t : Nat) {k n : Nat} {f : Nat → List Sc} (ht : lk t sl = some (.val (.one (.sl k n f)))) (g : n ≤ LEN → GoS P Q X K sl ob lo) : GoS P Q X K sl ob lo :=
  ⟨go_bound (t := t) (k := k) (els := els n f) (look_sl (σ := ⟨sl, ob⟩) ht) fun h => (g (by rw [els_length] at h; exact h)).go⟩

/-! ### What is known of values -/
theorem SLe.rfl' (u : Sv) : SLe u u := AV.le_refl _
theorem SLe.of_eq {u v : Sv} (h : u = v) : SLe u v := h ▸ AV.le_refl _
theorem SLe.int {k : IntKind} {a b : Int} (h : a = b) : SLe (.val (.one (.int k a))) (.val (.one (.int k b))) := SLe.of_eq (by rw [h])
theorem SLe.bool {a b : Bool} (h : a = b) : SLe (.val (.one (.bool a))) (.val (.one (.bool b))) := SLe.of_eq (by rw [h])
theorem SLe.str {a b : List UInt8} (h : a = b) : SLe (.val (.one (.str a))) (.val (.one (.str b))) := SLe.of_eq (by rw [h])
theorem sl_pred {k n m : Nat} {f g : Nat → List Sc} (h : n = m) (hf : ∀ i, i < n → f i = g i) : (Sc.sl k n f).pred = (Sc.sl k m g).pred := by
  subst h
  show elsP k (els n f) = elsP k (els n g)
  rw [els_congr hf]
theorem sl_den {k n m : Nat} {f g : Nat → List Sc} (h : n = m) (hf : ∀ i, i < n → f i = g i) : (Sc.sl k n f).den = (Sc.sl k m g).den := by
  show Cell.dat _ = Cell.dat _
  rw [sl_pred h hf]
theorem SLe.slc {k n m : Nat} {f g : Nat → List Sc} (h : n = m) (hf : ∀ i, i < n → f i = g i) : SLe (.val (.one (.sl k n f))) (.val (.one (.sl k m g))) := by
  show AV.le (.val (.one _)) (.val (.one _))
  rw [sl_den h hf]; exact AV.le_refl _
theorem SLe.nil {k : Nat} {g : Nat → List Sc} : SLe (.val (.one .nils)) (.val (.one (.sl k 0 g))) := fun _ _ _ _ h => (Pred.le.part (nil_le_slice k)) _ _ _ _ h
theorem row_den {T : TypeId} {k n m : Nat} {f g : Nat → List Sc} (h : n = m) (hf : ∀ i, i < n → f i = g i) : (So.row T k n f).den = (So.row T k m g).den := by
  subst h
  show Ob.row T k (els n f) = Ob.row T k (els n g)
  rw [els_congr hf]
theorem LeS.nil : LeS [] [] := LeL.nil
theorem LeS.rfl' (l : List Sp) : LeS l l := LeL.refl _
theorem LeS.cons {p q : Sp} {l m : List Sp} (h : SLe (.val p) (.val q)) (t : LeS l m) : LeS (p :: l) (q :: m) := LeL.cons (fun ι w M v hr => h ι w M v hr) t

/-! ### Freezing -/
def frzCap (n : Nat) (h : Nat → Option Sc) : Sc → Sc
  | .ref m 0 => bif m.beq n then (match h 0 with
    | some c => c
    | none => .ref m 0) else .ref m 0
  | c => c
def frzC (n : Nat) (h : Nat → Option Sc) : Sc → Sc
  | .ref m off => bif m.beq n then (match h off with
    | some c => c
    | none => .ref m off) else .ref m off
  | .clo f l => .clo f (l.map (frzCap n h))
  | c => c
def frzP (n : Nat) (h : Nat → Option Sc) : Sp → Sp
  | .one c => .one (frzC n h c)
  | .agg cs => .agg (cs.map (frzC n h))
def frzV (n : Nat) (h : Nat → Option Sc) : Sv → Sv
  | .val p => .val (frzP n h p)
  | .tup l => .tup (l.map (frzP n h))
  | .opt b p => .opt b (frzP n h p)
def frzO (n : Nat) (h : Nat → Option Sc) : So → So
  | .box T cs => .box T (cs.map (frzC n h))
  | x => x
def frzSl (n : Nat) (h : Nat → Option Sc) : List (Nat × Sv) → List (Nat × Sv)
  | [] => []
  | (t, v) :: l => (t, frzV n h v) :: frzSl n h l
def frzOb (n : Nat) (h : Nat → Option Sc) : List (Nat × So) → List (Nat × So)
  | [] => []
  | (m, x) :: l => bif m.beq n then frzOb n h l else (m, frzO n h x) :: frzOb n h l
variable {n : Nat} {h : Nat → Option Sc}
def hPred (h : Nat → Option Sc) : Nat → Option Pred := fun off => (h off).map Sc.pred
theorem frzCap_den (hD : ∀ off c, h off = some c → isD c = true) (c : Sc) : (frzCap n h c).cap = c.cap.frz n (hPred h) := by
  unfold frzCap
  split
  · rename_i m
    show _ = Cap.frz n (hPred h) (.nm m)
    simp only [Cap.frz, hPred]
    cases hm : m.beq n with
    | false => simp [Sc.cap]
    | true =>
      rw [cond_true, if_pos rfl]
      cases hc : h 0 with
      | none => rfl
      | some c => exact cap_isD (hD 0 c hc)
  · rename_i hne
    have : c.cap = .dt c.pred := by
      unfold Sc.cap
      split
      · rename_i m; exact absurd rfl (hne m)
      · rfl
    rw [this]; rfl
theorem frzC_den (hD : ∀ off c, h off = some c → isD c = true) (c : Sc) : (frzC n h c).den = c.den.frz n (hPred h) := by
  cases c with
  | ref m off =>
    show (frzC n h (.ref m off)).den = Cell.frz n (hPred h) (.ref m off)
    simp only [frzC, Cell.frz, hPred]
    cases hm : m.beq n with
    | false => simp [Sc.den]
    | true =>
      rw [cond_true, if_pos rfl]
      cases hc : h off with
      | none => rfl
      | some c => exact isD_den (hD off c hc)
  | clo f cs =>
    show Cell.clo f _ = Cell.clo f _
    rw [List.map_map, List.map_map]
    congr 1
    exact List.map_congr_left fun c _ => frzCap_den hD c
  | _ => rfl
theorem frzCs_den (hD : ∀ off c, h off = some c → isD c = true) (cs : List Sc) : (cs.map (frzC n h)).map Sc.den = (cs.map Sc.den).map (Cell.frz n (hPred h)) := by
  rw [List.map_map, List.map_map]
  exact List.map_congr_left fun c _ => frzC_den hD c
theorem frzP_den (hD : ∀ off c, h off = some c → isD c = true) (p : Sp) : (frzP n h p).den = p.den.frz n (hPred h) := by
  cases p with
  | one c => show Part.one _ = Part.one _; rw [frzC_den hD]
  | agg cs => show Part.agg _ = Part.agg _; rw [frzCs_den hD]
theorem frzV_den (hD : ∀ off c, h off = some c → isD c = true) (v : Sv) : (frzV n h v).den = v.den.frz n (hPred h) := by
  cases v with
  | val p => show AV.val _ = AV.val _; rw [frzP_den hD]
  | tup ps =>
    show AV.tup _ = AV.tup _
    rw [List.map_map, List.map_map]
    congr 1
    exact List.map_congr_left fun c _ => frzP_den hD c
  | opt b p => show AV.opt b _ = AV.opt b _; rw [frzP_den hD]
theorem frzO_den (hD : ∀ off c, h off = some c → isD c = true) (x : So) : (frzO n h x).den = x.den.frz n (hPred h) := by
  cases x with
  | box T cs => show Ob.box T _ = Ob.box T _; rw [frzCs_den hD]
  | row T k n f => rfl
theorem frz_den (hD : ∀ off c, h off = some c → isD c = true) (sl : List (Nat × Sv)) (ob : List (Nat × So)) : SS.den ⟨frzSl n h sl, frzOb n h ob⟩ = (SS.den ⟨sl, ob⟩).frz n (hPred h) := by
  have h1 : ∀ l : List (Nat × Sv), (frzSl n h l).map (fun x => (x.1, x.2.den)) = (l.map fun x => (x.1, x.2.den)).map fun x => (x.1, x.2.frz n (hPred h)) := by
    intro l
    induction l with
    | nil => rfl
    | cons x l ih => obtain ⟨t, v⟩ := x; simp only [frzSl, List.map_cons, ih, frzV_den hD]
  have h2 : ∀ l : List (Nat × So), (frzOb n h l).map (fun x => (x.1, x.2.den)) = ((l.map fun x => (x.1, x.2.den)).filter fun x => !(x.1.beq n)).map fun x => (x.1, x.2.frz n (hPred h)) := by
    intro l
    induction l with
    | nil => rfl
    | cons x l ih =>
      obtain ⟨m, v⟩ := x
      simp only [frzOb, List.map_cons]
      cases hm : m.beq n with
      | true => rw [cond_true, List.filter_cons_of_neg (by simp [hm]), ih]
      | false => rw [cond_false, List.filter_cons_of_pos (by simp [hm]), List.map_cons, List.map_cons, ih, frzO_den hD]
  show (⟨_, _⟩ : St) = ⟨_, _⟩
  rw [h1, h2]
  rfl

def rowH (c : Sc) : Nat → Option Sc
  | 0 => some c
  | _ => none
theorem sgo_frz (n : Nat) {T' : TypeId} {k m : Nat} {f : Nat → List Sc} (hx : lk n ob = some (.row T' k m f)) (g : GoS P Q X K (frzSl n (rowH (.sl k m f)) sl) (frzOb n (rowH (.sl k m f)) ob) lo) : GoS P Q X K sl ob lo := by
  have hh : hPred (rowH (.sl k m f)) = at0 (elsP k (els m f)) := by
    funext off
    cases off with
    | zero => rfl
    | succ off => rfl
  refine ⟨go_frz n (look_ob (σ := ⟨sl, ob⟩) hx) ?_⟩
  have g := g.go
  rw [frz_den (fun off c hc => by cases off with | zero => (injection hc with hc; subst hc; rfl) | succ off => cases hc), hh] at g
  exact g
theorem sgo_frzbox (n : Nat) {T' : TypeId} {cs : List Sc} (hx : lk n ob = some (.box T' cs)) (hd : isDL cs = true) (g : GoS P Q X K (frzSl n (fun off => some (.pt (cs.drop off))) sl) (frzOb n (fun off => some (.pt (cs.drop off))) ob) lo) : GoS P Q X K sl ob lo := by
  have hh : hPred (fun off => some (.pt (cs.drop off))) = fun off => some (ptrP ((predL cs).drop off)) := by
    funext off
    show some (ptrP (predL (cs.drop off))) = _
    rw [predL_drop]
  have hx' : Aw.look n (SS.den ⟨sl, ob⟩).ob = some (.box T' ((predL cs).map .dat)) := by
    rw [look_ob (σ := ⟨sl, ob⟩) hx]
    show some (Ob.box T' (cs.map Sc.den)) = _
    rw [isDL_den hd]
  refine ⟨go_frzbox n hx' ?_⟩
  have g := g.go
  rw [frz_den (fun off c hc => by injection hc with hc; subst hc; rfl), hh] at g
  exact g
end
end -- nc
end Go.Proofs.YtgjbehfdjnekdaaGreatDoor.Sy
end
section
/- Symbolic states: lists of data. -/
set_option linter.unusedVariables false
set_option linter.unusedSimpArgs false
namespace Go.Proofs.YtgjbehfdjnekdaaGreatDoor.Sy
open Go.RowKit
open Go.Proofs.YtgjbehfdjnekdaaGreatDoor.Aw (LEN)

theorem LEN_lt : LEN = 140737488355328 := rfl
theorem wrap_id {i : Int} (h1 : -9223372036854775808 ≤ i) (h2 : i ≤ 9223372036854775807) : IntKind.i64.wrap i = i := by rw [IntKind.wrap_i64]; omega
theorem wrap_succ {i : Nat} (h : i ≤ LEN) : IntKind.i64.wrap ((i : Int) + 1) = ((i + 1 : Nat) : Int) := by
  rw [LEN_lt] at h; rw [IntKind.wrap_i64]; omega

section
variable {α : Type} {c : α → List Sc} {d y : α} {n m q : Nat} {f g : Nat → List Sc} {xs ys : List α} {cs : List Sc}
theorem upd_list (hf : ∀ i, i < n → f i = c (xs.getD i d)) (hn : xs.length = n) (hc : cs = c y) : ∀ i, i < n → updF f q cs i = c ((xs.set q y).getD i d) := by
  intro i hi
  unfold updF
  by_cases e : i = q
  · subst e
    rw [if_pos rfl, hc]
    congr 1
    rw [List.getD_eq_getElem?_getD, List.getElem?_set_self (by omega)]; rfl
  · rw [if_neg e, hf i hi]
    congr 1
    rw [List.getD_eq_getElem?_getD, List.getD_eq_getElem?_getD, List.getElem?_set_ne (Ne.symm e)]
theorem cat_list (hf : ∀ i, i < n → f i = c (xs.getD i d)) (hn : xs.length = n) (hg : ∀ i, i < m → g i = c (ys.getD i d)) : ∀ i, i < n + m → catF n f g i = c ((xs ++ ys).getD i d) := by
  intro i hi
  unfold catF
  by_cases e : i < n
  · rw [if_pos e, hf i e]
    congr 1
    rw [List.getD_eq_getElem?_getD, List.getD_eq_getElem?_getD, List.getElem?_append_left (by omega)]
  · rw [if_neg e, hg _ (by omega)]
    congr 1
    rw [List.getD_eq_getElem?_getD, List.getD_eq_getElem?_getD, List.getElem?_append_right (by omega), hn]
theorem one_list (hg : g 0 = c y) : ∀ i, i < 1 → g i = c ([y].getD i d) := by
  intro i hi
  have : i = 0 := by omega
  subst this; exact hg
theorem rep_list (y : α) (h : ∀ i, i < n → f i = c y) : ∀ i, i < n → f i = c ((List.replicate n y).getD i d) := by
  intro i hi
  rw [h i hi]
  congr 1
  rw [List.getD_eq_getElem?_getD, List.getElem?_replicate, if_pos hi]; rfl
theorem refl_list (n : Nat) : ∀ i, i < n → (fun i => c (xs.getD i d)) i = c (xs.getD i d) := fun _ _ => rfl
end
def slI (xs : List Int) : Sc := .sl 1 xs.length (fun i => [.int .i64 (xs.getD i 0)])
def slB (xs : List Bool) : Sc := .sl 1 xs.length (fun i => [.bool (xs.getD i false)])
def slS (xs : List (List UInt8)) : Sc := .sl 1 xs.length (fun i => [.str (xs.getD i [])])
theorem SLe.same {k n m : Nat} {f g : Nat → List Sc} (h : n = m) (hf : ∀ i, i < n → f i = g i) : SLe (.val (.one (.sl k n f))) (.val (.one (.sl k m g))) := SLe.slc h hf
section
variable {P : Program} {Q : Exit → Act → World → Prop} {X : Aw.Ctx} {K : List Item} {sl : List (Nat × Sv)} {ob : List (Nat × So)} {lo : Nat}
/-- nil, taken for a row of the call's own. -/
theorem sgo_nil (n t : Nat) (T : TypeId) (k : Nat) (f : Nat → List Sc) (ht : lk t sl = some (.val (.one .nils))) (hN : t < X.N) (h1 : frSl n sl = true) (h2 : frOb n ob = true) (g : GoS P Q X K ((t, .val (.one (.ref n 0))) :: sl) ((n, .row T k 0 f) :: ob) lo) : GoS P Q X K sl ob lo :=
  ⟨Aw.go_nil n t T k (look_sl (σ := ⟨sl, ob⟩) ht) hN (fr_den (σ := ⟨sl, ob⟩) h1 h2) g.go⟩
end
end Go.Proofs.YtgjbehfdjnekdaaGreatDoor.Sy
end
