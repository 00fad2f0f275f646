/- Parts of the proof of one statement: Aw10, Aw11. -/
import Derived.Test.YtgjbehfdjnekdaaGreatDoorT06
set_option linter.all false
section
/- The framework's last parts: results in cells, freezing, slices of slices, new rows by make, closures and function values. -/
set_option linter.unusedVariables false
set_option linter.unusedSimpArgs false
namespace Go.Proofs.YtgjbehfdjnekdaaGreatDoor.Aw
noncomputable section
open Go.RowKit
section
variable {P : Program} {Q : Exit → Act → World → Prop} {X : Ctx} {K : List Item} {σ σ' : St} {o : Oper} {d : Nat}

/-! ### Results -/
inductive ResIs (P : Program) (σ : St) : ResultVar → Part → Prop
  | tmp {t : Nat} {p : Part} (h : look t σ.sl = some (.val p)) : ResIs P σ (.tmp t) p
  | agg {t n : Nat} {T T' : TypeId} {cs : List Cell} (h : look t σ.sl = some (.val (.one (.ref n 0)))) (hb : look n σ.ob = some (.box T' cs)) (hA : ∀ w, (isAgg T).run P w = .ok true w) (hS : ∀ w, (sizeOf T).run P w = .ok cs.length w) : ResIs P σ (.cell t T) (.agg cs)
  | one {t n : Nat} {T T' : TypeId} {cs : List Cell} {c : Cell} (h : look t σ.sl = some (.val (.one (.ref n 0)))) (hb : look n σ.ob = some (.box T' cs)) (hA : ∀ w, (isAgg T).run P w = .ok false w) (hc : cs[0]? = some c) : ResIs P σ (.cell t T) (.one c)
inductive ResL (P : Program) (σ : St) : List ResultVar → List Part → Prop
  | nil : ResL P σ [] []
  | cons {r : ResultVar} {p : Part} {rs : List ResultVar} {ps : List Part} (h : ResIs P σ r p) (t : ResL P σ rs ps) : ResL P σ (r :: rs) (p :: ps)

theorem resIs_run {ι : Nat → Value} {F : Nat → Cells} {a : Act} {w : World} (h : RI X ι F σ a w) {f : ResultVar → Sem Value} (h1 : ∀ t, f (.tmp t) = Pure.pure (a.tmps.getD t undef)) (h2 : ∀ t T, f (.cell t T) = do loadVar T (← asAddr (a.tmps.getD t undef)))
    {r : ResultVar} {p : Part} (hr : ResIs P σ r p) : ∃ v, (f r).run P w = .ok v w ∧ p.rel ι w (Mof X.M0 F) v := by
  have rd : ∀ {t n : Nat} {T' : TypeId} {cs : List Cell}, look t σ.sl = some (.val (.one (.ref n 0))) → look n σ.ob = some (.box T' cs) → ∃ b vs, a.tmps.getD t undef = .pointer (some ⟨b, 0, none⟩) ∧ w.heap[b]? = some (.cells vs T' (0, 0)) ∧ cellsRel ι w (Mof X.M0 F) cs vs.toList := fun {t n T' cs} hl hb => by
    obtain ⟨b, vs, e1, _, e2, e3, _⟩ := box_at h (x := .tmp t) hl hb
    exact ⟨b, vs, e1, e2, e3⟩
  cases hr with
  | tmp hl => exact ⟨_, by rw [h1]; rfl, h.slot _ _ hl⟩
  | agg hl hb hA hS =>
    obtain ⟨b, vs, e1, e2, e3⟩ := rd hl hb
    have hl2 : (loadCells ⟨b, 0, none⟩ vs.toList.length).run P w = .ok vs.toList.toArray w := run_loadCells_list (P := P) w ⟨b, 0, none⟩ vs.toList fun j v hv => by rw [add_add, cell_of_row w b _ vs _ (0, 0) e2]; simpa using hv
    have hlen := e3.1
    rw [← hlen] at hl2
    exact ⟨.agg vs, by rw [h2, e1]; simp [asAddr, loadVar, hA, hS, hl2], vs, rfl, e3⟩
  | @one t n T T' cs c hl hb hA hc =>
    obtain ⟨b, vs, e1, e2, e3⟩ := rd hl hb
    have hlt : 0 < vs.toList.length := by
      rw [← e3.1]
      cases cs with
      | nil => simp at hc
      | cons => simp
    have hv : vs.toList[0]? = some vs.toList[0] := List.getElem?_eq_getElem hlt
    have hcell : w.cell? ⟨b, 0, none⟩ = some vs.toList[0] := by rw [cell_of_row w b _ vs _ (0, 0) e2]; simpa using hv
    exact ⟨vs.toList[0], by rw [h2, e1]; simp [asAddr, loadVar, hA, hcell], e3.2 0 _ _ hc hv⟩

theorem results_run {fn : Func} {rs : List ResultVar} {ps : List Part} (hf : fn.results = rs.toArray) (hr : ResL P σ rs ps) {ι : Nat → Value} {F : Nat → Cells} {a : Act} {w : World} (h : RI X ι F σ a w) :
    ∃ vs, (results fn a.tmps).run P w = .ok (retv vs) w ∧ partsRel ι w (Mof X.M0 F) ps vs := by
  have hm : ∀ (f : ResultVar → Sem Value), (∀ t, f (.tmp t) = Pure.pure (a.tmps.getD t undef)) → (∀ t T, f (.cell t T) = do loadVar T (← asAddr (a.tmps.getD t undef))) → ∃ vs : List Value, (rs.mapM f).run P w = .ok vs w ∧ partsRel ι w (Mof X.M0 F) ps vs := by
    intro f h1 h2
    clear hf
    induction hr with
    | nil => exact ⟨[], rfl, rfl, fun i p u hp => by simp at hp⟩
    | cons hi ht ih =>
      obtain ⟨v, hv, hvr⟩ := resIs_run h h1 h2 hi
      obtain ⟨vs, hvs, hvsr⟩ := ih
      refine ⟨v :: vs, by simp only [List.mapM_cons, Sem.run_bind, hv, Result.andThen_ok, hvs, Sem.run_pure], by simpa using hvsr.1, fun i p u hp hu => ?_⟩
      cases i with
      | zero => simp only [List.getElem?_cons_zero, Option.some.injEq] at hp hu; subst hp; subst hu; exact hvr
      | succ i => exact hvsr.2 i p u (by simpa using hp) (by simpa using hu)
  have goalf : ∀ f : ResultVar → Sem Value, (∀ t, f (.tmp t) = Pure.pure (a.tmps.getD t undef)) → (∀ t T, f (.cell t T) = do loadVar T (← asAddr (a.tmps.getD t undef))) →
      ∃ vs, ((do let vs ← List.toArray <$> rs.mapM f; Pure.pure (if h : vs.size = 1 then vs[0] else .tuple vs)) : Sem Value).run P w = .ok (retv vs) w ∧ partsRel ι w (Mof X.M0 F) ps vs := by
    intro f h1 h2
    obtain ⟨vs, hvs, hr'⟩ := hm f h1 h2
    refine ⟨vs, ?_, hr'⟩
    simp only [Sem.run_bind, Sem.run_map, hvs, Result.andThen_ok, Sem.run_pure]
    match vs with
    | [] => simp [retv]
    | [x] => simp [retv]
    | x :: y :: l => simp [retv]
  unfold results
  rw [hf, List.mapM_toArray]
  exact goalf _ (fun t => rfl) (fun t T => rfl)

theorem go_retc {fn : Func} {w0 : World} {M : Cells} {N : Nat} {res ps : List Part} {rs : List ResultVar} (hf : fn.results = rs.toArray) (hr : ResL P σ rs ps) (hle : LeL ps res) (hpr : res.all Part.pure = true) :
    Go P (Fin P fn w0 M res) ⟨w0, M, fun _ _ => False, N⟩ (.code .ret :: K) σ := by
  intro a w ⟨ι, F, h⟩ b cs
  obtain ⟨vs, h1, h2⟩ := results_run hf hr h
  refine ⟨.ret, a, w, ⟨h.defers, _, h1, vs, rfl, ?_, h.kept.below⟩, _, .one step_ret⟩
  exact partsRel_mono (partsRel_pure hpr (hle.rel h2)) (Ext.refl _ w) fun b o _ hm => .inl hm
theorem go_endc {fn : Func} {w0 : World} {M : Cells} {N : Nat} {res ps : List Part} {rs : List ResultVar} (hf : fn.results = rs.toArray) (hr : ResL P σ rs ps) (hle : LeL ps res) (hpr : res.all Part.pure = true) :
    Go P (Fin P fn w0 M res) ⟨w0, M, fun _ _ => False, N⟩ [] σ := by
  intro a w ⟨ι, F, h⟩ b cs
  obtain ⟨vs, h1, h2⟩ := results_run hf hr h
  refine ⟨.normal, a, w, ⟨h.defers, _, h1, vs, rfl, ?_, h.kept.below⟩, .refl _ _⟩
  exact partsRel_mono (partsRel_pure hpr (hle.rel h2)) (Ext.refl _ w) fun b o _ hm => .inl hm

/-! ### Freezing -/
def Cap.frz (n : Nat) (g : Nat → Option Pred) : Cap → Cap
  | .nm m => if m.beq n then (match g 0 with | some p => .dt p | none => .nm m) else .nm m
  | c => c
def Cell.frz (n : Nat) (g : Nat → Option Pred) : Cell → Cell
  | .ref m off => if m.beq n then (match g off with | some p => .dat p | none => .ref m off) else .ref m off
  | .clo f l => .clo f (l.map (Cap.frz n g))
  | c => c
def Part.frz (n : Nat) (g : Nat → Option Pred) : Part → Part
  | .one c => .one (c.frz n g)
  | .agg cs => .agg (cs.map (Cell.frz n g))
def AV.frz (n : Nat) (g : Nat → Option Pred) : AV → AV
  | .val p => .val (p.frz n g)
  | .tup l => .tup (l.map (Part.frz n g))
  | .opt b p => .opt b (p.frz n g)
def Ob.frz (n : Nat) (g : Nat → Option Pred) : Ob → Ob
  | .box T cs => .box T (cs.map (Cell.frz n g))
  | x => x
def St.frz (n : Nat) (g : Nat → Option Pred) (σ : St) : St := ⟨σ.sl.map fun x => (x.1, x.2.frz n g), (σ.ob.filter fun x => !(x.1.beq n)).map fun x => (x.1, x.2.frz n g)⟩

section
variable {ι : Nat → Value} {w : World} {M : Cells} {n : Nat} {g : Nat → Option Pred}
theorem Cap.rel_frz (hg : ∀ off p, g off = some p → p.p w M (vadd (ι n) off)) {c : Cap} {v : Value} (h : c.rel ι w M v) : (c.frz n g).rel ι w M v := by
  cases c with
  | dt p => exact h
  | nm m =>
    simp only [Cap.frz]
    cases hb : m.beq n with
    | false => exact h
    | true =>
      have := Nat.eq_of_beq_eq_true hb; subst this
      simp only [if_true]
      cases hg0 : g 0 with
      | none => exact h
      | some p => have := hg 0 p hg0; rw [vadd0] at this; have h : v = ι m := h; rw [h]; exact this
theorem Cell.rel_frz (hg : ∀ off p, g off = some p → p.p w M (vadd (ι n) off)) {c : Cell} {v : Value} (h : c.rel ι w M v) : (c.frz n g).rel ι w M v := by
  cases c with
  | ref m off =>
    simp only [Cell.frz]
    cases hb : m.beq n with
    | false => exact h
    | true =>
      have := Nat.eq_of_beq_eq_true hb; subst this
      simp only [if_true]
      cases hg0 : g off with
      | none => exact h
      | some p => have h : v = vadd (ι m) off := h; rw [h]; exact hg off p hg0
  | clo f l =>
    obtain ⟨vs, h1, h2, h3⟩ := h
    refine ⟨vs, h1, by simpa using h2, fun i x v hx hv => ?_⟩
    rw [List.getElem?_map] at hx
    obtain ⟨y, hy, rfl⟩ := Option.map_eq_some_iff.1 hx
    exact Cap.rel_frz hg (h3 i y v hy hv)
  | dat p => exact h
  | el m q => exact h
  | any => exact h
theorem cellsRel_frz (hg : ∀ off p, g off = some p → p.p w M (vadd (ι n) off)) {cs : List Cell} {vs : List Value} (h : cellsRel ι w M cs vs) : cellsRel ι w M (cs.map (Cell.frz n g)) vs :=
  ⟨by simpa using h.1, fun i c v hc hv => by
    rw [List.getElem?_map] at hc
    obtain ⟨y, hy, rfl⟩ := Option.map_eq_some_iff.1 hc
    exact ⟨Cell.rel_frz hg (h.2 i y v hy hv).1, (h.2 i y v hy hv).2⟩⟩
theorem Part.rel_frz (hg : ∀ off p, g off = some p → p.p w M (vadd (ι n) off)) {p : Part} {v : Value} (h : p.rel ι w M v) : (p.frz n g).rel ι w M v := by
  cases p with
  | one c => exact ⟨Cell.rel_frz hg h.1, h.2⟩
  | agg cs => obtain ⟨vs, hv, h⟩ := h; exact ⟨vs, hv, cellsRel_frz hg h⟩
theorem AV.rel_frz (hg : ∀ off p, g off = some p → p.p w M (vadd (ι n) off)) {x : AV} {v : Value} (h : x.rel ι w M v) : (x.frz n g).rel ι w M v := by
  cases x with
  | val p => exact Part.rel_frz hg h
  | tup l =>
    obtain ⟨vs, hv, hl, hh⟩ := h
    refine ⟨vs, hv, by simpa using hl, fun i p u hp hu => ?_⟩
    rw [List.getElem?_map] at hp
    obtain ⟨y, hy, rfl⟩ := Option.map_eq_some_iff.1 hp
    exact Part.rel_frz hg (hh i y u hy hu)
  | opt b p => exact fun e => Part.rel_frz hg (h e)
theorem Ob.rel_frz (hg : ∀ off p, g off = some p → p.p w M (vadd (ι n) off)) {x : Ob} {m : Nat} {F : Cells} (h : x.rel ι w M m F) : (x.frz n g).rel ι w M m F := by
  cases x with
  | box T cs => obtain ⟨b, vs, h1, h2, h3, h4⟩ := h; exact ⟨b, vs, h1, h2, cellsRel_frz hg h3, h4⟩
  | row T k els => exact h
  | tok T k els => exact h
end

theorem look_map {β γ : Type} {f : β → γ} {n : Nat} : ∀ {l : List (Nat × β)}, look n (l.map fun x => (x.1, f x.2)) = (look n l).map f
  | [] => rfl
  | (k, x) :: l => by
    simp only [List.map_cons, look_nil, look_cons]
    split
    · rfl
    · exact look_map

/-- An object that will not be written any more becomes what everybody may read. -/
theorem go_freeze (n : Nat) {x : Ob} {g : Nat → Option Pred} (hx : look n σ.ob = some x) (hg : ∀ ι F w (M' : Cells), x.rel ι w (Mof X.M0 F) n (F n) → (∀ b q, M' b q → Mof X.M0 F b q) → (∀ b q, F n b q → ¬ M' b q) → ∀ off p, g off = some p → p.p w M' (vadd (ι n) off))
    (gg : Go P Q X K (σ.frz n g)) : Go P Q X K σ := by
  refine go_weak (fun a w ⟨ι, F, h⟩ => ?_) gg
  have hMM : ∀ b q, b < w.heap.size → Mof X.M0 (upd F n fun _ _ => False) b q → Mof X.M0 F b q := by
    rintro b q _ (hm | ⟨m, hm⟩)
    · exact .inl hm
    · by_cases e : m = n
      · subst e; rw [upd_same] at hm; exact hm.elim
      · rw [upd_other _ _ e] at hm; exact .inr ⟨m, hm⟩
  have hMM' : ∀ b q, Mof X.M0 (upd F n fun _ _ => False) b q → Mof X.M0 F b q := by
    rintro b q (hm | ⟨m, hm⟩)
    · exact .inl hm
    · by_cases e : m = n
      · subst e; rw [upd_same] at hm; exact hm.elim
      · rw [upd_other _ _ e] at hm; exact .inr ⟨m, hm⟩
  have hno : ∀ b q, F n b q → ¬ Mof X.M0 (upd F n fun _ _ => False) b q := by
    rintro b q hf (hm | ⟨m, hm⟩)
    · exact h.apart n b q hf hm
    · by_cases e : m = n
      · subst e; rw [upd_same] at hm; exact hm
      · rw [upd_other _ _ e] at hm; exact e (h.disj m n b q hm hf)
  have hgg := hg ι F w _ (h.obj n x hx) hMM' hno
  have hlook : ∀ m y, look m (σ.frz n g).ob = some y → m ≠ n ∧ ∃ z, look m σ.ob = some z ∧ y = z.frz n g := fun m y hy => by
    simp only [St.frz] at hy
    rw [look_map (f := fun x => Ob.frz n g x), look_filter (p := fun m => !(m.beq n))] at hy
    by_cases e : (!(m.beq n)) = true
    · rw [if_pos e] at hy
      obtain ⟨z, hz, rfl⟩ := Option.map_eq_some_iff.1 hy
      exact ⟨nbeq e, z, hz, rfl⟩
    · rw [if_neg e] at hy; simp at hy
  refine ⟨ι, upd F n fun _ _ => False, ?_⟩
  refine {
    none_ := fun m hm b q hf => ?_
    obj := fun m y hm => ?_
    disj := fun m m' b q h1 h2 => ?_
    apart := fun m b q hf => ?_
    old := fun m b q hf hb => ?_
    lt := fun m b q hf => ?_
    m0lt := h.m0lt
    finM := h.finM
    slot := fun t v hv => ?_
    size := h.size
    defers := h.defers
    kept := h.kept }
  · by_cases e : m = n
    · subst e; rw [upd_same] at hf; exact hf
    · rw [upd_other _ _ e] at hf
      refine h.none_ m ?_ b q hf
      simp only [St.frz] at hm
      rw [look_map (f := fun x => Ob.frz n g x), look_filter (p := fun m => !(m.beq n)), if_pos (by
        cases hb : m.beq n with
        | false => rfl
        | true => exact absurd (Nat.eq_of_beq_eq_true hb) e)] at hm
      simpa using hm
  · obtain ⟨e, z, hz, rfl⟩ := hlook m y hm
    rw [upd_other _ _ e]
    exact Ob.rel_frz hgg (Ob.rel_mono (h.obj m z hz) (Ext.refl _ w) hMM fun _ _ => rfl)
  · by_cases e : m = n
    · subst e; rw [upd_same] at h1; exact h1.elim
    · by_cases e2 : m' = n
      · subst e2; rw [upd_same] at h2; exact h2.elim
      · rw [upd_other _ _ e] at h1; rw [upd_other _ _ e2] at h2; exact h.disj m m' b q h1 h2
  · by_cases e : m = n
    · subst e; rw [upd_same] at hf; exact hf.elim
    · rw [upd_other _ _ e] at hf; exact h.apart m b q hf
  · by_cases e : m = n
    · subst e; rw [upd_same] at hf; exact hf.elim
    · rw [upd_other _ _ e] at hf; exact h.old m b q hf hb
  · by_cases e : m = n
    · subst e; rw [upd_same] at hf; exact hf.elim
    · rw [upd_other _ _ e] at hf; exact h.lt m b q hf
  · simp only [St.frz] at hv
    rw [look_map (f := fun x => AV.frz n g x)] at hv
    obtain ⟨z, hz, rfl⟩ := Option.map_eq_some_iff.1 hv
    exact AV.rel_frz hgg (AV.rel_mono (h.slot t z hz) (Ext.refl _ w) hMM)

def at0 (p : Pred) : Nat → Option Pred
  | 0 => some p
  | _ => none
/-- A row becomes a slice that everybody may read. -/
theorem go_frz (n : Nat) {T : TypeId} {k : Nat} {els : List (List Pred)} (hx : look n σ.ob = some (.row T k els)) (gg : Go P Q X K (σ.frz n (at0 (elsP k els)))) : Go P Q X K σ := by
  refine go_freeze n hx (fun ι F w M' h hM hF off p hp => ?_) gg
  cases off with
  | succ off => cases hp
  | zero =>
    simp only [at0, Option.some.injEq] at hp; subst hp
    rw [vadd0]
    obtain ⟨hk, hl, h⟩ := h
    refine ⟨hl, ?_⟩
    rcases h with ⟨rfl, h, _⟩ | ⟨b, q, cap, cur, h1, h2, h3, h4, h5, h6, h7⟩
    · exact .inl ⟨rfl, none, 0, h⟩
    · refine .inr ⟨b, q, cap, h1, h3, fun i ps hi => ⟨hk ps (List.mem_of_getElem? hi), fun j p hj => ?_⟩⟩
      obtain ⟨c, hc, hp⟩ := h6 i ps hi j p hj
      exact ⟨c, hF _ _ ((h7 _ _).2 rfl), by rw [cell_of_row w b _ cur T (0, 0) h2]; exact hc, p.mono hp (Ext.refl _ w) fun b o _ h => hM b o h⟩

/-- A variable becomes one that everybody may read. -/
theorem go_frzbox (n : Nat) {T : TypeId} {ps : List Pred} (hx : look n σ.ob = some (.box T (ps.map .dat))) (gg : Go P Q X K (σ.frz n fun off => some (ptrP (ps.drop off)))) : Go P Q X K σ := by
  refine go_freeze n hx (fun ι F w M' h hM hF off p hp => ?_) gg
  injection hp with hp; subst hp
  obtain ⟨b, vs, h1, h2, h3, h4⟩ := h
  rw [h1]
  refine ⟨b, off, by simp only [vadd, add_add, Nat.zero_add], fun i p hi => ?_⟩
  rw [List.getElem?_drop] at hi
  have hlt : off + i < vs.toList.length := by
    rw [← h3.1]; simp only [List.length_map]
    rcases Nat.lt_or_ge (off + i) ps.length with h | h; exact h; simp [List.getElem?_eq_none h] at hi
  have hc := h3.2 (off + i) (.dat p) _ (by simp [hi]) (List.getElem?_eq_getElem hlt)
  refine ⟨vs.toList[off + i], hF _ _ ((h4 _ _).2 rfl), ?_, p.mono hc.1 (Ext.refl _ w) fun b o _ h => hM b o h⟩
  rw [cell_of_row w b _ vs T (0, 0) h2]
  rw [← Array.getElem?_toList]; exact List.getElem?_eq_getElem hlt

/-! ### Parts of slices and strings -/
/-- A slice that everybody may read, and that has no spare room. -/
def fullP (k : Nat) (els : List (List Pred)) : Pred where
  p w M c := (elsP k els).p w M c ∧ ∃ a, c = .slice a els.length els.length
  mono := fun ⟨h, h2⟩ he hM => ⟨(elsP k els).mono h he hM, h2⟩
  one := fun ⟨h, _⟩ => (elsP k els).one h
theorem full_le (k : Nat) (els : List (List Pred)) : (fullP k els).le (elsP k els) := fun _ _ _ h => h.1

theorem elsP_sub {w : World} {M : Cells} {k : Nat} {els : List (List Pred)} {lo hi m : Nat} {a : Option Addr} {n c : Nat} (h : (elsP k els).p w M (.slice a n c)) (h1 : lo ≤ hi) (h2 : hi ≤ els.length) (hm : hi ≤ m) (hmc : m ≤ c) :
    (elsP k ((els.take hi).drop lo)).p w M (.slice (if m = lo then a else a.map (·.add (lo * k))) (hi - lo) (m - lo)) := by
  obtain ⟨hl, h⟩ := h
  have hlen : ((els.take hi).drop lo).length = hi - lo := by simp only [List.length_drop, List.length_take]; omega
  refine ⟨by rw [hlen]; omega, ?_⟩
  by_cases e : (els.take hi).drop lo = []
  · refine .inl ⟨e, _, _, by rw [show hi - lo = 0 by rw [← hlen, e]; rfl]⟩
  · have hpos : 0 < hi - lo := by rw [← hlen]; exact List.length_pos_iff.2 e
    rcases h with ⟨rfl, _⟩ | ⟨b, q, cap, hc, hcap, hh⟩
    · simp at h2; omega
    · injection hc with hc1 hc2 hc3; subst hc1
      refine .inr ⟨b, q + lo * k, m - lo, ?_, by omega, fun i ps hi' => ?_⟩
      · rw [if_neg (by omega), hlen]; simp only [Option.map_some, add_add]
      · rw [List.getElem?_drop, List.getElem?_take] at hi'
        split at hi'
        · have := hh _ _ hi'
          refine ⟨this.1, ?_⟩
          rw [Nat.add_assoc, ← Nat.add_mul]; exact this.2
        · cases hi'

def optB (σ : St) (x : Option Operand) (dflt : Nat) (v : Nat) : Prop :=
  match x with
  | none => v = dflt
  | some y => ∃ (k : IntKind) (m : Int), σ.opd y = some (D (intP k m)) ∧ 0 ≤ m ∧ m.toNat = v

theorem run_bound {i : Int} {y : Nat} {k : IntKind} {code : BoundsCode} (h0 : 0 ≤ i) (h1 : i ≤ y) (w : World) : (Instr.sliceBound (.int k i) y code).run P w = .ok i.toNat w := by
  simp [Instr.sliceBound, asIntOf, h0, h1]

theorem run_bounds {ι : Nat → Value} {F : Nat → Cells} {a : Act} {w : World} (h : RI X ι F σ a w) {isS : Bool} {len cap l h' : Nat} {lo hi : Option Operand} (hhi : optB σ hi len h') (hlo : optB σ lo 0 l) (h1 : l ≤ h') (h2 : h' ≤ cap) :
    (Instr.sliceBounds isS len cap (lo.map a.eval) (hi.map a.eval) none).run P w = .ok (l, h', cap) w := by
  unfold Instr.sliceBounds
  simp only [Sem.run_bind, Sem.run_pure, Result.andThen_ok]
  cases hi with
  | none =>
    simp only [optB] at hhi; subst hhi
    cases lo with
    | none => simp only [optB] at hlo; subst hlo; rfl
    | some y =>
      obtain ⟨k, m, hy, h0, rfl⟩ := hlo
      have : a.eval y = .int k m := (h.opd hy).1
      simp only [Option.map_none, Option.map_some, this]
      simp only [Sem.run_bind, Sem.run_pure, Result.andThen_ok]
      rw [run_bound h0 (show m ≤ (h' : Int) by omega) w]; rfl
  | some z =>
    obtain ⟨k', m', hz, h0', rfl⟩ := hhi
    have hze : a.eval z = .int k' m' := (h.opd hz).1
    simp only [Option.map_some, hze]
    simp only [Sem.run_bind, Sem.run_pure, Result.andThen_ok]
    rw [run_bound h0' (show m' ≤ (cap : Int) by omega) w]
    simp only [Result.andThen_ok]
    cases lo with
    | none => simp only [optB] at hlo; subst hlo; rfl
    | some y =>
      obtain ⟨k, m, hy, h0, rfl⟩ := hlo
      have : a.eval y = .int k m := (h.opd hy).1
      simp only [Option.map_some, this]
      simp only [Sem.run_bind, Sem.run_pure, Result.andThen_ok]
      rw [run_bound h0 (show m ≤ (m'.toNat : Int) by omega) w]; rfl

/-- s[lo:hi] of a slice that everybody may read. -/
theorem step_sub {T E : TypeId} {x : Operand} {lo hi : Option Operand} {k l h' : Nat} {els : List (List Pred)} {r : List (List Pred)} (hu : P.underlying T = some (.slice E)) (hS : ∀ w, (sizeOf E).run P w = .ok k w) (ho : o.op = .slice T x lo hi none) (hd : o.dst = some d) (hN : d < X.N)
    (hx : σ.opd x = some (D (elsP k els))) (hhi : optB σ hi els.length h') (hlo : optB σ lo 0 l) (h1 : l ≤ h') (h2 : h' ≤ els.length) (hr : (els.take h').drop l = r) : StepS P X o σ (σ.put d (D (elsP k r))) :=
  step_val hd hN fun ι F a w h => by
    subst hr
    obtain ⟨hp, _⟩ := h.opd hx
    have hp' : (elsP k els).p w (Mof X.M0 F) (a.eval x) := hp
    have hform : ∃ ad c, a.eval x = .slice ad els.length c ∧ els.length ≤ c := by
      obtain ⟨_, hc⟩ := hp'
      rcases hc with ⟨rfl, ad, c, hc⟩ | ⟨b, q, cap, hc, hcap, _⟩
      · exact ⟨ad, c, hc, by simp⟩
      · exact ⟨_, cap, hc, hcap⟩
    obtain ⟨ad, c, he, hc⟩ := hform
    rw [he] at hp'
    have hb := run_bounds (P := P) h (isS := true) (len := els.length) (cap := c) hhi hlo h1 (by omega)
    have hres := elsP_sub hp' h1 h2 (m := c) (by omega) (Nat.le_refl _)
    refine ⟨_, ?_, hres, rfl⟩
    unfold execOp
    simp only [ho, he, Instr.sliceAt, Instr.slice, Sem.run_bind, run_underlying hu, Result.andThen_ok, Option.map_none, hb, hS, Sem.run_pure]
/-- s[lo:hi] of a string. -/
theorem step_substr {T : TypeId} {x : Operand} {lo hi : Option Operand} {l h' : Nat} {s r : ByteArray} (hu : P.underlying T = some .string) (ho : o.op = .slice T x lo hi none) (hd : o.dst = some d) (hN : d < X.N)
    (hx : σ.opd x = some (D (strP s))) (hhi : optB σ hi s.size h') (hlo : optB σ lo 0 l) (h1 : l ≤ h') (h2 : h' ≤ s.size) (hr : s.extract l h' = r) : StepS P X o σ (σ.put d (D (strP r))) :=
  step_val hd hN fun ι F a w h => by
    subst hr
    have he : a.eval x = .string s := (h.opd hx).1
    have hb := run_bounds (P := P) h (isS := false) (len := s.size) (cap := s.size) hhi hlo h1 h2
    refine ⟨_, ?_, rfl, rfl⟩
    unfold execOp
    simp only [ho, he, Instr.sliceAt, Instr.slice, Sem.run_bind, run_underlying hu, Result.andThen_ok, Option.map_none, Option.isSome_none, Bool.false_eq_true, if_false, hb, Sem.run_pure]

/-! ### Closures and function values -/
theorem Ext.trans {M M' : Cells} {a b c : World} (h : Ext M a b) (k : Ext M' b c) (hM : ∀ x o, x < a.heap.size → M' x o → M x o) : Ext M a c where
  size := Nat.le_trans h.size k.size
  cell x o v hn hc := k.cell x o v (fun hm => hn (hM x o (lt_of_cell hc) hm)) (h.cell x o v hn hc)
  obj x es cl hn hx := k.obj x es cl (fun o hm => hn o (hM x o (lt_of_heap hx) hm)) (h.obj x es cl hn hx)

/-- A function value: called as A x says it answers as B x says. -/
def fnP {α : Type} (P : Program) (A B : α → List Part) : Pred where
  p w M c := ∃ f first caps, c = .func (.func f) first caps ∧ Enters P f ∧ ∀ (x : α) (w' : World) (M' : Cells) (vs : List Value), Ext M w w' → (∀ b o, b < w.heap.size → M' b o → M b o) → Xc.GL w' → (∀ b q, M' b q → b < w'.heap.size) → partsRel ι0 w' M' (A x) vs →
    Calls P f (first ++ vs.toArray ++ caps) w' fun e w'' => ∃ rs, e = .returned (retv rs) ∧ partsRel ι0 w'' M' (B x) rs ∧ Below w'.heap.size w' w''
  mono := fun ⟨f, first, caps, hc, hf, h⟩ he hM => ⟨f, first, caps, hc, hf, fun x w' M' vs h1 h2 h3 h4 h5 => h x w' M' vs (he.trans h1 hM) (fun b o hb hm => hM b o hb (h2 b o (Nat.lt_of_lt_of_le hb he.size) hm)) h3 h4 h5⟩
  one := fun ⟨f, first, caps, hc, _⟩ => hc ▸ rfl

theorem partsRel_append {ι : Nat → Value} {w : World} {M : Cells} {l m : List Part} {us vs : List Value} (h : partsRel ι w M l us) (g : partsRel ι w M m vs) : partsRel ι w M (l ++ m) (us ++ vs) := by
  refine ⟨by rw [List.length_append, List.length_append, h.1, g.1], fun i p u hp hu => ?_⟩
  rcases Nat.lt_or_ge i l.length with e | e
  · rw [List.getElem?_append_left e] at hp
    rw [List.getElem?_append_left (by rw [← h.1]; exact e)] at hu
    exact h.2 i p u hp hu
  · rw [List.getElem?_append_right e] at hp
    rw [List.getElem?_append_right (by rw [← h.1]; exact e), ← h.1] at hu
    exact g.2 _ p u hp hu

def Cap.part : Cap → Part
  | .dt p => .one (.dat p)
  | .nm n => .one (.ref n 0)
/-- A closure over what stays is a function value. -/
theorem clo_le {α : Type} {A B : α → List Part} {f : FuncId} {ps : List Pred} (hf : Enters P f) (h : ∀ x, PC P f (A x ++ ps.map fun p => .one (.dat p)) (B x)) : (Part.one (.clo f (ps.map .dt))).le (.one (.dat (fnP P A B))) := by
  rintro ι w M v ⟨⟨vs, rfl, hl, hh⟩, _⟩
  refine ⟨⟨f, #[], vs.toArray, rfl, hf, fun x w' M' us h1 h2 hgl h3 h4 => ?_⟩, rfl⟩
  have hcaps : partsRel ι0 w' M' (ps.map fun p => Part.one (.dat p)) vs := ⟨by simpa using hl.symm, fun i p u hp hu => by
    rw [List.getElem?_map] at hp
    obtain ⟨q, hq, rfl⟩ := Option.map_eq_some_iff.1 hp
    have := hh i (.dt q) u (by simp [hq]) hu
    have h' := q.mono this h1 h2
    exact ⟨h', q.one h'⟩⟩
  have := h x w' M' (us ++ vs) hgl h3 (partsRel_append h4 hcaps)
  have e : (#[] ++ us.toArray ++ vs.toArray : Array Value) = (us ++ vs).toArray := by simp
  rw [e]; exact this

theorem step_func {f : FuncId} {caps : List Cap} {xs : Array Operand} {ns : List Nat} (ho : o.op = .makeFunc (.func f) #[] xs) (hd : o.dst = some d) (hN : d < X.N) (hp : σ.parts xs.toList = some (ns.map fun n => .one (.ref n 0))) (hc : caps = ns.map .nm) : StepS P X o σ (σ.put d (.val (.one (.clo f caps)))) :=
  step_val hd hN fun ι F a w h => by
    subst hc
    obtain ⟨hl, hh⟩ := h.parts hp
    refine ⟨.func (.func f) #[] (xs.map a.eval), by unfold execOp; simp [ho, Instr.makeFunc], ⟨xs.toList.map a.eval, by congr 1; cases xs; simp, by simpa using hl.symm, fun i x v hx hv => ?_⟩, rfl⟩
    rw [List.getElem?_map] at hx
    obtain ⟨n, hn, rfl⟩ := Option.map_eq_some_iff.1 hx
    exact ((hh i (.one (.ref n 0)) v (by simp [hn]) hv).1).trans (vadd0 _)

/-- A call of a function value. -/
theorem step_callv {α : Type} {A B : α → List Part} (y : α) {g : Operand} {xs : Array Operand} {ts : Array TypeId} {ps : List Part} (ho : o.op = .call { callee := .value g, args := xs, argTypes := ts }) (hd : o.dst = some d) (hN : d < X.N) (hg : σ.opd g = some (D (fnP P A B)))
    (hp : σ.parts xs.toList = some ps) (hle : LeL ps (A y)) (hpa : (A y).all Part.pure = true) (hpr : (B y).all Part.pure = true) (hG : CG X) : StepS P X o σ (σ.put d (resAV (B y))) := by
  intro a w ⟨ι, F, hr⟩
  obtain ⟨⟨f, first, caps, hc, hf, hcall⟩, _⟩ := hr.opd hg
  unfold Oper.wp
  rw [run_call ho hc hf w, Oper.upon_enter]
  have hargs := partsRel_pure hpa (κ := ι0) (hle.rel (hr.parts hp))
  have := hcall y w (Mof X.M0 F) (xs.toList.map a.eval) (Ext.refl _ _) (fun _ _ _ h => h) (hG w hr.kept) (mof_lt hr) hargs
  have he : (first ++ xs.map a.eval ++ caps : Array Value) = first ++ (xs.toList.map a.eval).toArray ++ caps := by cases xs; simp
  rw [he]
  refine this.mono fun e w' ⟨rs, hret, hres, hb⟩ => ?_
  subst hret
  simp only [hd]
  exact ⟨ι, F, (hr.world (Kept.of_below hb _)).put hN (resAV_rel (partsRel_pure hpr hres))⟩
end
end -- nc
end Go.Proofs.YtgjbehfdjnekdaaGreatDoor.Aw
end
section
/- The framework's forms for printed proofs: joins, loops by induction, draws as lists, and small words of the printed functions. -/
set_option linter.unusedVariables false
set_option linter.unusedSimpArgs false
namespace Go.Proofs.YtgjbehfdjnekdaaGreatDoor.Aw
noncomputable section
open Go.RowKit

/-! ### Words of the printed functions -/
abbrev w64 (n : Int) : Int := IntKind.i64.wrap n
def letB {α β : Type} (x : α) (k : α → β) : β := k x
def rd {α : Type} (xs : List α) (i : Int) : Option α := if 0 ≤ i then xs[i.toNat]? else none

theorem bindS {α β : Type} {o : Option α} {k : α → Option β} {r : β} (h : o.bind k = some r) : ∃ t, o = some t ∧ k t = some r := Option.bind_eq_some_iff.1 h
theorem letS {α β : Type} {x : α} {k : α → β} {r : β} (h : letB x k = r) : ∃ t, x = t ∧ k t = r := ⟨x, rfl, h⟩
theorem guardS {α : Type} {g : Prop} [Decidable g] {x : Option α} {r : α} (h : (if g then x else none) = some r) : g ∧ x = some r := by
  by_cases e : g
  · rw [if_pos e] at h; exact ⟨e, h⟩
  · rw [if_neg e] at h; cases h
theorem ifT {α : Type} {b : Bool} {x y r : α} (hb : b = true) (h : (if b = true then x else y) = r) : x = r := by rw [if_pos hb] at h; exact h
theorem ifF {α : Type} {b : Bool} {x y r : α} (hb : b = false) (h : (if b = true then x else y) = r) : y = r := by rw [if_neg (by rw [hb]; decide)] at h; exact h
theorem rdS {α : Type} {xs : List α} {i : Int} {x : α} (h : rd xs i = some x) : 0 ≤ i ∧ xs[i.toNat]? = some x := by
  unfold rd at h
  by_cases e : 0 ≤ i
  · rw [if_pos e] at h; exact ⟨e, h⟩
  · rw [if_neg e] at h; cases h

theorem w64_id {n : Int} (h1 : -9223372036854775808 ≤ n) (h2 : n ≤ 9223372036854775807) : w64 n = n := by
  show IntKind.i64.wrap n = n
  rw [IntKind.wrap_i64]; omega
theorem w64_succ {i n : Nat} (h : i < n) (hn : n ≤ LEN) : IntKind.i64.wrap ((i : Int) + 1) = ((i + 1 : Nat) : Int) := by
  have := w64_id (n := (i : Int) + 1) (by omega) (by simp only [LEN] at hn; omega)
  rw [show IntKind.i64.wrap ((i : Int) + 1) = w64 ((i : Int) + 1) from rfl, this]; omega

section
variable {P : Program} {Q : Exit → Act → World → Prop} {X : Ctx} {K : List Item} {σ σ' : St} {o : Oper} {d : Nat}

theorem go_condT {x : Operand} {c e : Code} (hx : σ.opd x = some (D (boolP true))) (g : Go P Q X (.code c :: K) σ) : Go P Q X (.code (.cond x c e) :: K) σ := go_cond hx (fun _ => g) (fun h => by cases h)
theorem go_condF {x : Operand} {c e : Code} (hx : σ.opd x = some (D (boolP false))) (g : Go P Q X (.code e :: K) σ) : Go P Q X (.code (.cond x c e) :: K) σ := go_cond hx (fun h => by cases h) (fun _ => g)

/-- Ways meet: the rest once, for every state in which they may meet. -/
theorem go_join {I : Type} {c : Code} (S : I → St) (Pre : I → Prop) (hk : ∀ x, Pre x → Go P Q X K (S x)) (g : (∀ x, Pre x → Go P Q X K (S x)) → Go P Q X (.code c :: K) σ) : Go P Q X (.code c :: K) σ := g hk

/-- A loop over what is left of a list. -/
theorem go_list {α I : Type} {c : Code} (S : I → St) (Pre : List α → I → Prop) (rest : List α) (x : I) (h0 : Pre rest x) (hn : ∀ x, Pre [] x → Go P Q X (.code c :: .inLoop c :: K) (S x))
    (hc : ∀ a rest x, Pre (a :: rest) x → (∀ y, Pre rest y → Go P Q X (.inLoop c :: K) (S y)) → Go P Q X (.code c :: .inLoop c :: K) (S x)) : Go P Q X (.code (.loop c) :: K) (S x) := by
  refine go_loop ?_
  induction rest generalizing x with
  | nil => exact hn x h0
  | cons a rest ih => exact hc a rest x h0 fun y hy => go_inLoop (ih y hy)
/-- A loop with a number of rounds. -/
theorem go_rounds {I : Type} {c : Code} (S : I → St) (Pre : Nat → I → Prop) (n : Nat) (x : I) (h0 : Pre n x) (hn : ∀ x, Pre 0 x → Go P Q X (.code c :: .inLoop c :: K) (S x))
    (hc : ∀ n x, Pre (n + 1) x → (∀ y, Pre n y → Go P Q X (.inLoop c :: K) (S y)) → Go P Q X (.code c :: .inLoop c :: K) (S x)) : Go P Q X (.code (.loop c) :: K) (S x) := by
  refine go_loop ?_
  induction n generalizing x with
  | zero => exact hn x h0
  | succ n ih => exact hc n x h0 fun y hy => go_inLoop (ih y hy)

/-- The length of a slice is bounded. -/
theorem go_bound {t k : Nat} {els : List (List Pred)} (ht : look t σ.sl = some (D (elsP k els))) (g : els.length ≤ LEN → Go P Q X K σ) : Go P Q X K σ := by
  intro a w hr b cs
  obtain ⟨ι, F, h⟩ := hr
  exact g ((h.slot t _ ht).1).1 a w ⟨ι, F, h⟩ b cs

theorem parts_nil : σ.parts [] = some [] := rfl
theorem parts_cons {x : Operand} {p : Part} {l : List Operand} {ps : List Part} (h1 : σ.opd x = some (.val p)) (h2 : σ.parts l = some ps) : σ.parts (x :: l) = some (p :: ps) := by
  simp only [St.parts, h1, h2]
theorem fparts_nil : σ.fparts [] = some [] := rfl
theorem fparts_cons {i : Nat} {x : Operand} {p : Part} {l : List (Nat × Operand)} {ps : List (Nat × Part)} (h1 : σ.opd x = some (.val p)) (h2 : σ.fparts l = some ps) : σ.fparts ((i, x) :: l) = some ((i, p) :: ps) := by
  simp only [St.fparts, h1, h2]

theorem news_of_ref {x : Operand} {n k : Nat} {y : Ob} {els : List (List Pred)} (hx : σ.opd x = some (.val (.one (.ref n 0)))) (hb : look n σ.ob = some y) (hy : y.isRow k els) : ∀ ι F a w, RI X ι F σ a w → News w (Mof X.M0 F) k els (a.eval x) := fun ι F a w h => by
  have he : a.eval x = ι n := ((h.opd hx).1).trans (vadd0 _)
  rw [he]; exact news_row (h.obj n y hb) hy
theorem news_of_dat {x : Operand} {k : Nat} {els : List (List Pred)} (hx : σ.opd x = some (D (elsP k els))) : ∀ ι F a w, RI X ι F σ a w → News w (Mof X.M0 F) k els (a.eval x) := fun ι F a w h => news_dat (h.opd hx).1

/-- append, its type's facts in one. -/
theorem step_app (n' : Nat) {T E : TypeId} {z : Value} {x y : Operand} {n k by_ : Nat} {els fls r : List (List Pred)} (hu : P.underlying T = some (.slice E)) (hi : (P.info? E).map (fun i => (i.zero, i.size, i.bytes)) = some (some z, k, by_)) (hzs : z.cells.size = k) (h0 : 0 < k) (hby : 0 < by_)
    (ho : o.op = .call { callee := .builtin .append, args := #[x, y], argTypes := #[T, T] }) (hd : o.dst = some d) (hN : d < X.N) (hx : σ.opd x = some (.val (.one (.ref n 0)))) (hb : look n σ.ob = some (.row E k els))
    (hy : ∀ ι F a w, RI X ι F σ a w → News w (Mof X.M0 F) k fls (a.eval y)) (hfit : (els.length + fls.length) * by_ ≤ 140737488355328) (hn : σ.fresh n' = true) (hr : els ++ fls = r) :
    StepS P X o σ ((⟨σ.sl, (n', .row E k r) :: σ.ob.filter fun x => !(x.1.beq n)⟩ : St).put d (.val (.one (.ref n' 0)))) := by
  obtain ⟨i, hi1, hi2⟩ := Option.map_eq_some_iff.1 hi
  simp only [Prod.mk.injEq] at hi2
  obtain ⟨h1, rfl, rfl⟩ := hi2
  exact step_append n' hu hi1 h1 hzs h0 hby ho hd hN hx hb hy hfit hn hr

theorem els_app {α : Type} (e : Enc α) (xs ys : List α) : e.els xs ++ e.els ys = e.els (xs ++ ys) := (List.map_append ..).symm
theorem els_len {α : Type} (e : Enc α) (xs : List α) : (e.els xs).length = xs.length := by simp

/-! ### Draws -/
def ValidL (P : Program) (X : Ctx) (ops : Array Oper) : List Oper → List Eff → Prop
  | [], _ => True
  | o :: l, es => Valid P X ops o (es.headD E0) ∧ ValidL P X ops l es.tail
def slIn (σ : St) : List (Nat × AV) → Prop
  | [] => True
  | (t, v) :: l => look t σ.sl = some v ∧ slIn σ l
def obIn (σ : St) : List (Nat × Ob) → Prop
  | [] => True
  | (n, x) :: l => look n σ.ob = some x ∧ obIn σ l
def TextL : St → List Eff → Prop
  | _, [] => True
  | σ, e :: es => slIn σ e.rs ∧ obIn σ e.ro ∧ TextL (e.ap σ) es

theorem slIn.has : ∀ {l : List (Nat × AV)}, slIn σ l → hasSl σ l
  | [], _, t, v, h => by simp at h
  | (s, x) :: l, ⟨h1, h2⟩, t, v, h => by
    rcases List.mem_cons.1 h with h | h
    · injection h with e1 e2; subst e1; subst e2; exact h1
    · exact slIn.has h2 t v h
theorem obIn.has : ∀ {l : List (Nat × Ob)}, obIn σ l → hasOb σ l
  | [], _, t, v, h => by simp at h
  | (s, x) :: l, ⟨h1, h2⟩, t, v, h => by
    rcases List.mem_cons.1 h with h | h
    · injection h with e1 e2; subst e1; subst e2; exact h1
    · exact obIn.has h2 t v h
theorem validL_at {ops : Array Oper} : ∀ {l : List Oper} {es : List Eff}, ValidL P X ops l es → ∀ i o, l[i]? = some o → Valid P X ops o (es.getD i E0)
  | [], es, _, i, o, h => by simp at h
  | o :: l, es, ⟨h1, h2⟩, 0, o', h => by
    simp only [List.getElem?_cons_zero, Option.some.injEq] at h; subst h
    cases es <;> exact h1
  | o :: l, es, ⟨h1, h2⟩, i + 1, o', h => by
    have := validL_at h2 i o' (by simpa using h)
    cases es with
    | nil => simpa using this
    | cons e es => simpa using this
theorem run_shift {e : Eff} {es : List Eff} {L : List Nat} {σ : St} : run (e :: es) (L.map (· + 1)) σ = run es L σ := by
  unfold run
  rw [List.foldl_map]
  rfl
theorem textL_at : ∀ {es : List Eff} {σ : St}, TextL σ es → ∀ i, hasSl (run es (List.range i) σ) (es.getD i E0).rs ∧ hasOb (run es (List.range i) σ) (es.getD i E0).ro
  | [], σ, _, i => ⟨fun t v h => by simp at h, fun t v h => by simp at h⟩
  | e :: es, σ, ⟨h1, h2, h3⟩, 0 => ⟨h1.has, h2.has⟩
  | e :: es, σ, ⟨h1, h2, h3⟩, i + 1 => by
    have := textL_at h3 i
    have hr : run (e :: es) (List.range (i + 1)) σ = run es (List.range i) (e.ap σ) := by
      rw [List.range_succ_eq_map]
      show run (e :: es) ((List.range i).map Nat.succ) (e.ap σ) = _
      exact run_shift
    rw [hr]
    simpa using this

def runL : List Eff → St → St
  | [], σ => σ
  | e :: es, σ => runL es (e.ap σ)
theorem runL_run : ∀ {es : List Eff} {σ : St}, runL es σ = run es (List.range es.length) σ
  | [], σ => rfl
  | e :: es, σ => by
    have hr : run (e :: es) (List.range (es.length + 1)) σ = run es (List.range es.length) (e.ap σ) := by
      rw [List.range_succ_eq_map]
      show run (e :: es) ((List.range es.length).map Nat.succ) (e.ap σ) = _
      exact run_shift
    rw [List.length_cons, hr]
    show runL es (e.ap σ) = _
    exact runL_run

theorem go_drawn {id : Nat} {ops : Array Oper} (anc : List (List Nat)) (es : List Eff) (hm : P.follows .mixedOrders = true) (ha : ancOK ops anc = true) (he : effOK ops anc es = true) (hfr : frOK anc es ops.size = true) (hf0 : (es.all fun e => e.fr.all fun n => σ.fresh n) = true)
    (hv : ValidL P X ops ops.toList es) (ht : TextL σ es) (g : Go P Q X K (runL es σ)) : Go P Q X (.code (.region id ops true) :: K) σ := by
  have hes : es.length = ops.size := by
    simp only [effOK, Bool.and_eq_true] at he
    simpa using he.1
  refine go_draw hm ha he hfr (fun e hem n hn => by
    simp only [List.all_eq_true] at hf0
    exact hf0 e hem n hn) (fun i o ho => validL_at hv i o (by simpa using ho)) (fun i hi => textL_at ht i) ?_
  rw [← hes, ← runL_run]; exact g
end
end -- nc
end Go.Proofs.YtgjbehfdjnekdaaGreatDoor.Aw
end
