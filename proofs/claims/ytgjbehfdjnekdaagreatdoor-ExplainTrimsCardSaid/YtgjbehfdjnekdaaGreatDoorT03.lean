/- Parts of the proof of one statement: Aw4, Aw5. -/
import Derived.Test.YtgjbehfdjnekdaaGreatDoorT02
set_option linter.all false
section
/- The framework's objects: new blocks, boxes read and written, rows, and what may be forgotten, renamed and frozen. -/
set_option linter.unusedVariables false
set_option linter.unusedSimpArgs false
namespace Go.Proofs.YtgjbehfdjnekdaaGreatDoor.Aw
noncomputable section
open Go.RowKit

def Cap.fresh (n : Nat) : Cap → Bool
  | .dt _ => true
  | .nm m => !(m.beq n)
def Cell.fresh (n : Nat) : Cell → Bool
  | .dat _ => true
  | .ref m _ => !(m.beq n)
  | .el m _ => !(m.beq n)
  | .clo _ l => l.all (Cap.fresh n)
  | .any => true
def Part.fresh (n : Nat) : Part → Bool
  | .one c => c.fresh n
  | .agg cs => cs.all (Cell.fresh n)
def AV.fresh (n : Nat) : AV → Bool
  | .val p => p.fresh n
  | .tup l => l.all (Part.fresh n)
  | .opt _ p => p.fresh n
def Ob.fresh (n : Nat) : Ob → Bool
  | .box _ cs => cs.all (Cell.fresh n)
  | _ => true
def St.fresh (n : Nat) (σ : St) : Bool := (σ.sl.all fun x => x.2.fresh n) && (σ.ob.all fun x => x.2.fresh n && !(x.1.beq n))

def upd {β : Type} (f : Nat → β) (n : Nat) (v : β) : Nat → β := fun m => if m = n then v else f m
theorem upd_same {β : Type} (f : Nat → β) (n : Nat) (v : β) : upd f n v n = v := if_pos rfl
theorem upd_other {β : Type} (f : Nat → β) {n m : Nat} (v : β) (h : m ≠ n) : upd f n v m = f m := if_neg h

theorem nbeq {m n : Nat} (h : (!(m.beq n)) = true) : m ≠ n := by
  intro e; subst e; simp at h

section
variable {ι κ : Nat → Value} {w : World} {M : Cells}

theorem Cell.rel_fresh {c : Cell} {v : Value} {n : Nat} (hf : c.fresh n = true) (hr : c.rel ι w M v) (ha : ∀ m, m ≠ n → κ m = ι m) : c.rel κ w M v := by
  cases c with
  | dat p => exact hr
  | ref m off => have := ha m (nbeq hf); simp only [Cell.rel] at hr ⊢; rw [this]; exact hr
  | el m q => have := ha m (nbeq hf); simp only [Cell.rel] at hr ⊢; rw [this]; exact hr
  | clo f l =>
    obtain ⟨vs, h1, h2, h3⟩ := hr
    simp only [Cell.fresh, List.all_eq_true] at hf
    refine ⟨vs, h1, h2, fun i x v hx hv => ?_⟩
    have hx' := hf x (List.mem_of_getElem? hx)
    have := h3 i x v hx hv
    cases x with
    | dt p => exact this
    | nm m => exact this.trans (ha m (nbeq hx')).symm
  | any => exact hr

theorem cellsRel_fresh {cs : List Cell} {vs : List Value} {n : Nat} (hf : cs.all (Cell.fresh n) = true) (hr : cellsRel ι w M cs vs) (ha : ∀ m, m ≠ n → κ m = ι m) : cellsRel κ w M cs vs := by
  simp only [List.all_eq_true] at hf
  exact ⟨hr.1, fun i c v hc hv => ⟨Cell.rel_fresh (hf c (List.mem_of_getElem? hc)) (hr.2 i c v hc hv).1 ha, (hr.2 i c v hc hv).2⟩⟩

theorem Part.rel_fresh {p : Part} {v : Value} {n : Nat} (hf : p.fresh n = true) (hr : p.rel ι w M v) (ha : ∀ m, m ≠ n → κ m = ι m) : p.rel κ w M v := by
  cases p with
  | one c => exact ⟨Cell.rel_fresh hf hr.1 ha, hr.2⟩
  | agg cs => obtain ⟨vs, hv, hh⟩ := hr; exact ⟨vs, hv, cellsRel_fresh hf hh ha⟩

theorem AV.rel_fresh {x : AV} {v : Value} {n : Nat} (hf : x.fresh n = true) (hr : x.rel ι w M v) (ha : ∀ m, m ≠ n → κ m = ι m) : x.rel κ w M v := by
  cases x with
  | val p => exact Part.rel_fresh hf hr ha
  | tup l =>
    obtain ⟨vs, hv, hl, hh⟩ := hr
    simp only [AV.fresh, List.all_eq_true] at hf
    exact ⟨vs, hv, hl, fun i p u hp hu => Part.rel_fresh (hf p (List.mem_of_getElem? hp)) (hh i p u hp hu) ha⟩
  | opt b p => exact fun e => Part.rel_fresh hf (hr e) ha

theorem Ob.rel_fresh {x : Ob} {n m : Nat} {F : Cells} (hm : m ≠ n) (hf : x.fresh n = true) (hr : x.rel ι w M m F) (ha : ∀ m, m ≠ n → κ m = ι m) : x.rel κ w M m F := by
  have e := ha m hm
  cases x with
  | box T cs => obtain ⟨b, vs, h1, h2, h3, h4⟩ := hr; exact ⟨b, vs, by rw [e]; exact h1, h2, cellsRel_fresh hf h3 ha, h4⟩
  | row T k els => unfold Ob.rel at hr ⊢; rw [e]; exact hr
  | tok T k els => unfold Ob.rel at hr ⊢; rw [e]; exact hr
end

theorem look_mem {β : Type} {n : Nat} : ∀ {l : List (Nat × β)} {x : β}, look n l = some x → (n, x) ∈ l
  | [], x, h => by simp [look_nil, look_cons] at h
  | (m, y) :: l, x, h => by
    simp only [look_nil, look_cons] at h
    split at h
    · rename_i e; injection h with h; subst e; subst h; simp
    · exact List.mem_cons_of_mem _ (look_mem h)

section
variable {P : Program} {Q : Exit → Act → World → Prop} {X : Ctx} {K : List Item} {σ σ' : St} {o : Oper} {d : Nat}

def St.new (σ : St) (n : Nat) (x : Ob) : St := ⟨σ.sl, (n, x) :: σ.ob⟩

/-- A new object in blocks that are new. -/
theorem RI.new {ι : Nat → Value} {F : Nat → Cells} {a : Act} {w w' : World} (h : RI X ι F σ a w) {n : Nat} {x : Ob} {v : Value} {G : Cells} (hn : σ.fresh n = true)
    (hk : Kept (fun _ _ => False) w w') (hG : ∀ b q, G b q → w.heap.size ≤ b ∧ b < w'.heap.size) (hx : x.rel (upd ι n v) w' (Mof X.M0 (upd F n G)) n G) :
    RI X (upd ι n v) (upd F n G) (σ.new n x) a w' := by
  simp only [St.fresh, Bool.and_eq_true, List.all_eq_true] at hn
  obtain ⟨hs, hob⟩ := hn
  have hno : look n σ.ob = none := by
    cases hl : look n σ.ob with
    | none => rfl
    | some y => have := (hob _ (look_mem hl)).2; simp at this
  have hFn : ∀ b q, ¬ F n b q := h.none_ n hno
  have hw := h.world hk
  have hMM : ∀ b q, b < w.heap.size → Mof X.M0 (upd F n G) b q → Mof X.M0 F b q := by
    rintro b q hb (hm | ⟨m, hm⟩)
    · exact .inl hm
    · by_cases e : m = n
      · subst e; rw [upd_same] at hm; have := hG b q hm; omega
      · rw [upd_other _ _ e] at hm; exact .inr ⟨m, hm⟩
  have hE : Ext (Mof X.M0 F) w w' := hk.ext fun _ _ h => h.elim
  have hag : ∀ m, m ≠ n → upd ι n v m = ι m := fun m hm => upd_other _ _ hm
  refine { none_ := fun m hm b q hf => ?_, obj := fun m y hm => ?_, disj := fun m m' b q h1 h2 => ?_, apart := fun m b q hf => ?_, old := fun m b q hf hb => ?_, lt := fun m b q hf => ?_, m0lt := h.m0lt,
           finM := h.finM, slot := fun t y hy => ?_, size := h.size, defers := h.defers, kept := hw.kept }
  · simp only [St.new, look_nil, look_cons] at hm
    split at hm
    · cases hm
    · rename_i e; rw [upd_other _ _ e] at hf; exact h.none_ m hm b q hf
  · simp only [St.new, look_nil, look_cons] at hm
    split at hm
    · rename_i e; subst e; injection hm with hm; subst hm; rw [upd_same]; exact hx
    · rename_i e
      rw [upd_other _ _ e]
      have ho := Ob.rel_mono (h.obj m y hm) hE (M' := Mof X.M0 (upd F n G)) hMM fun b ⟨q, hq⟩ => hk.blk b (h.lt m b q hq) fun _ => id
      exact Ob.rel_fresh e (hob _ (look_mem hm)).1 ho hag
  · by_cases e1 : m = n
    · by_cases e2 : m' = n
      · rw [e1, e2]
      · subst e1; rw [upd_same] at h1; rw [upd_other _ _ e2] at h2; have := hG b q h1; have := h.lt m' b q h2; omega
    · by_cases e2 : m' = n
      · subst e2; rw [upd_same] at h2; rw [upd_other _ _ e1] at h1; have := hG b q h2; have := h.lt m b q h1; omega
      · rw [upd_other _ _ e1] at h1; rw [upd_other _ _ e2] at h2; exact h.disj m m' b q h1 h2
  · by_cases e : m = n
    · subst e; rw [upd_same] at hf; intro h0; have := h.m0lt b q h0; have := hG b q hf; have := h.kept.size; omega
    · rw [upd_other _ _ e] at hf; exact h.apart m b q hf
  · by_cases e : m = n
    · subst e; rw [upd_same] at hf; have := hG b q hf; have := h.kept.size; omega
    · rw [upd_other _ _ e] at hf; exact h.old m b q hf hb
  · by_cases e : m = n
    · subst e; rw [upd_same] at hf; exact (hG b q hf).2
    · rw [upd_other _ _ e] at hf; exact Nat.lt_of_lt_of_le (h.lt m b q hf) hk.size
  · exact AV.rel_fresh (hs _ (look_mem hy)) (AV.rel_mono (h.slot t y hy) hE hMM) hag

theorem kept_alloc (w : World) (x : Obj) : Kept (fun _ _ => False) w (w.alloc x) :=
  ⟨rfl, rfl, rfl, by simp, fun b hb _ => Below.heap_alloc w x b hb, fun b q hb _ => World.cell?_alloc_lt w x ⟨b, q, none⟩ hb⟩
theorem kept_drew (w : World) : Kept (fun _ _ => False) w w.drew := ⟨rfl, rfl, rfl, Nat.le_refl _, fun _ _ _ => rfl, fun _ _ _ _ => rfl⟩

def valCell : Value → Option Cell
  | .int k n => some (.dat (intP k n))
  | .bool b => some (.dat (boolP b))
  | .string s => some (.dat (strP s))
  | .pointer none => some (.dat (eqP (.pointer none) rfl))
  | .slice none 0 0 => some (.dat (eqP (.slice none 0 0) rfl))
  | .map none => some (.dat (eqP (.map none) rfl))
  | .nilIface => some (.dat (eqP .nilIface rfl))
  | .nilFunc => some (.dat (eqP .nilFunc rfl))
  | _ => none
theorem valCell_rel {v : Value} {c : Cell} (h : valCell v = some c) (ι : Nat → Value) (w : World) (M : Cells) : c.rel ι w M v ∧ v.oneCell' = true := by
  unfold valCell at h
  split at h
  all_goals first
    | (injection h with h; subst h; exact ⟨rfl, rfl⟩)
    | cases h
def zcells : List Value → Option (List Cell)
  | [] => some []
  | v :: l => match valCell v, zcells l with
    | some c, some cs => some (c :: cs)
    | _, _ => none
theorem zcells_rel (ι : Nat → Value) (w : World) (M : Cells) : ∀ {vs : List Value} {cs : List Cell}, zcells vs = some cs → cellsRel ι w M cs vs
  | [], cs, h => by simp only [zcells, Option.some.injEq] at h; subst h; exact ⟨rfl, fun i c v hc => by simp at hc⟩
  | v :: l, cs, h => by
    simp only [zcells] at h
    split at h
    · rename_i c cs' h1 h2
      injection h with h; subst h
      have ih := zcells_rel ι w M h2
      refine ⟨by simpa using ih.1, fun i c' u hc hu => ?_⟩
      cases i with
      | zero => simp only [List.getElem?_cons_zero, Option.some.injEq] at hc hu; subst hc; subst hu; exact valCell_rel h1 _ _ _
      | succ i => exact ih.2 i c' u (by simpa using hc) (by simpa using hu)
    · cases h

/-- A new variable. -/
theorem new_box {ι : Nat → Value} {F : Nat → Cells} {a : Act} {w : World} (h : RI X ι F σ a w) {n : Nat} {T : TypeId} {cs : List Cell} {vs : Array Value} (hn : σ.fresh n = true) (hcs : cs.all (Cell.fresh n) = true)
    (hr : cellsRel ι w (Mof X.M0 F) cs vs.toList) : RI X (upd ι n (.pointer (some ⟨w.heap.size, 0, none⟩))) (upd F n fun b _ => b = w.heap.size) (σ.new n (.box T cs)) a (w.alloc (.cells vs T)) := by
  refine h.new hn (kept_alloc w _) (fun b q e => by have e : b = w.heap.size := e; subst e; simp) ⟨w.heap.size, vs, upd_same _ _ _, heap_alloc_new w _, ?_, fun b q => Iff.rfl⟩
  refine cellsRel_fresh hcs (cellsRel_mono hr ((kept_alloc w _).ext fun _ _ h => h.elim) ?_) fun m hm => upd_other _ _ hm
  rintro b q hb (hm | ⟨m, hm⟩)
  · exact .inl hm
  · by_cases e : m = n
    · subst e; rw [upd_same] at hm; have hm : b = w.heap.size := hm; omega
    · rw [upd_other _ _ e] at hm; exact .inr ⟨m, hm⟩

theorem ref_rel_new {ι : Nat → Value} {w : World} {M : Cells} {n : Nat} {ad : Addr} : (Part.one (.ref n 0)).rel (upd ι n (.pointer (some ad))) w M (.pointer (some ad)) :=
  ⟨by show _ = vadd (upd ι n _ n) 0; rw [upd_same]; simp [vadd, Addr.add], rfl⟩

theorem step_alloc (n : Nat) {T : TypeId} {z : Value} {cs : List Cell} (hz : ∀ w, (zeroValue T).run P w = .ok z w) (hc : zcells z.cells.toList = some cs) (ho : o.op = .alloc T) (hd : o.dst = some d) (hN : d < X.N) (hn : σ.fresh n = true)
    (hcs : cs.all (Cell.fresh n) = true) : StepS P X o σ ((σ.new n (.box T cs)).put d (.val (.one (.ref n 0)))) := by
  intro a w ⟨ι, F, h⟩
  unfold Oper.wp
  have hrun : (execOp a.eval o).run P w = .ok (.value (.pointer (some ⟨w.heap.size, 0, none⟩))) (w.alloc (.cells z.cells T)) := by
    unfold execOp
    simp only [ho, Instr.alloc, hz, newVar, newRow, Sem.run_bind, Sem.run_pure, Result.andThen_ok, run_newObj]
    rfl
  rw [hrun, Oper.upon_value, hd]
  exact ⟨_, _, (new_box h hn hcs (zcells_rel _ _ _ hc)).put hN ref_rel_new⟩

def Part.cells : Part → List Cell
  | .one c => [c]
  | .agg cs => cs
theorem Part.rel_cells {ι : Nat → Value} {w : World} {M : Cells} {p : Part} {v : Value} (h : p.rel ι w M v) : cellsRel ι w M p.cells v.cells.toList := by
  cases p with
  | one c =>
    have hv : v.cells = #[v] := by have := h.2; cases v <;> first | rfl | simp [Value.oneCell'] at this
    rw [hv]
    refine ⟨rfl, fun i c' u hc hu => ?_⟩
    cases i with
    | zero => simp only [Part.cells, List.getElem?_cons_zero, Option.some.injEq] at hc hu; subst hc; subst hu; exact h
    | succ i => simp [Part.cells] at hc
  | agg cs => obtain ⟨vs, rfl, h⟩ := h; exact h

theorem step_box (n : Nat) {T : TypeId} {x : Operand} {p : Part} (ho : o.op = .box T x) (hd : o.dst = some d) (hN : d < X.N) (hx : σ.opd x = some (.val p)) (hn : σ.fresh n = true)
    (hcs : p.cells.all (Cell.fresh n) = true) : StepS P X o σ ((σ.new n (.box T p.cells)).put d (.val (.one (.ref n 0)))) := by
  intro a w ⟨ι, F, h⟩
  unfold Oper.wp
  have hrun : (execOp a.eval o).run P w = .ok (.value (.pointer (some ⟨w.heap.size, 0, none⟩))) (w.alloc (.cells (a.eval x).cells T)) := by
    unfold execOp
    simp only [ho, Instr.box, newVar, newRow, Sem.run_bind, Sem.run_pure, Result.andThen_ok, run_newObj]
    rfl
  rw [hrun, Oper.upon_value, hd]
  exact ⟨_, _, (new_box h hn hcs (Part.rel_cells (h.opd hx))).put hN ref_rel_new⟩

/-! ### A box is read -/
theorem box_at {ι : Nat → Value} {F : Nat → Cells} {a : Act} {w : World} (h : RI X ι F σ a w) {x : Operand} {n off : Nat} {T : TypeId} {cs : List Cell} (hx : σ.opd x = some (.val (.one (.ref n off)))) (hb : look n σ.ob = some (.box T cs)) :
    ∃ b vs, a.eval x = .pointer (some ⟨b, off, none⟩) ∧ ι n = .pointer (some ⟨b, 0, none⟩) ∧ w.heap[b]? = some (.cells vs T (0, 0)) ∧ cellsRel ι w (Mof X.M0 F) cs vs.toList ∧ ∀ b' q, F n b' q ↔ b' = b := by
  obtain ⟨b, vs, h1, h2, h3, h4⟩ := h.obj n _ hb
  have he : a.eval x = vadd (ι n) off := (h.opd hx).1
  refine ⟨b, vs, ?_, h1, h2, h3, h4⟩
  rw [he, h1]
  simp only [vadd, add_add, Nat.zero_add]

theorem step_load_box {T T' : TypeId} {x : Operand} {n off k : Nat} {cs ds : List Cell} (hA : ∀ w, (isAgg T).run P w = .ok true w) (hS : ∀ w, (sizeOf T).run P w = .ok k w) (ho : o.op = .load T x) (hd : o.dst = some d) (hN : d < X.N)
    (hx : σ.opd x = some (.val (.one (.ref n off)))) (hb : look n σ.ob = some (.box T' cs)) (hk : off + k ≤ cs.length) (hq : (cs.drop off).take k = ds) : StepS P X o σ (σ.put d (.val (.agg ds))) :=
  step_val hd hN fun ι F a w h => by
    subst hq
    obtain ⟨b, vs, h1, _, h2, h3, _⟩ := box_at h hx hb
    have hl : (loadCells ⟨b, off, none⟩ ((vs.toList.drop off).take k).length).run P w = .ok ((vs.toList.drop off).take k).toArray w :=
      run_loadCells_list (P := P) w ⟨b, off, none⟩ _ fun j v hv => by
        rw [add_add, cell_of_row w b _ vs T' (0, 0) h2]
        rw [List.getElem?_take, List.getElem?_drop] at hv
        split at hv
        · simpa using hv
        · cases hv
    have hlen : ((vs.toList.drop off).take k).length = k := by
      have := h3.1
      simp only [List.length_take, List.length_drop]; omega
    rw [hlen] at hl
    refine ⟨.agg ((vs.toList.drop off).take k).toArray, by unfold execOp; simp only [ho, h1, Instr.loadAt, Instr.sureAddr, loadVar, Sem.run_bind, hA, hS, hl, Result.andThen_ok, Sem.run_pure, if_true], _, rfl, ?_, fun i c v hc hv => ?_⟩
    · have := h3.1
      simp only [List.length_take, List.length_drop]
      omega
    · simp only [List.getElem?_take, List.getElem?_drop] at hc hv
      split at hc
      · rename_i hi
        rw [if_pos hi] at hv
        exact h3.2 _ c v hc hv
      · cases hc

theorem step_load_box1 {T T' : TypeId} {x : Operand} {n off : Nat} {cs : List Cell} {c : Cell} (hA : ∀ w, (isAgg T).run P w = .ok false w) (ho : o.op = .load T x) (hd : o.dst = some d) (hN : d < X.N)
    (hx : σ.opd x = some (.val (.one (.ref n off)))) (hb : look n σ.ob = some (.box T' cs)) (hq : cs[off]? = some c) : StepS P X o σ (σ.put d (.val (.one c))) :=
  step_val hd hN fun ι F a w h => by
    obtain ⟨b, vs, h1, _, h2, h3, _⟩ := box_at h hx hb
    have hlt : off < vs.toList.length := by
      rw [← h3.1]
      rcases Nat.lt_or_ge off cs.length with h | h; exact h; simp [List.getElem?_eq_none h] at hq
    have hv : vs.toList[off]? = some vs.toList[off] := List.getElem?_eq_getElem hlt
    have hcell : w.cell? ⟨b, off, none⟩ = some vs.toList[off] := by rw [cell_of_row w b _ vs T' (0, 0) h2]; simpa using hv
    exact ⟨vs.toList[off], by unfold execOp; simp [ho, h1, Instr.loadAt, Instr.sureAddr, loadVar, hA, hcell], h3.2 off c _ hq hv⟩

theorem step_field_box {T T' : TypeId} {x : Operand} {n off j k r : Nat} {fs : Array Field} {f : Field} {cs : List Cell} (hu : P.underlying T = some (.struct fs)) (hf : fs[j]? = some f) (hS : ∀ w, (sizeOf f.type).run P w = .ok (k + 1) w)
    (ho : o.op = .fieldAddr T x j) (hd : o.dst = some d) (hN : d < X.N) (hx : σ.opd x = some (.val (.one (.ref n off)))) (hb : look n σ.ob = some (.box T' cs)) (hr : off + f.offset = r) : StepS P X o σ (σ.put d (.val (.one (.ref n r)))) :=
  step_val hd hN fun ι F a w h => by
    subst hr
    obtain ⟨b, vs, h1, hι, _⟩ := box_at h hx hb
    refine ⟨.pointer (some ⟨b, off + f.offset, none⟩), by unfold execOp; simp [ho, h1, Instr.fieldAt, run_underlying hu, hf, Instr.sureAddr, fieldPlace, hS, add_add], ?_, rfl⟩
    show _ = vadd (ι n) _
    rw [hι]; simp only [vadd, add_add, Nat.zero_add]

/-- The address of an element of an array in a box. -/
theorem step_elem_box {T E T' : TypeId} {x y : Operand} {n off k r len : Nat} {j : IntKind} {m : Int} {cs : List Cell} (hu : P.underlying T = some (.array len E)) (hS : ∀ w, (sizeOf E).run P w = .ok k w)
    (ho : o.op = .indexAddr T x y) (hd : o.dst = some d) (hN : d < X.N) (hx : σ.opd x = some (.val (.one (.ref n off)))) (hy : σ.opd y = some (D (intP j m))) (h0 : 0 ≤ m) (h1 : m < len) (hb : look n σ.ob = some (.box T' cs)) (hr : off + m.toNat * k = r) :
    StepS P X o σ (σ.put d (.val (.one (.ref n r)))) :=
  step_val hd hN fun ι F a w h => by
    subst hr
    obtain ⟨b, vs, h2, hι, _⟩ := box_at h hx hb
    have h3 : a.eval y = .int j m := (h.opd hy).1
    refine ⟨.pointer (some ⟨b, off + m.toNat * k, none⟩), by unfold execOp; simp [ho, h2, h3, Instr.indexAt, asIntOf, run_underlying hu, Instr.sureAddr, hS, add_add, h0, h1], ?_, rfl⟩
    show _ = vadd (ι n) _
    rw [hι]; simp only [vadd, add_add, Nat.zero_add]

/-! ### A box is written -/
def setCells (cs : List Cell) (off : Nat) (new : List Cell) : List Cell := cs.take off ++ new ++ cs.drop (off + new.length)

theorem kept_setRow {w : World} {b : Nat} {cur new : Array Value} {T : TypeId} (h : w.heap[b]? = some (.cells cur T (0, 0))) : Kept (fun b' _ => b' = b) w (w.setRow b new) :=
  ⟨rfl, rfl, rfl, by simp, fun b' hb hq => setRow_other w b b' _ fun e => hq 0 e, fun b' q hb hq => cell_setRow_other w b _ ⟨b', q, none⟩ hq⟩

theorem Kept.step {S G : Cells} {w0 w w' : World} (h : Kept S w0 w) (k : Kept G w w') (hG : ∀ b q, b < w0.heap.size → G b q → S b q) : Kept S w0 w' :=
  ⟨k.os.trans h.os, k.tape.trans h.tape, k.output.trans h.output, Nat.le_trans h.size k.size,
    fun b hb hq => (k.blk b (Nat.lt_of_lt_of_le hb h.size) fun q hg => hq q (hG b q hb hg)).trans (h.blk b hb hq),
    fun b q hb hq => (k.cell b q (Nat.lt_of_lt_of_le hb h.size) fun hg => hq (hG b q hb hg)).trans (h.cell b q hb hq)⟩

/-- Two objects do not share a block. -/
theorem RI.one_block {ι : Nat → Value} {F : Nat → Cells} {a : Act} {w : World} (h : RI X ι F σ a w) {m n : Nat} {z x : Ob} (hz : look m σ.ob = some z) (hx : look n σ.ob = some x) {b q q' : Nat} (hq : F m b q) (hq' : F n b q') : m = n := by
  have key : ∀ (z : Ob) (m : Nat), z.rel ι w (Mof X.M0 F) m (F m) → ∀ q, F m b q → ∀ q2, q ≤ q2 → F m b q2 := by
    intro z m hz q hq q2 hle
    cases z with
    | box T cs => obtain ⟨b0, vs, _, _, _, h4⟩ := hz; exact (h4 b q2).2 ((h4 b q).1 hq)
    | row T k els =>
      obtain ⟨_, _, hz⟩ := hz
      rcases hz with ⟨_, _, h4⟩ | ⟨b0, q0, cap, cur, _, _, _, _, _, _, h4⟩
      · exact absurd hq (h4 b q)
      · exact (h4 b q2).2 ((h4 b q).1 hq)
    | tok T k els =>
      obtain ⟨_, _, hz⟩ := hz
      rcases hz with ⟨_, _, h4⟩ | ⟨b0, q0, cap, _, _, _, _, h4 | ⟨_, _, h4⟩⟩
      · exact absurd hq (h4 b q)
      · exact absurd hq (h4.2 b q)
      · exact (h4 b q2).2 ⟨((h4 b q).1 hq).1, Nat.le_trans ((h4 b q).1 hq).2 hle⟩
  exact h.disj m n b (max q q') (key z m (h.obj m z hz) q hq _ (Nat.le_max_left _ _)) (key x n (h.obj n x hx) q' hq' _ (Nat.le_max_right _ _))

/-- Objects when cells of the one object n are written, n's content told anew. -/
theorem RI.write {ι : Nat → Value} {F : Nat → Cells} {a : Act} {w w' : World} (h : RI X ι F σ a w) {n : Nat} {x y : Ob} (hx : look n σ.ob = some x) (hk : Kept (F n) w w')
    (hy : y.rel ι w' (Mof X.M0 F) n (F n)) : RI X ι F ⟨σ.sl, (n, y) :: σ.ob⟩ a w' := by
  have hE : Ext (Mof X.M0 F) w w' := hk.ext fun b q hf => .inr ⟨n, hf⟩
  have hM : ∀ b q, b < w.heap.size → Mof X.M0 F b q → Mof X.M0 F b q := fun _ _ _ h => h
  refine { none_ := fun m hm => ?_, obj := fun m z hm => ?_, disj := h.disj, apart := h.apart, old := h.old, lt := fun m b q hf => Nat.lt_of_lt_of_le (h.lt m b q hf) hk.size, m0lt := h.m0lt, finM := h.finM,
           slot := fun t v hv => AV.rel_mono (h.slot t v hv) hE hM, size := h.size, defers := h.defers, kept := h.kept.step hk fun b q hb hf => h.old n b q hf hb }
  · simp only [look_nil, look_cons] at hm
    split at hm
    · cases hm
    · exact h.none_ m hm
  · simp only [look_nil, look_cons] at hm
    split at hm
    · rename_i e; subst e; injection hm with hm; subst hm; exact hy
    · rename_i e
      refine Ob.rel_mono (h.obj m z hm) hE hM fun b ⟨q, hq⟩ => hk.blk b (h.lt m b q hq) fun q' hq' => ?_
      -- two objects in one block: the cells of a block that an object has are all its own
      have hm' := h.obj m z hm
      have hn' := h.obj n x hx
      have key : ∀ (z : Ob) (m : Nat), z.rel ι w (Mof X.M0 F) m (F m) → ∀ q, F m b q → ∀ q2, q ≤ q2 → F m b q2 := by
        intro z m hz q hq q2 hle
        cases z with
        | box T cs => obtain ⟨b0, vs, _, _, _, h4⟩ := hz; exact (h4 b q2).2 ((h4 b q).1 hq)
        | row T k els =>
          obtain ⟨_, _, hz⟩ := hz
          rcases hz with ⟨_, _, h4⟩ | ⟨b0, q0, cap, cur, _, _, _, _, _, _, h4⟩
          · exact absurd hq (h4 b q)
          · exact (h4 b q2).2 ((h4 b q).1 hq)
        | tok T k els =>
          obtain ⟨_, _, hz⟩ := hz
          rcases hz with ⟨_, _, h4⟩ | ⟨b0, q0, cap, _, _, _, _, h4 | ⟨_, _, h4⟩⟩
          · exact absurd hq (h4 b q)
          · exact absurd hq (h4.2 b q)
          · exact (h4 b q2).2 ⟨((h4 b q).1 hq).1, Nat.le_trans ((h4 b q).1 hq).2 hle⟩
      exact e (h.disj m n b (max q q') (key z m hm' q hq _ (Nat.le_max_left _ _)) (key x n hn' q' hq' _ (Nat.le_max_right _ _)))

end
end -- nc
end Go.Proofs.YtgjbehfdjnekdaaGreatDoor.Aw
end
section
/- The framework's objects, second part: stores, rows, appends, and what may be forgotten, renamed and frozen. -/
set_option linter.unusedVariables false
set_option linter.unusedSimpArgs false
namespace Go.Proofs.YtgjbehfdjnekdaaGreatDoor.Aw
noncomputable section
open Go.RowKit
section
variable {P : Program} {Q : Exit → Act → World → Prop} {X : Ctx} {K : List Item} {σ σ' : St} {o : Oper} {d : Nat}

theorem Mof_F {M0 : Cells} {F : Nat → Cells} {n : Nat} {b q : Nat} (h : F n b q) : Mof M0 F b q := .inr ⟨n, h⟩

theorem cellsRel_set {ι : Nat → Value} {w : World} {M : Cells} {cs new : List Cell} {vs us : List Value} {off : Nat} (h : cellsRel ι w M cs vs) (hn : cellsRel ι w M new us) (hk : off + new.length ≤ cs.length) :
    cellsRel ι w M (setCells cs off new) (vs.take off ++ us ++ vs.drop (off + us.length)) := by
  obtain ⟨hl, hh⟩ := h
  obtain ⟨hl2, hh2⟩ := hn
  refine ⟨by simp only [setCells, List.length_append, List.length_take, List.length_drop]; omega, fun i c v hc hv => ?_⟩
  have ht : (cs.take off).length = off := by simp; omega
  have htv : (vs.take off).length = off := by simp; omega
  simp only [setCells] at hc
  rcases Nat.lt_or_ge i off with h1 | h1
  · rw [List.append_assoc, List.getElem?_append_left (by omega), List.getElem?_take, if_pos h1] at hc hv
    exact hh i c v hc hv
  · rw [List.append_assoc, List.getElem?_append_right (by omega), ht] at hc
    rw [List.append_assoc, List.getElem?_append_right (by omega), htv] at hv
    rcases Nat.lt_or_ge (i - off) new.length with h2 | h2
    · rw [List.getElem?_append_left (by omega)] at hc hv
      exact hh2 _ c v hc hv
    · rw [List.getElem?_append_right (by omega), List.getElem?_drop] at hc hv
      refine hh i c v ?_ ?_
      · rw [← hc]; congr 1; omega
      · rw [← hv]; congr 1; omega

/-- A store into a variable. -/
theorem step_store {T T' : TypeId} {x y : Operand} {n off k : Nat} {cs : List Cell} {p : Part} {cs' : List Cell} (hS : ∀ w, (sizeOf T).run P w = .ok k w) (ho : o.op = .store T x y) (hd : o.dst = none)
    (hx : σ.opd x = some (.val (.one (.ref n off)))) (hy : σ.opd y = some (.val p)) (hb : look n σ.ob = some (.box T' cs)) (hp : p.cells.length = k) (hk : off + k ≤ cs.length) (hq : setCells cs off p.cells = cs') :
    StepS P X o σ ⟨σ.sl, (n, .box T' cs') :: σ.ob⟩ := by
  intro a w ⟨ι, F, h⟩
  subst hq
  obtain ⟨b, vs, h1, hι, h2, h3, h4⟩ := box_at h hx hb
  have hr := Part.rel_cells (h.opd hy)
  have hlen : (a.eval y).cells.size = k := by have := hr.1; simp only [Array.length_toList] at this; omega
  have hvl : vs.size = cs.length := by have := h3.1; simp only [Array.length_toList] at this; omega
  have hst := run_storeCells_at P b off T' (a.eval y).cells.toList 0 vs w h2 (by simp only [Array.length_toList]; omega) fun v hv => by
    obtain ⟨i, hi, rfl⟩ := List.getElem_of_mem hv
    have hi' : i < p.cells.length := by rw [hr.1]; exact hi
    exact (hr.2 i p.cells[i] _ (List.getElem?_eq_getElem hi') (List.getElem?_eq_getElem hi)).2
  unfold Oper.wp
  have hrun : (execOp a.eval o).run P w = .ok .skip (w.setRow b (vs.toList.take off ++ (a.eval y).cells.toList ++ vs.toList.drop (off + (a.eval y).cells.toList.length)).toArray) := by
    unfold execOp
    simp only [Nat.add_zero] at hst
    have hcond : ¬ ((a.eval y).cells.size ≠ k) := by omega
    simp only [ho, h1, Instr.storeAt, Instr.sureAddr, storeVar, Sem.run_bind, Sem.run_pure, Result.andThen_ok, hS, Sem.run_ite, if_neg hcond, hst]
  rw [hrun, Oper.upon_skip, hd]
  have hk' := kept_setRow (new := (vs.toList.take off ++ (a.eval y).cells.toList ++ vs.toList.drop (off + (a.eval y).cells.toList.length)).toArray) h2
  have hkF : Kept (F n) w (w.setRow b (vs.toList.take off ++ (a.eval y).cells.toList ++ vs.toList.drop (off + (a.eval y).cells.toList.length)).toArray) := hk'.mono fun b' q e => (h4 b' q).2 e
  refine ⟨ι, F, h.write hb hkF ⟨b, _, hι, setRow_heap w b vs _ T' (0, 0) h2, ?_, h4⟩⟩
  rw [List.toList_toArray]
  refine cellsRel_mono (cellsRel_set h3 hr (by omega)) (hkF.ext fun b q hf => Mof_F hf) fun _ _ _ h => h

/-! ### Forgetting and renaming -/
def Cap.ren (ρ : Nat → Nat) : Cap → Cap
  | .dt p => .dt p
  | .nm n => .nm (ρ n)
def Cell.ren (ρ : Nat → Nat) : Cell → Cell
  | .dat p => .dat p
  | .ref n q => .ref (ρ n) q
  | .el n q => .el (ρ n) q
  | .clo f l => .clo f (l.map (Cap.ren ρ))
  | .any => .any
def Part.ren (ρ : Nat → Nat) : Part → Part
  | .one c => .one (c.ren ρ)
  | .agg cs => .agg (cs.map (Cell.ren ρ))
def AV.ren (ρ : Nat → Nat) : AV → AV
  | .val p => .val (p.ren ρ)
  | .tup l => .tup (l.map (Part.ren ρ))
  | .opt b p => .opt b (p.ren ρ)
def Ob.ren (ρ : Nat → Nat) : Ob → Ob
  | .box T cs => .box T (cs.map (Cell.ren ρ))
  | x => x

theorem Cell.rel_ren {ι : Nat → Value} {w : World} {M : Cells} {ρ : Nat → Nat} {c : Cell} {v : Value} (h : (c.ren ρ).rel ι w M v) : c.rel (fun n => ι (ρ n)) w M v := by
  cases c with
  | clo f l =>
    obtain ⟨vs, h1, h2, h3⟩ := h
    refine ⟨vs, h1, by simpa using h2, fun i x v hx hv => ?_⟩
    have := h3 i (x.ren ρ) v (by simp [hx]) hv
    cases x with
    | dt p => exact this
    | nm n => exact this
  | _ => exact h
theorem cellsRel_ren {ι : Nat → Value} {w : World} {M : Cells} {ρ : Nat → Nat} {cs : List Cell} {vs : List Value} (h : cellsRel ι w M (cs.map (Cell.ren ρ)) vs) : cellsRel (fun n => ι (ρ n)) w M cs vs :=
  ⟨by simpa using h.1, fun i c v hc hv => ⟨Cell.rel_ren (h.2 i (c.ren ρ) v (by simp [hc]) hv).1, (h.2 i (c.ren ρ) v (by simp [hc]) hv).2⟩⟩
theorem Part.rel_ren {ι : Nat → Value} {w : World} {M : Cells} {ρ : Nat → Nat} {p : Part} {v : Value} (h : (p.ren ρ).rel ι w M v) : p.rel (fun n => ι (ρ n)) w M v := by
  cases p with
  | one c => exact ⟨Cell.rel_ren h.1, h.2⟩
  | agg cs => obtain ⟨vs, hv, h⟩ := h; exact ⟨vs, hv, cellsRel_ren h⟩
theorem AV.rel_ren {ι : Nat → Value} {w : World} {M : Cells} {ρ : Nat → Nat} {x : AV} {v : Value} (h : (x.ren ρ).rel ι w M v) : x.rel (fun n => ι (ρ n)) w M v := by
  cases x with
  | val p => exact Part.rel_ren h
  | tup l => obtain ⟨vs, hv, hl, hh⟩ := h; exact ⟨vs, hv, by simpa using hl, fun i p u hp hu => Part.rel_ren (hh i (p.ren ρ) u (by simp [hp]) hu)⟩
  | opt b p => exact fun e => Part.rel_ren (h e)
theorem Ob.rel_ren {ι : Nat → Value} {w : World} {M : Cells} {ρ : Nat → Nat} {n : Nat} {F : Cells} {x : Ob} (h : (x.ren ρ).rel ι w M (ρ n) F) : x.rel (fun n => ι (ρ n)) w M n F := by
  cases x with
  | box T cs => obtain ⟨b, vs, h1, h2, h3, h4⟩ := h; exact ⟨b, vs, h1, h2, cellsRel_ren h3, h4⟩
  | _ => exact h

/-- Every slot of sl is known in σ, its names read by ρ. -/
def SubSl (σ : St) (ρ : Nat → Nat) : List (Nat × AV) → Prop
  | [] => True
  | (t, v) :: l => (∃ u, look t σ.sl = some u ∧ u.le (v.ren ρ)) ∧ SubSl σ ρ l
def SubOb (σ : St) (ρ : Nat → Nat) : List (Nat × Ob) → Prop
  | [] => True
  | (n, x) :: l => look (ρ n) σ.ob = some (x.ren ρ) ∧ SubOb σ ρ l

theorem SubSl.look {ρ : Nat → Nat} : ∀ {l : List (Nat × AV)}, SubSl σ ρ l → ∀ {t v}, look t l = some v → ∃ u, look t σ.sl = some u ∧ u.le (v.ren ρ)
  | [], _, t, v, h => by simp [Aw.look_nil, Aw.look_cons] at h
  | (s, x) :: l, ⟨h1, h2⟩, t, v, h => by
    simp only [Aw.look_nil, Aw.look_cons] at h
    split at h
    · rename_i e; injection h with h; subst e; subst h; exact h1
    · exact SubSl.look h2 h
theorem SubOb.look {ρ : Nat → Nat} : ∀ {l : List (Nat × Ob)}, SubOb σ ρ l → ∀ {n x}, look n l = some x → look (ρ n) σ.ob = some (x.ren ρ)
  | [], _, t, v, h => by simp [Aw.look_nil, Aw.look_cons] at h
  | (s, x) :: l, ⟨h1, h2⟩, t, v, h => by
    simp only [Aw.look_nil, Aw.look_cons] at h
    split at h
    · rename_i e; injection h with h; subst e; subst h; exact h1
    · exact SubOb.look h2 h

theorem sl_same {u v : AV} {t : Nat} (h : look t σ.sl = some u) (e : u = v) : ∃ u, look t σ.sl = some u ∧ u.le v := ⟨u, h, e ▸ AV.le_refl _⟩
theorem sl_le {u v : AV} {t : Nat} (h : look t σ.sl = some u) (e : u.le v) : ∃ u, look t σ.sl = some u ∧ u.le v := ⟨u, h, e⟩

def asMap (l : List (Nat × Nat)) (n : Nat) : Nat := (look n l).getD n

/-- The state told anew: slots and objects that are not wanted any more are left out, names are changed (ρ: the old name of a new one). -/
theorem go_set (σ' : St) (ρ : Nat → Nat) (hs : SubSl σ ρ σ'.sl) (ho : SubOb σ ρ σ'.ob) (hi : ∀ n m, (look n σ'.ob).isSome → (look m σ'.ob).isSome → ρ n = ρ m → n = m) (g : Go P Q X K σ') : Go P Q X K σ := by
  refine go_weak (σ' := σ') (fun a w ⟨ι, F, h⟩ => ?_) g
  have hF : ∀ n b q, (if (look n σ'.ob).isSome then F (ρ n) b q else False) → (look n σ'.ob).isSome ∧ F (ρ n) b q := by
    intro n b q hh; by_cases e : (look n σ'.ob).isSome
    · rw [if_pos e] at hh; exact ⟨e, hh⟩
    · rw [if_neg e] at hh; exact hh.elim
  have hM : ∀ b q, b < w.heap.size → Mof X.M0 (fun n b q => if (look n σ'.ob).isSome then F (ρ n) b q else False) b q → Mof X.M0 F b q := by
    rintro b q _ (hm | ⟨n, hm⟩)
    · exact .inl hm
    · exact .inr ⟨ρ n, (hF n b q hm).2⟩
  refine ⟨fun n => ι (ρ n), fun n b q => if (look n σ'.ob).isSome then F (ρ n) b q else False, ?_⟩
  refine {
    none_ := fun n hn b q hf => ?_
    obj := fun n x hx => ?_
    disj := fun n m b q h1 h2 => ?_
    apart := fun n b q hf => h.apart _ b q (hF n b q hf).2
    old := fun n b q hf hb => h.old _ b q (hF n b q hf).2 hb
    lt := fun n b q hf => h.lt _ b q (hF n b q hf).2
    m0lt := h.m0lt
    finM := h.finM
    slot := fun t v hv => ?_
    size := h.size
    defers := h.defers
    kept := h.kept }
  · have := (hF n b q hf).1; rw [hn] at this; cases this
  · have hx' := SubOb.look ho hx
    have := h.obj _ _ hx'
    have h2 := Ob.rel_ren (Ob.rel_mono (M' := Mof X.M0 fun n b q => if (look n σ'.ob).isSome then F (ρ n) b q else False) this (Ext.refl _ w) hM fun _ _ => rfl)
    have : (fun b q => if (look n σ'.ob).isSome then F (ρ n) b q else False) = F (ρ n) := by funext b q; rw [hx]; simp
    show x.rel _ w _ n (fun b q => if (look n σ'.ob).isSome then F (ρ n) b q else False)
    rw [this]; exact h2
  · exact hi n m (hF n b q h1).1 (hF m b q h2).1 (h.disj _ _ b q (hF n b q h1).2 (hF m b q h2).2)
  · obtain ⟨u, hu, hle⟩ := SubSl.look hs hv
    exact AV.rel_ren (AV.rel_mono (hle _ _ _ _ (h.slot t u hu)) (Ext.refl _ w) hM)
end
end -- nc
end Go.Proofs.YtgjbehfdjnekdaaGreatDoor.Aw
end
