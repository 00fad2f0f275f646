/- Parts of the proof of one statement: Aw6, Aw7. -/
import Derived.Test.YtgjbehfdjnekdaaGreatDoorT03
set_option linter.all false
section
/- The framework's rows: how they come to be, their elements read and written, appends. -/
set_option linter.unusedVariables false
set_option linter.unusedSimpArgs false
namespace Go.Proofs.YtgjbehfdjnekdaaGreatDoor.Aw
noncomputable section
open Go.RowKit
section
variable {P : Program} {Q : Exit → Act → World → Prop} {X : Ctx} {K : List Item} {σ σ' : St} {o : Oper} {d : Nat}

/-- nil, taken for a row of the call's own. -/
theorem go_nil (n t : Nat) (T : TypeId) (k : Nat) (ht : look t σ.sl = some (D (eqP (.slice none 0 0) rfl))) (hN : t < X.N) (hn : σ.fresh n = true)
    (g : Go P Q X K ((σ.new n (.row T k [])).put t (.val (.one (.ref n 0))))) : Go P Q X K σ := by
  refine go_weak (fun a w ⟨ι, F, h⟩ => ?_) g
  have h1 : a.tmps.getD t undef = .slice none 0 0 := (h.slot t _ ht).1
  have h2 : RI X (upd ι n (.slice none 0 0)) (upd F n fun _ _ => False) (σ.new n (.row T k [])) a w :=
    h.new hn (Kept.refl _ _) (fun _ _ h => h.elim) ⟨fun ps h => by simp at h, by simp, .inl ⟨rfl, upd_same _ _ _, fun _ _ => id⟩⟩
  refine ⟨_, _, { h2 with slot := fun s v hv => ?_ }⟩
  simp only [St.put, look_nil, look_cons] at hv
  split at hv
  · rename_i e; injection hv with hv; subst hv; subst e
    show Part.rel _ _ _ (.one (.ref n 0)) (a.tmps.getD s undef)
    rw [h1]
    exact ⟨by show _ = vadd (upd ι n _ n) 0; rw [upd_same]; rfl, rfl⟩
  · exact h2.slot s v hv

/-! ### Literals -/
theorem foldl_set (off : Nat) : ∀ (us : List Value) (k : Nat) (cs : Array Value), off + k + us.length ≤ cs.size →
    ((us.zipIdx k).foldl (fun cs x => cs.setIfInBounds (off + x.2) x.1) cs).toList = cs.toList.take (off + k) ++ us ++ cs.toList.drop (off + k + us.length)
  | [], k, cs, _ => by simp
  | u :: us, k, cs, h => by
    simp only [List.zipIdx_cons, List.foldl_cons]
    simp only [List.length_cons] at h
    rw [foldl_set off us (k + 1) _ (by simp; omega)]
    have e := list_seg_step cs.toList (off + k) u us (by simp; omega)
    simp only [Array.toList_setIfInBounds, List.length_cons] at e ⊢
    rw [← e]
    congr 2 <;> congr 1 <;> omega

theorem fold_array (off : Nat) (us : Array Value) (cs : Array Value) (h : off + us.size ≤ cs.size) :
    (us.zipIdx.foldl (fun cs x => cs.setIfInBounds (off + x.2) x.1) cs).toList = cs.toList.take off ++ us.toList ++ cs.toList.drop (off + us.size) := by
  have := foldl_set off us.toList 0 cs (by simpa using h)
  simp only [Nat.add_zero, Array.length_toList] at this
  rw [← this, ← Array.foldl_toList, Array.toList_zipIdx]

def fillC (place : Nat → Option (Nat × Nat)) (cs : List Cell) : List (Nat × Part) → Option (List Cell)
  | [] => some cs
  | (i, p) :: r => match place i with
    | some (off, size) => if p.cells.length = size ∧ off + size ≤ cs.length then fillC place (setCells cs off p.cells) r else none
    | none => none

theorem fill_rel {ι : Nat → Value} {w : World} {M : Cells} {place : Nat → Option (Nat × Nat)} : ∀ {ps : List (Nat × Part)} {vs : List (Nat × Value)} {cs cs' : List Cell} {us : Array Value},
    cellsRel ι w M cs us.toList → ps.map (·.1) = vs.map (·.1) → partsRel ι w M (ps.map (·.2)) (vs.map (·.2)) → fillC place cs ps = some cs' → ∃ us', Instr.fill place us vs = some us' ∧ cellsRel ι w M cs' us'.toList
  | [], [], cs, cs', us, h, _, _, hf => by simp only [fillC, Option.some.injEq] at hf; subst hf; exact ⟨us, rfl, h⟩
  | [], v :: vs, cs, cs', us, h, h1, _, hf => by simp at h1
  | p :: ps, [], cs, cs', us, h, h1, _, hf => by simp at h1
  | (i, p) :: ps, (j, v) :: vs, cs, cs', us, h, h1, h2, hf => by
    simp only [List.map_cons, List.cons.injEq] at h1
    obtain ⟨rfl, h1⟩ := h1
    simp only [fillC] at hf
    split at hf
    · rename_i off size hp
      split at hf
      · rename_i hc
        have hpr : p.rel ι w M v := h2.2 0 p v rfl rfl
        have hcr := Part.rel_cells hpr
        have hsz : v.cells.size = size := by have := hcr.1; simp only [Array.length_toList] at this; omega
        have hle : off + v.cells.size ≤ us.size := by have := h.1; simp only [Array.length_toList] at this; omega
        have hset := cellsRel_set h hcr (off := off) (by omega)
        simp only [Array.length_toList] at hset
        rw [← fold_array off v.cells us hle] at hset
        obtain ⟨us', h3, h4⟩ := fill_rel (place := place) (ps := ps) (vs := vs) hset h1 ⟨by have := h2.1; simpa using this, fun i p' u hp' hu => h2.2 (i + 1) p' u (by simpa using hp') (by simpa using hu)⟩ hf
        refine ⟨us', ?_, h4⟩
        simp only [Instr.fill, hp]
        rw [if_neg (by simp [hsz]; omega)]
        exact h3
      · cases hf
    · cases hf

def St.fparts (σ : St) : List (Nat × Operand) → Option (List (Nat × Part))
  | [] => some []
  | (i, x) :: l => match σ.opd x, St.fparts σ l with
    | some (.val p), some ps => some ((i, p) :: ps)
    | _, _ => none
theorem RI.fparts {ι : Nat → Value} {F : Nat → Cells} {a : Act} {w : World} (h : RI X ι F σ a w) : ∀ {xs : List (Nat × Operand)} {ps : List (Nat × Part)}, σ.fparts xs = some ps →
    ps.map (·.1) = (xs.map fun x => (x.1, a.eval x.2)).map (·.1) ∧ partsRel ι w (Mof X.M0 F) (ps.map (·.2)) ((xs.map fun x => (x.1, a.eval x.2)).map (·.2))
  | [], ps, hp => by simp only [St.fparts, Option.some.injEq] at hp; subst hp; exact ⟨rfl, rfl, fun i p u hp => by simp at hp⟩
  | (i, x) :: xs, ps, hp => by
    simp only [St.fparts] at hp
    split at hp
    · rename_i p qs h1 h2
      injection hp with hp; subst hp
      have ih := RI.fparts h h2
      refine ⟨by simp only [List.map_cons, ih.1], by simpa using ih.2.1, fun i p' u hp' hu => ?_⟩
      cases i with
      | zero => simp only [List.getElem?_cons_zero, List.map_cons, Option.some.injEq] at hp' hu; subst hp'; subst hu; exact h.opd h1
      | succ i => exact ih.2.2 i p' u (by simpa using hp') (by simpa using hu)
    · cases hp

/-- A struct (an array) is built. -/
theorem step_build {T : TypeId} {parts : Array (Nat × Operand)} {z : Value} {zc cs : List Cell} {ps : List (Nat × Part)} {place : Nat → Option (Nat × Nat)} (hz : ∀ w, (zeroValue T).run P w = .ok z w) (hc : zcells z.cells.toList = some zc)
    (hb : ∀ (vs : Array (Nat × Value)) (w : World) (us : Array Value), Instr.fill place z.cells vs.toList = some us → (Instr.build T vs).run P w = .ok (.agg us) w) (ho : o.op = .build T parts) (hd : o.dst = some d) (hN : d < X.N)
    (hp : σ.fparts parts.toList = some ps) (hf : fillC place zc ps = some cs) : StepS P X o σ (σ.put d (.val (.agg cs))) :=
  step_val hd hN fun ι F a w h => by
    obtain ⟨h1, h2⟩ := h.fparts hp
    obtain ⟨us, h3, h4⟩ := fill_rel (zcells_rel ι w (Mof X.M0 F) hc) h1 h2 hf
    refine ⟨.agg us, ?_, us, rfl, h4⟩
    unfold execOp
    have := hb (parts.map fun x => (x.1, a.eval x.2)) w us (by rw [Array.toList_map]; exact h3)
    simp only [ho, this, Sem.run_bind, Sem.run_pure, Result.andThen_ok]

theorem zrep_rel {ι : Nat → Value} {w : World} {M : Cells} {zs : List Value} {zc : List Cell} (hc : zcells zs = some zc) (n : Nat) :
    cellsRel ι w M (List.replicate n .any) (((Array.range n).map fun i => zs.toArray[i % zs.toArray.size]!).toList) ∨ zs = [] := by
  cases zs with
  | nil => exact .inr rfl
  | cons z zs =>
    refine .inl ⟨by simp, fun i c v hcc hv => ?_⟩
    have hcell : c = .any := by rw [List.getElem?_replicate] at hcc; split at hcc; · injection hcc with h; exact h.symm
                                · cases hcc
    subst hcell
    refine ⟨trivial, ?_⟩
    simp only [Array.toList_map, List.getElem?_map, Option.map_eq_some_iff] at hv
    obtain ⟨j, _, rfl⟩ := hv
    have hlt : j % (z :: zs).toArray.size < (z :: zs).toArray.size := Nat.mod_lt _ (by simp)
    rw [getElem!_pos (z :: zs).toArray (j % (z :: zs).toArray.size) hlt]
    have hr := zcells_rel ι w M hc
    have hl : j % (z :: zs).toArray.size < zc.length := by rw [hr.1]; simpa using hlt
    exact (hr.2 (j % (z :: zs).toArray.size) zc[j % (z :: zs).toArray.size] _ (List.getElem?_eq_getElem hl) (by rw [List.getElem?_eq_getElem (by simpa using hlt)]; simp)).2

theorem row_of_cells {ι : Nat → Value} {w : World} {M : Cells} {k : Nat} {els : List (List Pred)} {us : Array Value} (hk : ∀ ps ∈ els, ps.length = k) (h : cellsRel ι w M (els.flatten.map .dat) us.toList) :
    us.size = els.length * k ∧ ∀ (i : Nat) (ps : List Pred), els[i]? = some ps → ∀ (j : Nat) (p : Pred), ps[j]? = some p → ∃ c, us[0 + i * k + j]? = some c ∧ p.p w M c := by
  have hlen : els.flatten.length = els.length * k := by
    clear h
    induction els with
    | nil => simp
    | cons x xs ih => simp only [List.flatten_cons, List.length_append, List.length_cons, Nat.add_mul, hk x (by simp), ih fun ps hps => hk ps (by simp [hps])]; omega
  refine ⟨by have := h.1; simp only [List.length_map, Array.length_toList] at this; omega, fun i ps hi j p hj => ?_⟩
  have hidx : ∀ (els : List (List Pred)) (i : Nat), (∀ ps ∈ els, ps.length = k) → els[i]? = some ps → els.flatten[i * k + j]? = some p := by
    intro els
    induction els with
    | nil => intro i _ hi; simp at hi
    | cons x xs ih =>
      intro i hk hi
      have hx := hk x (by simp)
      have hjk : j < x.length ∨ True := .inr trivial
      cases i with
      | zero =>
        simp only [List.getElem?_cons_zero, Option.some.injEq] at hi; subst hi
        have hlt : j < x.length := by rcases Nat.lt_or_ge j x.length with h | h; exact h; simp [List.getElem?_eq_none h] at hj
        rw [List.flatten_cons, Nat.zero_mul, Nat.zero_add, List.getElem?_append_left hlt, hj]
      | succ i =>
        rw [List.flatten_cons, List.getElem?_append_right (by rw [hx, Nat.succ_mul]; omega), hx]
        have := ih i (fun ps hps => hk ps (by simp [hps])) (by simpa using hi)
        rw [show (i + 1) * k + j - k = i * k + j by rw [Nat.succ_mul]; omega]
        exact this
  have h1 := hidx els i hk hi
  have hlt : i * k + j < us.toList.length := by rw [← h.1]; simp only [List.length_map]; rcases Nat.lt_or_ge (i * k + j) els.flatten.length with h | h; exact h; simp [List.getElem?_eq_none h] at h1
  have hc := h.2 (i * k + j) (.dat p) us.toList[i * k + j] (by rw [List.getElem?_map, h1]; rfl) (List.getElem?_eq_getElem hlt)
  exact ⟨us.toList[i * k + j], by rw [Nat.zero_add, ← Array.getElem?_toList]; exact List.getElem?_eq_getElem hlt, hc.1⟩

/-- A literal of a slice. -/
theorem step_lit (n : Nat) {T E : TypeId} {parts : Array (Nat × Operand)} {z : Value} {zc : List Cell} {k len : Nat} {ps : List (Nat × Part)} {els : List (List Pred)} (hu : P.underlying T = some (.slice E)) (hS : ∀ w, (sizeOf E).run P w = .ok k w)
    (hz : ∀ w, (zeroValue E).run P w = .ok z w) (hc : zcells z.cells.toList = some zc) (hzl : zc.length = k) (h0 : 0 < k) (hsm : len * k ≤ 16777216) (ho : o.op = .buildSlice T len parts) (hd : o.dst = some d) (hN : d < X.N) (hn : σ.fresh n = true)
    (hp : σ.fparts parts.toList = some ps) (hf : fillC (fun i => some (i * k, k)) (List.replicate (len * k) .any) ps = some (els.flatten.map .dat)) (hk : els.all (fun ps => ps.length == k) = true) (hl : els.length = len) :
    StepS P X o σ ((σ.new n (.row E k els)).put d (.val (.one (.ref n 0)))) := by
  intro a w ⟨ι, F, h⟩
  have hk' : ∀ ps ∈ els, ps.length = k := by simpa using hk
  have hzs : z.cells.size = k := by have := (zcells_rel ι w (Mof X.M0 F) hc).1; simp only [Array.length_toList] at this; omega
  have hrep := (zrep_rel (ι := ι) (w := w) (M := Mof X.M0 F) hc (len * k)).resolve_right (by intro e; have : z.cells.toList.length = k := by simpa using hzs
                                                                                             rw [e] at this; simp at this; omega)
  simp only [Array.toArray_toList] at hrep
  obtain ⟨h1, h2⟩ := h.fparts hp
  obtain ⟨us, h3, h4⟩ := fill_rel hrep h1 h2 hf
  have hrun : (execOp a.eval o).run P w = .ok (.value (.slice (some ⟨w.heap.size, 0, none⟩) len len)) (w.alloc (.cells us E)) := by
    unfold execOp
    simp only [ho, Instr.buildSlice, Sem.run_bind, run_underlying hu, Result.andThen_ok, hS, Sem.run_ite, if_neg (show ¬ len * k > 2 ^ 24 by omega), Array.toList_map]
    by_cases e : len * k = 0
    · have h00 : ∀ f : Nat → Value, (Array.range (len * k)).map f = #[] := fun f => Array.eq_empty_of_size_eq_zero (by simp [e])
      rw [h00] at h3
      simp only [if_pos e, Sem.run_pure, Result.andThen_ok, h00]
      rw [h3]
      simp only [newRow, Sem.run_bind, Sem.run_pure, Result.andThen_ok, run_newObj]
      rfl
    · simp only [if_neg e, Sem.run_bind, hz, Sem.run_pure, Result.andThen_ok]
      rw [h3]
      simp only [newRow, Sem.run_bind, Sem.run_pure, Result.andThen_ok, run_newObj]
      rfl
  unfold Oper.wp
  rw [hrun, Oper.upon_value, hd]
  obtain ⟨hsz, hcl⟩ := row_of_cells hk' h4
  have hMM : ∀ b q, b < w.heap.size → Mof X.M0 (upd F n fun b' _ => b' = w.heap.size) b q → Mof X.M0 F b q := by
    rintro b q hb (hm | ⟨m, hm⟩)
    · exact .inl hm
    · by_cases e : m = n
      · subst e; rw [upd_same] at hm; have hm : b = w.heap.size := hm; omega
      · rw [upd_other _ _ e] at hm; exact .inr ⟨m, hm⟩
  have hlen : len ≤ 16777216 := Nat.le_trans (Nat.le_mul_of_pos_right _ h0) hsm
  have hnew := h.new (n := n) (x := .row E k els) (v := .slice (some ⟨w.heap.size, 0, none⟩) len len) (G := fun b _ => b = w.heap.size) hn (kept_alloc w (.cells us E)) (fun b q e => by have e : b = w.heap.size := e; subst e; simp)
    ⟨hk', by rw [hl, LEN_eq]; omega, .inr ⟨w.heap.size, 0, len, us, by rw [upd_same, hl], heap_alloc_new w _, by omega, by simp only [maxLen]; omega, by rw [hsz, hl]; omega, fun i ps hi j p hj => by
      obtain ⟨c, hc1, hc2⟩ := hcl i ps hi j p hj
      exact ⟨c, hc1, p.mono hc2 ((kept_alloc w _).ext fun _ _ h => h.elim) hMM⟩, fun _ _ => Iff.rfl⟩⟩
  exact ⟨_, _, hnew.put hN ⟨by show _ = vadd (upd ι n _ n) 0; rw [upd_same]; rfl, rfl⟩⟩
end
end -- nc
end Go.Proofs.YtgjbehfdjnekdaaGreatDoor.Aw
end
section
/- The framework's rows, second part: elements, appends, freezing. -/
set_option linter.unusedVariables false
set_option linter.unusedSimpArgs false
namespace Go.Proofs.YtgjbehfdjnekdaaGreatDoor.Aw
noncomputable section
open Go.RowKit

def Ob.isRow (k : Nat) (els : List (List Pred)) : Ob → Prop
  | .row _ k' els' => k' = k ∧ els' = els
  | .tok _ k' els' => k' = k ∧ els' = els
  | _ => False

section
variable {P : Program} {Q : Exit → Act → World → Prop} {X : Ctx} {K : List Item} {σ σ' : St} {o : Oper} {d : Nat}

theorem vadd0 (v : Value) : vadd v 0 = v := by
  unfold vadd
  split
  · rename_i a; simp [Addr.add]
  · rfl

/-- What rows have in common. -/
theorem Ob.rel_slice {ι : Nat → Value} {w : World} {M : Cells} {n k : Nat} {F : Cells} {x : Ob} {els : List (List Pred)} (h : x.rel ι w M n F) (hx : x.isRow k els) :
    (∀ ps ∈ els, ps.length = k) ∧ els.length ≤ LEN ∧ ((els = [] ∧ ι n = .slice none 0 0) ∨ ∃ b o cap, ι n = .slice (some ⟨b, o, none⟩) els.length cap ∧ els.length ≤ cap ∧ cap ≤ maxLen ∧
      ∀ (i : Nat) (ps : List Pred), els[i]? = some ps → ∀ (j : Nat) (p : Pred), ps[j]? = some p → ∃ c, w.cell? ⟨b, o + i * k + j, none⟩ = some c ∧ p.p w M c) := by
  cases x with
  | box T cs => exact hx.elim
  | row T k' els' =>
    obtain ⟨rfl, rfl⟩ := hx
    obtain ⟨h1, h2, h3⟩ := h
    refine ⟨h1, h2, ?_⟩
    rcases h3 with h3 | ⟨b, o, cap, cur, a1, a2, a3, a4, a5, a6, a7⟩
    · exact .inl ⟨h3.1, h3.2.1⟩
    · refine .inr ⟨b, o, cap, a1, a3, a4, fun i ps hi j p hj => ?_⟩
      obtain ⟨c, hc, hp⟩ := a6 i ps hi j p hj
      exact ⟨c, by rw [cell_of_row w b _ cur T (0, 0) a2]; exact hc, hp⟩
  | tok T k' els' =>
    obtain ⟨rfl, rfl⟩ := hx
    obtain ⟨h1, h2, h3⟩ := h
    refine ⟨h1, h2, ?_⟩
    rcases h3 with h3 | ⟨b, o, cap, a1, a2, a3, a4, a5⟩
    · exact .inl ⟨h3.1, h3.2.1⟩
    · refine .inr ⟨b, o, cap, a1, a2, a3, fun i ps hi j p hj => ?_⟩
      obtain ⟨c, _, hc, hp⟩ := a4 i ps hi j p hj
      exact ⟨c, hc, hp⟩

theorem step_len_row {T E : TypeId} {x : Operand} {n k m : Nat} {els : List (List Pred)} {y : Ob} (hu : P.underlying T = some (.slice E)) (ho : o.op = .call { callee := .builtin .len, args := #[x], argTypes := #[T] }) (hd : o.dst = some d) (hN : d < X.N)
    (hx : σ.opd x = some (.val (.one (.ref n 0)))) (hb : look n σ.ob = some y) (hy : y.isRow k els) (hn : els.length = m) : StepS P X o σ (σ.put d (D (intP .i64 m))) :=
  step_val hd hN fun ι F a w h => by
    subst hn
    have he : a.eval x = ι n := ((h.opd hx).1).trans (vadd0 _)
    obtain ⟨_, hl, hs⟩ := Ob.rel_slice (h.obj n y hb) hy
    refine ⟨.int .i64 els.length, ?_, rfl, rfl⟩
    unfold execOp
    rcases hs with ⟨rfl, hs⟩ | ⟨b, q, cap, hs, _⟩ <;> simp [ho, resolve, invoke, builtin, Builtin.len_, run_underlying hu, he, hs, goInt]

/-- The address of an element of a row of the call's own. -/
theorem step_elem_row {T E T' : TypeId} {x y : Operand} {j : IntKind} {n k q : Nat} {m : Int} {els : List (List Pred)} (hu : P.underlying T = some (.slice E)) (hS : ∀ w, (sizeOf E).run P w = .ok k w)
    (ho : o.op = .indexAddr T x y) (hd : o.dst = some d) (hN : d < X.N) (hx : σ.opd x = some (.val (.one (.ref n 0)))) (hy : σ.opd y = some (D (intP j m))) (hb : look n σ.ob = some (.row T' k els)) (h0 : 0 ≤ m) (h1 : m.toNat < els.length) (hq : m.toNat * k = q) :
    StepS P X o σ (σ.put d (.val (.one (.el n q)))) :=
  step_val hd hN fun ι F a w h => by
    subst hq
    have he : a.eval x = ι n := ((h.opd hx).1).trans (vadd0 _)
    have h2 : a.eval y = .int j m := (h.opd hy).1
    obtain ⟨_, _, hs⟩ := Ob.rel_slice (h.obj n _ hb) ⟨rfl, rfl⟩
    rcases hs with ⟨rfl, _⟩ | ⟨b, q, cap, hs, _⟩
    · simp at h1
    · refine ⟨.pointer (some ⟨b, q + m.toNat * k, none⟩), by
        unfold execOp
        simp [ho, he, hs, h2, Instr.indexAt, asIntOf, run_underlying hu, hS, add_add, h0, show m < (els.length : Int) by omega], ⟨b, q, _, cap, hs, rfl⟩, rfl⟩
theorem step_elem_tok {T E T' : TypeId} {x y : Operand} {j : IntKind} {n k : Nat} {m : Int} {els : List (List Pred)} {ps : List Pred} (hu : P.underlying T = some (.slice E)) (hS : ∀ w, (sizeOf E).run P w = .ok k w)
    (ho : o.op = .indexAddr T x y) (hd : o.dst = some d) (hN : d < X.N) (hx : σ.opd x = some (.val (.one (.ref n 0)))) (hy : σ.opd y = some (D (intP j m))) (hb : look n σ.ob = some (.tok T' k els)) (h0 : 0 ≤ m) (h1 : els[m.toNat]? = some ps) :
    StepS P X o σ (σ.put d (D (ptrP ps))) :=
  step_val hd hN fun ι F a w h => by
    have he : a.eval x = ι n := ((h.opd hx).1).trans (vadd0 _)
    have h2 : a.eval y = .int j m := (h.opd hy).1
    have hlt : m.toNat < els.length := by rcases Nat.lt_or_ge m.toNat els.length with h | h; exact h; simp [List.getElem?_eq_none h] at h1
    obtain ⟨_, _, hs⟩ := h.obj n _ hb
    rcases hs with ⟨rfl, _⟩ | ⟨b, q, cap, hs, _, _, hc, _⟩
    · simp at hlt
    · refine ⟨.pointer (some ⟨b, q + m.toNat * k, none⟩), by
        unfold execOp
        simp [ho, he, hs, h2, Instr.indexAt, asIntOf, run_underlying hu, hS, add_add, h0, show m < (els.length : Int) by omega], ⟨b, _, rfl, hc _ _ h1⟩, rfl⟩

theorem el_at {ι : Nat → Value} {F : Nat → Cells} {a : Act} {w : World} (h : RI X ι F σ a w) {x : Operand} {n q k i j : Nat} {T : TypeId} {els : List (List Pred)} {ps : List Pred} (hx : σ.opd x = some (.val (.one (.el n q)))) (hb : look n σ.ob = some (.row T k els))
    (hq : q = i * k + j) (hi : els[i]? = some ps) : ∃ b o cap cur, a.eval x = .pointer (some ⟨b, o + q, none⟩) ∧ ι n = .slice (some ⟨b, o, none⟩) els.length cap ∧ w.heap[b]? = some (.cells cur T (0, 0)) ∧ els.length ≤ cap ∧ cap ≤ maxLen ∧ o + cap * k ≤ cur.size ∧
      (∀ (i : Nat) (ps : List Pred), els[i]? = some ps → ∀ (j : Nat) (p : Pred), ps[j]? = some p → ∃ c, cur[o + i * k + j]? = some c ∧ p.p w (Mof X.M0 F) c) ∧ (∀ b' q, F n b' q ↔ b' = b) ∧ (∀ ps ∈ els, ps.length = k) ∧ els.length ≤ LEN := by
  obtain ⟨hk, hl, hs⟩ := h.obj n _ hb
  have hlt : i < els.length := by rcases Nat.lt_or_ge i els.length with h | h; exact h; simp [List.getElem?_eq_none h] at hi
  rcases hs with ⟨rfl, _⟩ | ⟨b, o, cap, cur, h1, h2, h3, h4, h5, h6, h7⟩
  · simp at hlt
  · obtain ⟨⟨b', o', l', c', e1, e2⟩, _⟩ := h.opd hx
    rw [h1] at e1; injection e1 with e1 _ _; injection e1 with e1; injection e1 with e3 e4; subst e3; subst e4
    exact ⟨b, o, cap, cur, e2, h1, h2, h3, h4, h5, h6, h7, hk, hl⟩

theorem step_load_el {T T' : TypeId} {x : Operand} {n q k kk i j : Nat} {els : List (List Pred)} {ps qs : List Pred} (hA : ∀ w, (isAgg T).run P w = .ok true w) (hS : ∀ w, (sizeOf T).run P w = .ok kk w) (ho : o.op = .load T x) (hd : o.dst = some d) (hN : d < X.N)
    (hx : σ.opd x = some (.val (.one (.el n q)))) (hb : look n σ.ob = some (.row T' k els)) (hq : q = i * k + j) (hi : els[i]? = some ps) (hkk : j + kk ≤ ps.length) (hr : (ps.drop j).take kk = qs) : StepS P X o σ (σ.put d (.val (.agg (qs.map .dat)))) :=
  step_val hd hN fun ι F a w h => by
    subst hr
    obtain ⟨b, q0, cap, cur, h1, _, h2, _, _, _, h6, _⟩ := el_at h hx hb hq hi
    have hv : ∀ t, t < kk → ∃ c p, cur[q0 + q + t]? = some c ∧ ps[j + t]? = some p ∧ p.p w (Mof X.M0 F) c := fun t ht => by
      have hp : ps[j + t]? = some ps[j + t] := List.getElem?_eq_getElem (by omega)
      obtain ⟨c, hc, hp'⟩ := h6 i ps hi (j + t) _ hp
      exact ⟨c, _, by rw [← hc]; congr 1; omega, hp, hp'⟩
    have hsz : kk = 0 ∨ q0 + q + kk ≤ cur.size := by
      rcases Nat.eq_zero_or_pos kk with e | e
      · exact .inl e
      · obtain ⟨c, p, hc, _⟩ := hv (kk - 1) (by omega)
        have : q0 + q + (kk - 1) < cur.size := by rcases Nat.lt_or_ge (q0 + q + (kk - 1)) cur.size with h | h; exact h; simp [Array.getElem?_eq_none h] at hc
        exact .inr (by omega)
    have hl : (loadCells ⟨b, q0 + q, none⟩ ((cur.toList.drop (q0 + q)).take kk).length).run P w = .ok ((cur.toList.drop (q0 + q)).take kk).toArray w :=
      run_loadCells_list (P := P) w ⟨b, q0 + q, none⟩ _ fun t v hv => by
        rw [add_add, cell_of_row w b _ cur T' (0, 0) h2]
        rw [List.getElem?_take, List.getElem?_drop] at hv
        split at hv
        · simpa using hv
        · cases hv
    have hlen : ((cur.toList.drop (q0 + q)).take kk).length = kk := by simp only [List.length_take, List.length_drop, Array.length_toList]; omega
    rw [hlen] at hl
    refine ⟨.agg ((cur.toList.drop (q0 + q)).take kk).toArray, by unfold execOp; simp only [ho, h1, Instr.loadAt, Instr.sureAddr, loadVar, Sem.run_bind, hA, hS, hl, Result.andThen_ok, Sem.run_pure, if_true], _, rfl, ?_, fun t c v hc hv' => ?_⟩
    · simp only [List.length_map, List.length_take, List.length_drop, Array.length_toList]; omega
    · simp only [List.getElem?_map, List.getElem?_take, List.getElem?_drop] at hc hv'
      split at hc
      · rename_i ht
        rw [if_pos ht] at hv'
        obtain ⟨c', p, e1, e2, e3⟩ := hv t ht
        rw [e2] at hc
        simp only [Option.map_some, Option.some.injEq] at hc
        subst hc
        rw [Array.getElem?_toList] at hv'
        rw [e1] at hv'; injection hv' with hv'; subst hv'
        exact ⟨e3, p.one e3⟩
      · simp at hc
theorem step_load_el1 {T T' : TypeId} {x : Operand} {n q k i j : Nat} {els : List (List Pred)} {ps : List Pred} {p : Pred} (hA : ∀ w, (isAgg T).run P w = .ok false w) (ho : o.op = .load T x) (hd : o.dst = some d) (hN : d < X.N)
    (hx : σ.opd x = some (.val (.one (.el n q)))) (hb : look n σ.ob = some (.row T' k els)) (hq : q = i * k + j) (hi : els[i]? = some ps) (hr : ps[j]? = some p) : StepS P X o σ (σ.put d (D p)) :=
  step_val hd hN fun ι F a w h => by
    obtain ⟨b, q0, cap, cur, h1, _, h2, _, _, _, h6, _⟩ := el_at h hx hb hq hi
    obtain ⟨c, hc, hp⟩ := h6 i ps hi j p hr
    have hcell : w.cell? ⟨b, q0 + q, none⟩ = some c := by rw [cell_of_row w b _ cur T' (0, 0) h2, ← hc]; congr 1; omega
    exact ⟨c, by unfold execOp; simp [ho, h1, Instr.loadAt, Instr.sureAddr, loadVar, hA, hcell], hp, p.one hp⟩
theorem step_field_el {T : TypeId} {x : Operand} {n q j k r : Nat} {fs : Array Field} {f : Field} (hu : P.underlying T = some (.struct fs)) (hf : fs[j]? = some f) (hS : ∀ w, (sizeOf f.type).run P w = .ok (k + 1) w)
    (ho : o.op = .fieldAddr T x j) (hd : o.dst = some d) (hN : d < X.N) (hx : σ.opd x = some (.val (.one (.el n q)))) (hr : q + f.offset = r) : StepS P X o σ (σ.put d (.val (.one (.el n r)))) :=
  step_val hd hN fun ι F a w h => by
    subst hr
    obtain ⟨⟨b, o', l', c', e1, e2⟩, _⟩ := h.opd hx
    exact ⟨.pointer (some ⟨b, o' + (q + f.offset), none⟩), by unfold execOp; simp [ho, e2, Instr.fieldAt, run_underlying hu, hf, Instr.sureAddr, fieldPlace, hS, add_add, Nat.add_assoc], ⟨b, o', l', c', e1, rfl⟩, rfl⟩

/-- A store into an element of a row of the call's own. -/
theorem step_store_el {T T' : TypeId} {x y : Operand} {n q k kk i j : Nat} {els els' : List (List Pred)} {ps qs : List Pred} {p : Part} (hS : ∀ w, (sizeOf T).run P w = .ok kk w) (ho : o.op = .store T x y) (hd : o.dst = none)
    (hx : σ.opd x = some (.val (.one (.el n q)))) (hy : σ.opd y = some (.val p)) (hb : look n σ.ob = some (.row T' k els)) (hp : p.cells = qs.map .dat) (hkk : qs.length = kk) (hq : q = i * k + j) (hi : els[i]? = some ps) (hfit' : j + kk ≤ k)
    (hr : els.set i (ps.take j ++ qs ++ ps.drop (j + kk)) = els') : StepS P X o σ ⟨σ.sl, (n, .row T' k els') :: σ.ob⟩ := by
  intro a w ⟨ι, F, h⟩
  subst hr
  obtain ⟨b, q0, cap, cur, h1, hι, h2, h3, h4, h5, h6, h7, hk, hl⟩ := el_at h hx hb hq hi
  have hcr := Part.rel_cells (h.opd hy)
  rw [hp] at hcr
  have hpk : ps.length = k := hk ps (List.mem_of_getElem? hi)
  have hfit : j + kk ≤ ps.length := by omega
  have hilt : i < els.length := by rcases Nat.lt_or_ge i els.length with h | h; exact h; simp [List.getElem?_eq_none h] at hi
  have hlen : (a.eval y).cells.size = kk := by have := hcr.1; simp only [List.length_map, Array.length_toList] at this; omega
  have hin : i * k + k ≤ cap * k := by
    have : (i + 1) * k ≤ cap * k := Nat.mul_le_mul_right _ (by omega)
    rw [Nat.succ_mul] at this; exact this
  have hst := run_storeCells_at P b (q0 + q) T' (a.eval y).cells.toList 0 cur w h2 (by simp only [Array.length_toList]; omega) fun v hv => by
    obtain ⟨t, ht, rfl⟩ := List.getElem_of_mem hv
    have ht' : t < (qs.map Cell.dat).length := by rw [hcr.1]; exact ht
    exact (hcr.2 t _ _ (List.getElem?_eq_getElem ht') (List.getElem?_eq_getElem ht)).2
  simp only [Nat.add_zero] at hst
  generalize hnew : (cur.toList.take (q0 + q) ++ (a.eval y).cells.toList ++ cur.toList.drop (q0 + q + (a.eval y).cells.toList.length)).toArray = new at hst
  have hrun : (execOp a.eval o).run P w = .ok .skip (w.setRow b new) := by
    unfold execOp
    have hcond : ¬ ((a.eval y).cells.size ≠ kk) := by omega
    simp only [ho, h1, Instr.storeAt, Instr.sureAddr, storeVar, Sem.run_bind, Sem.run_pure, Result.andThen_ok, hS, Sem.run_ite, if_neg hcond, hst]
  unfold Oper.wp
  rw [hrun, Oper.upon_skip, hd]
  have hkF : Kept (F n) w (w.setRow b new) := (kept_setRow (new := new) h2).mono fun b' q e => (h7 b' q).2 e
  have hE : Ext (Mof X.M0 F) w (w.setRow b new) := hkF.ext fun b q hf => Mof_F hf
  have hM : ∀ b q, b < w.heap.size → Mof X.M0 F b q → Mof X.M0 F b q := fun _ _ _ h => h
  have hsize : new.size = cur.size := by rw [← hnew]; simp only [List.size_toArray, List.length_append, List.length_take, List.length_drop, Array.length_toList]; omega
  have hget : ∀ t, new[t]? = if t < q0 + q then cur[t]? else if t < q0 + q + kk then (a.eval y).cells[t - (q0 + q)]? else cur[t]? := by
    intro t
    rw [← hnew, List.getElem?_toArray]
    have htk : (cur.toList.take (q0 + q)).length = q0 + q := by simp; omega
    by_cases e1 : t < q0 + q
    · rw [if_pos e1, List.append_assoc, List.getElem?_append_left (by omega), List.getElem?_take, if_pos e1, Array.getElem?_toList]
    · rw [if_neg e1, List.append_assoc, List.getElem?_append_right (by omega), htk]
      by_cases e2 : t < q0 + q + kk
      · rw [if_pos e2, List.getElem?_append_left (by simp; omega), Array.getElem?_toList]
      · rw [if_neg e2, List.getElem?_append_right (by simp; omega), List.getElem?_drop, Array.getElem?_toList]
        congr 1
        simp only [Array.length_toList]; omega
  refine ⟨ι, F, h.write hb hkF ⟨fun ps' hps' => ?_, by simpa using hl, .inr ⟨b, q0, cap, new, by rw [hι]; simp, setRow_heap w b cur _ T' (0, 0) h2, by simpa using h3, h4, by rw [hsize]; exact h5, fun i' ps' hi' j' p' hj' => ?_, h7⟩⟩⟩
  · rcases List.mem_or_eq_of_mem_set hps' with h' | h'
    · exact hk ps' h'
    · subst h'; simp only [List.length_append, List.length_take, List.length_drop]; omega
  · by_cases e : i' = i
    · subst e
      rw [List.getElem?_set_self hilt] at hi'
      injection hi' with hi'; subst hi'
      have htk : (ps.take j).length = j := by simp; omega
      by_cases e1 : j' < j
      · rw [List.append_assoc, List.getElem?_append_left (by omega), List.getElem?_take, if_pos e1] at hj'
        obtain ⟨c, hc, hpc⟩ := h6 i' ps hi j' p' hj'
        exact ⟨c, by rw [hget, if_pos (by omega)]; exact hc, p'.mono hpc hE hM⟩
      · rw [List.append_assoc, List.getElem?_append_right (by omega), htk] at hj'
        by_cases e2 : j' < j + kk
        · rw [List.getElem?_append_left (by omega)] at hj'
          have hlt : j' - j < (a.eval y).cells.toList.length := by simp only [Array.length_toList]; omega
          have := hcr.2 (j' - j) (.dat p') _ (by simp [hj']) (List.getElem?_eq_getElem hlt)
          refine ⟨_, ?_, p'.mono this.1 hE hM⟩
          rw [hget, if_neg (by omega), if_pos (by omega), ← Array.getElem?_toList, ← List.getElem?_eq_getElem hlt]
          congr 1; omega
        · rw [List.getElem?_append_right (by omega), List.getElem?_drop] at hj'
          obtain ⟨c, hc, hpc⟩ := h6 i' ps hi j' p' (by rw [← hj']; congr 1; omega)
          exact ⟨c, by rw [hget, if_neg (by omega), if_neg (by omega)]; exact hc, p'.mono hpc hE hM⟩
    · rw [List.getElem?_set_ne (fun e' => e e'.symm)] at hi'
      obtain ⟨c, hc, hpc⟩ := h6 i' ps' hi' j' p' hj'
      have hj'k : j' < k := by
        rw [← hk ps' (List.mem_of_getElem? hi')]
        rcases Nat.lt_or_ge j' ps'.length with h | h; exact h; simp [List.getElem?_eq_none h] at hj'
      refine ⟨c, ?_, p'.mono hpc hE hM⟩
      rw [hget]
      rcases Nat.lt_or_gt_of_ne e with e | e
      · have : (i' + 1) * k ≤ i * k := Nat.mul_le_mul_right _ e
        rw [Nat.succ_mul] at this
        rw [if_pos (by omega)]; exact hc
      · have : (i + 1) * k ≤ i' * k := Nat.mul_le_mul_right _ e
        rw [Nat.succ_mul] at this
        rw [if_neg (by omega), if_neg (by omega)]; exact hc
/-- A store of a whole element. -/
theorem step_store_full {T T' : TypeId} {x y : Operand} {n q k i : Nat} {els els' : List (List Pred)} {qs : List Pred} {p : Part} (hS : ∀ w, (sizeOf T).run P w = .ok k w) (ho : o.op = .store T x y) (hd : o.dst = none)
    (hx : σ.opd x = some (.val (.one (.el n q)))) (hy : σ.opd y = some (.val p)) (hb : look n σ.ob = some (.row T' k els)) (hp : p.cells = qs.map .dat) (hkk : qs.length = k) (hq : q = i * k) (hi : i < els.length)
    (hr : els.set i qs = els') : StepS P X o σ ⟨σ.sl, (n, .row T' k els') :: σ.ob⟩ := by
  intro a w hR
  have hps : els[i]? = some els[i] := List.getElem?_eq_getElem hi
  have hlen : els[i].length = k := by
    obtain ⟨ι, F, h⟩ := hR
    exact (h.obj n _ hb).1 _ (List.getElem_mem hi)
  exact step_store_el hS ho hd hx hy hb hp hkk (j := 0) (by rw [hq]; rfl) hps (by omega) (by rw [← hr]; congr 1; simp [hlen]) a w hR

end
end -- nc
end Go.Proofs.YtgjbehfdjnekdaaGreatDoor.Aw
end
