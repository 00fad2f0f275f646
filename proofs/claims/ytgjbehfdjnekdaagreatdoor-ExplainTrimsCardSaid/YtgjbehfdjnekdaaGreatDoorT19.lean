/- Parts of the proof of one statement: Xc9, Xc10. -/
import Derived.MapKept
import Derived.Test.YtgjbehfdjnekdaaGreatDoorT18
set_option linter.all false
section
/- A closed run: closures, rows that are made, maps made, iterators. -/
set_option linter.unusedVariables false
set_option linter.unusedSimpArgs false
namespace Go.Proofs.YtgjbehfdjnekdaaGreatDoor.Xc
noncomputable section
open Go.RowKit
open Go.Proofs.YtgjbehfdjnekdaaGreatDoor.Aw (Kept nlt nle retv getD_put op_steps add_add kept_alloc kept_setRow kept_drew)

def onesX (rd : Rd) : List Operand → Option (List Xv)
  | [] => some []
  | x :: l => match rd.one x, onesX rd l with
    | some c, some cs => some (c :: cs)
    | _, _ => none

section
variable {P : Program} {X : Ctx} {U : Us} {σ μ : XS} {o : Oper} {d lo : Nat} {T : Tab} {E : Env} {a : Act} {w : World} {rd : Rd}

theorem onesX_rel (h : RdOK rd E U a) : ∀ {xs : List Operand} {cs : List Xv}, onesX rd xs = some cs → cellsRel E U cs (xs.map a.eval)
  | [], cs, hc => by simp only [onesX, Option.some.injEq] at hc; subst hc; exact ⟨rfl, fun i c v hc => by simp at hc⟩
  | x :: xs, cs, hc => by
    simp only [onesX] at hc
    split at hc
    · rename_i c cs' h1 h2
      injection hc with hc; subst hc
      have ih := onesX_rel h h2
      refine ⟨by simpa using ih.1, fun i c v hc hv => ?_⟩
      cases i with
      | zero => simp only [List.getElem?_cons_zero, List.map_cons, Option.some.injEq] at hc hv; subst hc; subst hv; exact h.one h1
      | succ i => exact ih.2 i c v (by simpa using hc) (by simpa using hv)
    · cases hc

theorem step_func {f : FuncId} {first caps : Array Operand} {cs ds : List Xv} (hs : Sub μ σ) (h1 : onesX μ.opd first.toList = some cs) (h2 : onesX μ.opd caps.toList = some ds) (ho : o.op = .makeFunc (.func f) first caps) (hd : o.dst = some d) (hN : d < X.N) (hfr : ¬ U lo) :
    StepS P X o U σ lo [⟨[], [], some (d, .val (.one (.fnv lo))), [], [(lo, .fn f cs ds)], lo + 1⟩] := by
  refine step_new hd hN hfr fun E a w hr => ?_
  have e1 := onesX_rel (hs.rd hr) h1
  have e2 := onesX_rel (hs.rd hr) h2
  refine ⟨.func (.func f) (first.map a.eval) (caps.map a.eval), .func (.func f) (first.map a.eval) (caps.map a.eval), w, 0, by unfold execOp; simp [ho, Instr.makeFunc], Kept.refl _ _, fun b hb => ?_, ⟨first.toList.map a.eval, caps.toList.map a.eval, ?_, e1.mono (Env.set_le hfr) fun n hn => .inl hn, e2.mono (Env.set_le hfr) fun n hn => .inl hn⟩, .inr ⟨Nat.le_refl _, Nat.lt_succ_self _⟩, Env.set_ι.symm, rfl⟩
  · unfold Env.blk at hb; rw [Env.set_ι] at hb; cases hb
  · rw [Env.set_ι]
    congr 1
    · rw [← Array.toList_map, Array.toArray_toList]
    · rw [← Array.toList_map, Array.toArray_toList]

/-- k cells, n times over. -/
def repL (n : Nat) (cs : List Xv) : List Xv := match n with
  | 0 => []
  | n + 1 => cs ++ repL n cs

def litE (T : Tab) (μ : XS) (d lo : Nat) (t : TypeId) (len : Nat) (parts : List (Nat × Operand)) : Option Eff :=
  match T.ty t with
  | some i => match i.desc with
    | .slice e => match T.ty e, fpartsX μ.opd parts with
      | some j, some ps => if len * j.size ≤ 16777216 ∧ 0 < j.size then
          match fillX (fun i => some (i * j.size, j.size)) (repL len j.zero) ps with
          | some cs => some ⟨[], [], some (d, .val (.one (.sl lo 0 len j.size .full))), [], [(lo, .cells e cs)], lo + 1⟩
          | none => none
        else none
      | _, _ => none
    | _ => none
  | none => none

theorem repL_len : ∀ {n : Nat} {cs : List Xv}, (repL n cs).length = n * cs.length
  | 0, cs => by simp [repL]
  | n + 1, cs => by simp [repL, repL_len, Nat.succ_mul]; omega
theorem repL_rel {zc : List Xv} {zs : Array Value} (hz : cellsRel E U zc zs.toList) (h0 : 0 < zs.size) : ∀ (n : Nat), cellsRel E U (repL n zc) (((Array.range (n * zs.size)).map fun i => zs[i % zs.size]!).toList) := by
  intro n
  have hl := hz.1
  simp only [Array.length_toList] at hl
  refine ⟨by simp [repL_len, hl], fun i c v hc hv => ?_⟩
  have hget : ∀ (n i : Nat) (c : Xv), (repL n zc)[i]? = some c → zc[i % zs.size]? = some c := by
    intro n
    induction n with
    | zero => intro i c hc; simp [repL] at hc
    | succ n ih =>
      intro i c hc
      simp only [repL] at hc
      rcases Nat.lt_or_ge i zc.length with h | h
      · rw [List.getElem?_append_left h] at hc
        rw [Nat.mod_eq_of_lt (by omega)]; exact hc
      · rw [List.getElem?_append_right h] at hc
        have := ih _ c hc
        rw [hl] at this h
        rw [Nat.mod_eq_sub_mod h]; exact this
  have h1 := hget n i c hc
  have hlt : i % zs.size < zs.size := Nat.mod_lt _ h0
  simp only [Array.toList_map, List.getElem?_map, Option.map_eq_some_iff] at hv
  obtain ⟨j, hj, rfl⟩ := hv
  have hij : j = i := by
    have : (Array.range (n * zs.size)).toList[i]? = some j := hj
    simp only [Array.toList_range] at this
    rw [List.getElem?_range] at this
    · injection this with this; exact this.symm
    · rcases Nat.lt_or_ge i (n * zs.size) with h | h
      · exact h
      · rw [List.getElem?_eq_none (by simpa using h)] at this; cases this
  subst hij
  rw [getElem!_pos zs (j % zs.size) hlt]
  exact hz.2 _ c _ h1 (by simp [hlt])

theorem step_lit (hT : TabOK P T) {t : TypeId} {len : Nat} {parts : Array (Nat × Operand)} {e : Eff} (hs : Sub μ σ) (he : litE T μ d lo t len parts.toList = some e) (ho : o.op = .buildSlice t len parts) (hd : o.dst = some d) (hN : d < X.N) (hfr : ¬ U lo) : StepS P X o U σ lo [e] := by
  unfold litE at he
  split at he
  rotate_left; · cases he
  rename_i i hi
  split at he
  rotate_left; · cases he
  rename_i el hdesc
  split at he
  rotate_left; · cases he
  rename_i j ps hj hps
  split at he
  rotate_left; · cases he
  rename_i hc
  split at he
  rotate_left; · cases he
  rename_i cs hcs
  injection he with he; subst he
  have hu := (hT.ty _ _ hi).und
  rw [hdesc] at hu
  obtain ⟨z, hz, hzc, _, hzl, _⟩ := (hT.ty _ _ hj).zero
  refine step_new hd hN hfr fun E a w hr => ?_
  have hzr := zerosA_rel E U hzc
  have hzs : z.cells.size = j.size := by have := hzr.1; simp only [Array.length_toList] at this; omega
  obtain ⟨h1, h2⟩ := fpartsX_rel (hs.rd hr) hps
  have hrep := repL_rel hzr (by omega) len
  obtain ⟨us, h3, h4⟩ := fill_rel hrep h1 h2 hcs
  rw [hzs] at h3
  have hsz : us.size = len * j.size := by
    have hf : ∀ {place : Nat → Option (Nat × Nat)} {l : List (Nat × Xp)} {c c' : List Xv}, fillX place c l = some c' → c'.length = c.length := by
      intro place l
      induction l with
      | nil => intro c c' h; simp only [fillX, Option.some.injEq] at h; rw [h]
      | cons p l ih =>
        intro c c' h
        obtain ⟨q, p⟩ := p
        simp only [fillX] at h
        split at h
        · split at h
          · rename_i hh; rw [ih h]; simp [setL]; omega
          · cases h
        · cases h
    have := h4.1
    rw [hf hcs, repL_len, hzl] at this
    simpa using this.symm
  have hrun : (execOp a.eval o).run P w = .ok (.value (.slice (some ⟨w.heap.size, 0, none⟩) len len)) (w.alloc (.cells us el)) := by
    unfold execOp
    simp only [ho, Instr.buildSlice, Sem.run_bind, run_underlying hu, Result.andThen_ok, (hT.ty _ _ hj).size, Sem.run_ite, if_neg (show ¬ len * j.size > 2 ^ 24 by omega), Array.toList_map]
    by_cases e : len * j.size = 0
    · have h00 : ∀ f : Nat → Value, (Array.range (len * j.size)).map f = #[] := fun f => Array.eq_empty_of_size_eq_zero (by simp [e])
      rw [h00] at h3
      simp only [if_pos e, Sem.run_pure, Result.andThen_ok, h00]
      rw [h3]
      simp only [newRow, Sem.run_bind, Sem.run_pure, Result.andThen_ok, run_newObj]
      rfl
    · simp only [if_neg e, Sem.run_bind, hz, Sem.run_pure, Result.andThen_ok, hzs]
      rw [h3]
      simp only [newRow, Sem.run_bind, Sem.run_pure, Result.andThen_ok, run_newObj]
      rfl
  have hlen : len ≤ 16777216 := Nat.le_trans (Nat.le_mul_of_pos_right _ hc.2) hc.1
  exact ⟨_, .pointer (some ⟨w.heap.size, 0, none⟩), _, us.size, hrun, kept_alloc _ _, set_blk, new_cells h4 hfr rfl, .inr ⟨Nat.le_refl _, Nat.lt_succ_self _⟩, w.heap.size, 0, 0, len, Env.set_ι, rfl, .inr rfl, Nat.le_refl _, by simp only [maxLen]; omega, Nat.le_refl _, by rw [Env.set_hi, hsz]; omega, rfl⟩

/-- make([]T, len, cap) -/
def makeE (T : Tab) (d lo : Nat) (t : TypeId) (len cap : Int) : Option Eff :=
  match T.ty t with
  | some i => match i.desc with
    | .slice e => match T.ty e with
      | some j => if 0 ≤ len ∧ len ≤ cap ∧ cap ≤ 1000000 ∧ j.bytes * cap.toNat ≤ 1000000000 ∧ 0 < j.size then
          some ⟨[], [], some (d, .val (.one (.sl lo 0 len.toNat j.size (bif len == cap then .full else .ge cap.toNat)))), [], [(lo, .cells e (repL cap.toNat j.zero))], lo + 1⟩
        else none
      | none => none
    | _ => none
  | none => none

theorem step_make (hT : TabOK P T) {t : TypeId} {x y : Operand} {k k' : IntKind} {len cap : Int} {e : Eff} (hs : Sub μ σ) (hx : μ.opd x = some (.val (.one (.int k len)))) (hy : μ.opd y = some (.val (.one (.int k' cap)))) (he : makeE T d lo t len cap = some e)
    (ho : o.op = .makeSlice t x y) (hd : o.dst = some d) (hN : d < X.N) (hfr : ¬ U lo) : StepS P X o U σ lo [e] := by
  unfold makeE at he
  split at he
  rotate_left; · cases he
  rename_i i hi
  split at he
  rotate_left; · cases he
  rename_i el hdesc
  split at he
  rotate_left; · cases he
  rename_i j hj
  split at he
  rotate_left; · cases he
  rename_i hc
  injection he with he; subst he
  obtain ⟨c1, c2, c3, c4, c5⟩ := hc
  have hu := (hT.ty _ _ hi).und
  rw [hdesc] at hu
  obtain ⟨z, hz, hzc, _, hzl, hinfo⟩ := (hT.ty _ _ hj).zero
  obtain ⟨inf, hinf1, hinf2⟩ := Option.map_eq_some_iff.1 hinfo
  simp only [Prod.mk.injEq] at hinf2
  obtain ⟨hinfz, hinfs, hinfb⟩ := hinf2
  refine step_new hd hN hfr fun E a w hr => ?_
  have h1 : a.eval x = .int k len := hr.opd (hs.opd hx)
  have h2 : a.eval y = .int k' cap := hr.opd (hs.opd hy)
  have hzr := zerosA_rel E U hzc
  have hzs : z.cells.size = j.size := by have := hzr.1; simp only [Array.length_toList] at this; omega
  have hrep := repL_rel hzr (by omega) cap.toNat
  have hwl : IntKind.i64.wrap len = len := by rw [IntKind.wrap_i64]; omega
  have hwc : IntKind.i64.wrap cap = cap := by rw [IntKind.wrap_i64]; omega
  obtain ⟨cn, rfl⟩ : ∃ n : Nat, cap = (n : Int) := ⟨cap.toNat, by omega⟩
  obtain ⟨ln, rfl⟩ : ∃ n : Nat, len = (n : Int) := ⟨len.toNat, by omega⟩
  simp only [Int.toNat_natCast] at c4 hrep ⊢
  have hb1 : ((inf.bytes : Int) * (cn : Int)) ≤ 1000000000 := by rw [hinfb, ← Int.natCast_mul]; omega
  have hsz : ((Array.range (cn * z.cells.size)).map fun i => z.cells[i % z.cells.size]!).size = cn * j.size := by simp [hzs]
  have hrun : (execOp a.eval o).run P w = .ok (.value (.slice (some ⟨w.heap.size, 0, none⟩) ln cn)) (w.alloc (.cells ((Array.range (cn * z.cells.size)).map fun i => z.cells[i % z.cells.size]!) el)) := by
    unfold execOp
    have hl1 : ¬ ((ln : Int) < 0) := by omega
    have hl2 : ¬ ((ln : Int) > (cn : Int)) := by omega
    have hc1 : ¬ ((cn : Int) < 0) := by omega
    have hc2 : ¬ ((inf.bytes : Int) * (cn : Int) > 2 ^ 48) := by omega
    have hroom : ¬ (cn * inf.bytes > roomBytes) := by
      have : roomBytes = 140737488355328 := rfl
      have : inf.bytes * cn = cn * inf.bytes := Nat.mul_comm _ _
      omega
    simp only [ho, h1, h2, Instr.makeSlice, Sem.run_bind, run_underlying hu, Result.andThen_ok, asInt, asIntOf, Sem.run_pure, typeInfo, run_program, hinf1, hwl, hwc, hl1, hl2, hc1, hc2, decide_false, Bool.or_false, Bool.false_eq_true, if_false, Int.toNat_natCast, askRoom, if_neg hroom]
    simp only [(hT.ty _ _ hj).size, Result.andThen_ok]
    by_cases e : cn * j.size = 0
    · have h00 : ∀ (m : Nat) (f : Nat → Value), m = 0 → (Array.range m).map f = #[] := fun m f hm => Array.eq_empty_of_size_eq_zero (by simp [hm])
      rw [if_pos e, h00 _ _ (by rw [hzs]; exact e)]
      simp only [Sem.run_bind, Sem.run_pure, Result.andThen_ok, h00 _ _ e, newRow, run_newObj]
      rfl
    · rw [if_neg e]
      simp only [Sem.run_bind, Sem.run_pure, Result.andThen_ok, hz, newRow, run_newObj, hzs]
      rfl
  exact ⟨_, .pointer (some ⟨w.heap.size, 0, none⟩), _, _, hrun, kept_alloc _ _, set_blk, new_cells hrep hfr rfl, .inr ⟨Nat.le_refl _, Nat.lt_succ_self _⟩, w.heap.size, 0, 0, cn, Env.set_ι, rfl, .inr rfl, by omega, by simp only [maxLen]; omega, Nat.le_refl _, by rw [Env.set_hi, hsz]; omega, by cases hq : ((ln : Int) == (cn : Int)) with
      | true => rw [cond_true]; have : (ln : Int) = cn := by simpa using hq
                show cn = ln; omega
      | false => rw [cond_false]; exact Nat.le_refl _⟩
end
end -- nc
end Go.Proofs.YtgjbehfdjnekdaaGreatDoor.Xc
end
section
/- A closed run: maps. -/
set_option linter.unusedVariables false
set_option linter.unusedSimpArgs false
namespace Go.Proofs.YtgjbehfdjnekdaaGreatDoor.Xc
noncomputable section
open Go.RowKit
open Go.Proofs.YtgjbehfdjnekdaaGreatDoor.Aw (Kept nlt nle retv getD_put op_steps add_add kept_alloc kept_setRow kept_drew)

def plainC : Xv → Bool
  | .int _ _ => true
  | .str _ => true
  | .bool _ => true
  | _ => false
def scalarD : TypeDesc → Bool
  | .int _ => true
  | .string => true
  | .bool => true
  | _ => false

def chkF (T : Tab) (chk : TypeId → Xp → Bool) (cs : List Xv) : List Field → Bool
  | [] => true
  | f :: fs => (match T.ty f.type with
    | some i => match partV i.agg i.size f.offset cs with
      | some p => chk f.type p
      | none => false
    | none => false) && chkF T chk cs fs
def chkT (T : Tab) : Nat → TypeId → Xp → Bool
  | 0, _, _ => false
  | _ + 1, t, .one c => match T.ty t with | some i => scalarD i.desc && plainC c | none => false
  | d + 1, t, .agg cs => match T.ty t with
    | some i => match i.desc with
      | .struct fs => chkF T (chkT T d) cs fs.toList && cs.all plainC
      | _ => false
    | none => false

section
variable {P : Program} {X : Ctx} {U : Us} {σ μ : XS} {o : Oper} {d lo : Nat} {T : Tab} {E : Env} {a : Act} {w : World} {rd : Rd}

theorem run_chkF (hT : TabOK P T) {em : Bool} {n : Nat} {chk : TypeId → Xp → Bool} (ih : ∀ t p u, chk t p = true → p.rel E U u → (Instr.checkKey em n t u).run P w = .ok () w) {cs : List Xv} {vs : Array Value} (hv : cellsRel E U cs vs.toList) :
    ∀ {fs : List Field}, chkF T chk cs fs = true → (forIn fs PUnit.unit fun f (_ : PUnit) => (do
      if f.name ≠ "_" then
        let r ← part f.type vs f.offset
        Instr.checkKey em n f.type r
        pure (.yield PUnit.unit)
      else pure (.yield PUnit.unit) : Sem (ForInStep PUnit))).run P w = .ok () w
  | [], h => by simp
  | f :: fs, h => by
    simp only [chkF, Bool.and_eq_true] at h
    obtain ⟨h1, h2⟩ := h
    split at h1
    · rename_i i hi
      split at h1
      · rename_i p hp
        obtain ⟨u, hu, hr⟩ := run_partV (w := w) (hT.ty _ _ hi) hp hv
        have h3 := run_chkF hT ih hv h2
        simp only [List.forIn_cons, Sem.run_bind, Sem.run_ite]
        split
        · simp only [Sem.run_bind, hu, Result.andThen_ok, ih _ _ _ h1 hr, Sem.run_pure]; exact h3
        · simp only [Sem.run_pure, Result.andThen_ok]; exact h3
      · cases h1
    · cases h1

theorem run_chkT (hT : TabOK P T) (em : Bool) (m : Nat) : ∀ (d : Nat) {t : TypeId} {p : Xp} {u : Value}, chkT T d t p = true → p.rel E U u → (Instr.checkKey em (d + m) t u).run P w = .ok () w
  | 0, t, p, u, h, _ => by cases p <;> simp [chkT] at h
  | d + 1, t, p, u, h, hr => by
    rw [show d + 1 + m = (d + m) + 1 by omega]
    cases p with
    | one c =>
      simp only [chkT] at h
      split at h
      · rename_i i hi
        have hu := (hT.ty _ _ hi).und
        simp only [Bool.and_eq_true] at h
        unfold Instr.checkKey
        simp only [Sem.run_bind, run_underlying hu, Result.andThen_ok]
        cases hd : i.desc <;> rw [hd] at h <;> simp [scalarD] at h <;> (cases c <;> simp [plainC] at h <;> (have hr : u = _ := hr; subst hr; simp))
      · cases h
    | agg cs =>
      simp only [chkT] at h
      split at h
      · rename_i i hi
        split at h
        · rename_i fs hd
          have hu := (hT.ty _ _ hi).und
          rw [hd] at hu
          obtain ⟨vs, rfl, hv⟩ := hr
          simp only [Bool.and_eq_true] at h
          unfold Instr.checkKey
          simp only [Sem.run_bind, run_underlying hu, Result.andThen_ok]
          rw [← Array.forIn_toList]
          rw [run_chkF hT (fun t p u h1 h2 => run_chkT hT em m d h1 h2) hv h.1]
          rfl
        · cases h
      · cases h

/-! ### Where a key is -/
def findX (T : Tab) (t : TypeId) (key : Xp) : List (Xp × Xp × Nat) → Nat → Option (Option Nat)
  | [], _ => some none
  | e :: es, i => match eqP T t key e.1 with
    | some true => some (some i)
    | some false => findX T t key es (i + 1)
    | none => none

def EntryL (E : Env) (U : Us) (es : List (Xp × Xp × Nat)) (vs : List MapEntry) : Prop := es.length = vs.length ∧ ∀ (i : Nat) x e, es[i]? = some x → vs[i]? = some e → entryRel E U x e

theorem run_findAsking (hT : TabOK P T) {t : TypeId} {key : Xp} {u : Value} (hk : key.rel E U u) : ∀ {es : List (Xp × Xp × Nat)} {vs : List MapEntry} {i : Nat} {r : Option Nat}, EntryL E U es vs → findX T t key es i = some r →
    (Instr.findAsking t u vs i).run P w = .ok (r.bind fun j => (vs[j - i]?).map fun e => (j, e.val)) w ∧ ∀ j, r = some j → i ≤ j ∧ j - i < vs.length
  | [], [], i, r, h, hf => by simp only [findX, Option.some.injEq] at hf; subst hf; exact ⟨by simp [Instr.findAsking], fun j h => by cases h⟩
  | [], v :: vs, i, r, h, hf => by have := h.1; simp at this
  | e :: es, [], i, r, h, hf => by have := h.1; simp at this
  | e :: es, v :: vs, i, r, h, hf => by
    have he := h.2 0 e v rfl rfl
    have ht : EntryL E U es vs := ⟨by have := h.1; simpa using this, fun j x e' hx he' => h.2 (j + 1) x e' (by simpa using hx) (by simpa using he')⟩
    simp only [findX] at hf
    split at hf
    · rename_i hq
      injection hf with hf; subst hf
      have := run_eqP (w := w) hT hq hk he.1
      exact ⟨by simp [Instr.findAsking, this], fun j h => by injection h with h; subst h; simp⟩
    · rename_i hq
      have hq' := run_eqP (w := w) hT hq hk he.1
      obtain ⟨h1, h2⟩ := run_findAsking hT hk ht hf
      refine ⟨?_, fun j hj => by have := h2 j hj; simp only [List.length_cons]; omega⟩
      simp only [Instr.findAsking, Sem.run_bind, hq', Result.andThen_ok, Bool.false_eq_true, if_false, h1]
      cases r with
      | none => rfl
      | some j =>
        have := h2 j rfl
        simp only [Option.bind_some]
        rw [show j - i = (j - (i + 1)) + 1 by omega, List.getElem?_cons_succ]
    · cases hf

theorem findNow_scalar (hT : TabOK P T) {t : TypeId} {i0 : XT} (hi : T.ty t = some i0) (hsc : scalarD i0.desc = true) {key : Xp} {u : Value} (hk : key.rel E U u) : ∀ {es : List (Xp × Xp × Nat)} {vs : List MapEntry} {i : Nat} {r : Option Nat}, EntryL E U es vs → findX T t key es i = some r →
    Instr.findNow i0.desc u vs i = some (r.bind fun j => (vs[j - i]?).map fun e => (j, e.val)) ∧ ∀ j, r = some j → i ≤ j ∧ j - i < vs.length
  | [], [], i, r, h, hf => by simp only [findX, Option.some.injEq] at hf; subst hf; exact ⟨by simp [Instr.findNow], fun j h => by cases h⟩
  | [], v :: vs, i, r, h, hf => by have := h.1; simp at this
  | e :: es, [], i, r, h, hf => by have := h.1; simp at this
  | e :: es, v :: vs, i, r, h, hf => by
    have he := h.2 0 e v rfl rfl
    have ht : EntryL E U es vs := ⟨by have := h.1; simpa using this, fun j x e' hx he' => h.2 (j + 1) x e' (by simpa using hx) (by simpa using he')⟩
    have hnow : ∀ b, eqP T t key e.1 = some b → Instr.sameNow i0.desc u v.key = some b := fun b hb => by
      have he1 := he.1
      unfold eqP at hb
      cases key with
      | agg cs =>
        cases h1 : e.1 with
        | agg ds =>
          rw [h1] at hb
          simp only [eqT, hi] at hb
          split at hb
          · rename_i fs hd; rw [hd] at hsc; simp [scalarD] at hsc
          · cases hb
        | one c => rw [h1] at hb; simp [eqT] at hb
      | one c =>
        cases h1 : e.1 with
        | agg ds => rw [h1] at hb; simp [eqT] at hb
        | one c2 =>
          rw [h1] at hb he1
          simp only [eqT, hi] at hb
          have hk : c.rel E U u := hk
          have he1 : c2.rel E U v.key := he1
          unfold eqC at hb
          cases hd : i0.desc <;> rw [hd] at hb hsc <;> simp [scalarD] at hsc <;> (cases c <;> simp at hb) <;> (cases c2 <;> simp at hb)
          all_goals (rw [show u = _ from hk, show v.key = _ from he1])
          all_goals simp only [Instr.sameNow]
          · rw [← hb]
          · obtain ⟨h1, h2⟩ := hb; rw [if_pos h1, ← h2]
          · rw [← hb, beq_toListBytes, toList_ba, toList_ba]
    simp only [findX] at hf
    split at hf
    · rename_i hq
      injection hf with hf; subst hf
      exact ⟨by simp [Instr.findNow, hnow true hq], fun j h => by injection h with h; subst h; simp⟩
    · rename_i hq
      obtain ⟨h1, h2⟩ := findNow_scalar hT hi hsc hk ht hf
      refine ⟨?_, fun j hj => by have := h2 j hj; simp only [List.length_cons]; omega⟩
      simp only [Instr.findNow, hnow false hq, h1]
      cases r with
      | none => rfl
      | some j =>
        have := h2 j rfl
        simp only [Option.bind_some]
        rw [show j - i = (j - (i + 1)) + 1 by omega, List.getElem?_cons_succ]
    · cases hf

/-- A key type: a scalar, or a struct. -/
def keyD : TypeDesc → Bool
  | .int _ => true
  | .string => true
  | .bool => true
  | .struct _ => true
  | _ => false

theorem run_findKey (hT : TabOK P T) {t : TypeId} {i0 : XT} (hi : T.ty t = some i0) (hkd : keyD i0.desc = true) {key : Xp} {u : Value} (hk : key.rel E U u) {es : List (Xp × Xp × Nat)} {vs : List MapEntry} {r : Option Nat} (h : EntryL E U es vs) (hf : findX T t key es 0 = some r) :
    (Instr.findKey t u vs).run P w = .ok (r.bind fun j => (vs[j]?).map fun e => (j, e.val)) w ∧ ∀ j, r = some j → j < vs.length := by
  have hu := (hT.ty _ _ hi).und
  obtain ⟨h1, h2⟩ := run_findAsking (w := w) hT hk h hf
  refine ⟨?_, fun j hj => by have := h2 j hj; omega⟩
  unfold Instr.findKey
  simp only [Sem.run_bind, run_underlying hu, Result.andThen_ok]
  by_cases hsc : scalarD i0.desc = true
  · obtain ⟨h3, _⟩ := findNow_scalar hT hi hsc hk h hf
    rw [h3]; simp
  · have hd : ∃ fs, i0.desc = .struct fs := by
      cases hd : i0.desc <;> rw [hd] at hkd hsc <;> simp [keyD, scalarD] at hkd hsc
      exact ⟨_, rfl⟩
    obtain ⟨fs, hd⟩ := hd
    cases vs with
    | nil => rw [hd]; simp only [Instr.findNow]; simp only [Instr.findAsking] at h1; simpa using h1
    | cons v vs =>
      have : Instr.findNow i0.desc u (v :: vs) 0 = none := by
        rw [hd]; simp only [Instr.findNow, Instr.sameNow]
      rw [this]; simpa using h1

/-! ### The operations -/
def mapD (T : Tab) (t : TypeId) : Option (TypeId × XT × TypeId × XT) :=
  match T.ty t with
  | some i => match i.desc with
    | .map k e => match T.ty k, T.ty e with
      | some ik, some ie => if keyD ik.desc = true then some (k, ik, e, ie) else none
      | _, _ => none
    | _ => none
  | none => none
theorem mapD_ok (hT : TabOK P T) {t : TypeId} {k e : TypeId} {ik ie : XT} (h : mapD T t = some (k, ik, e, ie)) : P.underlying t = some (.map k e) ∧ T.ty k = some ik ∧ T.ty e = some ie ∧ keyD ik.desc = true := by
  unfold mapD at h
  split at h
  · rename_i i hi
    have hu := (hT.ty _ _ hi).und
    split at h
    · rename_i k' e' hd
      rw [hd] at hu
      split at h
      · rename_i ik' ie' hk he
        split at h
        · rename_i hkd
          simp only [Option.some.injEq, Prod.mk.injEq] at h
          obtain ⟨rfl, rfl, rfl, rfl⟩ := h
          exact ⟨hu, hk, he, hkd⟩
        · cases h
      · cases h
    · cases h
  · cases h

def zeroP (i : XT) : Xp := bif i.agg then .agg i.zero else .one (i.zero.headD .any)
theorem zeroP_rel (hT : TabOK P T) {t : TypeId} {i : XT} (hi : T.ty t = some i) (hs : i.agg = true ∨ i.size = 1) : ∃ z, (∀ w, (zeroValue t).run P w = .ok z w) ∧ (zeroP i).rel E U z := by
  obtain ⟨z, hz, hzc, hag, hzl, _⟩ := (hT.ty _ _ hi).zero
  refine ⟨z, hz, ?_⟩
  have hr := zerosA_rel E U hzc
  unfold zeroP
  cases ha : i.agg with
  | true =>
    obtain ⟨cs, rfl⟩ := hag.1 ha
    exact ⟨cs, rfl, hr⟩
  | false =>
    rw [cond_false]
    have h1 : i.size = 1 := by rcases hs with h | h; · rw [ha] at h; cases h
                               · exact h
    have hzn : z.cells = #[z] := by
      cases z with
      | agg cs => have := hag.2 ⟨cs, rfl⟩; rw [ha] at this; cases this
      | _ => rfl
    rw [hzn] at hr
    have h0 := hr.1
    match hzz : i.zero, hr with
    | [], hr => rw [hzz] at hzl; simp at hzl; omega
    | c :: l, hr => exact hr.2 0 c z rfl rfl

def lookE (T : Tab) (μ : XS) (t : TypeId) (m : Xv) (key : Xp) (ok : Bool) : Option Xa :=
  match mapD T t with
  | some (k, ik, e, ie) => if chkT T 50 k key = true ∧ (ie.agg = true ∨ ie.size = 1) then
      match m with
      | .nilm => some (bif ok then .tup [zeroP ie, .one (.bool false)] else .val (zeroP ie))
      | .map n => match Aw.look n μ.ob with
        | some (.mp es _) => match findX T k key es 0 with
          | some (some i) => match es[i]? with
            | some x => some (bif ok then .tup [x.2.1, .one (.bool true)] else .val x.2.1)
            | none => none
          | some none => some (bif ok then .tup [zeroP ie, .one (.bool false)] else .val (zeroP ie))
          | none => none
        | _ => none
      | _ => none
    else none
  | none => none

theorem tup2 {p : Xp} {b : Bool} {u : Value} (hp : p.rel E U u) (ok : Bool) : (bif ok then Xa.tup [p, .one (.bool b)] else .val p).rel E U (if ok = true then .tuple #[u, .bool b] else u) := by
  cases ok with
  | false => exact hp
  | true => exact ⟨_, rfl, rfl, fun i q v hq hv => by
      match i with
      | 0 => simp only [List.getElem?_cons_zero, Option.some.injEq] at hq hv; subst hq; subst hv; exact hp
      | 1 => simp at hq hv; subst hq; subst hv; rfl
      | i + 2 => simp at hq⟩

theorem step_lookup (hT : TabOK P T) {t : TypeId} {x y : Operand} {ok : Bool} {m : Xv} {key : Xp} {r : Xa} (hs : Sub μ σ) (hx : μ.opd x = some (.val (.one m))) (hy : μ.opd y = some (.val key)) (he : lookE T μ t m key ok = some r)
    (ho : o.op = .lookup t x y ok) (hd : o.dst = some d) (hN : d < X.N) : StepS P X o U σ lo [⟨[], [], some (d, r), [], [], lo⟩] := by
  refine step_val hd hN fun E a w hr => ?_
  have hm := hr.opd (hs.opd hx)
  have hk := hr.opd (hs.opd hy)
  unfold lookE at he
  split at he
  rotate_left; · cases he
  rename_i k ik e ie hmd
  obtain ⟨hu, hik, hie, hkd⟩ := mapD_ok hT hmd
  split at he
  rotate_left; · cases he
  rename_i hc
  obtain ⟨z, hz, hzr⟩ := zeroP_rel (E := E) (U := U) hT hie hc.2
  have hchk : ∀ em, (Instr.checkKey em 10000 k (a.eval y)).run P w = .ok () w := fun em => run_chkT hT em 9950 50 hc.1 hk
  split at he
  · injection he with he; subst he
    have hm : a.eval x = .map none := hm
    refine ⟨if ok = true then .tuple #[z, .bool false] else z, ?_, tup2 hzr ok⟩
    have hf : (Instr.findKey k (a.eval y) []).run P w = .ok none w := (run_findKey (E := E) (U := U) (w := w) hT hik hkd hk (es := []) (vs := []) (r := none) ⟨rfl, fun i x e h => by simp at h⟩ rfl).1
    unfold execOp
    simp only [ho, hm, Instr.lookup, Sem.run_bind, run_underlying hu, Result.andThen_ok, Sem.run_pure, hchk, Array.toList_empty, hf, hz]
  · rename_i n
    split at he
    · rename_i es clock hl
      have hlook := hs.ob n _ hl
      obtain ⟨hn, b, e1, e2⟩ := hm
      obtain ⟨_, b', vs, f1, f2, f3, f4⟩ := hr.heap.rel n _ hlook
      rw [e1] at f1; simp only [Value.map.injEq, Option.some.injEq] at f1; subst f1
      have hE : EntryL E U es vs.toList := ⟨by simpa using f3, fun i x e hx he => f4 i x e hx (by simpa using he)⟩
      split at he
      · rename_i i hfi
        obtain ⟨hfk, hlt⟩ := run_findKey (w := w) hT hik hkd hk hE hfi
        have hlt := hlt i rfl
        split at he
        · rename_i x hx
          injection he with he; subst he
          have hv : vs.toList[i]? = some vs.toList[i] := List.getElem?_eq_getElem hlt
          have hrel := hE.2 i x _ hx hv
          refine ⟨if ok = true then .tuple #[vs.toList[i].val, .bool true] else vs.toList[i].val, ?_, tup2 hrel.2.1 ok⟩
          rw [Option.bind_some, hv] at hfk
          unfold execOp
          simp only [ho, e2, Instr.lookup, Sem.run_bind, run_underlying hu, Result.andThen_ok, Sem.run_pure, MapKept.run_getObj_map f2, hchk, hfk, Option.map_some]
        · cases he
      · rename_i hfi
        obtain ⟨hfk, _⟩ := run_findKey (w := w) hT hik hkd hk hE hfi
        injection he with he; subst he
        refine ⟨if ok = true then .tuple #[z, .bool false] else z, ?_, tup2 hzr ok⟩
        unfold execOp
        simp only [ho, e2, Instr.lookup, Sem.run_bind, run_underlying hu, Result.andThen_ok, Sem.run_pure, MapKept.run_getObj_map f2, hchk, hfk, Option.bind_none, hz]
      · cases he
    · cases he
  · cases he

theorem step_makeMap {t : TypeId} (ho : o.op = .makeMap t none) (hd : o.dst = some d) (hN : d < X.N) (hfr : ¬ U lo) : StepS P X o U σ lo [⟨[], [], some (d, .val (.one (.map lo))), [], [(lo, .mp [] 0)], lo + 1⟩] := by
  refine step_new hd hN hfr fun E a w hr => ?_
  refine ⟨.map (some w.heap.size), .map (some w.heap.size), w.alloc (.map #[] 0), 0, ?_, kept_alloc _ _, fun b hb => ?_, ⟨w.heap.size, #[], Env.set_ι, heap_alloc_new w _, rfl, fun i x e hx => by simp at hx⟩, .inr ⟨Nat.le_refl _, Nat.lt_succ_self _⟩, w.heap.size, Env.set_ι, rfl⟩
  · unfold execOp
    simp only [ho, Instr.makeMap, Option.map_none, Sem.run_bind, Sem.run_pure, Result.andThen_ok, run_newObj]
    rfl
  · unfold Env.blk at hb; rw [Env.set_ι] at hb; simp only [Option.some.injEq] at hb; omega

theorem step_lenMap (hT : TabOK P T) {t : TypeId} {x : Operand} {i : XT} {k e : TypeId} {n : Nat} {es : List (Xp × Xp × Nat)} {clock : Nat} (hs : Sub μ σ) (hi : T.ty t = some i) (hd' : i.desc = .map k e) (hx : μ.opd x = some (.val (.one (.map n)))) (hl : Aw.look n μ.ob = some (.mp es clock))
    (ho : o.op = .call ⟨.builtin .len, #[x], #[t]⟩) (hd : o.dst = some d) (hN : d < X.N) : StepS P X o U σ lo [⟨[], [], some (d, .val (.one (.int .i64 es.length))), [], [], lo⟩] := by
  refine step_val hd hN fun E a w hr => ?_
  have hu := (hT.ty _ _ hi).und
  rw [hd'] at hu
  obtain ⟨hn, b, e1, e2⟩ := hr.opd (hs.opd hx)
  obtain ⟨_, b', vs, f1, f2, f3, f4⟩ := hr.heap.rel n _ (hs.ob n _ hl)
  rw [e1] at f1; simp only [Value.map.injEq, Option.some.injEq] at f1; subst f1
  refine ⟨.int .i64 es.length, ?_, rfl⟩
  unfold execOp
  rw [f3]
  simp [ho, resolve, invoke, builtin, Builtin.len_, run_underlying hu, e2, goInt, MapKept.run_getObj_map f2]
end
end -- nc
end Go.Proofs.YtgjbehfdjnekdaaGreatDoor.Xc
end
