/- Parts of the proof of one statement: Xc11. -/
import Derived.Test.YtgjbehfdjnekdaaGreatDoorT19
set_option linter.all false
section
/- A closed run: maps written, and iterated over. -/
set_option linter.unusedVariables false
set_option linter.unusedSimpArgs false
namespace Go.Proofs.YtgjbehfdjnekdaaGreatDoor.Xc
noncomputable section
open Go.RowKit
open Go.Proofs.YtgjbehfdjnekdaaGreatDoor.Aw (Kept nlt nle retv getD_put op_steps add_add kept_alloc kept_setRow kept_drew)
section
variable {P : Program} {X : Ctx} {U : Us} {σ μ : XS} {o : Oper} {d lo : Nat} {T : Tab} {E : Env} {a : Act} {w : World} {rd : Rd}

theorem plain_eq {c : Xv} (h : plainC c = true) {u v : Value} (hu : c.rel E U u) (hv : c.rel E U v) : u = v := by
  cases c <;> simp [plainC] at h <;> exact (show u = _ from hu).trans (show v = _ from hv).symm
theorem sameBits_plain {c : Xv} (h : plainC c = true) {u : Value} (hu : c.rel E U u) (n : Nat) : Instr.sameBits n u u = true := by
  cases c <;> simp [plainC] at h <;> (have hu : u = _ := hu; subst hu; simp [Instr.sameBits, beq_toListBytes])
/-- The key that is there is the key that comes. -/
theorem run_stays {p : Xp} (h : (p.cells.all plainC) = true) {u v : Value} (hu : p.rel E U u) (hv : p.rel E U v) : (Instr.keyThatStays u v).run P w = .ok v w := by
  have huv : u = v := by
    cases p with
    | one c => exact plain_eq (by simpa [Xp.cells] using h) hu hv
    | agg cs =>
      obtain ⟨us, rfl, h1⟩ := hu
      obtain ⟨vs, rfl, h2⟩ := hv
      congr 1
      apply Array.ext'
      apply List.ext_getElem?
      intro i
      have hl1 := h1.1; have hl2 := h2.1
      rcases Nat.lt_or_ge i cs.length with hi | hi
      · have a1 : us.toList[i]? = some us.toList[i] := List.getElem?_eq_getElem (by omega)
        have a2 : vs.toList[i]? = some vs.toList[i] := List.getElem?_eq_getElem (by omega)
        have a0 : cs[i]? = some cs[i] := List.getElem?_eq_getElem hi
        rw [a1, a2]
        congr 1
        exact plain_eq (by simp only [Xp.cells, List.all_eq_true] at h; exact h _ (List.getElem_mem hi)) (h1.2 i _ _ a0 a1) (h2.2 i _ _ a0 a2)
      · rw [List.getElem?_eq_none (by omega), List.getElem?_eq_none (by omega)]
  subst huv
  have hs : Instr.sameBits 10000 u u = true := by
    cases p with
    | one c => exact sameBits_plain (by simpa [Xp.cells] using h) hu _
    | agg cs =>
      obtain ⟨us, rfl, h1⟩ := hu
      rw [show (10000 : Nat) = 9999 + 1 from rfl]
      simp only [Instr.sameBits, beq_self_eq_true, Bool.true_and]
      rw [List.all_eq_true]
      intro x hx
      obtain ⟨i, hi, rfl⟩ := List.getElem_of_mem hx
      simp only [List.length_zip, Nat.min_self] at hi
      simp only [List.getElem_zip]
      have hl1 := h1.1
      have hic : i < cs.length := by omega
      exact sameBits_plain (by simp only [Xp.cells, List.all_eq_true] at h; exact h _ (List.getElem_mem hic)) (h1.2 i _ _ (List.getElem?_eq_getElem hic) (List.getElem?_eq_getElem hi)) _
  simp [Instr.keyThatStays, hs]

def setEnt (es : List (Xp × Xp × Nat)) (i : Nat) (key val : Xp) : List (Xp × Xp × Nat) := match es[i]? with
  | some x => es.set i (key, val, x.2.2)
  | none => es

def updE (T : Tab) (μ : XS) (lo : Nat) (t : TypeId) (m : Xv) (key val : Xp) : Option Eff :=
  match mapD T t, m with
  | some (k, ik, e, ie), .map n => if chkT T 50 k key = true ∧ key.cells.all plainC = true then
      match Aw.look n μ.ob with
      | some (.mp es clock) => match findX T k key es 0 with
        | some (some i) => match es[i]? with
          | some x => if x.1 = key then some ⟨[], [], none, [n], [(n, .mp (es.set i (key, val, x.2.2)) clock)], lo⟩ else none
          | none => none
        | some none => some ⟨[], [], none, [n], [(n, .mp (es ++ [(key, val, clock)]) (clock + 1))], lo⟩
        | none => none
      | _ => none
    else none
  | _, _ => none

/-- A map's object told anew. -/
theorem step_remap {n : Nat} {es es' : List (Xp × Xp × Nat)} {clock clock' : Nat} (hr : RI X E U σ a w) (hl : Aw.look n σ.ob = some (.mp es clock)) {b : Nat} (e1 : E.ι n = .map (some b)) {vs vs' : Array MapEntry} (f2 : w.heap[b]? = some (.map vs clock)) (hE : EntryL E U es' vs'.toList) :
    RI X E U ⟨σ.sl, [(n, .mp es' clock')] ++ dels [n] σ.ob⟩ a { w with heap := w.heap.setIfInBounds b (.map vs' clock') } := by
  have hblk : E.blk n = some b := by unfold Env.blk; rw [e1]
  have hl1 : ∀ nn y, Aw.look nn [(n, Xo.mp es' clock')] = some y → nn = n ∧ y = .mp es' clock' := fun nn y hy => by
    simp only [Aw.look_nil, Aw.look_cons] at hy
    split at hy
    · rename_i e; injection hy with hy; exact ⟨e, hy.symm⟩
    · cases hy
  refine hr.step (T := fun c => c = b) (.refl _ _) (fun _ h => h) (kept_setObj (fun _ _ _ h => by cases h) (fun _ _ _ h => by rw [f2] at h; cases h)) (fun c hc => ⟨n, _, by simp, hl, by rw [hblk, hc]⟩) (fun nn y hy => ?_) (fun nn y c hy hc => ?_) fun nn nn' y y' c hy hy' _ _ => by rw [(hl1 nn y hy).1, (hl1 nn' y' hy').1]
  · obtain ⟨rfl, rfl⟩ := hl1 nn y hy
    exact ⟨(hr.heap.rel nn _ hl).1, b, vs', e1, (MapKept.heap_set f2).1, by simpa using hE.1, fun i x e hx he => hE.2 i x e hx (by simpa using he)⟩
  · obtain ⟨rfl, rfl⟩ := hl1 nn y hy; exact .inl ⟨nn, _, by simp, hl, hc⟩

theorem run_updE (hT : TabOK P T) {t : TypeId} {x y z : Operand} {m : Xv} {key val : Xp} {e : Eff} (hs : Sub μ σ) (hx : μ.opd x = some (.val (.one m))) (hy : μ.opd y = some (.val key)) (hz : μ.opd z = some (.val val)) (he : updE T μ lo t m key val = some e)
    (hrun : ∀ (a : Act) (w w' : World), (Instr.mapUpdate t (a.eval x) (a.eval y) (a.eval z)).run P w = .ok () w' → (execOp a.eval o).run P w = .ok .skip w') (hd : o.dst = none) : StepS P X o U σ lo [e] := by
  intro a w ⟨E, hr⟩
  have hm := hr.opd (hs.opd hx)
  have hk := hr.opd (hs.opd hy)
  have hv := hr.opd (hs.opd hz)
  unfold updE at he
  split at he
  rotate_left; · cases he
  rename_i k ik el ie n hmd
  obtain ⟨hu, hik, hie, hkd⟩ := mapD_ok hT hmd
  split at he
  rotate_left; · cases he
  rename_i hc
  have hchk : ∀ em, (Instr.checkKey em 10000 k (a.eval y)).run P w = .ok () w := fun em => run_chkT hT em 9950 50 hc.1 hk
  split at he
  rotate_left; · cases he
  rename_i es clock hl
  have hlook := hs.ob n _ hl
  obtain ⟨hn, b, e1, e2⟩ := hm
  obtain ⟨_, b', vs, f1, f2, f3, f4⟩ := hr.heap.rel n _ hlook
  rw [e1] at f1; simp only [Value.map.injEq, Option.some.injEq] at f1; subst f1
  have hE : EntryL E U es vs.toList := ⟨by simpa using f3, fun i x e hx he => f4 i x e hx (by simpa using he)⟩
  have fin : ∀ (es' : List (Xp × Xp × Nat)) (clock' : Nat) (vs' : Array MapEntry), (Instr.mapUpdate t (a.eval x) (a.eval y) (a.eval z)).run P w = .ok () { w with heap := w.heap.setIfInBounds b (.map vs' clock') } → EntryL E U es' vs'.toList →
      wpX P o a w (fun a' w' => ∃ e ∈ [(⟨[], [], none, [n], [(n, .mp es' clock')], lo⟩ : Eff)], R X (fun n => U n ∨ (lo ≤ n ∧ n < e.hi)) (e.ap σ) a' w') := fun es' clock' vs' h1 h2 => by
    unfold wpX
    rw [hrun a w _ h1, OpX_skip, hd]
    exact ⟨_, List.mem_singleton.2 rfl, E, (step_remap hr hlook e1 f2 h2).weakU fun n hn => .inl hn⟩
  split at he
  · rename_i i hfi
    obtain ⟨hfk, hlt⟩ := run_findKey (w := w) hT hik hkd hk hE hfi
    have hlt := hlt i rfl
    have hvi : vs.toList[i]? = some vs.toList[i] := List.getElem?_eq_getElem hlt
    split at he
    rotate_left; · cases he
    rename_i x' hx'
    split at he
    rotate_left; · cases he
    rename_i hxk
    injection he with he; subst he
    have hrel := hE.2 i x' _ hx' hvi
    rw [Option.bind_some, hvi] at hfk
    have hstay := run_stays (P := P) (w := w) hc.2 (by rw [← hxk]; exact hrel.1) hk
    have hvs : vs[i]? = some vs.toList[i] := by rw [← Array.getElem?_toList]; exact hvi
    refine fin _ clock (vs.modify i fun e => { e with key := a.eval y, val := a.eval z }) ?_ ⟨by simpa using f3, fun j q e hq he => ?_⟩
    · rw [e2]
      simp only [Instr.mapUpdate, Sem.run_bind, run_underlying hu, Result.andThen_ok, MapKept.run_getObj_map f2, hchk, hfk, Option.map_some, hvs, Option.getD_some, hstay, MapKept.run_setObj_map _ f2]
    · rw [List.getElem?_set] at hq
      rw [Array.getElem?_toList, Array.getElem?_modify] at he
      by_cases hij : i = j
      · subst hij
        rw [if_pos rfl, hvs] at he
        simp only [Option.map_some, Option.some.injEq] at he
        subst he
        rw [if_pos rfl] at hq
        split at hq
        · injection hq with hq; subst hq; exact ⟨hk, hv, hrel.2.2⟩
        · cases hq
      · rw [if_neg hij] at hq he
        exact f4 j q e hq (by simpa using he)
  · rename_i hfi
    obtain ⟨hfk, _⟩ := run_findKey (w := w) hT hik hkd hk hE hfi
    injection he with he; subst he
    refine fin _ (clock + 1) (vs.push { key := a.eval y, val := a.eval z, born := clock }) ?_ ⟨by simp [f3], fun j q e hq he => ?_⟩
    · rw [e2]
      simp only [Instr.mapUpdate, Sem.run_bind, run_underlying hu, Result.andThen_ok, MapKept.run_getObj_map f2, hchk, hfk, Option.bind_none, MapKept.run_setObj_map _ f2]
    · simp only [Array.toList_push] at he
      rcases Nat.lt_or_ge j es.length with h | h
      · rw [List.getElem?_append_left h] at hq
        rw [List.getElem?_append_left (by simpa [← f3] using h)] at he
        exact hE.2 j q e hq he
      · rw [List.getElem?_append_right h] at hq
        rw [List.getElem?_append_right (by simpa [← f3] using h)] at he
        have hj : j - es.length = 0 := by
          rcases Nat.eq_zero_or_pos (j - es.length) with h0 | h0
          · exact h0
          · rw [List.getElem?_eq_none (by simp; omega)] at hq; cases hq
        rw [hj] at hq
        rw [show vs.toList.length = es.length by simp [f3], hj] at he
        simp only [List.getElem?_cons_zero, Option.some.injEq] at hq he
        subst hq; subst he
        exact ⟨hk, hv, rfl⟩
  · cases he

/-! ### Iterating -/
def rangeE (T : Tab) (μ : XS) (d lo : Nat) (t : TypeId) (c : Xv) : Option Eff :=
  match T.ty t with
  | some i => match i.desc, c with
    | .string, .str s => some ⟨[], [], some (d, .val (.one (.ptr lo 0))), [], [(lo, .sit s 0)], lo + 1⟩
    | .map _ _, .nilm => some ⟨[], [], some (d, .val (.one (.ptr lo 0))), [], [(lo, .it0)], lo + 1⟩
    | .map _ _, .map m => match Aw.look m μ.ob with
      | some (.mp _ clock) => some ⟨[], [], some (d, .val (.one (.ptr lo 0))), [], [(lo, .it m clock [] clock none)], lo + 1⟩
      | _ => none
    | _, _ => none
  | none => none

theorem step_range (hT : TabOK P T) {t : TypeId} {x : Operand} {c : Xv} {e : Eff} (hs : Sub μ σ) (hx : μ.opd x = some (.val (.one c))) (he : rangeE T μ d lo t c = some e) (ho : o.op = .range t x) (hd : o.dst = some d) (hN : d < X.N) (hfr : ¬ U lo) : StepS P X o U σ lo [e] := by
  unfold rangeE at he
  split at he
  rotate_left; · cases he
  rename_i i hi
  have hu := (hT.ty _ _ hi).und
  have fin : ∀ (y : Xo) (ob : Obj), (∀ E a w, RI X E U σ a w → (execOp a.eval o).run P w = .ok (.value (.pointer (some ⟨w.heap.size, 0, none⟩))) (w.alloc ob)) → (∀ (E : Env) (a : Act) (w : World), RI X E U σ a w → y.rel (E.set lo (.pointer (some ⟨w.heap.size, 0, none⟩)) 0) (fun n => U n ∨ (lo ≤ n ∧ n < lo + 1)) lo (w.alloc ob)) →
      StepS P X o U σ lo [⟨[], [], some (d, .val (.one (.ptr lo 0))), [], [(lo, y)], lo + 1⟩] := fun y ob h1 h2 => by
    refine step_new hd hN hfr fun E a w hr => ?_
    exact ⟨_, .pointer (some ⟨w.heap.size, 0, none⟩), _, 0, h1 E a w hr, kept_alloc _ _, set_blk, h2 E a w hr, .inr ⟨Nat.le_refl _, Nat.lt_succ_self _⟩, w.heap.size, 0, Env.set_ι, rfl⟩
  split at he
  · rename_i s hd'
    rw [hd'] at hu
    injection he with he; subst he
    refine fin _ (.stringIter ⟨s.toArray⟩ 0) (fun E a w hr => ?_) fun E a w hr => ⟨w.heap.size, Env.set_ι, heap_alloc_new w _⟩
    have hc : a.eval x = .string ⟨s.toArray⟩ := hr.opd (hs.opd hx)
    unfold execOp
    simp only [ho, hc, Instr.range, Sem.run_bind, run_underlying hu, Result.andThen_ok, Sem.run_pure, run_newObj]
    rfl
  · rename_i hd'
    rw [hd'] at hu
    injection he with he; subst he
    refine fin _ (.mapIter none 0 #[] 0) (fun E a w hr => ?_) fun E a w hr => ⟨w.heap.size, Env.set_ι, heap_alloc_new w _⟩
    have hc : a.eval x = .map none := hr.opd (hs.opd hx)
    unfold execOp
    simp only [ho, hc, Instr.range, Sem.run_bind, run_underlying hu, Result.andThen_ok, Sem.run_pure, run_newObj]
    rfl
  · rename_i m hd'
    rw [hd'] at hu
    split at he
    · rename_i es clock hl
      injection he with he; subst he
      refine step_new hd hN hfr fun E a w hr => ?_
      obtain ⟨hn, b, e1, e2⟩ := hr.opd (hs.opd hx)
      obtain ⟨_, b', vs, f1, f2, f3, f4⟩ := hr.heap.rel m _ (hs.ob m _ hl)
      rw [e1] at f1; simp only [Value.map.injEq, Option.some.injEq] at f1; subst f1
      refine ⟨_, .pointer (some ⟨w.heap.size, 0, none⟩), w.alloc (.mapIter (some b) clock #[] clock), 0, ?_, kept_alloc _ _, set_blk, ⟨.inl hn, w.heap.size, b, #[], Env.set_ι, ((Env.set_le hfr).ι m hn).trans e1, heap_alloc_new w _, fun x => by simp, rfl, fun l h => by cases h⟩, .inr ⟨Nat.le_refl _, Nat.lt_succ_self _⟩, w.heap.size, 0, Env.set_ι, rfl⟩
      unfold execOp
      simp only [ho, e2, Instr.range, Sem.run_bind, run_underlying hu, Result.andThen_ok, Sem.run_pure, MapKept.run_getObj_map f2, run_newObj]
      rfl
    · cases he
  · cases he

/-- The entries that an iteration may come to. -/
def nextL (es : List (Xp × Xp × Nat)) (since : Nat) (seen : List Nat) : List (Option (Xp × Xp × Nat)) :=
  let left := es.filter fun e => !seen.contains e.2.2
  let old := left.filter fun e => decide (e.2.2 < since)
  let new := left.filter fun e => decide (e.2.2 ≥ since)
  (if old.isEmpty then [none] else []) ++ (old ++ new).map some

def insS (b : Nat) : List Nat → List Nat
  | [] => [b]
  | x :: l => bif b.ble x then b :: x :: l else x :: insS b l
theorem insS_contains {b x : Nat} : ∀ {l : List Nat}, (insS b l).contains x = (x == b || l.contains x)
  | [] => by simp only [insS, List.contains_cons]
  | y :: l => by
    simp only [insS]
    cases b.ble y with
    | true => rw [cond_true, List.contains_cons]
    | false => rw [cond_false, List.contains_cons, insS_contains, List.contains_cons, ← Bool.or_assoc, ← Bool.or_assoc, Bool.or_comm (x == y)]
theorem insS_ne {b : Nat} {l : List Nat} : (insS b l).isEmpty = false := by
  cases l with
  | nil => rfl
  | cons y l => simp only [insS]; cases b.ble y <;> rfl

def nextE (μ : XS) (d lo : Nat) (c : Xv) (isS : Bool) : Option (List Eff) :=
  match c with
  | .ptr n off => if off = 0 then match Aw.look n μ.ob with
    | some .it0 => if isS = false then some [⟨[], [], some (d, .tup [.one (.bool false)]), [], [], lo⟩] else none
    | some (.it m since seen stepped last) => if isS = false then match Aw.look m μ.ob with
      | some (.mp es clock) => if (seen.isEmpty || es.isEmpty || es.any fun e => decide (e.2.2 < stepped)) = true ∧ m ≠ n then
          some ((nextL es since seen).map fun q => match q with
            | some e => ⟨[], [], some (d, .tup [.one (.bool true), e.1, e.2.1]), [n], [(n, .it m since (insS e.2.2 seen) clock (some e.2.2))], lo⟩
            | none => ⟨[], [], some (d, .tup [.one (.bool false)]), [], [], lo⟩)
        else none
      | _ => none
      else none
    | some (.sit s pos) => if isS = true then
        (if pos < s.length then
          let r := Utf8.decode ⟨s.toArray⟩ pos
          some [⟨[], [], some (d, .tup [.one (.bool true), .one (.int .i64 pos), .one (.int .i32 r.1)]), [n], [(n, .sit s (pos + r.2))], lo⟩]
        else some [⟨[], [], some (d, .tup [.one (.bool false)]), [], [], lo⟩]) else none
    | _ => none
    else none
  | _ => none

def EntR (E : Env) (U : Us) : List (Xp × Xp × Nat) → List MapEntry → Prop
  | [], [] => True
  | x :: xs, e :: es => entryRel E U x e ∧ EntR E U xs es
  | _, _ => False
theorem EntR.of : ∀ {es : List (Xp × Xp × Nat)} {vs : List MapEntry}, EntryL E U es vs → EntR E U es vs
  | [], [], _ => trivial
  | [], v :: vs, h => by have := h.1; simp at this
  | e :: es, [], h => by have := h.1; simp at this
  | e :: es, v :: vs, h => ⟨h.2 0 e v rfl rfl, EntR.of ⟨by have := h.1; simpa using this, fun i x e' hx he' => h.2 (i + 1) x e' (by simpa using hx) (by simpa using he')⟩⟩
theorem EntR.filter {p : Nat → Bool} : ∀ {es : List (Xp × Xp × Nat)} {vs : List MapEntry}, EntR E U es vs → EntR E U (es.filter fun e => p e.2.2) (vs.filter fun e => p e.born)
  | [], [], _ => trivial
  | [], v :: vs, h => h.elim
  | e :: es, [], h => h.elim
  | e :: es, v :: vs, ⟨h1, h2⟩ => by
    have := EntR.filter (p := p) h2
    rw [List.filter_cons, List.filter_cons, h1.2.2]
    split
    · exact ⟨h1, this⟩
    · exact this
theorem EntR.append : ∀ {es fs : List (Xp × Xp × Nat)} {vs us : List MapEntry}, EntR E U es vs → EntR E U fs us → EntR E U (es ++ fs) (vs ++ us)
  | [], fs, [], us, _, h => h
  | [], fs, v :: vs, us, h, _ => h.elim
  | e :: es, fs, [], us, h, _ => h.elim
  | e :: es, fs, v :: vs, us, ⟨h1, h2⟩, h => ⟨h1, EntR.append h2 h⟩
theorem EntR.empty : ∀ {es : List (Xp × Xp × Nat)} {vs : List MapEntry}, EntR E U es vs → es.isEmpty = vs.isEmpty
  | [], [], _ => rfl
  | [], v :: vs, h => h.elim
  | e :: es, [], h => h.elim
  | e :: es, v :: vs, _ => rfl
theorem EntR.len : ∀ {es : List (Xp × Xp × Nat)} {vs : List MapEntry}, EntR E U es vs → es.length = vs.length
  | [], [], _ => rfl
  | [], v :: vs, h => h.elim
  | e :: es, [], h => h.elim
  | e :: es, v :: vs, h => by simp [EntR.len h.2]
theorem EntR.get : ∀ {es : List (Xp × Xp × Nat)} {vs : List MapEntry}, EntR E U es vs → ∀ (i : Nat) v, vs[i]? = some v → ∃ x, es[i]? = some x ∧ entryRel E U x v
  | [], [], _, i, v, h => by simp at h
  | [], v :: vs, h, _, _, _ => h.elim
  | e :: es, [], h, _, _, _ => h.elim
  | e :: es, v :: vs, h, 0, u, hu => by simp only [List.getElem?_cons_zero, Option.some.injEq] at hu; subst hu; exact ⟨e, rfl, h.1⟩
  | e :: es, v :: vs, h, i + 1, u, hu => by simpa using EntR.get h.2 i u (by simpa using hu)
theorem EntR.any {p : Nat → Bool} : ∀ {es : List (Xp × Xp × Nat)} {vs : List MapEntry}, EntR E U es vs → (es.any fun e => p e.2.2) = (vs.any fun e => p e.born)
  | [], [], _ => rfl
  | [], v :: vs, h => h.elim
  | e :: es, [], h => h.elim
  | e :: es, v :: vs, h => by simp [EntR.any h.2, h.1.2.2]

theorem run_chooseMap {n : Nat} (hn : 0 < n) : ∃ k w', (choose (.mapNext n)).run P w = .ok k w' ∧ k < n ∧ w'.heap = w.heap ∧ Kept (fun _ _ => False) w w' := by
  by_cases h : n ≤ 1
  · exact ⟨0, w, by simp [choose, Sem.run, Question.forced, h], hn, rfl, Kept.refl _ _⟩
  · exact ⟨w.tape w.drawn (.mapNext n) % n, w.drew, by simp only [choose, Sem.run, Question.forced, decide_eq_true_eq, if_neg h, Question.cut]; rfl, Nat.mod_lt _ hn, rfl, kept_drew w⟩

theorem tupN {l : List Xp} {vs : List Value} (h : partsRel E U l vs) : (Xa.tup l).rel E U (.tuple vs.toArray) := ⟨_, rfl, by simpa using h⟩
theorem parts1 {b : Bool} : partsRel E U [.one (.bool b)] [.bool b] := ⟨rfl, fun i q v hq hv => by
  cases i with
  | zero => simp only [List.getElem?_cons_zero, Option.some.injEq] at hq hv; subst hq; subst hv; rfl
  | succ i => simp at hq⟩
theorem parts3 {p q : Xp} {u v : Value} (hp : p.rel E U u) (hq : q.rel E U v) {b : Bool} : partsRel E U [.one (.bool b), p, q] [.bool b, u, v] := ⟨rfl, fun i x y hx hy => by
  match i with
  | 0 => simp only [List.getElem?_cons_zero, Option.some.injEq] at hx hy; subst hx; subst hy; rfl
  | 1 => simp only [List.getElem?_cons_succ, List.getElem?_cons_zero, Option.some.injEq] at hx hy; subst hx; subst hy; exact hp
  | 2 => simp only [List.getElem?_cons_succ, List.getElem?_cons_zero, Option.some.injEq] at hx hy; subst hx; subst hy; exact hq
  | i + 3 => simp at hx⟩

theorem run_getObj_it {r : Nat} {m : Option Nat} {since : Nat} {seen : Array Nat} {st : Nat} (hb : w.heap[r]? = some (.mapIter m since seen st)) : (getObj r).run P w = .ok (.mapIter m since seen st) w := by
  simp [getObj, Sem.run, hb]
theorem run_getObj_sit {r : Nat} {s : ByteArray} {p : Nat} (hb : w.heap[r]? = some (.stringIter s p)) : (getObj r).run P w = .ok (.stringIter s p) w := by
  simp [getObj, Sem.run, hb]
theorem run_setObj_it {r : Nat} {m : Option Nat} {since : Nat} {seen : Array Nat} {st : Nat} (o : Obj) (hb : w.heap[r]? = some (.mapIter m since seen st)) : (setObj r o).run P w = .ok () { w with heap := w.heap.setIfInBounds r o } := by
  simp [setObj, Sem.run, hb]
theorem run_setObj_sit {r : Nat} {s : ByteArray} {p : Nat} (o : Obj) (hb : w.heap[r]? = some (.stringIter s p)) : (setObj r o).run P w = .ok () { w with heap := w.heap.setIfInBounds r o } := by
  simp [setObj, Sem.run, hb]

/-- One object told anew, in its own block. -/
theorem retell {n b : Nat} {x y : Xo} {ob : Obj} {w1 : World} (hr : RI X E U σ a w) (hl : Aw.look n σ.ob = some x) (hblk : E.blk n = some b) (hh : w1.heap = w.heap) (hk : Kept (fun _ _ => False) w w1) (hc : ∀ vs t f, ob ≠ .cells vs t f) (hc0 : ∀ vs t f, w.heap[b]? ≠ some (.cells vs t f))
    (hy : y.rel E U n { w1 with heap := w1.heap.setIfInBounds b ob }) : RI X E U ⟨σ.sl, [(n, y)] ++ dels [n] σ.ob⟩ a { w1 with heap := w1.heap.setIfInBounds b ob } := by
  have hl1 : ∀ nn z, Aw.look nn [(n, y)] = some z → nn = n ∧ z = y := fun nn z hz => by
    simp only [Aw.look_nil, Aw.look_cons] at hz
    split at hz
    · rename_i e; injection hz with hz; exact ⟨e, hz.symm⟩
    · cases hz
  refine hr.step (T := fun c => c = b) (.refl _ _) (fun _ h => h) ((hk.mono fun _ _ h => h.elim).trans (kept_setObj hc (by rw [hh]; exact hc0))) (fun c hc => ⟨n, _, by simp, hl, by rw [hblk, hc]⟩) (fun nn z hz => ?_) (fun nn z c hz hc => ?_) fun nn nn' z z' c hz hz' _ _ => by rw [(hl1 nn z hz).1, (hl1 nn' z' hz').1]
  · obtain ⟨rfl, rfl⟩ := hl1 nn z hz; exact ⟨(hr.heap.rel nn _ hl).1, hy⟩
  · obtain ⟨rfl, rfl⟩ := hl1 nn z hz; exact .inl ⟨nn, _, by simp, hl, hc⟩

theorem RI.world (h : RI X E U σ a w) {w1 : World} (hk : Kept (fun _ _ => False) w w1) : RI X E U σ a w1 := by
  have := h.step (E' := E) (U' := U) (T := fun _ => False) (rm := []) (ad := []) (.refl _ _) (fun _ h => h) (hk.mono fun _ _ h => h.elim) (fun _ h => h.elim) (fun n x hx => by simp [Aw.look_nil, Aw.look_cons] at hx) (fun n x b hx => by simp [Aw.look_nil, Aw.look_cons] at hx) (fun n m x y b hx => by simp [Aw.look_nil, Aw.look_cons] at hx)
  simpa [dels] using this

theorem step_next {x : Operand} {isS : Bool} {c : Xv} {es' : List Eff} (hs : Sub μ σ) (hx : μ.opd x = some (.val (.one c))) (he : nextE μ d lo c isS = some es') (ho : o.op = .next x isS) (hd : o.dst = some d) (hN : d < X.N) : StepS P X o U σ lo es' := by
  intro a w ⟨E, hr⟩
  have hcx := hr.opd (hs.opd hx)
  have over : ∀ w1, Kept (fun _ _ => False) w w1 → (execOp a.eval o).run P w = .ok (.value (.tuple #[.bool false])) w1 → ∀ {l : List Eff}, (⟨[], [], some (d, .tup [.one (.bool false)]), [], [], lo⟩ : Eff) ∈ l →
      wpX P o a w (fun a' w' => ∃ e ∈ l, R X (fun n => U n ∨ (lo ≤ n ∧ n < e.hi)) (e.ap σ) a' w') := fun w1 hk hrun l hl => by
    unfold wpX
    rw [hrun, OpX_value, hd]
    exact ⟨_, hl, E, ((hr.world hk).put hN (tupN parts1)).weakU fun n hn => .inl hn⟩
  unfold nextE at he
  split at he
  rotate_left; · cases he
  rename_i n off
  split at he
  rotate_left; · cases he
  rename_i h0
  subst h0
  obtain ⟨hn, b, o0, e1, e2⟩ := hcx
  split at he
  · rename_i hl
    split at he
    rotate_left; · cases he
    rename_i hisS
    subst hisS
    injection he with he; subst he
    obtain ⟨_, r, f1, f2⟩ := hr.heap.rel n _ (hs.ob n _ hl)
    rw [e1] at f1; simp only [Value.pointer.injEq, Option.some.injEq, Addr.mk.injEq, and_true] at f1
    obtain ⟨rfl, rfl⟩ := f1
    refine over w (Kept.refl _ _) ?_ (List.mem_singleton.2 rfl)
    unfold execOp
    simp [ho, e2, Instr.next, run_getObj_it f2]
  · rename_i m since seen stepped last hl
    split at he
    rotate_left; · cases he
    rename_i hisS
    subst hisS
    split at he
    rotate_left; · cases he
    rename_i es clock hlm
    split at he
    rotate_left; · cases he
    rename_i hc
    injection he with he
    obtain ⟨_, hm, r, bm, arr, f1, f2, f3, hcon, hemp, hlast⟩ := hr.heap.rel n _ (hs.ob n _ hl)
    rw [e1] at f1; simp only [Value.pointer.injEq, Option.some.injEq, Addr.mk.injEq, and_true] at f1
    obtain ⟨rfl, rfl⟩ := f1
    obtain ⟨_, bm', vs, g1, g2, g3, g4⟩ := hr.heap.rel m _ (hs.ob m _ hlm)
    rw [f2] at g1; simp only [Value.map.injEq, Option.some.injEq] at g1; subst g1
    have hE : EntR E U es vs.toList := EntR.of ⟨by simpa using g3, fun i x e hx he => g4 i x e hx (by simpa using he)⟩
    have hleft := hE.filter (p := fun k => !seen.contains k)
    have hold := hleft.filter (p := fun k => decide (k < since))
    have hnew := hleft.filter (p := fun k => decide (k ≥ since))
    have hall := hold.append hnew
    generalize hL : (es.filter fun e => !seen.contains e.2.2) = left at hleft hold hnew hall
    generalize hO : (left.filter fun e => decide (e.2.2 < since)) = old at hold hall
    generalize hNw : (left.filter fun e => decide (e.2.2 ≥ since)) = new at hnew hall
    have hnext : nextL es since seen = (if old.isEmpty then [none] else []) ++ (old ++ new).map some := by simp only [nextL, hL, hO, hNw]
    have hex : (execOp a.eval o).run P w = (execOp a.eval o).run P w := rfl
    unfold wpX
    unfold execOp
    simp only [ho, e2, Instr.next, Sem.run_bind, Sem.run_pure, Result.andThen_ok, run_getObj_it f3, MapKept.run_getObj_map g2]
    have hcond : ¬ ((!arr.isEmpty && !vs.isEmpty && vs.all fun x => decide (x.born ≥ stepped)) = true) := by
      intro hcc
      simp only [Bool.and_eq_true, Bool.not_eq_true', Array.all_eq_true', decide_eq_true_eq] at hcc
      obtain ⟨⟨q1, q2⟩, q3⟩ := hcc
      have hc1 := hc.1
      simp only [Bool.or_eq_true] at hc1
      rcases hc1 with (h | h) | h
      · rw [hemp, h] at q1; cases q1
      · rw [hE.empty] at h; simp at h; subst h; simp at q2
      · rw [hE.any (p := fun k => decide (k < stepped))] at h
        simp only [List.any_eq_true, decide_eq_true_eq] at h
        obtain ⟨e, he1, he2⟩ := h
        have := q3 e (by simpa using he1)
        omega
    rw [if_neg hcond]
    generalize hC : ((if (Array.filter (fun x => decide (x.born < since)) (Array.filter (fun e => !arr.contains e.born) vs)).isEmpty = true then #[none] else #[]) ++
      Array.map some (Array.filter (fun x => decide (x.born < since)) (Array.filter (fun e => !arr.contains e.born) vs) ++ Array.filter (fun x => decide (x.born ≥ since)) (Array.filter (fun e => !arr.contains e.born) vs)) : Array (Option MapEntry)) = C
    generalize hlv : (vs.toList.filter fun e => !seen.contains e.born) = lv at hleft hold hnew hall
    generalize hov : (lv.filter fun e => decide (e.born < since)) = ov at hold hall
    generalize hnv : (lv.filter fun e => decide (e.born ≥ since)) = nv at hnew hall
    have hCl : C.toList = (if ov.isEmpty then [none] else []) ++ (ov ++ nv).map some := by
      have e1 : (Array.filter (fun e => !arr.contains e.born) vs).toList = lv := by rw [Array.toList_filter, ← hlv]; simp only [hcon]
      have e2 : (Array.filter (fun x => decide (x.born < since)) (Array.filter (fun e => !arr.contains e.born) vs)).toList = ov := by rw [Array.toList_filter, e1, hov]
      have e3 : (Array.filter (fun x => decide (x.born ≥ since)) (Array.filter (fun e => !arr.contains e.born) vs)).toList = nv := by rw [Array.toList_filter, e1, hnv]
      have e4 : (Array.filter (fun x => decide (x.born < since)) (Array.filter (fun e => !arr.contains e.born) vs)).isEmpty = ov.isEmpty := by rw [← e2, Array.isEmpty_toList]
      rw [← hC, e4, Array.toList_append, Array.toList_map, Array.toList_append, e2, e3]
      cases ov.isEmpty <;> rfl
    have hpos : 0 < C.size := by
      rw [← Array.length_toList, hCl]
      cases ov with
      | nil => simp
      | cons x l => simp
    obtain ⟨k, w1, hch, hk, hh, hkept⟩ := run_chooseMap (P := P) (w := w) hpos
    have hCk : C[k]? = some C[k] := Array.getElem?_eq_getElem hk
    have hCk' : C.toList[k]? = some C[k] := by rw [Array.getElem?_toList]; exact hCk
    simp only [Sem.run_bind, hch, Result.andThen_ok, hCk]
    rw [hCl] at hCk'
    have hel : old.isEmpty = ov.isEmpty := hold.empty
    cases hq : C[k] with
    | none =>
      simp only [Sem.run_pure, Result.andThen_ok]
      have hmem : (none : Option (Xp × Xp × Nat)) ∈ nextL es since seen := by
        rw [hq] at hCk'
        rw [hnext, hel]
        have := List.mem_of_getElem? hCk'
        rcases List.mem_append.1 this with h | h
        · apply List.mem_append_left
          split at h
          · rename_i h1; rw [if_pos h1]; simp
          · simp at h
        · simp at h
      rw [OpX_value, hd]
      exact ⟨⟨[], [], some (d, .tup [.one (.bool false)]), [], [], lo⟩, by rw [← he]; exact List.mem_map.2 ⟨none, hmem, rfl⟩, E, ((hr.world hkept).put hN (tupN parts1)).weakU fun n hn => .inl hn⟩
    | some e =>
      rw [hq] at hCk'
      have hin : ∃ j : Nat, (ov ++ nv)[j]? = some e := by
        have := List.mem_of_getElem? hCk'
        rcases List.mem_append.1 this with h | h
        · split at h <;> simp at h
        · simp only [List.mem_map, Option.some.injEq, exists_eq_right] at h
          obtain ⟨j, hj, hje⟩ := List.getElem_of_mem h
          exact ⟨j, by rw [List.getElem?_eq_getElem hj, hje]⟩
      obtain ⟨j, hj⟩ := hin
      obtain ⟨x, hx', hrel⟩ := hall.get j e hj
      have hmem : some x ∈ nextL es since seen := by
        rw [hnext]
        exact List.mem_append_right _ (List.mem_map.2 ⟨x, List.mem_of_getElem? hx', rfl⟩)
      have hset := run_setObj_it (P := P) (w := w1) (Obj.mapIter (some bm) since (arr.push e.born) clock) (by rw [hh]; exact f3)
      simp only [Sem.run_bind, hset, Result.andThen_ok, Sem.run_pure]
      rw [OpX_value, hd]
      have hblk : E.blk n = some b := by unfold Env.blk; rw [e1]
      have hb : b < w1.heap.size := by rw [hh]; exact Aw.lt_of_heap f3
      have hre := retell (y := .it m since (insS x.2.2 seen) clock (some x.2.2)) (w1 := w1) (ob := Obj.mapIter (some bm) since (arr.push e.born) clock) hr (hs.ob n _ hl) hblk hh hkept (fun _ _ _ h => by cases h) (fun _ _ _ h => by rw [f3] at h; cases h)
        ⟨hm, b, bm, arr.push e.born, e1, f2, by simp [hb], fun x' => by rw [insS_contains, ← hcon, ← hrel.2.2, Array.contains_push, Bool.or_comm], by rw [insS_ne]; simp, fun l hl => by injection hl with hl; subst hl; simp [hrel.2.2]⟩
      refine ⟨⟨[], [], some (d, .tup [.one (.bool true), x.1, x.2.1]), [n], [(n, .it m since (insS x.2.2 seen) clock (some x.2.2))], lo⟩, by rw [← he]; exact List.mem_map.2 ⟨some x, hmem, rfl⟩, E, (hre.put hN (tupN (parts3 hrel.1 hrel.2.1))).weakU fun n hn => .inl hn⟩
  · rename_i s pos hl
    split at he
    rotate_left; · cases he
    rename_i hisS
    subst hisS
    obtain ⟨_, r, f1, f2⟩ := hr.heap.rel n _ (hs.ob n _ hl)
    rw [e1] at f1; simp only [Value.pointer.injEq, Option.some.injEq, Addr.mk.injEq, and_true] at f1
    obtain ⟨rfl, rfl⟩ := f1
    have hsz : (⟨s.toArray⟩ : ByteArray).size = s.length := by simp [ByteArray.size]
    split at he
    · rename_i hpos
      injection he with he; subst he
      unfold wpX
      unfold execOp
      have hset := run_setObj_sit (P := P) (w := w) (Obj.stringIter ⟨s.toArray⟩ (pos + (Utf8.decode ⟨s.toArray⟩ pos).2)) f2
      simp only [ho, e2, Instr.next, Sem.run_bind, Sem.run_pure, Result.andThen_ok, run_getObj_sit f2, hsz, if_pos hpos, hset]
      rw [OpX_value, hd]
      have hblk : E.blk n = some b := by unfold Env.blk; rw [e1]
      have hb : b < w.heap.size := Aw.lt_of_heap f2
      have hre := retell (y := .sit s (pos + (Utf8.decode ⟨s.toArray⟩ pos).2)) (w1 := w) (ob := Obj.stringIter ⟨s.toArray⟩ (pos + (Utf8.decode ⟨s.toArray⟩ pos).2)) hr (hs.ob n _ hl) hblk rfl (Kept.refl _ _) (fun _ _ _ h => by cases h) (fun _ _ _ h => by rw [f2] at h; cases h)
        ⟨b, e1, by simp [hb]⟩
      exact ⟨_, List.mem_singleton.2 rfl, E, (hre.put hN (tupN (vs := [.bool true, .int .i64 pos, .int .i32 (Utf8.decode ⟨s.toArray⟩ pos).1]) (parts3 (p := .one (.int .i64 pos)) (q := .one (.int .i32 (Utf8.decode ⟨s.toArray⟩ pos).1)) rfl rfl))).weakU fun n hn => .inl hn⟩
    · rename_i hpos
      injection he with he; subst he
      refine over w (Kept.refl _ _) ?_ (List.mem_singleton.2 rfl)
      unfold execOp
      simp only [ho, e2, Instr.next, Sem.run_bind, Sem.run_pure, Result.andThen_ok, run_getObj_sit f2, hsz, if_neg hpos]
  · cases he
/-! ### What an iteration has come to, read anew -/
def entE (μ : XS) (c : Xv) : Option Xa :=
  match c with
  | .ptr n off => bif off.beq 0 then match Aw.look n μ.ob with
    | some (.it m since seen stepped last) => match Aw.look m μ.ob with
      | some (.mp es clock) => bif clock.beq stepped then match last with
          | some st => match es.find? fun e => e.2.2.beq st with
            | some e => some (.tup [e.1, e.2.1])
            | none => none
          | none => none
        else none
      | _ => none
    | _ => none
    else none
  | _ => none

theorem EntR.find {st : Nat} {x : Xp × Xp × Nat} : ∀ {es : List (Xp × Xp × Nat)} {vs : List MapEntry}, EntR E U es vs → es.find? (fun e => e.2.2.beq st) = some x → ∃ v, vs.find? (fun e => e.born == st) = some v ∧ entryRel E U x v
  | [], [], _, h => by cases h
  | y :: es, v :: vs, ⟨h1, h2⟩, h => by
    have hb : v.born = y.2.2 := h1.2.2
    rw [List.find?_cons] at h ⊢
    rw [hb]
    cases hc : y.2.2.beq st with
    | true =>
      rw [hc] at h; injection h with h; subst h
      have : (y.2.2 == st) = true := by simpa using Nat.eq_of_beq_eq_true hc
      rw [this]; exact ⟨v, rfl, h1⟩
    | false =>
      rw [hc] at h
      have : (y.2.2 == st) = false := by simpa using Nat.ne_of_beq_eq_false hc
      rw [this]; exact EntR.find h2 h
  | [], _ :: _, h, _ => h.elim
  | _ :: _, [], h, _ => h.elim

theorem step_entry {x : Operand} {c : Xv} {r : Xa} (hs : Sub μ σ) (hx : μ.opd x = some (.val (.one c))) (he : entE μ c = some r) (ho : o.op = .entry x) (hd : o.dst = some d) (hN : d < X.N) : StepS P X o U σ lo [⟨[], [], some (d, r), [], [], lo⟩] := by
  refine step_val hd hN fun E a w hr => ?_
  have hc : c.rel E U (a.eval x) := hs.rd hr x _ hx
  unfold entE at he
  split at he
  rotate_left; · cases he
  rename_i n off
  cases h0 : off.beq 0 with
  | false => rw [h0, cond_false] at he; cases he
  | true =>
    have := Nat.eq_of_beq_eq_true h0; subst this
    rw [h0, cond_true] at he
    split at he
    rotate_left; · cases he
    rename_i m since seen stepped last hl
    split at he
    rotate_left; · cases he
    rename_i es clock hl2
    cases h1 : clock.beq stepped with
    | false => rw [h1, cond_false] at he; cases he
    | true =>
      have := Nat.eq_of_beq_eq_true h1; subst this
      rw [h1, cond_true] at he
      split at he
      rotate_left; · cases he
      rename_i st
      split at he
      rotate_left; · cases he
      rename_i e hf
      injection he with he; subst he
      obtain ⟨_, b, q, e1, e2⟩ := hc
      obtain ⟨_, _, r', b', arr, f1, f2, f3, hcon, hemp, hlast⟩ := hr.heap.rel n _ (hs.ob n _ hl)
      rw [e1] at f1
      simp only [Value.pointer.injEq, Option.some.injEq, Addr.mk.injEq, and_true] at f1
      obtain ⟨rfl, rfl⟩ := f1
      obtain ⟨_, b2, vs, g1, g2, g3, g4⟩ := hr.heap.rel m _ (hs.ob m _ hl2)
      rw [f2] at g1
      simp only [Value.map.injEq, Option.some.injEq] at g1
      subst g1
      obtain ⟨v, hv, hrel⟩ := EntR.find (EntR.of (vs := vs.toList) ⟨by simpa using g3, fun i x y hx hy => g4 i x y hx (by simpa using hy)⟩) hf
      refine ⟨.tuple #[v.key, v.val], ?_, tupN (vs := [v.key, v.val]) ⟨rfl, fun i p u hp hu => ?_⟩⟩
      · unfold execOp
        simp only [ho, e2, Instr.entry, Sem.run_bind, run_getObj_it f3, Result.andThen_ok]
        have hb : arr.back? = some _ := hlast _ rfl
        have hfa : vs.find? (fun e => e.born == st) = some v := by rw [← Array.find?_toList]; exact hv
        simp [hb, MapKept.run_getObj_map g2, Sem.run_bind, Sem.run_pure, hfa, Result.andThen]
      · cases i with
        | zero => simp only [List.getElem?_cons_zero, Option.some.injEq] at hp hu; subst hp; subst hu; exact hrel.1
        | succ i => cases i with
          | zero => simp only [List.getElem?_cons_succ, List.getElem?_cons_zero, Option.some.injEq] at hp hu; subst hp; subst hu; exact hrel.2.1
          | succ i => simp at hp
end
end -- nc
end Go.Proofs.YtgjbehfdjnekdaaGreatDoor.Xc
end
