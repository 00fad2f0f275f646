/- Parts of the proof of one statement: Xc2. -/
import Derived.Test.YtgjbehfdjnekdaaGreatDoorT08
set_option linter.all false
section
/- A closed run: names told anew, what a call's contract says, the way into a function and out of it. -/
set_option linter.unusedVariables false
set_option linter.unusedSimpArgs false
namespace Go.Proofs.YtgjbehfdjnekdaaGreatDoor.Xc
noncomputable section
open Go.RowKit
open Go.Proofs.YtgjbehfdjnekdaaGreatDoor.Aw (Kept nlt nle retv getD_put op_steps add_add)

/-! ### Renaming -/
def Xv.ren (r : Nat → Option Nat) : Xv → Xv
  | .ptr n off => match r n with | some m => .ptr m off | none => .any
  | .sl n off len k full => match r n with | some m => .sl m off len k full | none => .any
  | .map n => match r n with | some m => .map m | none => .any
  | .fnv n => match r n with | some m => .fnv m | none => .any
  | c => c
def Xp.ren (r : Nat → Option Nat) : Xp → Xp
  | .one c => .one (c.ren r)
  | .agg cs => .agg (cs.map (Xv.ren r))
def Xa.ren (r : Nat → Option Nat) : Xa → Xa
  | .val p => .val (p.ren r)
  | .tup l => .tup (l.map (Xp.ren r))
def slRen (r : Nat → Option Nat) : List (Nat × Xa) → List (Nat × Xa)
  | [] => []
  | (t, x) :: l => (t, x.ren r) :: slRen r l
def Xo.ren (r : Nat → Option Nat) : Xo → Option Xo
  | .cells T cs => some (.cells T (cs.map (Xv.ren r)))
  | .mp es clock => some (.mp (es.map fun x => (x.1.ren r, x.2.1.ren r, x.2.2)) clock)
  | .fn f first caps => some (.fn f (first.map (Xv.ren r)) (caps.map (Xv.ren r)))
  | .it m since seen stepped last => match r m with | some m' => some (.it m' since seen stepped last) | none => none
  | .it0 => some .it0
  | .sit s pos => some (.sit s pos)
  | .bag T is rest => some (.bag T is rest)
  | .loop N sl ps sa bo st pe => some (.loop N (slRen r sl) ps sa bo st pe)
theorem look_slRen {r : Nat → Option Nat} {t : Nat} : ∀ {l : List (Nat × Xa)}, Aw.look t (slRen r l) = (Aw.look t l).map (Xa.ren r)
  | [] => rfl
  | (s, x) :: l => by
    simp only [slRen, Aw.look_nil, Aw.look_cons]
    split
    · rfl
    · exact look_slRen

def RenOK (r : Nat → Option Nat) (E : Env) (U : Us) (E' : Env) (U' : Us) : Prop := ∀ n m, U n → r n = some m → U' m ∧ E'.ι m = E.ι n ∧ E'.hi m = E.hi n

section
variable {r : Nat → Option Nat} {E E' : Env} {U U' : Us} {w : World}
theorem Xv.ren_rel (hr : RenOK r E U E' U') {c : Xv} {v : Value} (h : c.rel E U v) : (c.ren r).rel E' U' v := by
  have h1 := Xv.one h
  cases c with
  | ptr n off =>
    simp only [Xv.ren]
    split
    · rename_i m hm; obtain ⟨hn, b, o, e1, e2⟩ := h; obtain ⟨g1, g2, g3⟩ := hr n m hn hm; exact ⟨g1, b, o, g2.trans e1, e2⟩
    · exact h1
  | sl n off len k full =>
    simp only [Xv.ren]
    split
    · rename_i m hm; obtain ⟨hn, b, o, o2, cap, e1, e2, e3, e4, e5, e6, e7, e8⟩ := h; obtain ⟨g1, g2, g3⟩ := hr n m hn hm; exact ⟨g1, b, o, o2, cap, g2.trans e1, e2, e3, e4, e5, e6, by rw [g3]; exact e7, e8⟩
    · exact h1
  | map n =>
    simp only [Xv.ren]
    split
    · rename_i m hm; obtain ⟨hn, b, e1, e2⟩ := h; obtain ⟨g1, g2, g3⟩ := hr n m hn hm; exact ⟨g1, b, g2.trans e1, e2⟩
    · exact h1
  | fnv n =>
    simp only [Xv.ren]
    split
    · rename_i m hm; obtain ⟨hn, e1, e2⟩ := h; obtain ⟨g1, g2, g3⟩ := hr n m hn hm; exact ⟨g1, e1.trans g2.symm, e2⟩
    · exact h1
  | _ => exact h
theorem cellsRel.ren (hr : RenOK r E U E' U') {cs : List Xv} {vs : List Value} (h : cellsRel E U cs vs) : cellsRel E' U' (cs.map (Xv.ren r)) vs :=
  ⟨by simpa using h.1, fun i c v hc hv => by
    rw [List.getElem?_map] at hc
    obtain ⟨c', hc', rfl⟩ := Option.map_eq_some_iff.1 hc
    exact Xv.ren_rel hr (h.2 i c' v hc' hv)⟩
theorem Xp.ren_rel (hr : RenOK r E U E' U') {p : Xp} {v : Value} (h : p.rel E U v) : (p.ren r).rel E' U' v := by
  cases p with
  | one c => exact Xv.ren_rel hr h
  | agg cs => obtain ⟨vs, h1, h2⟩ := h; exact ⟨vs, h1, h2.ren hr⟩
theorem partsRel.ren (hr : RenOK r E U E' U') {l : List Xp} {vs : List Value} (h : partsRel E U l vs) : partsRel E' U' (l.map (Xp.ren r)) vs :=
  ⟨by simpa using h.1, fun i c v hc hv => by
    rw [List.getElem?_map] at hc
    obtain ⟨c', hc', rfl⟩ := Option.map_eq_some_iff.1 hc
    exact Xp.ren_rel hr (h.2 i c' v hc' hv)⟩
theorem Xa.ren_rel (hr : RenOK r E U E' U') {p : Xa} {v : Value} (h : p.rel E U v) : (p.ren r).rel E' U' v := by
  cases p with
  | val c => exact Xp.ren_rel hr h
  | tup cs => obtain ⟨vs, h1, h2⟩ := h; exact ⟨vs, h1, h2.ren hr⟩
theorem Xo.ren_rel (hr : RenOK r E U E' U') {x y : Xo} {n m : Nat} (hn : U n) (hm : r n = some m) (h : x.rel E U n w) (hy : x.ren r = some y) : y.rel E' U' m w := by
  obtain ⟨g1, g2, g3⟩ := hr n m hn hm
  cases x with
  | cells T cs =>
    simp only [Xo.ren, Option.some.injEq] at hy; subst hy
    obtain ⟨b, o, vs, e1, e2, e3, e4, e5⟩ := h
    refine ⟨b, o, vs, g2.trans e1, e2, by rw [g3]; exact e3, by rw [g3]; simpa using e4, fun i c hc => ?_⟩
    rw [List.getElem?_map] at hc
    obtain ⟨c', hc', rfl⟩ := Option.map_eq_some_iff.1 hc
    obtain ⟨v, hv, hrel⟩ := e5 i c' hc'
    exact ⟨v, hv, Xv.ren_rel hr hrel⟩
  | mp es clock =>
    simp only [Xo.ren, Option.some.injEq] at hy; subst hy
    obtain ⟨b, vs, e1, e2, e3, e4⟩ := h
    refine ⟨b, vs, g2.trans e1, e2, by simpa using e3, fun i x e hx he => ?_⟩
    rw [List.getElem?_map] at hx
    obtain ⟨x', hx', rfl⟩ := Option.map_eq_some_iff.1 hx
    exact ⟨Xp.ren_rel hr (e4 i x' e hx' he).1, Xp.ren_rel hr (e4 i x' e hx' he).2.1, (e4 i x' e hx' he).2.2⟩
  | fn f first caps =>
    simp only [Xo.ren, Option.some.injEq] at hy; subst hy
    obtain ⟨fs, cs, e1, e2, e3⟩ := h
    exact ⟨fs, cs, g2.trans e1, e2.ren hr, e3.ren hr⟩
  | it k since seen stepped last =>
    simp only [Xo.ren] at hy
    split at hy
    · rename_i k' hk; injection hy with hy; subst hy
      obtain ⟨e0, b, c, arr, e1, e2, e3, e4⟩ := h
      obtain ⟨f1, f2, f3⟩ := hr k k' e0 hk
      exact ⟨f1, b, c, arr, g2.trans e1, f2.trans e2, e3, e4⟩
    · cases hy
  | it0 => simp only [Xo.ren, Option.some.injEq] at hy; subst hy; obtain ⟨b, e1, e2⟩ := h; exact ⟨b, g2.trans e1, e2⟩
  | sit s pos => simp only [Xo.ren, Option.some.injEq] at hy; subst hy; obtain ⟨b, e1, e2⟩ := h; exact ⟨b, g2.trans e1, e2⟩
  | bag T is rest => simp only [Xo.ren, Option.some.injEq] at hy; subst hy; obtain ⟨js, hp, b, o, vs, e1, e2, e3, e4, e5⟩ := h; exact ⟨js, hp, b, o, vs, g2.trans e1, e2, by rw [g3]; exact e3, by rw [g3]; exact e4, e5⟩
  | loop N sl ps sa bo st pe =>
    simp only [Xo.ren, Option.some.injEq] at hy; subst hy
    obtain ⟨l, f, tmps, df, e1, e2, e3, e4⟩ := h
    refine ⟨l, f, tmps, df, g2.trans e1, e2, e3, fun t x hx => ?_⟩
    rw [look_slRen] at hx
    obtain ⟨x', hx', rfl⟩ := Option.map_eq_some_iff.1 hx
    exact Xa.ren_rel hr (e4 t x' hx')
end

def idx (n : Nat) : List Nat → Option Nat
  | [] => none
  | m :: l => bif m.beq n then some 0 else match idx n l with | some i => some (i + 1) | none => none
theorem idx_some {n : Nat} : ∀ {l : List Nat} {i : Nat}, idx n l = some i → l[i]? = some n
  | [], i, h => by cases h
  | m :: l, i, h => by
    simp only [idx] at h
    cases hb : m.beq n with
    | true => rw [hb, cond_true] at h; injection h with h; subst h; simp [Nat.eq_of_beq_eq_true hb]
    | false =>
      rw [hb, cond_false] at h
      split at h
      · rename_i j hj; injection h with h; subst h; simpa using idx_some hj
      · cases h

/-- The objects with these names, told by their places in the list. -/
def subAt (ns : List Nat) (ob : List (Nat × Xo)) : Nat → List Nat → List (Nat × Xo)
  | _, [] => []
  | i, n :: l => match idx n ns, Aw.look n ob with
    | some j, some x => bif j.beq i then (match x.ren (fun m => idx m ns) with | some y => (i, y) :: subAt ns ob (i + 1) l | none => subAt ns ob (i + 1) l) else subAt ns ob (i + 1) l
    | _, _ => subAt ns ob (i + 1) l
abbrev sub (ns : List Nat) (ob : List (Nat × Xo)) : List (Nat × Xo) := subAt ns ob 0 ns

theorem look_subAt {ns : List Nat} {ob : List (Nat × Xo)} {m : Nat} {y : Xo} : ∀ {l : List Nat} {i : Nat}, Aw.look m (subAt ns ob i l) = some y → ∃ n x, idx n ns = some m ∧ Aw.look n ob = some x ∧ x.ren (fun m => idx m ns) = some y
  | [], i, h => by simp [subAt, Aw.look_nil, Aw.look_cons] at h
  | n :: l, i, h => by
    simp only [subAt] at h
    split at h
    · rename_i j x hj hx
      cases hb : j.beq i with
      | true =>
        rw [hb, cond_true] at h
        split at h
        · rename_i z hz
          simp only [Aw.look_nil, Aw.look_cons] at h
          split at h
          · rename_i e; injection h with h; subst h; subst e; have := Nat.eq_of_beq_eq_true hb; subst this; exact ⟨n, x, hj, hx, hz⟩
          · exact look_subAt h
        · exact look_subAt h
      | false => rw [hb, cond_false] at h; exact look_subAt h
    · exact look_subAt h

theorem subAt_congr {ns : List Nat} {ob ob' : List (Nat × Xo)} : ∀ {l : List Nat} {i : Nat}, (∀ n ∈ l, Aw.look n ob = Aw.look n ob') → subAt ns ob i l = subAt ns ob' i l
  | [], i, _ => rfl
  | n :: l, i, h => by
    simp only [subAt]
    rw [h n (by simp), subAt_congr (l := l) (i := i + 1) fun m hm => h m (by simp [hm])]

/-- The environment of the part that the list names. -/
def Env.sub (E : Env) (ns : List Nat) : Env := ⟨fun m => E.ι (ns.getD m 0), fun m => E.hi (ns.getD m 0)⟩
theorem ren_sub {ns : List Nat} {E : Env} {U : Us} : RenOK (fun m => idx m ns) E U (E.sub ns) (fun m => m < ns.length) := fun n m hn hm => by
  have h := idx_some hm
  have hl : m < ns.length := by rcases Nat.lt_or_ge m ns.length with h' | h'; exact h'; simp [List.getElem?_eq_none h'] at h
  have : ns.getD m 0 = n := by rw [List.getD_eq_getElem?_getD, h]; rfl
  exact ⟨hl, by simp only [Env.sub, this], by simp only [Env.sub, this]⟩
theorem heap_sub {ns : List Nat} {ob : List (Nat × Xo)} {E : Env} {U : Us} {w : World} (h : HeapRel E U ob w) : HeapRel (E.sub ns) (fun m => m < ns.length) (sub ns ob) w where
  rel m y hy := by
    obtain ⟨n, x, h1, h2, h3⟩ := look_subAt hy
    obtain ⟨hn, hx⟩ := h.rel n x h2
    exact ⟨(ren_sub (E := E) (U := U) n m hn h1).1, Xo.ren_rel ren_sub hn h1 hx h3⟩
  inj m m' y y' b hy hy' hb hb' := by
    obtain ⟨n, x, h1, h2, h3⟩ := look_subAt hy
    obtain ⟨n', x', h1', h2', h3'⟩ := look_subAt hy'
    have e1 := (ren_sub (E := E) (U := U) n m (h.rel n x h2).1 h1).2.1
    have e2 := (ren_sub (E := E) (U := U) n' m' (h.rel n' x' h2').1 h1').2.1
    have b1 : E.blk n = some b := by rw [← hb]; unfold Env.blk; rw [e1]
    have b2 : E.blk n' = some b := by rw [← hb']; unfold Env.blk; rw [e2]
    have := h.inj n n' x x' b h2 h2' b1 b2
    subst this
    rw [h1] at h1'; injection h1'
  lo m y b hy hb := by
    obtain ⟨n, x, h1, h2, h3⟩ := look_subAt hy
    have e1 := (ren_sub (E := E) (U := U) n m (h.rel n x h2).1 h1).2.1
    exact h.lo n x b h2 (by rw [← hb]; unfold Env.blk; rw [e1])
  glob := h.glob

/-! ### Contracts -/
structure Out where
  res : List Xp
  ob : List (Nat × Xo)
  k : Nat
  deriving Inhabited
def Out.same (o p : Out) : Bool := decide (o.res = p.res) && obSame o.ob p.ob && o.k.beq p.k
theorem Out.same_eq {o p : Out} (h : o.same p = true) : o = p := by
  cases o; cases p
  simp only [Out.same, Bool.and_eq_true, decide_eq_true_eq] at h
  simp [h.1.1, obSame_eq h.1.2, Nat.eq_of_beq_eq_true h.2]
def outsSame : List Out → List Out → Bool
  | [], [] => true
  | o :: l, p :: k => o.same p && outsSame l k
  | _, _ => false
theorem outsSame_eq : ∀ {l k : List Out}, outsSame l k = true → l = k
  | [], [], _ => rfl
  | o :: l, p :: k, h => by
    simp only [outsSame, Bool.and_eq_true] at h
    rw [Out.same_eq h.1, outsSame_eq h.2]
  | [], _ :: _, h => by simp [outsSame] at h
  | _ :: _, [], h => by simp [outsSame] at h
/-- What is called: a function, or a round of a loop by its name. -/
inductive Cle where
  | fn (f : FuncId)
  | rd (n : Nat)
  deriving DecidableEq

/-- What a call with these arguments over these objects comes to. -/
def XP (w : World) (E : Env) (k : Nat) (ob : List (Nat × Xo)) (outs : List Out) (e : Ending) (w' : World) : Prop :=
  ∃ out ∈ outs, ∃ (E' : Env) (rs : List Value), e = .returned (retv rs) ∧ k ≤ out.k ∧ Env.le (fun n => n < k) E E' ∧ partsRel E' (fun n => n < out.k) out.res rs ∧ HeapRel E' (fun n => n < out.k) out.ob w' ∧
    Kept (fun b _ => ∃ n x, Aw.look n ob = some x ∧ E.blk n = some b) w w' ∧ ∀ n x b, Aw.look n out.ob = some x → E'.blk n = some b → (∃ m y, Aw.look m ob = some y ∧ E.blk m = some b) ∨ w.heap.size ≤ b
def XC (P : Program) (c : Cle) (args : List Xp) (k : Nat) (ob : List (Nat × Xo)) (outs : List Out) : Prop :=
  ∀ (w : World) (E : Env) (vs : List Value), HeapRel E (fun n => n < k) ob w → partsRel E (fun n => n < k) args vs → match c with
    | .fn f => Calls P f vs.toArray w (XP w E k ob outs)
    | .rd n => ∀ (l : Nat) (r : Loop), n < k → E.ι n = .func (.yield l) #[] #[] → w.heap[l]? = some (.loop r) → vs.length = r.params.size ∧
        RoundX P l r.fn ((r.params.zip vs.toArray).foldl (fun tmps (t, a) => tmps.setIfInBounds t a) r.tmps) r.assign r.body w (XP w E k ob outs)

def sloe : Nat → List Xp → List (Nat × Xa)
  | _, [] => []
  | i, p :: l => (i, .val p) :: sloe (i + 1) l
theorem look_sloe : ∀ (l : List Xp) (i t : Nat) (x : Xa), Aw.look t (sloe i l) = some x → ∃ p, x = .val p ∧ i ≤ t ∧ l[t - i]? = some p
  | [], i, t, x, h => by simp [sloe, Aw.look_nil, Aw.look_cons] at h
  | p :: l, i, t, x, h => by
    simp only [sloe, Aw.look_nil, Aw.look_cons] at h
    by_cases e : t = i
    · rw [if_pos e] at h; injection h with h; subst h; subst e; exact ⟨p, rfl, Nat.le_refl _, by simp⟩
    · rw [if_neg e] at h
      obtain ⟨q, h1, h2, h3⟩ := look_sloe l (i + 1) t x h
      refine ⟨q, h1, by omega, ?_⟩
      rw [show t - i = (t - (i + 1)) + 1 by omega, List.getElem?_cons_succ]
      exact h3

abbrev ctxOf (w : World) (E : Env) (k : Nat) (ob : List (Nat × Xo)) (N : Nat) (ro : Option Nat) : Ctx := ⟨w, E, fun n => n < k, fun b => ∃ n x, Aw.look n ob = some x ∧ E.blk n = some b, N, ro⟩

/-! ### The way out, past the marks of loops over functions -/
theorem kept_setObj {w : World} {b : Nat} {x : Obj} (hc : ∀ vs t f, x ≠ .cells vs t f) (hc0 : ∀ vs t f, w.heap[b]? ≠ some (.cells vs t f)) : Kept (fun c _ => c = b) w { w with heap := w.heap.setIfInBounds b x } :=
  ⟨rfl, rfl, rfl, by simp, fun c hcl hq => by
    have hne : b ≠ c := fun e => hq 0 e.symm
    simp [hne], fun c q hcl hq => by
    have hne : b ≠ c := fun e => hq e.symm
    simp [World.cell?, hne]⟩

def mark (r : Nat) : Deferred := { target := .collected r, args := #[] }
def takeAll : List Nat → World → World
  | [], w => w
  | r :: rs, w => takeAll rs (w.putObj r (.deferred none))
theorem RI.take {X : Ctx} {E : Env} {U : Us} {σ : XS} {a : Act} {w : World} (h : RI X E U σ a w) {r : Nat} {rs : List Nat} (hd : a.defers = (r :: rs).map mark) (hn : (r :: rs).Nodup) (hr : ∀ s ∈ r :: rs, X.w0.heap.size ≤ s ∧ w.heap[s]? = some (.deferred (some []))) :
    RI X E U σ { a with defers := rs.map mark } (w.putObj r (.deferred none)) := by
  have hr0 := hr r List.mem_cons_self
  have hoth : ∀ s, s ≠ r → (w.putObj r (.deferred none)).heap[s]? = w.heap[s]? := fun s hs => World.putObj_heap_other hs
  refine { slot := h.slot, heap := ⟨fun n x hx => ⟨(h.heap.rel n x hx).1, Xo.mono (h.heap.rel n x hx).1 (h.heap.rel n x hx).2 (.refl _ _) (fun _ hn => hn) fun b hb => hoth b fun e => ?_⟩, h.heap.inj, h.heap.lo, h.heap.glob.kept (S := fun b => b = r) (kept_setObj (w := w) (b := r) (x := .deferred none) (by simp) (by rw [hr0.2]; simp)) fun b e => by rw [e]; exact Nat.le_trans h.low0 hr0.1⟩,
           size := h.size, defers := ⟨rs, rfl, (List.nodup_cons.1 hn).2, fun s hs => ⟨(hr s (List.mem_cons_of_mem _ hs)).1, ?_⟩⟩, kept := ?_, own := h.own, base := h.base, env := h.env, low0 := h.low0 }
  · subst e; exact Xo.nodef (h.heap.rel n x hx).2 hb hr0.2
  · rw [hoth s fun e => (List.nodup_cons.1 hn).1 (e ▸ hs)]; exact (hr s (List.mem_cons_of_mem _ hs)).2
  · exact h.kept.step (kept_setObj (w := w) (b := r) (x := .deferred none) (by simp) (by rw [hr0.2]; simp)) fun b q hb e => by subst e; omega
theorem step_take {P : Program} {fr : Frame} {cs : List Frame} {w : World} {r : Nat} {ds : List Deferred} (hm : fr.mode = .returning) (hd : fr.defers = mark r :: ds) (h : w.heap[r]? = some (.deferred (some []))) :
    step P (lone fr cs w) = .next (lone { fr with defers := ds } cs (w.putObj r (.deferred none))) :=
  step_lone_go (by simp [stepG, unwind, hm, hd, mark, Sem.runT_eq, run_takeDeferred h, GStep.bare_after])
theorem take_steps {P : Program} {cs : List Frame} : ∀ {rs : List Nat} {fr : Frame} {w : World}, fr.mode = .returning → fr.defers = rs.map mark → rs.Nodup → (∀ r ∈ rs, w.heap[r]? = some (.deferred (some []))) →
    Steps P (lone fr cs w) (lone { fr with defers := [] } cs (takeAll rs w))
  | [], fr, w, hm, hd, _, _ => by
    have : ({ fr with defers := [] } : Frame) = fr := by cases fr; simp at hd; simp [hd]
    rw [this]; exact .refl _ _
  | r :: rs, fr, w, hm, hd, hn, hr => by
    refine .head (step_take hm hd (hr r List.mem_cons_self)) ?_
    have := take_steps (P := P) (cs := cs) (rs := rs) (fr := { fr with defers := rs.map mark }) (w := w.putObj r (.deferred none)) hm rfl (List.nodup_cons.1 hn).2 fun s hs => by
      rw [World.putObj_heap_other (k := s) (r := r) fun e => (List.nodup_cons.1 hn).1 (e ▸ hs)]; exact hr s (List.mem_cons_of_mem _ hs)
    exact this

/-- What a function's body owes at its end. -/
def fnQ (P : Program) (fn : Func) (R : Ending → World → Prop) : Fin → Act → World → Prop
  | .exit _, _, _ => False
  | _, a, w => ∃ rs : List Nat, a.defers = rs.map mark ∧ rs.Nodup ∧ (∀ r ∈ rs, w.heap[r]? = some (.deferred (some []))) ∧ ∃ v, (results fn a.tmps).run P (takeAll rs w) = .ok v (takeAll rs w) ∧ R (.returned v) (takeAll rs w)
/-- What a round owes at its end. -/
def rdQ (P : Program) (l : Nat) (R : Ending → World → Prop) (e : Fin) (a : Act) (w : World) : Prop :=
  ∃ w' v, (Instr.endRound l (match e with | .normal => none | .ret => some .ret | .exit id => some (.exit id))).run P w = .ok v w' ∧ R (.returned v) w'


/-- The way in. -/
theorem xc_intro {P : Program} {f : FuncId} {fn : Func} {c : Code} {args : List Xp} {k : Nat} {ob : List (Nat × Xo)} {outs : List Out} (hf : P.funcs[f]? = some fn) (hb : fn.body = some c) (hn : args.length ≤ fn.ntmps)
    (g : ∀ w E, Gx P (fnQ P fn (XP w E k ob outs)) (ctxOf w E k ob fn.ntmps none) [.code c] (fun n => n < k) ⟨sloe 0 args, ob⟩) : XC P (.fn f) args k ob outs := by
  intro w E vs hheap hargs cs
  let b : Frame := { (default : Frame) with fn := f, kind := .normal }
  have henter : Frame.enter P f vs.toArray .normal =
      b.atR { tmps := vs.toArray ++ Array.replicate (fn.ntmps - vs.toArray.size) undef, defers := [] } [.code c] := by
    simp [Frame.enter, Frame.atR, hf, hb, b]; rfl
  have hlen : vs.length = args.length := hargs.1.symm
  obtain ⟨e, a', w', hq, harr⟩ := g w E { tmps := vs.toArray ++ Array.replicate (fn.ntmps - vs.toArray.size) undef, defers := [] } w
    ⟨E, {
      slot := fun t x hx => by
        obtain ⟨p, rfl, _, hp⟩ := look_sloe args 0 t x hx
        have htl : t < args.length := by rcases Nat.lt_or_ge t args.length with h | h; exact h; simp [List.getElem?_eq_none h] at hp
        have hv : vs[t]? = some vs[t] := List.getElem?_eq_getElem (by omega)
        have hg : (vs.toArray ++ Array.replicate (fn.ntmps - vs.toArray.size) undef).getD t undef = vs[t] := by
          simp [Array.getD_eq_getD_getElem?, Array.getElem?_append, show t < vs.length by omega]
        show p.rel _ _ ((vs.toArray ++ Array.replicate (fn.ntmps - vs.toArray.size) undef).getD t undef)
        rw [hg]
        exact hargs.2 t p vs[t] (by simpa using hp) hv
      heap := hheap
      size := by simp; omega
      defers := DefOK.nil _ _
      kept := Kept.refl _ _
      own := fun n x b hx hb => .inl ⟨n, x, hx, hb⟩
      base := fun n hn => hn
      env := .refl _ _
      low0 := hheap.glob.low }⟩ b cs rfl
  rw [← henter] at harr
  have key : ∀ {fr : Frame}, fr.mode = .returning → fr.fn = f → fr.kind = .normal → fr.tmps = a'.tmps → fr.defers = a'.defers → (∃ rs : List Nat, a'.defers = rs.map mark ∧ rs.Nodup ∧ (∀ r ∈ rs, w'.heap[r]? = some (.deferred (some []))) ∧ ∃ v, (results fn a'.tmps).run P (takeAll rs w') = .ok v (takeAll rs w') ∧ XP w E k ob outs (.returned v) (takeAll rs w')) →
      Steps P (lone (Frame.enter P f vs.toArray .normal) cs w) (lone fr cs w') → ∃ e w' fr, XP w E k ob outs e w' ∧ Comes P (lone (Frame.enter P f vs.toArray .normal) cs w) (lone fr cs w') e ∧ fr.fn = f ∧ fr.leaving P w' e := by
    intro fr h1 h2 h3 h4 h5 ⟨rs, g1, g2, g3, v, g4, g5⟩ hs
    refine ⟨.returned v, takeAll rs w', { fr with defers := [] }, g5, Steps.trans hs (take_steps h1 (h5.trans g1) g2 g3), h2, h1, rfl, ?_⟩
    exact ⟨by simp [h3], fn, by simpa [h2] using hf, by simpa [h4] using g4⟩
  cases e with
  | normal => exact key (fr := { b.atR a' [] with mode := .returning }) rfl rfl rfl rfl rfl hq (Steps.trans harr (.one (stepR_end rfl)))
  | ret =>
    obtain ⟨todo, hs⟩ := harr
    exact key (fr := { b.atR a' (.code .ret :: todo) with mode := .returning }) rfl rfl rfl rfl rfl hq (Steps.trans hs (.one (stepR_ret rfl)))
  | exit id => exact hq.elim

/-- The parameters' slots of a round. -/
def setSl : List Nat → List Xp → List (Nat × Xa) → List (Nat × Xa)
  | t :: ts, p :: ps, sl => setSl ts ps ((t, .val p) :: sl)
  | _, _, sl => sl
theorem setSl_rel {E : Env} {U : Us} : ∀ {ts : List Nat} {ps : List Xp} {vs : List Value} {sl : List (Nat × Xa)} {tmps : Array Value}, partsRel E U ps vs → ts.length = ps.length → (∀ t ∈ ts, t < tmps.size) →
    (∀ t x, Aw.look t sl = some x → x.rel E U (tmps.getD t undef)) → ∀ t x, Aw.look t (setSl ts ps sl) = some x → x.rel E U (((ts.zip vs).foldl (fun tmps (x : Nat × Value) => tmps.setIfInBounds x.1 x.2) tmps).getD t undef)
  | [], [], vs, sl, tmps, _, _, _, h => by simpa [setSl] using h
  | t :: ts, p :: ps, [], sl, tmps, hp, _, _, h => by have := hp.1; simp at this
  | t :: ts, p :: ps, v :: vs, sl, tmps, hp, hl, hb, h => by
    simp only [setSl, List.zip_cons_cons, List.foldl_cons]
    refine setSl_rel (ps := ps) (vs := vs) ⟨by simpa using hp.1, fun i q u hq hu => hp.2 (i + 1) q u (by simpa using hq) (by simpa using hu)⟩ (by simpa using hl) (fun s hs => by simpa using hb s (List.mem_cons_of_mem _ hs)) fun s x hx => ?_
    have ht := hb t List.mem_cons_self
    rw [Array.getD_eq_getD_getElem?, Array.getElem?_setIfInBounds]
    simp only [Aw.look_nil, Aw.look_cons] at hx
    by_cases e : s = t
    · subst e; simp only [if_true, Option.some.injEq] at hx; subst hx; simpa [ht, Xa.rel] using hp.2 0 p v rfl rfl
    · rw [if_neg e] at hx; rw [if_neg (fun e' => e e'.symm)]; simpa [Array.getD_eq_getD_getElem?] using h s x hx
theorem zip_toList {α β : Type} (a : Array α) (b : Array β) : (a.zip b).toList = a.toList.zip b.toList := by simp

theorem xr_intro {P : Program} {n N : Nat} {sl : List (Nat × Xa)} {ts : List Nat} {sa bo : Code} {st : LoopState} {pe : Option Code} {args : List Xp} {k : Nat} {ob : List (Nat × Xo)} {outs : List Out} (hl : Aw.look n ob = some (.loop N sl ts sa bo st pe)) (hn : args.length = ts.length)
    (hN : ∀ t ∈ ts, t < N)
    (g : ∀ w E l, E.ι n = .func (.yield l) #[] #[] → n < k → Gx P (rdQ P l (XP w E k ob outs)) (ctxOf w E k ob N (some l)) [.code sa, .beginRound, .code bo] (fun n => n < k) ⟨setSl ts args sl, ob⟩) : XC P (.rd n) args k ob outs := by
  intro w E vs hheap hargs l r hk hι hr
  obtain ⟨_, l', f, tmps, df, h1, h2, h3, h4⟩ := hheap.rel n _ hl
  rw [hι] at h1
  simp only [Value.func.injEq, Fn.yield.injEq, and_self, and_true] at h1
  subst h1
  rw [hr] at h2
  simp only [Option.some.injEq, Obj.loop.injEq] at h2
  subst h2
  refine ⟨by have := hargs.1; simp; omega, fun c cs => ?_⟩
  let b : Frame := { (default : Frame) with fn := f, kind := .normal, roundOf := some l }
  generalize hT : ((ts.toArray.zip vs.toArray).foldl (fun tmps (x : Nat × Value) => tmps.setIfInBounds x.1 x.2) tmps) = T
  have hT' : (ts.zip vs).foldl (fun tmps (x : Nat × Value) => tmps.setIfInBounds x.1 x.2) tmps = T := by
    rw [← hT, ← Array.foldl_toList, zip_toList]
  have hround : Frame.round l f T sa bo .normal = b.atR { tmps := T, defers := [] } [.code sa, .beginRound, .code bo] := by
    simp [Frame.round, Frame.atR, b]
  obtain ⟨e, a', w', ⟨w1, v, hq, hR⟩, harr⟩ := g w E l hι hk { tmps := T, defers := [] } w
    ⟨E, {
      slot := fun t x hx => by
        have := setSl_rel hargs (by omega) (fun t ht => by rw [h3]; exact hN t ht) h4 t x hx
        rw [hT'] at this
        exact this
      heap := hheap
      size := by
        rw [← hT', ← h3]
        clear hT' hT hround h4 hheap hn hN hl hargs g hr h3
        show (List.foldl _ tmps (ts.zip vs)).size = tmps.size
        generalize ts.zip vs = zs
        induction zs generalizing tmps with
        | nil => rfl
        | cons z zs ih => rw [List.foldl_cons, ih]; simp
      defers := DefOK.nil _ _
      kept := Kept.refl _ _
      own := fun n x b hx hb => .inl ⟨n, x, hx, hb⟩
      base := fun n hn => hn
      env := .refl _ _
      low0 := hheap.glob.low }⟩ b (c :: cs) rfl
  rw [← hround] at harr
  refine ⟨v, w1, hR, ?_⟩
  cases e with
  | normal => exact Steps.trans harr (.one (stepR_round_end rfl rfl hq))
  | ret => obtain ⟨k', hs⟩ := harr; exact Steps.trans hs (.one (stepR_round_ret rfl rfl hq))
  | exit id => obtain ⟨k', hx, hs⟩ := harr; exact Steps.trans hs (.one (stepR_round_exit rfl rfl hx hq))

/-! ### Types -/
structure XT where
  desc : TypeDesc
  size : Nat
  agg : Bool
  zero : List Xv
  bytes : Nat

def zerosA : List Value → Option (List Xv)
  | [] => some []
  | v :: l => match constA v, zerosA l with
    | some c, some cs => some (c :: cs)
    | _, _ => none
theorem zerosA_rel (E : Env) (U : Us) : ∀ {vs : List Value} {cs : List Xv}, zerosA vs = some cs → cellsRel E U cs vs
  | [], cs, h => by simp only [zerosA, Option.some.injEq] at h; subst h; exact ⟨rfl, fun i c v hc => by simp at hc⟩
  | v :: l, cs, h => by
    simp only [zerosA] at h
    split at h
    · rename_i c cs' h1 h2
      injection h with h; subst h
      have ih := zerosA_rel E U h2
      refine ⟨by simpa using ih.1, fun i c v hc hv => ?_⟩
      cases i with
      | zero => simp only [List.getElem?_cons_zero, Option.some.injEq] at hc hv; subst hc; subst hv; exact constA_rel h1 E U
      | succ i => exact ih.2 i c v (by simpa using hc) (by simpa using hv)
    · cases h

structure TyOK (P : Program) (t : TypeId) (i : XT) : Prop where
  und : P.underlying t = some i.desc
  size : ∀ w, (sizeOf t).run P w = .ok i.size w
  agg : ∀ w, (isAgg t).run P w = .ok i.agg w
  zero : ∃ z, (∀ w, (zeroValue t).run P w = .ok z w) ∧ zerosA z.cells.toList = some i.zero ∧ (i.agg = true ↔ ∃ cs, z = .agg cs) ∧ i.zero.length = i.size ∧
    (P.info? t).map (fun j => (j.zero, j.size, j.bytes)) = some (some z, i.size, i.bytes)

/-! ### Results, and the way out -/
def cellAt (σ : XS) (n off : Nat) (agg : Bool) (size : Nat) : Option Xp :=
  match Aw.look n σ.ob with
  | some (.cells _ cs) => bif agg then (bif (off + size).ble cs.length then some (.agg ((cs.drop off).take size)) else none) else cs[off]?.map .one
  | _ => none

def resOf (ty : Nat → Option XT) (σ : XS) : ResultVar → Option Xp
  | .tmp t => match Aw.look t σ.sl with | some (.val p) => some p | _ => none
  | .cell t T => match Aw.look t σ.sl, ty T with
    | some (.val (.one (.ptr n off))), some i => cellAt σ n off i.agg i.size
    | _, _ => none
def resL (ty : Nat → Option XT) (σ : XS) : List ResultVar → Option (List Xp)
  | [] => some []
  | r :: l => match resOf ty σ r, resL ty σ l with
    | some p, some ps => some (p :: ps)
    | _, _ => none

section
variable {P : Program} {X : Ctx} {U : Us} {σ : XS} {E : Env} {a : Act} {w : World}

/-- A read of an object's cells. -/
theorem run_cellAt (h : RI X E U σ a w) {n off size : Nat} {agg : Bool} {p : Xp} (hp : cellAt σ n off agg size = some p) {T : TypeId} (hA : ∀ w, (isAgg T).run P w = .ok agg w) (hS : ∀ w, (sizeOf T).run P w = .ok size w) {v : Value} (hv : (Xv.ptr n off).rel E U v) :
    ∃ u, (do loadVar T (← asAddr v) : Sem Value).run P w = .ok u w ∧ p.rel E U u := by
  obtain ⟨hn, b, o, e1, rfl⟩ := hv
  unfold cellAt at hp
  split at hp
  · rename_i T' cs hl
    obtain ⟨_, b', o', vs, e1', e2, e3, e4, e5⟩ := h.heap.rel n _ hl
    rw [e1] at e1'; simp only [Value.pointer.injEq, Option.some.injEq, Addr.mk.injEq, and_true] at e1'
    obtain ⟨rfl, rfl⟩ := e1'
    have hcell : ∀ j v, vs[o + off + j]? = some v → w.cell? ((⟨b, o + off, none⟩ : Addr).add j) = some v := fun j v hv => by
      rw [add_add, cell_of_row w b _ vs _ (0, 0) e2]; exact hv
    cases agg with
    | true =>
      rw [cond_true] at hp
      cases hb : (off + size).ble cs.length with
      | false => rw [hb, cond_false] at hp; cases hp
      | true =>
        rw [hb, cond_true] at hp; injection hp with hp; subst hp
        have hle : off + size ≤ cs.length := Nat.le_of_ble_eq_true hb
        have hvl : (vs.toList.drop (o + off)).take size = ((vs.toList.drop (o + off)).take size) := rfl
        have hlen : ((vs.toList.drop (o + off)).take size).length = size := by simp; omega
        have hl2 := run_loadCells_list (P := P) w ⟨b, o + off, none⟩ ((vs.toList.drop (o + off)).take size) fun j v hv => by
          refine hcell j v ?_
          rw [List.getElem?_take] at hv
          split at hv
          · rw [List.getElem?_drop] at hv; rw [← Array.getElem?_toList]; exact hv
          · cases hv
        rw [hlen] at hl2
        refine ⟨.agg ((vs.toList.drop (o + off)).take size).toArray, by simp [asAddr, loadVar, hA, hS, hl2], _, rfl, by simp; omega, fun i c v hc hv => ?_⟩
        rw [List.getElem?_take] at hc
        split at hc
        · rename_i hi
          rw [List.getElem?_drop] at hc
          rw [List.toList_toArray, List.getElem?_take, if_pos hi, List.getElem?_drop, Array.getElem?_toList] at hv
          obtain ⟨v', hv', hrel⟩ := e5 _ c hc
          rw [show o + (off + i) = o + off + i by omega, hv] at hv'
          injection hv' with hv'; subst hv'; exact hrel
        · cases hc
    | false =>
      rw [cond_false] at hp
      obtain ⟨c, hc, rfl⟩ := Option.map_eq_some_iff.1 hp
      obtain ⟨v, hv, hrel⟩ := e5 _ c hc
      have hcv := hcell 0 v (by simpa using hv)
      rw [show (⟨b, o + off, none⟩ : Addr).add 0 = ⟨b, o + off, none⟩ from rfl] at hcv
      exact ⟨v, by simp [asAddr, loadVar, hA, hcv], hrel⟩
  · cases hp

theorem results_run {fn : Func} {ty : Nat → Option XT} (hty : ∀ t i, ty t = some i → TyOK P t i) {ps : List Xp} (hr : resL ty σ fn.results.toList = some ps) (h : RI X E U σ a w) :
    ∃ vs, (results fn a.tmps).run P w = .ok (retv vs) w ∧ partsRel E U ps vs := by
  have hm : ∀ (f : ResultVar → Sem Value), (∀ t, f (.tmp t) = Pure.pure (a.tmps.getD t undef)) → (∀ t T, f (.cell t T) = do loadVar T (← asAddr (a.tmps.getD t undef))) →
      ∀ (rs : List ResultVar) (ps : List Xp), resL ty σ rs = some ps → ∃ vs : List Value, (rs.mapM f).run P w = .ok vs w ∧ partsRel E U ps vs := by
    intro f h1 h2 rs
    induction rs with
    | nil => intro ps hp; simp only [resL, Option.some.injEq] at hp; subst hp; exact ⟨[], rfl, rfl, fun i p u hp => by simp at hp⟩
    | cons r rs ih =>
      intro ps hp
      simp only [resL] at hp
      split at hp
      · rename_i q qs hq hqs
        injection hp with hp; subst hp
        have hone : ∃ v, (f r).run P w = .ok v w ∧ q.rel E U v := by
          unfold resOf at hq
          split at hq
          · rename_i t
            split at hq
            · rename_i p hl; injection hq with hq; subst hq
              exact ⟨_, by rw [h1]; rfl, h.slot t _ hl⟩
            · cases hq
          · rename_i t T
            split at hq
            · rename_i n off i hl hi
              obtain ⟨u, hu, hrel⟩ := run_cellAt h hq (hty T i hi).agg (hty T i hi).size (h.slot t _ hl)
              exact ⟨u, by rw [h2]; exact hu, hrel⟩
            · cases hq
        obtain ⟨v, hv, hvr⟩ := hone
        obtain ⟨vs, hvs, hvsr⟩ := ih qs hqs
        refine ⟨v :: vs, by simp only [List.mapM_cons, Sem.run_bind, hv, Result.andThen_ok, hvs, Sem.run_pure], by simpa using hvsr.1, fun i p u hp hu => ?_⟩
        cases i with
        | zero => simp only [List.getElem?_cons_zero, Option.some.injEq] at hp hu; subst hp; subst hu; exact hvr
        | succ i => exact hvsr.2 i p u (by simpa using hp) (by simpa using hu)
      · cases hp
  have goalf : ∀ f : ResultVar → Sem Value, (∀ t, f (.tmp t) = Pure.pure (a.tmps.getD t undef)) → (∀ t T, f (.cell t T) = do loadVar T (← asAddr (a.tmps.getD t undef))) →
      ∃ vs, ((do let vs ← List.toArray <$> fn.results.toList.mapM f; Pure.pure (if h : vs.size = 1 then vs[0] else .tuple vs)) : Sem Value).run P w = .ok (retv vs) w ∧ partsRel E U ps vs := by
    intro f h1 h2
    obtain ⟨vs, hvs, hr'⟩ := hm f h1 h2 _ _ hr
    refine ⟨vs, ?_, hr'⟩
    simp only [Sem.run_bind, Sem.run_map, hvs, Result.andThen_ok, Sem.run_pure]
    match vs with
    | [] => simp [retv]
    | [x] => simp [retv]
    | x :: y :: l => simp [retv]
  unfold results
  rw [← Array.toArray_toList (xs := fn.results), List.mapM_toArray]
  exact goalf _ (fun t => rfl) (fun t T => rfl)
end

def Xv.nm : Xv → List Nat
  | .ptr n _ => [n]
  | .sl n _ _ _ _ => [n]
  | .map n => [n]
  | .fnv n => [n]
  | _ => []
def Xp.nm : Xp → List Nat
  | .one c => c.nm
  | .agg cs => cs.flatMap Xv.nm
def Xa.nm : Xa → List Nat
  | .val p => p.nm
  | .tup l => l.flatMap Xp.nm
def Xo.nm : Xo → List Nat
  | .cells _ cs => cs.flatMap Xv.nm
  | .mp es _ => es.flatMap fun x => x.1.nm ++ x.2.1.nm
  | .fn _ first caps => first.flatMap Xv.nm ++ caps.flatMap Xv.nm
  | .it m _ _ _ _ => [m]
  | .loop _ sl _ _ _ _ _ => sl.flatMap fun x => x.2.nm
  | _ => []

/-- What can be reached: told backwards. -/
def reach (ob : List (Nat × Xo)) : Nat → List Nat → List Nat → List Nat
  | 0, _, acc => acc
  | _ + 1, [], acc => acc
  | fuel + 1, n :: todo, acc => match idx n acc with
    | some _ => reach ob fuel todo acc
    | none => match Aw.look n ob with
      | some x => reach ob fuel (x.nm ++ todo) (n :: acc)
      | none => reach ob fuel todo acc

def upto : Nat → List Nat → List Nat
  | 0, l => l
  | n + 1, l => upto n (n :: l)
theorem upto_len : ∀ {k : Nat} {l : List Nat}, (upto k l).length = k + l.length
  | 0, l => by simp [upto]
  | k + 1, l => by simp [upto, upto_len]; omega
theorem upto_get : ∀ {k : Nat} {l : List Nat} {n : Nat}, n < k → (upto k l)[n]? = some n
  | 0, l, n, h => by omega
  | k + 1, l, n, h => by
    simp only [upto]
    rcases Nat.lt_or_ge n k with h1 | h1
    · exact upto_get h1
    · have : n = k := by omega
      subst this
      have key : ∀ (k : Nat) (l : List Nat) (i : Nat), (upto k l)[k + i]? = l[i]? := by
        intro k
        induction k with
        | zero => intro l i; simp [upto]
        | succ k ih => intro l i; simp only [upto]; rw [show k + 1 + i = k + (i + 1) by omega, ih]; simp
      have := key n (n :: l) 0
      simpa using this

/-- What a function hands back: its results, the objects that they reach or that were there, told in order. -/
def outOf (fuel k : Nat) (res : List Xp) (ob : List (Nat × Xo)) : Out :=
  let old := upto k []
  let seen := reach ob fuel (res.flatMap Xp.nm ++ old.flatMap fun n => match Aw.look n ob with | some x => x.nm | none => []) old
  let ns := old ++ ((seen.take (seen.length - k)).reverse)
  ⟨res.map (Xp.ren fun m => idx m ns), sub ns ob, ns.length⟩

theorem idx_upto {k n : Nat} (h : n < k) (l : List Nat) : idx n (upto k [] ++ l) = some n := by
  have key : ∀ (l : List Nat) (n i : Nat), l[i]? = some n → (∀ j, j < i → l[j]? ≠ some n) → idx n l = some i := by
    intro l
    induction l with
    | nil => intro n i h; simp at h
    | cons m l ih =>
      intro n i h hj
      simp only [idx]
      cases i with
      | zero => simp only [List.getElem?_cons_zero, Option.some.injEq] at h; subst h; simp
      | succ i =>
        have h0 := hj 0 (by omega)
        have hb : m.beq n = false := by cases hb : m.beq n with | false => rfl | true => exact absurd (by simp [Nat.eq_of_beq_eq_true hb]) h0
        rw [hb, cond_false, ih n i (by simpa using h) fun j hji => by have := hj (j + 1) (by omega); simpa using this]
  refine key _ n n ?_ fun j hj => ?_
  · rw [List.getElem?_append_left (by rw [upto_len]; simpa using h)]; exact upto_get h
  · rw [List.getElem?_append_left (by rw [upto_len]; simp; omega), upto_get (by omega)]; simp; omega

theorem out_ok {fuel k N : Nat} {ro : Option Nat} {w0 : World} {E0 : Env} {ob0 : List (Nat × Xo)} {outs : List Out} {σ : XS} {U : Us} {ps : List Xp} {vs : List Value} {E : Env} {a : Act} {w : World} (h : RI (ctxOf w0 E0 k ob0 N ro) E U σ a w) (h2 : partsRel E U ps vs) (ho : outOf fuel k ps σ.ob ∈ outs) :
    XP w0 E0 k ob0 outs (.returned (retv vs)) w := by
  refine ⟨_, ho, ?_⟩
  generalize hns : (upto k [] ++ ((reach σ.ob fuel (ps.flatMap Xp.nm ++ (upto k []).flatMap fun n => match Aw.look n σ.ob with | some x => x.nm | none => []) (upto k [])).take ((reach σ.ob fuel (ps.flatMap Xp.nm ++ (upto k []).flatMap fun n => match Aw.look n σ.ob with | some x => x.nm | none => []) (upto k [])).length - k)).reverse) = ns
  have hout : outOf fuel k ps σ.ob = ⟨ps.map (Xp.ren fun m => idx m ns), sub ns σ.ob, ns.length⟩ := by rw [← hns]; rfl
  rw [hout]
  have hk : k ≤ ns.length := by rw [← hns]; simp [upto_len]
  have hold : ∀ n, n < k → ns.getD n 0 = n := fun n hn => by
    rw [List.getD_eq_getElem?_getD, ← hns, List.getElem?_append_left (by rw [upto_len]; simpa using hn), upto_get hn]; rfl
  refine ⟨E.sub ns, vs, rfl, hk, ⟨fun n hn => ?_, fun n hn => ?_⟩, h2.ren ren_sub, heap_sub h.heap, h.kept, fun n x b hx hb => ?_⟩
  · show E.ι (ns.getD n 0) = _; rw [hold n hn]; exact h.env.ι n hn
  · show E.hi (ns.getD n 0) = _; rw [hold n hn]; exact h.env.hi n hn
  · obtain ⟨m, y, e1, e2, e3⟩ := look_subAt hx
    have e4 := (ren_sub (E := E) (U := U) m n (h.heap.rel m y e2).1 e1).2.1
    have hb' : E.blk m = some b := by rw [← hb]; unfold Env.blk; rw [e4]
    exact h.own m y b e2 hb'

section
variable {P : Program} {X : Ctx} {U : Us} {σ : XS}
theorem RI.takeAll {E : Env} : ∀ {rs : List Nat} {a : Act} {w : World}, RI X E U σ a w → a.defers = rs.map mark → rs.Nodup → (∀ s ∈ rs, X.w0.heap.size ≤ s ∧ w.heap[s]? = some (.deferred (some []))) → RI X E U σ { a with defers := [] } (takeAll rs w)
  | [], a, w, h, hd, _, _ => by
    have : ({ a with defers := [] } : Act) = a := by cases a; simp at hd; simp [hd]
    rw [this]; exact h
  | r :: rs, a, w, h, hd, hn, hr => by
    have := RI.takeAll (rs := rs) (h.take hd hn hr) rfl (List.nodup_cons.1 hn).2 fun s hs => ⟨(hr s (List.mem_cons_of_mem _ hs)).1, by
      rw [World.putObj_heap_other (k := s) (r := r) fun e => (List.nodup_cons.1 hn).1 (e ▸ hs)]; exact (hr s (List.mem_cons_of_mem _ hs)).2⟩
    exact this

theorem finish {fn : Func} {ty : Nat → Option XT} (hty : ∀ t i, ty t = some i → TyOK P t i) {w0 : World} {E0 : Env} {k fuel : Nat} {ob0 : List (Nat × Xo)} {N : Nat} {outs : List Out} {ps : List Xp}
    (hr : resL ty σ fn.results.toList = some ps) (ho : outOf fuel k ps σ.ob ∈ outs) {a : Act} {w : World} (h : R (ctxOf w0 E0 k ob0 N none) U σ a w) :
    ∃ rs : List Nat, a.defers = rs.map mark ∧ rs.Nodup ∧ (∀ r ∈ rs, w.heap[r]? = some (.deferred (some []))) ∧ ∃ v, (results fn a.tmps).run P (Xc.takeAll rs w) = .ok v (Xc.takeAll rs w) ∧ XP w0 E0 k ob0 outs (.returned v) (Xc.takeAll rs w) := by
  obtain ⟨E, h⟩ := h
  obtain ⟨rs, h1, h2, h3⟩ := h.defers
  have h' := h.takeAll h1 h2 h3
  obtain ⟨vs, g1, g2⟩ := results_run hty hr h'
  exact ⟨rs, h1, h2, fun r hr => (h3 r hr).2, _, g1, out_ok h' g2 ho⟩

theorem gx_ret {fn : Func} {ty : Nat → Option XT} (hty : ∀ t i, ty t = some i → TyOK P t i) {w0 : World} {E0 : Env} {k fuel : Nat} {ob0 : List (Nat × Xo)} {N : Nat} {outs : List Out} {ps : List Xp} {K : List Item}
    (hr : resL ty σ fn.results.toList = some ps) (ho : outOf fuel k ps σ.ob ∈ outs) : Gx P (fnQ P fn (XP w0 E0 k ob0 outs)) (ctxOf w0 E0 k ob0 N none) (.code .ret :: K) U σ := by
  intro a w h b cs hb
  exact ⟨.ret, a, w, finish hty hr ho h, K, .refl _ _⟩
theorem gx_end {fn : Func} {ty : Nat → Option XT} (hty : ∀ t i, ty t = some i → TyOK P t i) {w0 : World} {E0 : Env} {k fuel : Nat} {ob0 : List (Nat × Xo)} {N : Nat} {outs : List Out} {ps : List Xp}
    (hr : resL ty σ fn.results.toList = some ps) (ho : outOf fuel k ps σ.ob ∈ outs) : Gx P (fnQ P fn (XP w0 E0 k ob0 outs)) (ctxOf w0 E0 k ob0 N none) [] U σ := by
  intro a w h b cs hb
  exact ⟨.normal, a, w, finish hty hr ho h, .refl _ _⟩

/-! ### A round's record -/
/-- The record of the round's loop is turned. -/
theorem RI.turn {E : Env} {a : Act} {w : World} {n l f df N : Nat} {sl : List (Nat × Xa)} {ts : List Nat} {sa bo : Code} {st st' : LoopState} {pe pe' : Option Code} {tmps : Array Value} (h : RI X E U σ a w) (hl : Aw.look n σ.ob = some (.loop N sl ts sa bo st pe)) (hι : E.ι n = .func (.yield l) #[] #[])
    (hh : w.heap[l]? = some (.loop ⟨st, pe, f, tmps, ts.toArray, sa, bo, df⟩)) :
    RI X E U ⟨σ.sl, (n, .loop N sl ts sa bo st' pe') :: del n σ.ob⟩ a (w.putObj l (.loop ⟨st', pe', f, tmps, ts.toArray, sa, bo, df⟩)) := by
  have hblk : E.blk n = some l := by simp [Env.blk, hι]
  have h0 := h.heap.rel n _ hl
  have hlt := Aw.lt_of_heap hh
  refine h.step (E' := E) (U' := U) (T := fun b => b = l) (rm := [n]) (ad := [(n, .loop N sl ts sa bo st' pe')]) (.refl _ _) (fun _ hn => hn) (kept_setObj (by simp) (by rw [hh]; simp)) (fun b hb => ⟨n, _, List.mem_singleton.2 rfl, hl, by rw [hb]; exact hblk⟩)
    (fun m x hx => ?_) (fun m x b hx hb => ?_) (fun m m' x y b hx hy _ _ => ?_)
  · simp only [Aw.look_nil, Aw.look_cons] at hx
    split at hx
    · rename_i e; injection hx with hx; subst hx; subst e
      obtain ⟨hu, l', f', tmps', df', e1, e2, e3, e4⟩ := h0
      rw [hι] at e1
      simp only [Value.func.injEq, Fn.yield.injEq, and_self, and_true] at e1
      subst e1
      rw [hh] at e2
      simp only [Option.some.injEq, Obj.loop.injEq, Loop.mk.injEq, true_and, and_true] at e2
      obtain ⟨rfl, rfl, rfl⟩ := e2
      exact ⟨hu, l, f, tmps, df, hι, World.putObj_heap_same hlt, e3, e4⟩
    · cases hx
  · simp only [Aw.look_nil, Aw.look_cons] at hx
    split at hx
    · rename_i e; subst e; exact .inl ⟨m, _, List.mem_singleton.2 rfl, hl, hb⟩
    · cases hx
  · simp only [Aw.look_nil, Aw.look_cons] at hx hy
    split at hx
    · rename_i e
      split at hy
      · rename_i e'; exact e.trans e'.symm
      · cases hy
    · cases hx

theorem loop_at {E : Env} {a : Act} {w : World} {n l N : Nat} {sl : List (Nat × Xa)} {ts : List Nat} {sa bo : Code} {st : LoopState} {pe : Option Code} (h : RI X E U σ a w) (hl : Aw.look n σ.ob = some (.loop N sl ts sa bo st pe)) (hι : E.ι n = .func (.yield l) #[] #[]) :
    ∃ f tmps df, w.heap[l]? = some (.loop ⟨st, pe, f, tmps, ts.toArray, sa, bo, df⟩) := by
  obtain ⟨_, l', f, tmps, df, e1, e2, e3, e4⟩ := h.heap.rel n _ hl
  rw [hι] at e1
  simp only [Value.func.injEq, Fn.yield.injEq, and_self, and_true] at e1
  subst e1
  exact ⟨f, tmps, df, e2⟩

theorem gx_begin {Q : Fin → Act → World → Prop} {K : List Item} {n l N : Nat} {sl : List (Nat × Xa)} {ts : List Nat} {sa bo : Code} {pe : Option Code} (hl : Aw.look n σ.ob = some (.loop N sl ts sa bo .ready pe)) (hro : X.ro = some l) (hι : X.E0.ι n = .func (.yield l) #[] #[]) (h0 : X.U0 n)
    (g : Gx P Q X K U ⟨σ.sl, (n, .loop N sl ts sa bo .busy pe) :: del n σ.ob⟩) : Gx P Q X (.beginRound :: K) U σ := by
  intro a w ⟨E, h⟩ b cs hb
  have hι' : E.ι n = .func (.yield l) #[] #[] := (h.env.ι n h0).trans hι
  obtain ⟨f, tmps, df, hh⟩ := loop_at h hl hι'
  obtain ⟨e, a2, w2, hq, harr⟩ := g a _ ⟨E, h.turn hl hι' hh⟩ b cs hb
  exact ⟨e, a2, w2, hq, .of_steps (.one (stepR_beginRound (hb.trans hro) (run_beginRound hh rfl))) harr⟩

def endOb (σ : XS) (n : Nat) (jump : Option Code) : Option (List (Nat × Xo)) := match Aw.look n σ.ob with
  | some (.loop N sl ts sa bo st pe) => some ((n, .loop N sl ts sa bo (if jump.isNone then .ready else .done) jump) :: del n σ.ob)
  | _ => none
theorem finishR {w0 : World} {E0 : Env} {k fuel n l : Nat} {ob0 : List (Nat × Xo)} {N : Nat} {outs : List Out} {jump : Option Code} {ob : List (Nat × Xo)} (hι : E0.ι n = .func (.yield l) #[] #[]) (hn : n < k) (hob : endOb σ n jump = some ob) (ho : outOf fuel k [.one (.bool jump.isNone)] ob ∈ outs)
    {a : Act} {w : World} (h : R (ctxOf w0 E0 k ob0 N (some l)) U σ a w) : ∃ w' v, (Instr.endRound l jump).run P w = .ok v w' ∧ XP w0 E0 k ob0 outs (.returned v) w' := by
  obtain ⟨E, h⟩ := h
  unfold endOb at hob
  split at hob
  rotate_left; · cases hob
  rename_i N' sl ts sa bo st pe hl
  injection hob with hob; subst hob
  have hι' : E.ι n = .func (.yield l) #[] #[] := (h.env.ι n hn).trans hι
  obtain ⟨f, tmps, df, hh⟩ := loop_at h hl hι'
  exact ⟨_, _, run_endRound jump hh, out_ok (vs := [.bool jump.isNone]) (h.turn hl hι' hh) ⟨rfl, fun i p v hp hv => by
    cases i with
    | zero => simp only [List.getElem?_cons_zero, Option.some.injEq] at hp hv; subst hp; subst hv; rfl
    | succ i => simp at hp⟩ ho⟩

theorem gx_endR {w0 : World} {E0 : Env} {k fuel n l : Nat} {ob0 : List (Nat × Xo)} {N : Nat} {outs : List Out} {ob : List (Nat × Xo)} (hι : E0.ι n = .func (.yield l) #[] #[]) (hn : n < k) (hob : endOb σ n none = some ob) (ho : outOf fuel k [.one (.bool true)] ob ∈ outs) :
    Gx P (rdQ P l (XP w0 E0 k ob0 outs)) (ctxOf w0 E0 k ob0 N (some l)) [] U σ := by
  intro a w h b cs hb
  exact ⟨.normal, a, w, finishR hι hn hob ho h, .refl _ _⟩
theorem gx_retR {w0 : World} {E0 : Env} {k fuel n l : Nat} {ob0 : List (Nat × Xo)} {N : Nat} {outs : List Out} {ob : List (Nat × Xo)} {K : List Item} (hι : E0.ι n = .func (.yield l) #[] #[]) (hn : n < k) (hob : endOb σ n (some .ret) = some ob) (ho : outOf fuel k [.one (.bool false)] ob ∈ outs) :
    Gx P (rdQ P l (XP w0 E0 k ob0 outs)) (ctxOf w0 E0 k ob0 N (some l)) (.code .ret :: K) U σ := by
  intro a w h b cs hb
  exact ⟨.ret, a, w, finishR hι hn hob ho h, K, .refl _ _⟩
theorem gx_exitR {w0 : World} {E0 : Env} {k fuel n l id : Nat} {ob0 : List (Nat × Xo)} {N : Nat} {outs : List Out} {ob : List (Nat × Xo)} {K : List Item} (hι : E0.ι n = .func (.yield l) #[] #[]) (hn : n < k) (hx : exitTo id K = none) (hob : endOb σ n (some (.exit id)) = some ob) (ho : outOf fuel k [.one (.bool false)] ob ∈ outs) :
    Gx P (rdQ P l (XP w0 E0 k ob0 outs)) (ctxOf w0 E0 k ob0 N (some l)) (.code (.exit id) :: K) U σ := by
  intro a w h b cs hb
  exact ⟨.exit id, a, w, finishR hι hn hob ho h, K, hx, .refl _ _⟩
end
end -- nc
end Go.Proofs.YtgjbehfdjnekdaaGreatDoor.Xc
end
