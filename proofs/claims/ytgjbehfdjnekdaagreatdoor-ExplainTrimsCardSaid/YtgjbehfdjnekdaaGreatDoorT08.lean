/- Parts of the proof of one statement: Xm, Xc0, Xc1. -/
import Derived.AtR
import Derived.RangeFuncIn
import Derived.RangeFuncNested
import Derived.Test.YtgjbehfdjnekdaaGreatDoorT01
import Derived.Test.YtgjbehfdjnekdaaGreatDoorT06
set_option linter.all false
section
/- The machine's own steps, in a function's frame or in a round's: one operation, a region that draws its order, a loop over a function. -/
set_option linter.unusedVariables false
set_option linter.unusedSimpArgs false
namespace Go.Proofs.YtgjbehfdjnekdaaGreatDoor.Xc
open Go.RowKit
open Go.Proofs.YtgjbehfdjnekdaaGreatDoor.Aw (Kept nlt nle)

/-- What a round of a loop over a function comes to. -/
def RoundX (P : Program) (l : Nat) (f : FuncId) (tmps : Array Value) (assign body : Code) (w : World) (R : Ending → World → Prop) : Prop :=
  ∀ (c : Frame) (cs : List Frame), ∃ v w', R (.returned v) w' ∧ Steps P (lone (Frame.round l f tmps assign body .normal) (c :: cs) w) (lone (c.finish v) cs w')

theorem RoundX.mono {P : Program} {l : Nat} {f : FuncId} {tmps : Array Value} {assign body : Code} {w : World} {R R' : Ending → World → Prop} (h : RoundX P l f tmps assign body w R) (hr : ∀ v w', R (.returned v) w' → R' (.returned v) w') : RoundX P l f tmps assign body w R' :=
  fun c cs => let ⟨v, w', r, s⟩ := h c cs; ⟨v, w', hr _ _ r, s⟩

def nextV (dst : Option Nat) (a : Act) (next : Act → World → Prop) : Ending → World → Prop
  | .returned v, w => next (a.put dst v) w
  | _, _ => False

def OpX (P : Program) (dst : Option Nat) (a : Act) (next : Act → World → Prop) : Result Next → Prop
  | .ok (.value v) w' => next (a.put dst v) w'
  | .ok .skip w' => next (a.put dst undef) w'
  | .ok (.enter f args) w' => Calls P f args w' (nextV dst a next)
  | .ok (.row row args) w' => Rows P row args w' fun v w'' => next (a.put dst v) w''
  | .ok (.round l f tmps assign body) w' => RoundX P l f tmps assign body w' (nextV dst a next)
  | _ => False
def wpX (P : Program) (o : Oper) (a : Act) (w : World) (next : Act → World → Prop) : Prop := OpX P o.dst a next ((execOp a.eval o).run P w)

section
variable {P : Program} {o : Oper} {a : Act} {next : Act → World → Prop} {w : World} {dst : Option Nat}
theorem OpX_value (v : Value) : OpX P dst a next (.ok (.value v) w) = next (a.put dst v) w := rfl
theorem OpX_skip : OpX P dst a next (.ok .skip w) = next (a.put dst undef) w := rfl
theorem OpX_enter (f : FuncId) (args : Array Value) : OpX P dst a next (.ok (.enter f args) w) = Calls P f args w (nextV dst a next) := rfl
theorem OpX_round (l : Nat) (f : FuncId) (tmps : Array Value) (assign body : Code) : OpX P dst a next (.ok (.round l f tmps assign body) w) = RoundX P l f tmps assign body w (nextV dst a next) := rfl

theorem wpX_mono {next' : Act → World → Prop} (h : ∀ a w, next a w → next' a w) (hh : wpX P o a w next) : wpX P o a w next' := by
  unfold wpX at *
  generalize (execOp a.eval o).run P w = r at *
  cases r with
  | ok n w' =>
    cases n <;> simp only [OpX] at hh ⊢ <;>
      first
        | exact h _ _ hh
        | exact Calls.mono hh (fun e w'' he => by cases e <;> first | exact h _ _ he | exact he)
        | exact Rows.mono hh (fun _ _ he => h _ _ he)
        | exact RoundX.mono hh (fun _ _ he => h _ _ he)
  | halt x w' => exact hh.elim

theorem wpX_nodefer (h : wpX P o a w next) : ∀ c, o.op ≠ .defer c := by
  intro c hc
  unfold wpX at h
  unfold execOp at h
  simp only [hc, Sem.run_bind] at h
  generalize (resolve a.eval c o.type).run P w = r at h
  cases r with
  | ok d w' => simp [Result.andThen, Sem.run_pure, OpX] at h
  | halt x w' => simp [Result.andThen, OpX] at h
end

theorem op_stepsX {P : Program} {ops : Array Oper} {i : Nat} {rest : List Nat} {o : Oper} {a : Act} {w : World} {next : Act → World → Prop} (ho : ops[i]? = some o)
    (hw : Region.wanted o (yielded ops a.tmps) = true) (h : wpX P o a w next) (b : Frame) (k : List Item) (cs : List Frame) :
    ∃ a' w', next a' w' ∧ Steps P (lone (b.atR a (.inRegion ops (i :: rest) :: k)) cs w) (lone (b.atR a' (.inRegion ops rest :: k)) cs w') := by
  have hnd := wpX_nodefer h
  have hg := stepGR_op (P := P) (b := b) (k := k) (cs := cs) (w := w) (rest := rest) ho hw
  rw [Oper.semAt_eq _ _ _ hnd] at hg
  have hfin : ∀ v, (b.atR a (.inRegion ops (i :: rest) :: k)).finish v = b.atR (a.put o.dst v) (.inRegion ops rest :: k) := by
    intro v; rw [Frame.finish_atR, ho]; rfl
  unfold wpX at h
  generalize hr : (execOp a.eval o).run P w = r at h
  cases r with
  | halt x w' => exact h.elim
  | ok n w' =>
    cases n with
    | value v => exact ⟨_, _, h, .one (step_lone_go (by rw [hg, ← hfin]; simp [stepG.apply, hr]))⟩
    | skip => exact ⟨_, _, h, .one (step_lone_go (by rw [hg, ← hfin]; simp [stepG.apply, hr]))⟩
    | enter f args =>
      obtain ⟨e, w'', fr, hR, hsteps, _, hleave⟩ := h (b.atR a (.inRegion ops (i :: rest) :: k) :: cs)
      have henter : step P (lone (b.atR a (.inRegion ops (i :: rest) :: k)) cs w) =
          .next (lone (Frame.enter P f args .normal) (b.atR a (.inRegion ops (i :: rest) :: k) :: cs) w') :=
        step_lone_go (by rw [hg]; simp [stepG.apply, hr, Frame.atR])
      cases e with
      | returned v =>
        refine ⟨_, _, hR, .head henter (hsteps.trans (.one ?_))⟩
        rw [← hfin]; exact step_leave_returned hleave
      | panicked chain => exact hR.elim
      | outgrown => exact hR.elim
    | row row args =>
      obtain ⟨v, w'', hR, hsteps⟩ := h (b.atR a (.inRegion ops (i :: rest) :: k)) cs
      have henter : step P (lone (b.atR a (.inRegion ops (i :: rest) :: k)) cs w) =
          .next (lone (Frame.ofRow P row args .normal) (b.atR a (.inRegion ops (i :: rest) :: k) :: cs) w') :=
        step_lone_go (by rw [hg]; simp [stepG.apply, hr, Frame.atR])
      refine ⟨_, _, hR, .head henter ?_⟩
      rw [← hfin]; exact hsteps
    | round l f tmps assign body =>
      obtain ⟨v, w'', hR, hsteps⟩ := h (b.atR a (.inRegion ops (i :: rest) :: k)) cs
      have henter : step P (lone (b.atR a (.inRegion ops (i :: rest) :: k)) cs w) =
          .next (lone (Frame.round l f tmps assign body .normal) (b.atR a (.inRegion ops (i :: rest) :: k) :: cs) w') :=
        step_lone_go (by rw [hg]; simp [stepG.apply, hr, Frame.atR])
      refine ⟨_, _, hR, .head henter ?_⟩
      rw [← hfin]; exact hsteps
    | _ => exact h.elim

/-! ### Where a walk arrives -/
/-- How a body ends: at its end, at a return, at a jump out of it. -/
inductive Fin where
  | normal
  | ret
  | exit (id : Nat)

def ArrX (P : Program) (m : Machine) (b : Frame) (cs : List Frame) : Fin → Act → World → Prop
  | .normal, a, w => Steps P m (lone (b.atR a []) cs w)
  | .ret, a, w => ∃ k, Steps P m (lone (b.atR a (.code .ret :: k)) cs w)
  | .exit id, a, w => ∃ k, exitTo id k = none ∧ Steps P m (lone (b.atR a (.code (.exit id) :: k)) cs w)

theorem ArrX.of_steps {P : Program} {m m' : Machine} {b : Frame} {cs : List Frame} {e : Fin} {a : Act} {w : World} (h : Steps P m m') (g : ArrX P m' b cs e a w) : ArrX P m b cs e a w := by
  cases e with
  | normal => exact Steps.trans h g
  | ret => obtain ⟨k, g⟩ := g; exact ⟨k, Steps.trans h g⟩
  | exit id => obtain ⟨k, hk, g⟩ := g; exact ⟨k, hk, Steps.trans h g⟩

/-! ### Regions that draw their order -/
def wpOpsX (P : Program) (ops : Array Oper) (Q : Act → World → Prop) : List Nat → Act → World → Prop
  | [], a, w => Q a w
  | i :: rest, a, w =>
    match ops[i]? with
    | none => wpOpsX P ops Q rest a w
    | some o => if Region.wanted o (yielded ops a.tmps) = true then wpX P o a w (wpOpsX P ops Q rest) else wpOpsX P ops Q rest (a.put o.dst undef) w
def wpOpX (P : Program) (ops : Array Oper) (i : Nat) (K : Act → World → Prop) (a : Act) (w : World) : Prop :=
  match ops[i]? with
  | none => K a w
  | some o => if Region.wanted o (yielded ops a.tmps) = true then wpX P o a w K else K (a.put o.dst undef) w
theorem wpOpX_mono {P : Program} {ops : Array Oper} {i : Nat} {K K' : Act → World → Prop} {a : Act} {w : World} (h : ∀ a w, K a w → K' a w) (hh : wpOpX P ops i K a w) : wpOpX P ops i K' a w := by
  unfold wpOpX at *
  split
  · rename_i ho; rw [ho] at hh; exact h _ _ hh
  · rename_i o ho
    rw [ho] at hh
    simp only at hh
    split
    · rename_i hw; rw [if_pos hw] at hh; exact wpX_mono h hh
    · rename_i hw; rw [if_neg hw] at hh; exact h _ _ hh
theorem wpOpsX_cons {P : Program} {ops : Array Oper} {Q : Act → World → Prop} (i : Nat) (rest : List Nat) (a : Act) (w : World) : wpOpsX P ops Q (i :: rest) a w = wpOpX P ops i (wpOpsX P ops Q rest) a w := by
  cases h : ops[i]? <;> simp [wpOpsX, wpOpX, h]

def wpAnyX (P : Program) (md : Region.Mode) (ops : Array Oper) (Q : Act → World → Prop) : Nat → Array Bool → Act → World → Prop
  | 0, listed, a, w => Region.ready md ops listed = [] ∧ Q a w
  | fuel + 1, listed, a, w =>
    (Region.ready md ops listed = [] → Q a w) ∧
    ∀ i ∈ Region.ready md ops listed, wpOpX P ops i (wpAnyX P md ops Q fuel (listed.setIfInBounds i true)) a w

theorem wpAnyX_sound {P : Program} {md : Region.Mode} {ops : Array Oper} {Q : Act → World → Prop} : ∀ (fuel t : Nat) (listed : Array Bool) (a : Act) (w : World), wpAnyX P md ops Q fuel listed a w →
    wpOpsX P ops Q (Region.linearise.go md ops fuel t listed []) a w := by
  intro fuel
  induction fuel with
  | zero => intro t listed a w h; simpa [Region.linearise.go, wpOpsX] using h.2
  | succ fuel ih =>
    intro t listed a w h
    obtain ⟨h₀, h₁⟩ := h
    simp only [Region.linearise.go]
    change wpOpsX P ops Q (match (Region.ready md ops listed)[t % (Region.ready md ops listed).length]? with
      | some i => Region.linearise.go md ops fuel (t / (Region.ready md ops listed).length) (listed.setIfInBounds i true) [i]
      | none => [].reverse) a w
    cases hi : (Region.ready md ops listed)[t % (Region.ready md ops listed).length]? with
    | none =>
      have hnil : Region.ready md ops listed = [] := by
        cases hr : Region.ready md ops listed with
        | nil => rfl
        | cons x xs =>
          rw [hr] at hi
          have hlt : t % (x :: xs).length < (x :: xs).length := Nat.mod_lt _ (by simp)
          simp at hi
          simp at hlt
          omega
      simpa [wpOpsX] using h₀ hnil
    | some i =>
      simp only []
      rw [linearise_go_acc, List.reverse_singleton, List.singleton_append, wpOpsX_cons]
      exact wpOpX_mono (fun a w => ih _ _ a w) (h₁ i (List.mem_of_getElem? hi))

theorem wpOpsX_steps {P : Program} {ops : Array Oper} {Q : Act → World → Prop} (b : Frame) (k : List Item) (cs : List Frame) : ∀ {l : List Nat} {a : Act} {w : World}, (∀ i ∈ l, i < ops.size) → wpOpsX P ops Q l a w →
    ∃ a' w', Q a' w' ∧ Steps P (lone (b.atR a (.inRegion ops l :: k)) cs w) (lone (b.atR a' k) cs w')
  | [], a, w, _, h => ⟨a, w, h, .one stepR_region_end⟩
  | i :: rest, a, w, hl, h => by
    have hi : ops[i]? = some (ops[i]'(hl i List.mem_cons_self)) := Array.getElem?_eq_getElem _
    simp only [wpOpsX, hi] at h
    split at h
    · rename_i hw
      obtain ⟨a1, w1, h1, s1⟩ := op_stepsX (rest := rest) hi hw h b k cs
      obtain ⟨a2, w2, h2, s2⟩ := wpOpsX_steps b k cs (fun j hj => hl j (List.mem_cons_of_mem _ hj)) h1
      exact ⟨a2, w2, h2, Steps.trans s1 s2⟩
    · rename_i hw
      obtain ⟨a2, w2, h2, s2⟩ := wpOpsX_steps b k cs (fun j hj => hl j (List.mem_cons_of_mem _ hj)) h
      refine ⟨a2, w2, h2, .head (stepR_op_skip (P := P) (b := b) (a := a) (k := k) (cs := cs) (w := w) (ops := ops) (i := i) (rest := rest) (by rw [hi]; simpa using hw)) ?_⟩
      rw [hi]; exact s2

theorem lin_lt (md : Region.Mode) (ops : Array Oper) : ∀ (fuel t : Nat) (listed : Array Bool), ∀ i ∈ Region.linearise.go md ops fuel t listed [], i < ops.size := by
  intro fuel
  induction fuel with
  | zero => intro t listed i hi; simp [Region.linearise.go] at hi
  | succ fuel ih =>
    intro t listed i hi
    simp only [Region.linearise.go] at hi
    split at hi
    · rename_i j hj
      rw [linearise_go_acc, List.reverse_singleton, List.singleton_append] at hi
      rcases List.mem_cons.1 hi with rfl | hi
      · have := List.mem_of_getElem? hj
        simp only [List.mem_filter, List.mem_range] at this
        exact this.1
      · exact ih _ _ _ hi
    · simp at hi

theorem draw_steps {P : Program} {ops : Array Oper} {id : Nat} {a : Act} {w : World} {Q : Act → World → Prop} (hm : P.follows .mixedOrders = true)
    (h : wpAnyX P .any ops Q ops.size (Array.replicate ops.size false) a { w with drawn := w.drawn + 1 }) (b : Frame) (k : List Item) (cs : List Frame) :
    ∃ a' w', Q a' w' ∧ Steps P (lone (b.atR a (.code (.region id ops true) :: k)) cs w) (lone (b.atR a' k) cs w') := by
  have hs := stepR_region_draw (P := P) (b := b) (a := a) (k := k) (cs := cs) (w := w) (ops := ops) (id := id)
  simp only [Region.schedule, hm, Bool.true_or, if_true] at hs
  obtain ⟨a', w', hq, st⟩ := wpOpsX_steps b k cs (lin_lt .any ops ops.size _ _) (wpAnyX_sound ops.size (w.tape w.drawn (.order b.fn id)) _ a _ h)
  exact ⟨a', w', hq, .head hs st⟩
end Go.Proofs.YtgjbehfdjnekdaaGreatDoor.Xc
end
section
/- A closed run, reckoned by the kernel: abstract values with known contents and unknown places, objects of the run's own, and the relation to the machine's memory. -/
set_option linter.unusedVariables false
set_option linter.unusedSimpArgs false
namespace Go.Proofs.YtgjbehfdjnekdaaGreatDoor.Xc
noncomputable section
open Go.RowKit
open Go.Proofs.YtgjbehfdjnekdaaGreatDoor.Aw (Kept nlt nle)

/-- What is known of a slice's capacity. -/
inductive Cp where
  | any
  | full
  | ge (m : Nat)
  deriving DecidableEq, Inhabited, Repr
def Cp.ok : Cp → Nat → Nat → Prop
  | .any, _, _ => True
  | .full, len, cap => cap = len
  | .ge m, _, cap => m ≤ cap

inductive Xv where
  | int (k : IntKind) (n : Int)
  | bool (b : Bool)
  | str (s : List UInt8)
  | nilp | nils | nilm | nilf | nili
  | ptr (n off : Nat)
  | sl (n off len k : Nat) (full : Cp)
  | map (n : Nat)
  | fnv (n : Nat)
  | fn0 (f : Nat)
  | any
  deriving DecidableEq, Inhabited, Repr

inductive Xp where
  | one (c : Xv)
  | agg (cs : List Xv)
  deriving DecidableEq, Inhabited, Repr

inductive Xa where
  | val (p : Xp)
  | tup (l : List Xp)
  deriving DecidableEq, Inhabited, Repr

inductive Xo where
  | cells (T : TypeId) (cs : List Xv)
  | mp (es : List (Xp × Xp × Nat)) (clock : Nat)
  | fn (f : FuncId) (first caps : List Xv)
  | it (m since : Nat) (seen : List Nat) (stepped : Nat) (last : Option Nat)
  | it0
  | sit (s : List UInt8) (pos : Nat)
  | bag (T : TypeId) (is rest : List Int)
  | loop (N : Nat) (sl : List (Nat × Xa)) (ps : List Nat) (assign body : Code) (st : LoopState) (pend : Option Code)
  deriving Inhabited

/-- Sameness of objects (loops are not compared). -/
def Xo.same : Xo → Xo → Bool
  | .cells T cs, .cells T' cs' => decide (T = T') && decide (cs = cs')
  | .mp es c, .mp es' c' => decide (es = es') && decide (c = c')
  | .fn f a b, .fn f' a' b' => decide (f = f') && decide (a = a') && decide (b = b')
  | .it m s l p q, .it m' s' l' p' q' => decide (m = m') && decide (s = s') && decide (l = l') && decide (p = p') && decide (q = q')
  | .it0, .it0 => true
  | .sit s p, .sit s' p' => decide (s = s') && decide (p = p')
  | .bag T is re, .bag T' is' re' => decide (T = T') && decide (is = is') && decide (re = re')
  | _, _ => false
theorem Xo.same_eq {x y : Xo} (h : x.same y = true) : x = y := by
  cases x <;> cases y <;> simp [Xo.same] at h <;> simp [h]
def obSame : List (Nat × Xo) → List (Nat × Xo) → Bool
  | [], [] => true
  | (n, x) :: l, (m, y) :: k => n.beq m && x.same y && obSame l k
  | _, _ => false
theorem obSame_eq : ∀ {l k : List (Nat × Xo)}, obSame l k = true → l = k
  | [], [], _ => rfl
  | (n, x) :: l, (m, y) :: k, h => by
    simp only [obSame, Bool.and_eq_true] at h
    rw [Nat.eq_of_beq_eq_true h.1.1, Xo.same_eq h.1.2, obSame_eq h.2]
  | [], _ :: _, h => by simp [obSame] at h
  | _ :: _, [], h => by simp [obSame] at h
def optSame : Option Xo → Option Xo → Bool
  | some x, some y => x.same y
  | none, none => true
  | _, _ => false
theorem optSame_eq {x y : Option Xo} (h : optSame x y = true) : x = y := by
  match x, y, h with
  | some x, some y, h => rw [Xo.same_eq h]
  | none, none, _ => rfl

structure XS where
  sl : List (Nat × Xa)
  ob : List (Nat × Xo)

/-- Where the named objects are: an address, a map's block, a function's value; how many cells lie from there to the end of the block. -/
structure Env where
  ι : Nat → Value
  hi : Nat → Nat

abbrev Us := Nat → Prop

def Xv.rel (E : Env) (U : Us) : Xv → Value → Prop
  | .int k n, v => v = .int k n
  | .bool b, v => v = .bool b
  | .str s, v => v = .string ⟨s.toArray⟩
  | .nilp, v => v = .pointer none
  | .nils, v => v = .slice none 0 0
  | .nilm, v => v = .map none
  | .nilf, v => v = .nilFunc
  | .nili, v => v = .nilIface
  | .ptr n off, v => U n ∧ ∃ b o, E.ι n = .pointer (some ⟨b, o, none⟩) ∧ v = .pointer (some ⟨b, o + off, none⟩)
  | .sl n off len k full, v => U n ∧ ∃ b o o2 cap, E.ι n = .pointer (some ⟨b, o, none⟩) ∧ v = .slice (some ⟨b, o2, none⟩) len cap ∧ (cap = 0 ∨ o2 = o + off) ∧ len ≤ cap ∧ cap ≤ maxLen ∧ o ≤ o2 ∧ o2 + cap * k ≤ o + E.hi n ∧ full.ok len cap
  | .map n, v => U n ∧ ∃ b, E.ι n = .map (some b) ∧ v = .map (some b)
  | .fnv n, v => U n ∧ v = E.ι n ∧ v.oneCell' = true
  | .fn0 f, v => v = .func (.func f) #[] #[]
  | .any, v => v.oneCell' = true

theorem Xv.one {E : Env} {U : Us} {c : Xv} {v : Value} (h : c.rel E U v) : v.oneCell' = true := by
  cases c with
  | ptr n off => obtain ⟨_, b, o, _, rfl⟩ := h; rfl
  | sl n off len k full => obtain ⟨_, b, o, o2, cap, _, rfl, _⟩ := h; rfl
  | map n => obtain ⟨_, b, _, rfl⟩ := h; rfl
  | fnv n => exact h.2.2
  | any => exact h
  | _ => cases h; rfl

/-- E' says of the names in U what E says. -/
structure Env.le (U : Us) (E E' : Env) : Prop where
  ι : ∀ n, U n → E'.ι n = E.ι n
  hi : ∀ n, U n → E'.hi n = E.hi n

theorem Env.le.refl (U : Us) (E : Env) : Env.le U E E := ⟨fun _ _ => rfl, fun _ _ => rfl⟩
theorem Env.le.trans {U U' : Us} {E E' E'' : Env} (h : Env.le U E E') (h' : Env.le U' E' E'') (hu : ∀ n, U n → U' n) : Env.le U E E'' :=
  ⟨fun n hn => (h'.ι n (hu n hn)).trans (h.ι n hn), fun n hn => (h'.hi n (hu n hn)).trans (h.hi n hn)⟩

section
variable {E E' : Env} {U U' : Us} {w w' : World}

theorem Xv.mono {c : Xv} {v : Value} (h : c.rel E U v) (he : Env.le U E E') (hu : ∀ n, U n → U' n) : c.rel E' U' v := by
  cases c with
  | ptr n off => obtain ⟨hn, b, o, h1, h2⟩ := h; exact ⟨hu n hn, b, o, (he.ι n hn).trans h1, h2⟩
  | sl n off len k full => obtain ⟨hn, b, o, o2, cap, h1, h2, h3, h4, h5, h6, h7, h8⟩ := h; exact ⟨hu n hn, b, o, o2, cap, (he.ι n hn).trans h1, h2, h3, h4, h5, h6, by rw [he.hi n hn]; exact h7, h8⟩
  | map n => obtain ⟨hn, b, h1, h2⟩ := h; exact ⟨hu n hn, b, (he.ι n hn).trans h1, h2⟩
  | fnv n => obtain ⟨hn, h1, h2⟩ := h; exact ⟨hu n hn, h1.trans (he.ι n hn).symm, h2⟩
  | _ => exact h

def cellsRel (E : Env) (U : Us) (cs : List Xv) (vs : List Value) : Prop :=
  cs.length = vs.length ∧ ∀ (i : Nat) (c : Xv) (v : Value), cs[i]? = some c → vs[i]? = some v → c.rel E U v

theorem cellsRel.mono {cs : List Xv} {vs : List Value} (h : cellsRel E U cs vs) (he : Env.le U E E') (hu : ∀ n, U n → U' n) : cellsRel E' U' cs vs :=
  ⟨h.1, fun i c v hc hv => Xv.mono (h.2 i c v hc hv) he hu⟩

def Xp.rel (E : Env) (U : Us) : Xp → Value → Prop
  | .one c, v => c.rel E U v
  | .agg cs, v => ∃ vs, v = .agg vs ∧ cellsRel E U cs vs.toList

theorem Xp.mono {p : Xp} {v : Value} (h : p.rel E U v) (he : Env.le U E E') (hu : ∀ n, U n → U' n) : p.rel E' U' v := by
  cases p with
  | one c => exact Xv.mono h he hu
  | agg cs => obtain ⟨vs, h1, h2⟩ := h; exact ⟨vs, h1, h2.mono he hu⟩

def partsRel (E : Env) (U : Us) (l : List Xp) (vs : List Value) : Prop :=
  l.length = vs.length ∧ ∀ (i : Nat) (p : Xp) (v : Value), l[i]? = some p → vs[i]? = some v → p.rel E U v

theorem partsRel.mono {l : List Xp} {vs : List Value} (h : partsRel E U l vs) (he : Env.le U E E') (hu : ∀ n, U n → U' n) : partsRel E' U' l vs :=
  ⟨h.1, fun i c v hc hv => Xp.mono (h.2 i c v hc hv) he hu⟩

def Xa.rel (E : Env) (U : Us) : Xa → Value → Prop
  | .val p, v => p.rel E U v
  | .tup l, v => ∃ vs, v = .tuple vs ∧ partsRel E U l vs.toList

theorem Xa.mono {x : Xa} {v : Value} (h : x.rel E U v) (he : Env.le U E E') (hu : ∀ n, U n → U' n) : x.rel E' U' v := by
  cases x with
  | val p => exact Xp.mono h he hu
  | tup l => obtain ⟨vs, h1, h2⟩ := h; exact ⟨vs, h1, h2.mono he hu⟩

/-- The block that an object lies in. -/
def Env.blk (E : Env) (n : Nat) : Option Nat :=
  match E.ι n with
  | .pointer (some a) => some a.block
  | .map (some b) => some b
  | .func (.yield l) _ _ => some l
  | _ => none

def entryRel (E : Env) (U : Us) (x : Xp × Xp × Nat) (e : MapEntry) : Prop := x.1.rel E U e.key ∧ x.2.1.rel E U e.val ∧ e.born = x.2.2

/-- The stamps that an iteration has come to: as a set; the last, where it is told. -/
def SeenOK (arr : Array Nat) (seen : List Nat) (last : Option Nat) : Prop := (∀ x, arr.contains x = seen.contains x) ∧ arr.isEmpty = seen.isEmpty ∧ ∀ l, last = some l → arr.back? = some l

def Xo.rel (E : Env) (U : Us) (n : Nat) (w : World) : Xo → Prop
  | .cells T cs => ∃ b o vs, E.ι n = .pointer (some ⟨b, o, none⟩) ∧ w.heap[b]? = some (.cells vs T (0, 0)) ∧ vs.size = o + E.hi n ∧ cs.length ≤ E.hi n ∧
      ∀ (i : Nat) (c : Xv), cs[i]? = some c → ∃ v, vs[o + i]? = some v ∧ c.rel E U v
  | .mp es clock => ∃ b vs, E.ι n = .map (some b) ∧ w.heap[b]? = some (.map vs clock) ∧ es.length = vs.size ∧ ∀ (i : Nat) x e, es[i]? = some x → vs[i]? = some e → entryRel E U x e
  | .fn f first caps => ∃ fs cs : List Value, E.ι n = .func (.func f) fs.toArray cs.toArray ∧ cellsRel E U first fs ∧ cellsRel E U caps cs
  | .it m since seen stepped last => U m ∧ ∃ r b arr, E.ι n = .pointer (some ⟨r, 0, none⟩) ∧ E.ι m = .map (some b) ∧ w.heap[r]? = some (.mapIter (some b) since arr stepped) ∧ SeenOK arr seen last
  | .it0 => ∃ r, E.ι n = .pointer (some ⟨r, 0, none⟩) ∧ w.heap[r]? = some (.mapIter none 0 #[] 0)
  | .sit s pos => ∃ r, E.ι n = .pointer (some ⟨r, 0, none⟩) ∧ w.heap[r]? = some (.stringIter ⟨s.toArray⟩ pos)
  | .bag T is rest => ∃ js : List Int, js.Perm is ∧ ∃ b o vs, E.ι n = .pointer (some ⟨b, o, none⟩) ∧ w.heap[b]? = some (.cells vs T (0, 0)) ∧ vs.size = o + E.hi n ∧ (js ++ rest).length ≤ E.hi n ∧
      ∀ (i : Nat) (z : Int), (js ++ rest)[i]? = some z → vs[o + i]? = some (.int .i64 z)
  | .loop N sl ps assign body st pend => ∃ (l f : Nat) (tmps : Array Value) (df : Nat), E.ι n = .func (.yield l) #[] #[] ∧ w.heap[l]? = some (.loop ⟨st, pend, f, tmps, ps.toArray, assign, body, df⟩) ∧ tmps.size = N ∧
      ∀ (t : Nat) (x : Xa), Aw.look t sl = some x → x.rel E U (tmps.getD t undef)

/-- An object whose block stays as it was. -/
theorem Xo.mono {n : Nat} {x : Xo} (hn : U n) (h : x.rel E U n w) (he : Env.le U E E') (hu : ∀ n, U n → U' n) (hb : ∀ b, E.blk n = some b → w'.heap[b]? = w.heap[b]?) : x.rel E' U' n w' := by
  have hι := he.ι n hn
  have hhi := he.hi n hn
  cases x with
  | cells T cs =>
    obtain ⟨b, o, vs, h1, h2, h3, h4, h5⟩ := h
    refine ⟨b, o, vs, hι.trans h1, by rw [hb b (by simp [Env.blk, h1])]; exact h2, by rw [hhi]; exact h3, by rw [hhi]; exact h4, fun i c hc => ?_⟩
    obtain ⟨v, hv, hr⟩ := h5 i c hc
    exact ⟨v, hv, Xv.mono hr he hu⟩
  | mp es clock =>
    obtain ⟨b, vs, h1, h2, h3, h4⟩ := h
    exact ⟨b, vs, hι.trans h1, by rw [hb b (by simp [Env.blk, h1])]; exact h2, h3, fun i x e hx hee => ⟨Xp.mono (h4 i x e hx hee).1 he hu, Xp.mono (h4 i x e hx hee).2.1 he hu, (h4 i x e hx hee).2.2⟩⟩
  | fn f first caps => obtain ⟨fs, cs, h1, h2, h3⟩ := h; exact ⟨fs, cs, hι.trans h1, h2.mono he hu, h3.mono he hu⟩
  | it m since seen stepped last =>
    obtain ⟨hm, r, b, arr, h1, h2, h3, h4⟩ := h
    exact ⟨hu m hm, r, b, arr, hι.trans h1, (he.ι m hm).trans h2, by rw [hb r (by simp [Env.blk, h1])]; exact h3, h4⟩
  | it0 => obtain ⟨r, h1, h3⟩ := h; exact ⟨r, hι.trans h1, by rw [hb r (by simp [Env.blk, h1])]; exact h3⟩
  | sit s pos => obtain ⟨r, h1, h3⟩ := h; exact ⟨r, hι.trans h1, by rw [hb r (by simp [Env.blk, h1])]; exact h3⟩
  | bag T is rest => obtain ⟨js, hp, b, o, vs, h1, h2, h3, h4, h5⟩ := h; exact ⟨js, hp, b, o, vs, hι.trans h1, by rw [hb b (by simp [Env.blk, h1])]; exact h2, by rw [hhi]; exact h3, by rw [hhi]; exact h4, h5⟩
  | loop N sl ps sa bo st pe => obtain ⟨l, f, tmps, df, h1, h2, h3, h4⟩ := h; exact ⟨l, f, tmps, df, hι.trans h1, by rw [hb l (by simp [Env.blk, h1])]; exact h2, h3, fun t x hx => Xa.mono (h4 t x hx) he hu⟩

theorem Xo.nodef {n : Nat} {x : Xo} (h : x.rel E U n w) {b : Nat} (hb : E.blk n = some b) {ds : Option (List Deferred)} : w.heap[b]? ≠ some (.deferred ds) := fun hd => by
  have key : ∀ {c : Nat} {o : Obj}, E.blk n = some c → w.heap[c]? = some o → (∀ ds, o ≠ .deferred ds) → False := fun {c o} h1 h2 h3 => by
    rw [h1] at hb; injection hb with hb; subst hb; rw [h2] at hd; injection hd with hd; exact h3 _ hd
  cases x with
  | cells T cs => obtain ⟨c, o, vs, h1, h2, _⟩ := h; exact key (by simp [Env.blk, h1]) h2 (by simp)
  | mp es clock => obtain ⟨c, vs, h1, h2, _⟩ := h; exact key (by simp [Env.blk, h1]) h2 (by simp)
  | fn f first caps => obtain ⟨fs, cs, h1, _⟩ := h; simp [Env.blk, h1] at hb
  | it m since seen stepped last => obtain ⟨hm, r, c, arr, h1, h2, h3, h4⟩ := h; exact key (by simp [Env.blk, h1]) h3 (by simp)
  | it0 => obtain ⟨r, h1, h3⟩ := h; exact key (by simp [Env.blk, h1]) h3 (by simp)
  | sit s pos => obtain ⟨r, h1, h3⟩ := h; exact key (by simp [Env.blk, h1]) h3 (by simp)
  | bag T is rest => obtain ⟨js, hp, c, o, vs, h1, h2, _⟩ := h; exact key (by simp [Env.blk, h1]) h2 (by simp)
  | loop N sl ps sa bo st pe => obtain ⟨l, f, tmps, df, h1, h2, h3⟩ := h; exact key (by simp [Env.blk, h1]) h2 (by simp)

theorem Xo.lt {n : Nat} {x : Xo} (h : x.rel E U n w) {b : Nat} (hb : E.blk n = some b) : b < w.heap.size := by
  have key : ∀ {c : Nat} {o : Obj}, E.blk n = some c → w.heap[c]? = some o → b < w.heap.size := fun {c o} h1 h2 => by
    rw [h1] at hb; injection hb with hb; subst hb; exact Aw.lt_of_heap h2
  cases x with
  | cells T cs => obtain ⟨c, o, vs, h1, h2, _⟩ := h; exact key (by simp [Env.blk, h1]) h2
  | mp es clock => obtain ⟨c, vs, h1, h2, _⟩ := h; exact key (by simp [Env.blk, h1]) h2
  | fn f first caps => obtain ⟨fs, cs, h1, _⟩ := h; simp [Env.blk, h1] at hb
  | it m since seen stepped last => obtain ⟨hm, r, c, arr, h1, h2, h3, h4⟩ := h; exact key (by simp [Env.blk, h1]) h3
  | it0 => obtain ⟨r, h1, h3⟩ := h; exact key (by simp [Env.blk, h1]) h3
  | sit s pos => obtain ⟨r, h1, h3⟩ := h; exact key (by simp [Env.blk, h1]) h3
  | bag T is rest => obtain ⟨js, hp, c, o, vs, h1, h2, _⟩ := h; exact key (by simp [Env.blk, h1]) h2
  | loop N sl ps sa bo st pe => obtain ⟨l, f, tmps, df, h1, h2, h3⟩ := h; exact key (by simp [Env.blk, h1]) h2
end

structure HeapRel (E : Env) (U : Us) (ob : List (Nat × Xo)) (w : World) : Prop where
  rel : ∀ n x, Aw.look n ob = some x → U n ∧ x.rel E U n w
  inj : ∀ n m x y b, Aw.look n ob = some x → Aw.look m ob = some y → E.blk n = some b → E.blk m = some b → n = m
  lo : ∀ n x b, Aw.look n ob = some x → E.blk n = some b → lowN ≤ b
  glob : GL w

/-- What is fixed while a function's body runs. -/
structure Ctx where
  w0 : World
  E0 : Env
  U0 : Us
  S : Nat → Prop
  N : Nat
  ro : Option Nat

/-- The marks for the rounds' deferred calls: none of them has been made. -/
def DefOK (w0 w : World) (l : List Deferred) : Prop :=
  ∃ rs : List Nat, l = rs.map (fun r => ({ target := .collected r, args := #[] } : Deferred)) ∧ rs.Nodup ∧ ∀ r ∈ rs, w0.heap.size ≤ r ∧ w.heap[r]? = some (.deferred (some []))
theorem DefOK.nil (w0 w : World) : DefOK w0 w [] := ⟨[], rfl, .nil, fun r hr => by simp at hr⟩
theorem DefOK.mono {w0 w w' : World} {l : List Deferred} (h : DefOK w0 w l) (hb : ∀ r : Nat, w.heap[r]? = some (Obj.deferred (some [])) → w'.heap[r]? = w.heap[r]?) : DefOK w0 w' l :=
  let ⟨rs, h1, h2, h3⟩ := h
  ⟨rs, h1, h2, fun r hr => ⟨(h3 r hr).1, by rw [hb r (h3 r hr).2]; exact (h3 r hr).2⟩⟩

structure RI (X : Ctx) (E : Env) (U : Us) (σ : XS) (a : Act) (w : World) : Prop where
  slot : ∀ t v, Aw.look t σ.sl = some v → v.rel E U (a.tmps.getD t undef)
  heap : HeapRel E U σ.ob w
  size : a.tmps.size = X.N
  defers : DefOK X.w0 w a.defers
  kept : Kept (fun b _ => X.S b) X.w0 w
  own : ∀ n x b, Aw.look n σ.ob = some x → E.blk n = some b → X.S b ∨ X.w0.heap.size ≤ b
  base : ∀ n, X.U0 n → U n
  env : Env.le X.U0 X.E0 E
  low0 : lowN ≤ X.w0.heap.size

def R (X : Ctx) (U : Us) (σ : XS) (a : Act) (w : World) : Prop := ∃ E, RI X E U σ a w

end -- nc
end Go.Proofs.YtgjbehfdjnekdaaGreatDoor.Xc
end
section
/- A closed run: control, single operations, what a step may do to the objects, contracts of calls. -/
set_option linter.unusedVariables false
set_option linter.unusedSimpArgs false
namespace Go.Proofs.YtgjbehfdjnekdaaGreatDoor.Xc
noncomputable section
open Go.RowKit
open Go.Proofs.YtgjbehfdjnekdaaGreatDoor.Aw (Kept nlt nle retv getD_put op_steps)

section
variable {P : Program} {Q : Fin → Act → World → Prop} {X : Ctx} {K : List Item} {U U' : Us} {σ σ' : XS} {o : Oper} {d : Nat}

theorem RI.weakU {E : Env} {a : Act} {w : World} (h : RI X E U σ a w) (hu : ∀ n, U n → U' n) : RI X E U' σ a w :=
  { slot := fun t v hv => Xa.mono (h.slot t v hv) (.refl _ _) hu
    heap := ⟨fun n x hx => ⟨hu n (h.heap.rel n x hx).1, Xo.mono (h.heap.rel n x hx).1 (h.heap.rel n x hx).2 (.refl _ _) hu fun _ _ => rfl⟩, h.heap.inj, h.heap.lo, h.heap.glob⟩
    size := h.size, defers := h.defers, kept := h.kept, own := h.own, base := fun n hn => hu n (h.base n hn), env := h.env, low0 := h.low0 }
theorem R.weakU {a : Act} {w : World} (h : R X U σ a w) (hu : ∀ n, U n → U' n) : R X U' σ a w := let ⟨E, h⟩ := h; ⟨E, h.weakU hu⟩

def Gx (P : Program) (Q : Fin → Act → World → Prop) (X : Ctx) (K : List Item) (U : Us) (σ : XS) : Prop :=
  ∀ a w, R X U σ a w → ∀ (b : Frame) (cs : List Frame), b.roundOf = X.ro → ∃ e a' w', Q e a' w' ∧ ArrX P (lone (b.atR a K) cs w) b cs e a' w'

theorem Gx.of {K' : List Item} (g : Gx P Q X K' U' σ')
    (h : ∀ a w, R X U σ a w → ∃ a' w', R X U' σ' a' w' ∧ ∀ (b : Frame) (cs : List Frame), b.roundOf = X.ro → Steps P (lone (b.atR a K) cs w) (lone (b.atR a' K') cs w')) : Gx P Q X K U σ := by
  intro a w hr b cs hb
  obtain ⟨a', w', hr', hs⟩ := h a w hr
  obtain ⟨e, a2, w2, hq, harr⟩ := g a' w' hr' b cs hb
  exact ⟨e, a2, w2, hq, .of_steps (hs b cs hb) harr⟩
theorem Gx.same {K' : List Item} (g : Gx P Q X K' U σ) (h : ∀ (a : Act) (w : World) (b : Frame) (cs : List Frame), step P (lone (b.atR a K) cs w) = .next (lone (b.atR a K') cs w)) : Gx P Q X K U σ :=
  .of g fun a w hr => ⟨a, w, hr, fun b cs _ => .one (h a w b cs)⟩

theorem gx_seq {x y : Code} (g : Gx P Q X (.code x :: .code y :: K) U σ) : Gx P Q X (.code (.seq x y) :: K) U σ := .of g fun a w hr => ⟨a, w, hr, fun b cs _ => .one stepR_seq⟩
theorem gx_skip (g : Gx P Q X K U σ) : Gx P Q X (.code .skip :: K) U σ := .of g fun a w hr => ⟨a, w, hr, fun b cs _ => .one stepR_skip⟩
theorem gx_block {id : Nat} {c : Code} (g : Gx P Q X (.code c :: .inBlock id :: K) U σ) : Gx P Q X (.code (.block id c) :: K) U σ := .of g fun a w hr => ⟨a, w, hr, fun b cs _ => .one stepR_block⟩
theorem gx_inBlock {id : Nat} (g : Gx P Q X K U σ) : Gx P Q X (.inBlock id :: K) U σ := .of g fun a w hr => ⟨a, w, hr, fun b cs _ => .one stepR_inBlock⟩
theorem gx_loop {c : Code} (g : Gx P Q X (.code c :: .inLoop c :: K) U σ) : Gx P Q X (.code (.loop c) :: K) U σ := .of g fun a w hr => ⟨a, w, hr, fun b cs _ => .one stepR_loop⟩
theorem gx_inLoop {c : Code} (g : Gx P Q X (.code c :: .inLoop c :: K) U σ) : Gx P Q X (.inLoop c :: K) U σ := .of g fun a w hr => ⟨a, w, hr, fun b cs _ => .one stepR_inLoop⟩
theorem gx_exit {id : Nat} {K' : List Item} (hk : exitTo id K = some K') (g : Gx P Q X K' U σ) : Gx P Q X (.code (.exit id) :: K) U σ := .of g fun a w hr => ⟨a, w, hr, fun b cs _ => .one (stepR_exit hk)⟩
theorem gx_region {id : Nat} {ops : Array Oper} (g : Gx P Q X (.inRegion ops (List.range ops.size) :: K) U σ) : Gx P Q X (.code (.region id ops false) :: K) U σ := .of g fun a w hr => ⟨a, w, hr, fun b cs _ => .one stepR_region⟩
theorem gx_inRegion {ops : Array Oper} (g : Gx P Q X K U σ) : Gx P Q X (.inRegion ops [] :: K) U σ := .of g fun a w hr => ⟨a, w, hr, fun b cs _ => .one stepR_region_end⟩

/-! ### Operands -/
def constA : Value → Option Xv
  | .int k n => some (.int k n)
  | .bool b => some (.bool b)
  | .string s => some (.str s.data.toList)
  | .pointer none => some .nilp
  | .slice none 0 0 => some .nils
  | .map none => some .nilm
  | .nilFunc => some .nilf
  | .nilIface => some .nili
  | _ => none
theorem constA_rel {v : Value} {c : Xv} (h : constA v = some c) (E : Env) (U : Us) : c.rel E U v := by
  unfold constA at h
  split at h
  all_goals first
    | (injection h with h; subst h; first | rfl | (simp [Xv.rel]))
    | cases h

def XS.opd (σ : XS) : Operand → Option Xa
  | .tmp t => Aw.look t σ.sl
  | .const v => (constA v).map fun c => .val (.one c)
  | .func f => some (.val (.one (.fn0 f)))
  | _ => none

theorem RI.opd {E : Env} {a : Act} {w : World} (h : RI X E U σ a w) {x : Operand} {v : Xa} (hx : σ.opd x = some v) : v.rel E U (a.eval x) := by
  unfold XS.opd at hx
  split at hx
  · exact h.slot _ _ hx
  · obtain ⟨c, hc, rfl⟩ := Option.map_eq_some_iff.1 hx
    exact constA_rel hc E U
  · injection hx with hx; subst hx; rfl
  · cases hx

theorem gx_cond {x : Operand} {b : Bool} {c d : Code} (hx : σ.opd x = some (.val (.one (.bool b)))) (g : Gx P Q X (.code (if b = true then c else d) :: K) U σ) : Gx P Q X (.code (.cond x c d) :: K) U σ := by
  intro a w hr f cs hf
  obtain ⟨E, h⟩ := hr
  have he : a.eval x = .bool b := h.opd hx
  obtain ⟨e, a2, w2, hq, harr⟩ := g a w ⟨E, h⟩ f cs hf
  cases b with
  | true => exact ⟨e, a2, w2, hq, .of_steps (.one (stepR_cond he)) harr⟩
  | false => exact ⟨e, a2, w2, hq, .of_steps (.one (stepR_cond he)) harr⟩

/-! ### What an operation does -/
def del {β : Type} (t : Nat) : List (Nat × β) → List (Nat × β)
  | [] => []
  | (s, v) :: l => bif s.beq t then del t l else (s, v) :: del t l
theorem look_del {β : Type} {t s : Nat} : ∀ {l : List (Nat × β)}, Aw.look s (del t l) = if s = t then none else Aw.look s l
  | [] => by simp [del, Aw.look_nil, Aw.look_cons]
  | (k, v) :: l => by
    simp only [del]
    cases hb : k.beq t with
    | true =>
      have := Nat.eq_of_beq_eq_true hb; subst this
      rw [cond_true, look_del]
      by_cases e : s = k
      · rw [if_pos e, if_pos e]
      · rw [if_neg e, if_neg e]; simp only [Aw.look_nil, Aw.look_cons, if_neg e]
    | false =>
      have hk : k ≠ t := fun e => by subst e; simp at hb
      rw [cond_false]
      simp only [Aw.look_nil, Aw.look_cons]
      by_cases e : s = k
      · rw [if_pos e, if_pos e, if_neg (by rw [e]; exact hk)]
      · rw [if_neg e, if_neg e, look_del]

structure Eff where
  rs : List (Nat × Xa)
  ro : List (Nat × Xo)
  dst : Option (Nat × Xa)
  rm : List Nat
  ad : List (Nat × Xo)
  hi : Nat

def putL : Option (Nat × Xa) → List (Nat × Xa) → List (Nat × Xa)
  | none, l => l
  | some (t, v), l => (t, v) :: l
def dels {β : Type} : List Nat → List (Nat × β) → List (Nat × β)
  | [], l => l
  | n :: ns, l => dels ns (del n l)
theorem look_dels {β : Type} {s : Nat} : ∀ {ns : List Nat} {l : List (Nat × β)}, Aw.look s (dels ns l) = if s ∈ ns then none else Aw.look s l
  | [], l => by simp [dels]
  | n :: ns, l => by
    simp only [dels, look_dels, look_del, List.mem_cons]
    by_cases h1 : s ∈ ns
    · simp [h1]
    · by_cases h2 : s = n <;> simp [h1, h2]
theorem look_putL {t : Nat} : ∀ {d : Option (Nat × Xa)} {l : List (Nat × Xa)}, Aw.look t (putL d l) = match d with | some (s, v) => if t = s then some v else Aw.look t l | none => Aw.look t l
  | none, l => rfl
  | some (s, v), l => by
    simp only [putL, Aw.look_cons]

def Eff.ap (e : Eff) (σ : XS) : XS := ⟨putL e.dst σ.sl, e.ad ++ dels e.rm σ.ob⟩

def hasSl (σ : XS) (l : List (Nat × Xa)) : Prop := ∀ t v, (t, v) ∈ l → Aw.look t σ.sl = some v
def hasOb (σ : XS) (l : List (Nat × Xo)) : Prop := ∀ n x, (n, x) ∈ l → Aw.look n σ.ob = some x

/-- The change of objects and memory by one operation. -/
theorem RI.step {E E' : Env} {a : Act} {w w' : World} {T : Nat → Prop} {rm : List Nat} {ad : List (Nat × Xo)} (h : RI X E U σ a w) (he : Env.le U E E') (hu : ∀ n, U n → U' n) (hk : Kept (fun b _ => T b) w w')
    (hT : ∀ b, T b → ∃ n x, n ∈ rm ∧ Aw.look n σ.ob = some x ∧ E.blk n = some b)
    (hrel : ∀ n x, Aw.look n ad = some x → U' n ∧ x.rel E' U' n w')
    (hown : ∀ n x b, Aw.look n ad = some x → E'.blk n = some b → (∃ m y, m ∈ rm ∧ Aw.look m σ.ob = some y ∧ E.blk m = some b) ∨ w.heap.size ≤ b)
    (hinj : ∀ n m x y b, Aw.look n ad = some x → Aw.look m ad = some y → E'.blk n = some b → E'.blk m = some b → n = m) :
    RI X E' U' ⟨σ.sl, ad ++ dels rm σ.ob⟩ a w' := by
  have hblk : ∀ n, U n → E'.blk n = E.blk n := fun n hn => by unfold Env.blk; rw [he.ι n hn]
  have hcase : ∀ n x, Aw.look n (ad ++ dels rm σ.ob) = some x → Aw.look n ad = some x ∨ (n ∉ rm ∧ Aw.look n σ.ob = some x) := fun n x hx => by
    rw [Aw.look_append] at hx
    cases ha : Aw.look n ad with
    | some y => rw [ha] at hx; exact .inl hx
    | none =>
      rw [ha, Option.none_or, look_dels] at hx
      split at hx
      · cases hx
      · rename_i hn; exact .inr ⟨hn, hx⟩
  have hsame : ∀ n x, n ∉ rm → Aw.look n σ.ob = some x → ∀ b, E.blk n = some b → w'.heap[b]? = w.heap[b]? := fun n x hn hx b hb => by
    refine hk.blk b (Xo.lt (h.heap.rel n x hx).2 hb) fun q ht => ?_
    obtain ⟨m, y, hm, hy, hmb⟩ := hT b ht
    exact hn (h.heap.inj n m x y b hx hy hb hmb ▸ hm)
  have hlow : ∀ b, T b → lowN ≤ b := fun b hb => by
    obtain ⟨m, y, hm, hy, hmb⟩ := hT b hb
    exact h.heap.lo m y b hy hmb
  have hglob : GL w' := h.heap.glob.kept hk hlow
  refine { slot := fun t v hv => Xa.mono (h.slot t v hv) he hu, heap := ⟨fun n x hx => ?_, fun n m x y b hx hy hnb hmb => ?_, fun n x b hx hb => ?_, hglob⟩, size := h.size, defers := h.defers.mono fun r hr => hk.blk r (Aw.lt_of_heap hr) (fun q ht => by obtain ⟨m, y, hm, hy, hmb⟩ := hT r ht; exact Xo.nodef (h.heap.rel m y hy).2 hmb hr),
           kept := h.kept.step hk fun b q hb ht => ?_, own := fun n x b hx hb => ?_, base := fun n hn => hu n (h.base n hn), env := h.env.trans he h.base, low0 := h.low0 }
  · rcases hcase n x hx with hx | ⟨hn, hx⟩
    · exact hrel n x hx
    · obtain ⟨h1, h2⟩ := h.heap.rel n x hx
      exact ⟨hu n h1, Xo.mono h1 h2 he hu (hsame n x hn hx)⟩
  · rcases hcase n x hx with hx | ⟨hn, hx⟩ <;> rcases hcase m y hy with hy | ⟨hm, hy⟩
    · exact hinj n m x y b hx hy hnb hmb
    · exfalso
      rw [hblk m (h.heap.rel m y hy).1] at hmb
      rcases hown n x b hx hnb with ⟨m', y', h1, h2, h3⟩ | h1
      · exact hm (h.heap.inj m m' y y' b hy h2 hmb h3 ▸ h1)
      · have := Xo.lt (h.heap.rel m y hy).2 hmb; omega
    · exfalso
      rw [hblk n (h.heap.rel n x hx).1] at hnb
      rcases hown m y b hy hmb with ⟨m', y', h1, h2, h3⟩ | h1
      · exact hn (h.heap.inj n m' x y' b hx h2 hnb h3 ▸ h1)
      · have := Xo.lt (h.heap.rel n x hx).2 hnb; omega
    · rw [hblk n (h.heap.rel n x hx).1] at hnb; rw [hblk m (h.heap.rel m y hy).1] at hmb
      exact h.heap.inj n m x y b hx hy hnb hmb
  · rcases hcase n x hx with hx | ⟨hn, hx⟩
    · rcases hown n x b hx hb with ⟨m, y, hm, hy, hmb⟩ | h1
      · exact h.heap.lo m y b hy hmb
      · exact Nat.le_trans h.heap.glob.low h1
    · rw [hblk n (h.heap.rel n x hx).1] at hb; exact h.heap.lo n x b hx hb
  · obtain ⟨m, y, hm, hy, hmb⟩ := hT b ht
    rcases h.own m y b hy hmb with h1 | h1
    · exact h1
    · omega
  · rcases hcase n x hx with hx | ⟨hn, hx⟩
    · rcases hown n x b hx hb with ⟨m, y, hm, hy, hmb⟩ | h1
      · exact h.own m y b hy hmb
      · exact .inr (Nat.le_trans h.kept.size h1)
    · rw [hblk n (h.heap.rel n x hx).1] at hb; exact h.own n x b hx hb

theorem RI.put {E : Env} {a : Act} {w : World} (h : RI X E U σ a w) {x : Xa} {v : Value} (hd : d < X.N) (hv : x.rel E U v) :
    RI X E U ⟨putL (some (d, x)) σ.sl, σ.ob⟩ (a.put (some d) v) w := by
  have hd' : d < a.tmps.size := by rw [h.size]; exact hd
  refine { h with slot := fun t u hu => ?_, size := by simpa [Act.put] using h.size, defers := h.defers }
  rw [getD_put a d v t hd']
  rw [look_putL] at hu
  simp only at hu
  by_cases e : t = d
  · rw [if_pos e] at hu ⊢; injection hu with hu; subst hu; exact hv
  · rw [if_neg e] at hu ⊢; exact h.slot t u hu

/-- One operation, its guard aside: it leads to one of some states. -/
def StepS (P : Program) (X : Ctx) (o : Oper) (U : Us) (σ : XS) (lo : Nat) (es : List Eff) : Prop :=
  ∀ a w, R X U σ a w → wpX P o a w (fun a' w' => ∃ e ∈ es, R X (fun n => U n ∨ (lo ≤ n ∧ n < e.hi)) (e.ap σ) a' w')

/-- An operation that gives a value and leaves the memory. -/
theorem step_val {x : Xa} {rs : List (Nat × Xa)} {ro : List (Nat × Xo)} {lo : Nat} (hd : o.dst = some d) (hN : d < X.N)
    (h : ∀ E a w, RI X E U σ a w → ∃ u, (execOp a.eval o).run P w = .ok (.value u) w ∧ x.rel E U u) : StepS P X o U σ lo [⟨rs, ro, some (d, x), [], [], lo⟩] := by
  intro a w ⟨E, hr⟩
  obtain ⟨u, hrun, hx⟩ := h E a w hr
  unfold wpX
  rw [hrun, OpX_value, hd]
  exact ⟨_, List.mem_singleton.2 rfl, ⟨E, (hr.put hN hx).weakU fun n hn => .inl hn⟩⟩

/-- An operation that gives a value and changes objects. -/
theorem step_mem {x : Xa} {rs : List (Nat × Xa)} {ro : List (Nat × Xo)} {rm : List Nat} {ad : List (Nat × Xo)} {lo hi : Nat} (hd : o.dst = some d) (hN : d < X.N)
    (h : ∀ E a w, RI X E U σ a w → ∃ (u : Value) (w' : World) (E' : Env) (T : Nat → Prop), (execOp a.eval o).run P w = .ok (.value u) w' ∧ Env.le U E E' ∧ Kept (fun b _ => T b) w w' ∧
      (∀ b, T b → ∃ n x, n ∈ rm ∧ Aw.look n σ.ob = some x ∧ E.blk n = some b) ∧
      (∀ n x, Aw.look n ad = some x → (U n ∨ (lo ≤ n ∧ n < hi)) ∧ x.rel E' (fun n => U n ∨ (lo ≤ n ∧ n < hi)) n w') ∧
      (∀ n x b, Aw.look n ad = some x → E'.blk n = some b → (∃ m y, m ∈ rm ∧ Aw.look m σ.ob = some y ∧ E.blk m = some b) ∨ w.heap.size ≤ b) ∧
      (∀ n m x y b, Aw.look n ad = some x → Aw.look m ad = some y → E'.blk n = some b → E'.blk m = some b → n = m) ∧ x.rel E' (fun n => U n ∨ (lo ≤ n ∧ n < hi)) u) :
    StepS P X o U σ lo [⟨rs, ro, some (d, x), rm, ad, hi⟩] := by
  intro a w ⟨E, hr⟩
  obtain ⟨u, w', E', T, hrun, he, hk, hT, hrel, hown, hinj, hx⟩ := h E a w hr
  unfold wpX
  rw [hrun, OpX_value, hd]
  exact ⟨_, List.mem_singleton.2 rfl, ⟨E', (hr.step he (fun n hn => .inl hn) hk hT hrel hown hinj).put hN hx⟩⟩
end
end -- nc
end Go.Proofs.YtgjbehfdjnekdaaGreatDoor.Xc
end
