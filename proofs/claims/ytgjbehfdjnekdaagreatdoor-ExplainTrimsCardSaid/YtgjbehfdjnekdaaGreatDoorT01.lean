/- Parts of the proof of one statement: Aw0, Aw1, XG, Aw2. -/
import Derived.WalkKit
import Derived.Below
import Derived.Shelf.Abstract
set_option linter.all false
section
/- A framework: abstract states over the machine: persistent predicates on values, named objects of the call's own, and the relation between an abstract state and the machine's. -/
set_option linter.unusedVariables false
set_option linter.unusedSimpArgs false
namespace Go.Proofs.YtgjbehfdjnekdaaGreatDoor.Aw
noncomputable section
open Go.RowKit

theorem nlt {a b : Nat} (h : Nat.blt a b = true) : a < b := by simpa [Nat.blt_eq] using h
theorem nle {a b : Nat} (h : Nat.ble a b = true) : a ≤ b := Nat.le_of_ble_eq_true h

/-- A set of cells: block, offset. -/
abbrev Cells := Nat → Nat → Prop

/-- What lies outside M is in w' as it was in w. -/
structure Ext (M : Cells) (w w' : World) : Prop where
  size : w.heap.size ≤ w'.heap.size
  cell : ∀ b o v, ¬ M b o → w.cell? ⟨b, o, none⟩ = some v → w'.cell? ⟨b, o, none⟩ = some v
  obj : ∀ b es cl, (∀ o, ¬ M b o) → w.heap[b]? = some (.map es cl) → w'.heap[b]? = some (.map es cl)

theorem Ext.refl (M : Cells) (w : World) : Ext M w w := ⟨Nat.le_refl _, fun _ _ _ _ h => h, fun _ _ _ _ h => h⟩

theorem lt_of_cell {w : World} {b o : Nat} {v : Value} (h : w.cell? ⟨b, o, none⟩ = some v) : b < w.heap.size :=
  World.block_lt_of_cell? w ⟨b, o, none⟩ h

theorem lt_of_heap {w : World} {b : Nat} {o : Obj} (h : w.heap[b]? = some o) : b < w.heap.size := (Array.getElem?_eq_some_iff.1 h).1

/-- A persistent predicate on the value of one cell: what it says of memory stays true as long as the cells outside M stay. -/
structure Pred where
  p : World → Cells → Value → Prop
  mono : ∀ {w M w' M' c}, p w M c → Ext M w w' → (∀ b o, b < w.heap.size → M' b o → M b o) → p w' M' c
  one : ∀ {w M c}, p w M c → c.oneCell' = true

def eqP (v : Value) (h : v.oneCell' = true) : Pred := ⟨fun _ _ c => c = v, fun h _ _ => h, fun e => e ▸ h⟩
def intP (k : IntKind) (n : Int) : Pred := ⟨fun _ _ c => c = .int k n, fun h _ _ => h, fun e => e ▸ rfl⟩
def boolP (b : Bool) : Pred := ⟨fun _ _ c => c = .bool b, fun h _ _ => h, fun e => e ▸ rfl⟩
def strP (s : ByteArray) : Pred := ⟨fun _ _ c => c = .string s, fun h _ _ => h, fun e => e ▸ rfl⟩
def anyP : Pred := ⟨fun _ _ c => c.oneCell' = true, fun h _ _ => h, fun e => e⟩

/-- From offset o on the block b holds what ps says, in cells outside M. -/
def CellsAt (w : World) (M : Cells) (b o : Nat) (ps : List Pred) : Prop :=
  ∀ (i : Nat) (p : Pred), ps[i]? = some p → ∃ c, ¬ M b (o + i) ∧ w.cell? ⟨b, o + i, none⟩ = some c ∧ p.p w M c

theorem CellsAt.mono {w w' : World} {M M' : Cells} {b o : Nat} {ps : List Pred} (h : CellsAt w M b o ps) (he : Ext M w w')
    (hM : ∀ b o, b < w.heap.size → M' b o → M b o) : CellsAt w' M' b o ps := fun i p hp => by
  obtain ⟨c, h1, h2, h3⟩ := h i p hp
  exact ⟨c, fun hm => h1 (hM _ _ (lt_of_cell h2) hm), he.cell _ _ _ h1 h2, p.mono h3 he hM⟩

/-- A pointer to cells that nobody writes. -/
def ptrP (ps : List Pred) : Pred where
  p w M c := ∃ b o, c = .pointer (some ⟨b, o, none⟩) ∧ CellsAt w M b o ps
  mono := fun ⟨b, o, hc, h⟩ he hM => ⟨b, o, hc, h.mono he hM⟩
  one := fun ⟨b, o, hc, _⟩ => hc ▸ rfl

/-- How a type's values lie in cells. -/
structure Enc (α : Type) where
  agg : Bool
  k : Nat
  cells : α → List Pred
  len : ∀ x, (cells x).length = k

def LEN : Nat := 140737488355328
theorem LEN_eq : LEN = 140737488355328 := rfl

/-- A slice that is read, element by element: nil and empty alike. -/
def elsP (k : Nat) (els : List (List Pred)) : Pred where
  p w M c := els.length ≤ LEN ∧ ((els = [] ∧ ∃ a cap, c = .slice a 0 cap) ∨
    ∃ b o cap, c = .slice (some ⟨b, o, none⟩) els.length cap ∧ els.length ≤ cap ∧ ∀ (i : Nat) (ps : List Pred), els[i]? = some ps → ps.length = k ∧ CellsAt w M b (o + i * k) ps)
  mono := fun ⟨hl, h⟩ he hM => ⟨hl, by
    rcases h with h | ⟨b, o, cap, hc, hcap, h⟩
    · exact .inl h
    · exact .inr ⟨b, o, cap, hc, hcap, fun i x hx => ⟨(h i x hx).1, (h i x hx).2.mono he hM⟩⟩⟩
  one := fun ⟨_, h⟩ => by
    rcases h with ⟨_, a, cap, hc⟩ | ⟨b, o, cap, hc, _⟩ <;> exact hc ▸ rfl

abbrev Enc.els {α : Type} (e : Enc α) (xs : List α) : List (List Pred) := xs.map e.cells
abbrev sliceP {α : Type} (e : Enc α) (xs : List α) : Pred := elsP e.k (e.els xs)

/-! ### Abstract values -/
/-- What a closure has captured: a variable of the call's own (its address), or a value that stays. -/
inductive Cap where
  | nm (n : Nat)
  | dt (p : Pred)

inductive Cell where
  | dat (p : Pred)
  | ref (n : Nat) (off : Nat)
  | el (n : Nat) (q : Nat)
  | clo (f : FuncId) (caps : List Cap)
  | any

/-- A value: one cell, or a struct's (an array's) cells. -/
inductive Part where
  | one (c : Cell)
  | agg (cs : List Cell)

/-- What a slot holds: a value, or the results of a call. -/
inductive AV where
  | val (x : Part)
  | tup (l : List Part)
  | opt (b : Bool) (x : Part)

abbrev D (p : Pred) : AV := .val (.one (.dat p))

inductive Ob where
  | box (T : TypeId) (cells : List Cell)
  | row (T : TypeId) (k : Nat) (els : List (List Pred))
  | tok (T : TypeId) (k : Nat) (els : List (List Pred))

structure St where
  sl : List (Nat × AV)
  ob : List (Nat × Ob)

noncomputable def look {β : Type} (n : Nat) (l : List (Nat × β)) : Option β := List.rec none (fun x _ ih => Prod.rec (fun m y => Bool.rec ih (some y) (n.beq m)) x) l
theorem look_nil {β : Type} {n : Nat} : look n ([] : List (Nat × β)) = none := rfl
theorem look_cons {β : Type} {n m : Nat} {x : β} {r : List (Nat × β)} : look n ((m, x) :: r) = if n = m then some x else look n r := by
  show (Bool.rec (look n r) (some x) (n.beq m) : Option β) = if n = m then some x else look n r
  by_cases h : n = m
  · subst h
    rw [if_pos rfl, show n.beq n = true from by simp]
  · have hb : n.beq m = false := by cases hb : n.beq m with | false => rfl | true => exact absurd (Nat.eq_of_beq_eq_true hb) h
    rw [if_neg h, hb]

def vadd (v : Value) (off : Nat) : Value :=
  match v with
  | .pointer (some a) => .pointer (some (a.add off))
  | v => v

section
variable (ι : Nat → Value) (w : World) (M : Cells)

def Cap.rel : Cap → Value → Prop
  | .nm n, c => c = ι n
  | .dt p, c => p.p w M c

def Cell.rel : Cell → Value → Prop
  | .dat p, c => p.p w M c
  | .ref n off, c => c = vadd (ι n) off
  | .el n q, c => ∃ b o len cap, ι n = .slice (some ⟨b, o, none⟩) len cap ∧ c = .pointer (some ⟨b, o + q, none⟩)
  | .clo f caps, c => ∃ vs : List Value, c = .func (.func f) #[] vs.toArray ∧ vs.length = caps.length ∧ ∀ (i : Nat) (x : Cap) (v : Value), caps[i]? = some x → vs[i]? = some v → x.rel ι w M v
  | .any, c => True

def cellsRel (cs : List Cell) (vs : List Value) : Prop :=
  cs.length = vs.length ∧ ∀ (i : Nat) (c : Cell) (v : Value), cs[i]? = some c → vs[i]? = some v → c.rel ι w M v ∧ v.oneCell' = true

def Part.rel : Part → Value → Prop
  | .one c, v => c.rel ι w M v ∧ v.oneCell' = true
  | .agg cs, v => ∃ vs, v = .agg vs ∧ cellsRel ι w M cs vs.toList

/-- A list of values. -/
def partsRel (l : List Part) (vs : List Value) : Prop :=
  l.length = vs.length ∧ ∀ (i : Nat) (p : Part) (u : Value), l[i]? = some p → vs[i]? = some u → p.rel ι w M u

def AV.rel : AV → Value → Prop
  | .val x, v => x.rel ι w M v
  | .tup l, v => ∃ vs, v = .tuple vs ∧ partsRel ι w M l vs.toList
  | .opt b x, v => b = true → x.rel ι w M v

/-- What an object of the call's own is in memory, and which cells it takes. -/
def Ob.rel (n : Nat) (F : Cells) : Ob → Prop
  | .box T cells => ∃ b vs, ι n = .pointer (some ⟨b, 0, none⟩) ∧ w.heap[b]? = some (.cells vs T (0, 0)) ∧ cellsRel ι w M cells vs.toList ∧ ∀ b' q, F b' q ↔ b' = b
  | .row T k els => (∀ ps ∈ els, ps.length = k) ∧ els.length ≤ LEN ∧
      ((els = [] ∧ ι n = .slice none 0 0 ∧ ∀ b' q, ¬ F b' q) ∨
        ∃ b o cap cur, ι n = .slice (some ⟨b, o, none⟩) els.length cap ∧ w.heap[b]? = some (.cells cur T (0, 0)) ∧ els.length ≤ cap ∧ cap ≤ maxLen ∧ o + cap * k ≤ cur.size ∧
          (∀ (i : Nat) (ps : List Pred), els[i]? = some ps → ∀ (j : Nat) (p : Pred), ps[j]? = some p → ∃ c, cur[o + i * k + j]? = some c ∧ p.p w M c) ∧
          (∀ b' q, F b' q ↔ b' = b))
  | .tok T k els => (∀ ps ∈ els, ps.length = k) ∧ els.length ≤ LEN ∧
      ((els = [] ∧ ι n = .slice none 0 0 ∧ ∀ b' q, ¬ F b' q) ∨
        ∃ b o cap, ι n = .slice (some ⟨b, o, none⟩) els.length cap ∧ els.length ≤ cap ∧ cap ≤ maxLen ∧
          (∀ (i : Nat) (ps : List Pred), els[i]? = some ps → CellsAt w M b (o + i * k) ps) ∧
          ((els.length = cap ∧ ∀ b' q, ¬ F b' q) ∨
            (els.length < cap ∧ (∃ cur, w.heap[b]? = some (.cells cur T (0, 0)) ∧ o + cap * k ≤ cur.size) ∧ ∀ b' q, F b' q ↔ b' = b ∧ o + els.length * k ≤ q)))
end

/-- What is fixed while a function's body runs: the world and the cells that are not its own when it begins, those that it was handed to write, and the number of its slots. -/
structure Ctx where
  w0 : World
  M0 : Cells
  Fin : Cells
  N : Nat

structure Kept (S : Cells) (w w' : World) : Prop where
  os : w'.os = w.os
  tape : w'.tape = w.tape
  output : w'.output = w.output
  size : w.heap.size ≤ w'.heap.size
  blk : ∀ b, b < w.heap.size → (∀ q, ¬ S b q) → w'.heap[b]? = w.heap[b]?
  cell : ∀ b q, b < w.heap.size → ¬ S b q → w'.cell? ⟨b, q, none⟩ = w.cell? ⟨b, q, none⟩

theorem Kept.refl (S : Cells) (w : World) : Kept S w w := ⟨rfl, rfl, rfl, Nat.le_refl _, fun _ _ _ => rfl, fun _ _ _ _ => rfl⟩

theorem Kept.trans {S : Cells} {a b c : World} (h : Kept S a b) (k : Kept S b c) : Kept S a c :=
  ⟨k.os.trans h.os, k.tape.trans h.tape, k.output.trans h.output, Nat.le_trans h.size k.size,
    fun i hi hq => (k.blk i (Nat.lt_of_lt_of_le hi h.size) hq).trans (h.blk i hi hq),
    fun i q hi hq => (k.cell i q (Nat.lt_of_lt_of_le hi h.size) hq).trans (h.cell i q hi hq)⟩

theorem Kept.ext {S M : Cells} {w w' : World} (h : Kept S w w') (hs : ∀ b o, S b o → M b o) : Ext M w w' :=
  ⟨h.size, fun b o v hm hc => (h.cell b o (lt_of_cell hc) fun hs' => hm (hs _ _ hs')).trans hc,
    fun b es cl hm hb => (h.blk b (lt_of_heap hb) fun q hq => hm q (hs _ _ hq)).trans hb⟩

theorem Kept.mono {S S' : Cells} {w w' : World} (h : Kept S w w') (hs : ∀ b o, S b o → S' b o) : Kept S' w w' :=
  ⟨h.os, h.tape, h.output, h.size, fun b hb hq => h.blk b hb fun q hs' => hq q (hs _ _ hs'), fun b q hb hq => h.cell b q hb fun hs' => hq (hs _ _ hs')⟩

theorem Kept.of_below {w w' : World} (h : Below w.heap.size w w') (S : Cells) : Kept S w w' :=
  ⟨h.os, h.tape, h.output, h.size, fun b hb _ => h.block b hb, fun b q hb _ => h.cell (p := ⟨b, q, none⟩) hb⟩

theorem Kept.below {w w' : World} (h : Kept (fun _ _ => False) w w') : Below w.heap.size w w' :=
  ⟨h.os, h.tape, h.output, h.size, fun b hb => h.blk b hb fun _ => id⟩

def Mof (M0 : Cells) (F : Nat → Cells) : Cells := fun b q => M0 b q ∨ ∃ n, F n b q

/-- The relation, its choices laid open. -/
structure RI (X : Ctx) (ι : Nat → Value) (F : Nat → Cells) (σ : St) (a : Act) (w : World) : Prop where
  none_ : ∀ n, look n σ.ob = none → ∀ b q, ¬ F n b q
  obj : ∀ n o, look n σ.ob = some o → o.rel ι w (Mof X.M0 F) n (F n)
  disj : ∀ n m b q, F n b q → F m b q → n = m
  apart : ∀ n b q, F n b q → ¬ X.M0 b q
  old : ∀ n b q, F n b q → b < X.w0.heap.size → X.Fin b q
  lt : ∀ n b q, F n b q → b < w.heap.size
  m0lt : ∀ b q, X.M0 b q → b < X.w0.heap.size
  finM : ∀ b q, X.Fin b q → ¬ X.M0 b q
  slot : ∀ t v, look t σ.sl = some v → v.rel ι w (Mof X.M0 F) (a.tmps.getD t undef)
  size : a.tmps.size = X.N
  defers : a.defers = []
  kept : Kept X.Fin X.w0 w

def R (X : Ctx) (σ : St) (a : Act) (w : World) : Prop := ∃ ι F, RI X ι F σ a w

end -- nc
end Go.Proofs.YtgjbehfdjnekdaaGreatDoor.Aw
end
section
/- The framework's machine side: Go, its rules for control, calls, and the way in and out of a function. -/
set_option linter.unusedVariables false
set_option linter.unusedSimpArgs false
namespace Go.Proofs.YtgjbehfdjnekdaaGreatDoor.Aw
noncomputable section
open Go.RowKit

theorem Cap.rel_mono {ι : Nat → Value} {w w' : World} {M M' : Cells} {c : Cap} {v : Value} (h : c.rel ι w M v) (he : Ext M w w')
    (hM : ∀ b o, b < w.heap.size → M' b o → M b o) : c.rel ι w' M' v := by
  cases c with
  | dt p => exact p.mono h he hM
  | nm n => exact h

theorem Cell.rel_mono {ι : Nat → Value} {w w' : World} {M M' : Cells} {c : Cell} {v : Value} (h : c.rel ι w M v) (he : Ext M w w')
    (hM : ∀ b o, b < w.heap.size → M' b o → M b o) : c.rel ι w' M' v := by
  cases c with
  | dat p => exact p.mono h he hM
  | clo f l => obtain ⟨vs, h1, h2, h3⟩ := h; exact ⟨vs, h1, h2, fun i x v hx hv => Cap.rel_mono (h3 i x v hx hv) he hM⟩
  | _ => exact h

theorem cellsRel_mono {ι : Nat → Value} {w w' : World} {M M' : Cells} {cs : List Cell} {vs : List Value} (h : cellsRel ι w M cs vs) (he : Ext M w w')
    (hM : ∀ b o, b < w.heap.size → M' b o → M b o) : cellsRel ι w' M' cs vs :=
  ⟨h.1, fun i c v hc hv => ⟨Cell.rel_mono (h.2 i c v hc hv).1 he hM, (h.2 i c v hc hv).2⟩⟩

theorem Part.rel_mono {ι : Nat → Value} {w w' : World} {M M' : Cells} {p : Part} {v : Value} (h : p.rel ι w M v) (he : Ext M w w')
    (hM : ∀ b o, b < w.heap.size → M' b o → M b o) : p.rel ι w' M' v := by
  cases p with
  | one c => exact ⟨Cell.rel_mono h.1 he hM, h.2⟩
  | agg cs => obtain ⟨vs, hv, h⟩ := h; exact ⟨vs, hv, cellsRel_mono h he hM⟩

theorem partsRel_mono {ι : Nat → Value} {w w' : World} {M M' : Cells} {l : List Part} {vs : List Value} (h : partsRel ι w M l vs) (he : Ext M w w')
    (hM : ∀ b o, b < w.heap.size → M' b o → M b o) : partsRel ι w' M' l vs := ⟨h.1, fun i p u hp hu => Part.rel_mono (h.2 i p u hp hu) he hM⟩

theorem AV.rel_mono {ι : Nat → Value} {w w' : World} {M M' : Cells} {x : AV} {v : Value} (h : x.rel ι w M v) (he : Ext M w w')
    (hM : ∀ b o, b < w.heap.size → M' b o → M b o) : x.rel ι w' M' v := by
  cases x with
  | val x => exact Part.rel_mono h he hM
  | tup l => obtain ⟨vs, hv, h⟩ := h; exact ⟨vs, hv, partsRel_mono h he hM⟩
  | opt b x => exact fun e => Part.rel_mono (h e) he hM

/-- An object whose own cells stay as they were. -/
theorem Ob.rel_mono {ι : Nat → Value} {w w' : World} {M M' : Cells} {n : Nat} {F : Cells} {o : Ob} (h : o.rel ι w M n F) (he : Ext M w w')
    (hM : ∀ b o, b < w.heap.size → M' b o → M b o) (hF : ∀ b, (∃ q, F b q) → w'.heap[b]? = w.heap[b]?) : o.rel ι w' M' n F := by
  cases o with
  | box T cells =>
    obtain ⟨b, vs, h1, h2, h3, h4⟩ := h
    exact ⟨b, vs, h1, by rw [hF b ⟨0, (h4 b 0).2 rfl⟩]; exact h2, cellsRel_mono h3 he hM, h4⟩
  | row T k els =>
    obtain ⟨h0, hl, h⟩ := h
    refine ⟨h0, hl, ?_⟩
    rcases h with h | ⟨b, o, cap, cur, h1, h2, h3, h4, h5, h6, h7⟩
    · exact .inl h
    · refine .inr ⟨b, o, cap, cur, h1, by rw [hF b ⟨0, (h7 b 0).2 rfl⟩]; exact h2, h3, h4, h5, fun i ps hi j p hp => ?_, h7⟩
      obtain ⟨c, hc, hp'⟩ := h6 i ps hi j p hp
      exact ⟨c, hc, p.mono hp' he hM⟩
  | tok T k els =>
    obtain ⟨h0, hl, h⟩ := h
    refine ⟨h0, hl, ?_⟩
    rcases h with h | ⟨b, o, cap, h1, h2, h3, h4, h5⟩
    · exact .inl h
    · refine .inr ⟨b, o, cap, h1, h2, h3, fun i ps hi => (h4 i ps hi).mono he hM, ?_⟩
      rcases h5 with h5 | ⟨h5, ⟨cur, h6, h7⟩, h8⟩
      · exact .inl h5
      · exact .inr ⟨h5, ⟨cur, by rw [hF b ⟨_, (h8 b _).2 ⟨rfl, Nat.le_refl _⟩⟩]; exact h6, h7⟩, h8⟩

/-! ### The machine -/
section
variable {P : Program}

def Go (P : Program) (Q : Exit → Act → World → Prop) (X : Ctx) (K : List Item) (σ : St) : Prop :=
  ∀ a w, R X σ a w → ∀ (b : Frame) (cs : List Frame), ∃ e a' w', Q e a' w' ∧ Arrives P (lone (b.at a K) cs w) b [] cs e a' w'

variable {Q : Exit → Act → World → Prop} {X : Ctx} {K : List Item} {σ σ' : St}

theorem Go.of {K' : List Item} (g : Go P Q X K' σ')
    (h : ∀ a w, R X σ a w → ∃ a' w', R X σ' a' w' ∧ ∀ (b : Frame) (cs : List Frame), Steps P (lone (b.at a K) cs w) (lone (b.at a' K') cs w')) : Go P Q X K σ := by
  intro a w hr b cs
  obtain ⟨a', w', hr', hs⟩ := h a w hr
  obtain ⟨e, a2, w2, hq, harr⟩ := g a' w' hr' b cs
  exact ⟨e, a2, w2, hq, .of_steps (hs b cs) harr⟩

theorem go_weak (h : ∀ a w, R X σ a w → R X σ' a w) (g : Go P Q X K σ') : Go P Q X K σ := fun a w hr => g a w (h a w hr)

theorem go_seq {x y : Code} (g : Go P Q X (.code x :: .code y :: K) σ) : Go P Q X (.code (.seq x y) :: K) σ :=
  .of g fun a w hr => ⟨a, w, hr, fun b cs => .one step_seq⟩
theorem go_skip (g : Go P Q X K σ) : Go P Q X (.code .skip :: K) σ := .of g fun a w hr => ⟨a, w, hr, fun b cs => .one step_skip⟩
theorem go_block {id : Nat} {c : Code} (g : Go P Q X (.code c :: .inBlock id :: K) σ) : Go P Q X (.code (.block id c) :: K) σ :=
  .of g fun a w hr => ⟨a, w, hr, fun b cs => .one step_block⟩
theorem go_inBlock {id : Nat} (g : Go P Q X K σ) : Go P Q X (.inBlock id :: K) σ := .of g fun a w hr => ⟨a, w, hr, fun b cs => .one step_inBlock⟩
theorem go_loop {c : Code} (g : Go P Q X (.code c :: .inLoop c :: K) σ) : Go P Q X (.code (.loop c) :: K) σ :=
  .of g fun a w hr => ⟨a, w, hr, fun b cs => .one step_loop⟩
theorem go_inLoop {c : Code} (g : Go P Q X (.code c :: .inLoop c :: K) σ) : Go P Q X (.inLoop c :: K) σ :=
  .of g fun a w hr => ⟨a, w, hr, fun b cs => .one step_inLoop⟩
theorem go_exit {id : Nat} {K' : List Item} (hk : exitTo id K = some K') (g : Go P Q X K' σ) : Go P Q X (.code (.exit id) :: K) σ :=
  .of g fun a w hr => ⟨a, w, hr, fun b cs => .one (step_exit hk)⟩

/-- What an operand is. -/
def St.opd (σ : St) : Operand → Option AV
  | .tmp t => look t σ.sl
  | .const (.int k n) => some (D (intP k n))
  | .const (.bool b) => some (D (boolP b))
  | .const (.string s) => some (D (strP s))
  | .const (.pointer none) => some (D (eqP (.pointer none) rfl))
  | .const (.slice none 0 0) => some (D (eqP (.slice none 0 0) rfl))
  | .const (.map none) => some (D (eqP (.map none) rfl))
  | .const .nilIface => some (D (eqP .nilIface rfl))
  | .const .nilFunc => some (D (eqP .nilFunc rfl))
  | .func f => some (.val (.one (.clo f [])))
  | _ => none

theorem RI.opd {ι : Nat → Value} {F : Nat → Cells} {a : Act} {w : World} (h : RI X ι F σ a w) {x : Operand} {v : AV} (hx : σ.opd x = some v) :
    v.rel ι w (Mof X.M0 F) (a.eval x) := by
  unfold St.opd at hx
  split at hx
  all_goals first
    | exact h.slot _ _ hx
    | (injection hx with hx; subst hx; exact ⟨rfl, rfl⟩)
    | (injection hx with hx; subst hx; exact ⟨⟨[], rfl, rfl, fun i x v hx => by simp at hx⟩, rfl⟩)
    | cases hx

theorem go_cond {x : Operand} {b : Bool} {c d : Code} (hx : σ.opd x = some (D (boolP b)))
    (gt : b = true → Go P Q X (.code c :: K) σ) (gf : b = false → Go P Q X (.code d :: K) σ) : Go P Q X (.code (.cond x c d) :: K) σ := by
  intro a w hr f cs
  obtain ⟨ι, F, h⟩ := hr
  have he : a.eval x = .bool b := (h.opd hx).1
  cases b with
  | true =>
    obtain ⟨e, a2, w2, hq, harr⟩ := gt rfl a w ⟨ι, F, h⟩ f cs
    exact ⟨e, a2, w2, hq, .of_steps (.one (step_cond he)) harr⟩
  | false =>
    obtain ⟨e, a2, w2, hq, harr⟩ := gf rfl a w ⟨ι, F, h⟩ f cs
    exact ⟨e, a2, w2, hq, .of_steps (.one (step_cond he)) harr⟩

/-! ### One operation -/
theorem op_steps {ops : Array Oper} {i : Nat} {rest : List Nat} {o : Oper} {a : Act} {w : World} {next : Act → World → Prop} (ho : ops[i]? = some o)
    (hw : Region.wanted o (yielded ops a.tmps) = true) (h : o.wp P a w next (fun _ _ _ => False)) (b : Frame) (k : List Item) (cs : List Frame) :
    ∃ a' w', next a' w' ∧ Steps P (lone (b.at a (.inRegion ops (i :: rest) :: k)) cs w) (lone (b.at a' (.inRegion ops rest :: k)) cs w') := by
  simp only [Oper.wp, Oper.upon] at h
  have hg := stepG_op (P := P) (b := b) (k := k) (cs := cs) (w := w) (rest := rest) ho hw
  have hfin : ∀ v, (b.at a (.inRegion ops (i :: rest) :: k)).finish v = b.at (a.put o.dst v) (.inRegion ops rest :: k) := by
    intro v; rw [Frame.finish_at, ho]; rfl
  split at h
  · rename_i v w' hr
    exact ⟨_, _, h, .one (step_lone_go (by rw [hg, ← hfin]; simp [stepG.apply, hr]))⟩
  · rename_i w' hr
    exact ⟨_, _, h, .one (step_lone_go (by rw [hg, ← hfin]; simp [stepG.apply, hr]))⟩
  · rename_i d w' hr
    refine ⟨_, _, h, .one (step_lone_go ?_)⟩
    have : ({ b.at a (.inRegion ops (i :: rest) :: k) with defers := d :: a.defers } : Frame).finish undef =
        b.at ({ a with defers := d :: a.defers }.put o.dst undef) (.inRegion ops rest :: k) := by
      have := Frame.finish_at b { a with defers := d :: a.defers } ops i rest k undef
      rw [ho] at this; exact this
    rw [hg]; simp only [stepG.apply, Sem.runT_eq, hr, GStep.bare_after]
    exact congrArg (fun fr => GStep.go { frame := fr, callers := cs, status := .running, dying := none } w') this
  · rename_i f args w' hr
    obtain ⟨e, w'', fr, hR, hsteps, _, hleave⟩ := h (b.at a (.inRegion ops (i :: rest) :: k) :: cs)
    have henter : step P (lone (b.at a (.inRegion ops (i :: rest) :: k)) cs w) =
        .next (lone (Frame.enter P f args .normal) (b.at a (.inRegion ops (i :: rest) :: k) :: cs) w') :=
      step_lone_go (by rw [hg]; simp [stepG.apply, hr, Frame.at])
    cases e with
    | returned v =>
      refine ⟨_, _, hR, .head henter (hsteps.trans (.one ?_))⟩
      rw [← hfin]; exact step_leave_returned hleave
    | panicked chain => exact hR.elim
    | outgrown => obtain ⟨_, _, hq⟩ := hR; exact hq.elim
  · rename_i row args w' hr
    obtain ⟨v, w'', hR, hsteps⟩ := h (b.at a (.inRegion ops (i :: rest) :: k)) cs
    have henter : step P (lone (b.at a (.inRegion ops (i :: rest) :: k)) cs w) =
        .next (lone (Frame.ofRow P row args .normal) (b.at a (.inRegion ops (i :: rest) :: k) :: cs) w') :=
      step_lone_go (by rw [hg]; simp [stepG.apply, hr, Frame.at])
    refine ⟨_, _, hR, .head henter ?_⟩
    rw [← hfin]; exact hsteps
  · exact h.elim
  · exact h.elim

/-- What one operation does to abstract states. -/
def StepS (P : Program) (X : Ctx) (o : Oper) (σ σ' : St) : Prop :=
  ∀ a w, R X σ a w → o.wp P a w (fun a' w' => R X σ' a' w') (fun _ _ _ => False)

theorem go_region {id : Nat} {ops : Array Oper} (g : Go P Q X (.inRegion ops (List.range ops.size) :: K) σ) : Go P Q X (.code (.region id ops false) :: K) σ :=
  .of g fun a w hr => ⟨a, w, hr, fun b cs => .one step_region⟩
theorem go_inRegion {ops : Array Oper} (g : Go P Q X K σ) : Go P Q X (.inRegion ops [] :: K) σ :=
  .of g fun a w hr => ⟨a, w, hr, fun b cs => .one step_region_end⟩

theorem go_op {ops : Array Oper} {i : Nat} {rest : List Nat} {o : Oper} (ho : ops[i]? = some o) (hg : o.guard = none) (s : StepS P X o σ σ')
    (g : Go P Q X (.inRegion ops rest :: K) σ') : Go P Q X (.inRegion ops (i :: rest) :: K) σ := by
  intro a w hr b cs
  obtain ⟨a', w', hr', hs⟩ := op_steps (P := P) (rest := rest) ho (by simp [Region.wanted, hg]) (s a w hr) b K cs
  obtain ⟨e, a2, w2, hq, harr⟩ := g a' w' hr' b cs
  exact ⟨e, a2, w2, hq, .of_steps hs harr⟩

/-! ### Slots -/
theorem RI.world {ι : Nat → Value} {F : Nat → Cells} {a : Act} {w w' : World} (h : RI X ι F σ a w) (hk : Kept (fun _ _ => False) w w') : RI X ι F σ a w' := by
  have he : Ext (Mof X.M0 F) w w' := hk.ext fun _ _ h => h.elim
  have hM : ∀ b o, b < w.heap.size → Mof X.M0 F b o → Mof X.M0 F b o := fun _ _ _ h => h
  refine { h with obj := fun n o hn => ?_, lt := fun n b q hf => Nat.lt_of_lt_of_le (h.lt n b q hf) hk.size, slot := fun t v hv => AV.rel_mono (h.slot t v hv) he hM,
                  kept := h.kept.trans (hk.mono fun _ _ h => h.elim) }
  have hb : ∀ b, b < w.heap.size → w'.heap[b]? = w.heap[b]? := fun b hb => hk.blk b hb fun _ => id
  exact Ob.rel_mono (h.obj n o hn) he hM (fun b ⟨q, hq⟩ => hb b (h.lt n b q hq))

def St.put (σ : St) (d : Nat) (v : AV) : St := ⟨(d, v) :: σ.sl, σ.ob⟩

theorem getD_put (a : Act) (d : Nat) (v : Value) (t : Nat) (hd : d < a.tmps.size) : (a.put (some d) v).tmps.getD t undef = if t = d then v else a.tmps.getD t undef := by
  simp only [Act.put, Array.getD_eq_getD_getElem?, Array.getElem?_setIfInBounds]
  by_cases h : d = t
  · subst h; simp [hd]
  · simp [h, Ne.symm h]

theorem RI.put {ι : Nat → Value} {F : Nat → Cells} {a : Act} {w : World} (h : RI X ι F σ a w) {d : Nat} {x : AV} {v : Value} (hd : d < X.N) (hv : x.rel ι w (Mof X.M0 F) v) :
    RI X ι F (σ.put d x) (a.put (some d) v) w := by
  have hd' : d < a.tmps.size := by rw [h.size]; exact hd
  refine { h with slot := fun t u hu => ?_, size := by simpa [Act.put] using h.size, defers := h.defers }
  rw [getD_put a d v t hd']
  simp only [St.put, look_nil, look_cons] at hu
  by_cases e : t = d
  · rw [if_pos e] at hu ⊢; injection hu with hu; subst hu; exact hv
  · rw [if_neg e] at hu ⊢; exact h.slot t u hu

theorem step_run {o : Oper} {d : Nat} {x : AV} (hd : o.dst = some d) (hN : d < X.N)
    (h : ∀ ι F a w, RI X ι F σ a w → ∃ u w', (execOp a.eval o).run P w = .ok (.value u) w' ∧ Kept (fun _ _ => False) w w' ∧ x.rel ι w' (Mof X.M0 F) u) : StepS P X o σ (σ.put d x) := by
  intro a w ⟨ι, F, hr⟩
  obtain ⟨u, w', hrun, hk, hx⟩ := h ι F a w hr
  unfold Oper.wp
  rw [hrun, Oper.upon_value, hd]
  exact ⟨ι, F, (hr.world hk).put hN hx⟩

theorem step_val {o : Oper} {d : Nat} {x : AV} (hd : o.dst = some d) (hN : d < X.N)
    (h : ∀ ι F a w, RI X ι F σ a w → ∃ u, (execOp a.eval o).run P w = .ok (.value u) w ∧ x.rel ι w (Mof X.M0 F) u) : StepS P X o σ (σ.put d x) :=
  step_run hd hN fun ι F a w hr => let ⟨u, h1, h2⟩ := h ι F a w hr; ⟨u, w, h1, Kept.refl _ _, h2⟩
end
end -- nc
end Go.Proofs.YtgjbehfdjnekdaaGreatDoor.Aw
end
section
/- The package-level variables that a run may read: how many blocks are theirs, what those hold that the program's text lays, and those of the kind int of which nothing is known. (Numbers of this seat, by a program.) -/
set_option linter.unusedVariables false
namespace Go.Proofs.YtgjbehfdjnekdaaGreatDoor.Xc
open Go.RowKit
open Go.Proofs.YtgjbehfdjnekdaaGreatDoor.Aw (Kept)

def lowN : Nat := 8
def intsL : List Nat := [0]
def laidL : List (Nat × List Value) := [(3, [.int .u64 1, .int .u64 10, .int .u64 100, .int .u64 1000, .int .u64 10000, .int .u64 100000, .int .u64 1000000, .int .u64 10000000, .int .u64 100000000, .int .u64 1000000000, .int .u64 10000000000, .int .u64 100000000000, .int .u64 1000000000000, .int .u64 10000000000000, .int .u64 100000000000000, .int .u64 1000000000000000, .int .u64 10000000000000000, .int .u64 100000000000000000, .int .u64 1000000000000000000, .int .u64 10000000000000000000])]

/-- What is asked of the world besides. -/
structure GL (w : World) : Prop where
  low : lowN ≤ w.heap.size
  ints : ∀ g, g ∈ intsL → ∃ m, w.cell? ⟨g, 0, none⟩ = some (.int .i64 m)
  laid : ∀ g vs, (g, vs) ∈ laidL → ∀ (i : Nat) v, vs[i]? = some v → w.cell? ⟨g, i, none⟩ = some v

theorem ints_lt : ∀ g ∈ intsL, g < lowN := by decide
theorem laid_lt : ∀ x ∈ laidL, x.1 < lowN := by
  intro x hx
  have : (laidL.map (·.1)).all fun g => g.blt lowN := by decide
  have := List.all_eq_true.1 this x.1 (List.mem_map.2 ⟨x, hx, rfl⟩)
  simpa [Nat.blt_eq] using this

theorem GL.kept {w w' : World} {S : Nat → Prop} (h : GL w) (hk : Kept (fun b _ => S b) w w') (hS : ∀ b, S b → lowN ≤ b) : GL w' where
  low := Nat.le_trans h.low hk.size
  ints := fun g hg => by
    obtain ⟨m, hm⟩ := h.ints g hg
    have := ints_lt g hg
    exact ⟨m, (hk.cell g 0 (Nat.lt_of_lt_of_le this h.low) fun hs => by have := hS g hs; omega).trans hm⟩
  laid := fun g vs hg i v hi => by
    have := laid_lt _ hg
    exact (hk.cell g i (Nat.lt_of_lt_of_le this h.low) fun hs => by have := hS g hs; have := laid_lt _ hg; simp at this; omega).trans (h.laid g vs hg i v hi)
end Go.Proofs.YtgjbehfdjnekdaaGreatDoor.Xc
end
section
/- The framework's contracts: what a call of a function that writes only memory of its own answers; the way in, the way out, and a call in a walk. -/
set_option linter.unusedVariables false
set_option linter.unusedSimpArgs false
namespace Go.Proofs.YtgjbehfdjnekdaaGreatDoor.Aw
noncomputable section
open Go.RowKit

def retv : List Value → Value
  | [v] => v
  | vs => .tuple vs.toArray

def ι0 : Nat → Value := fun _ => .pointer none

/-- A call with values as args say answers values as res say; nothing that was there is written. -/
def PC (P : Program) (f : FuncId) (args res : List Part) : Prop :=
  ∀ (w : World) (M : Cells) (vs : List Value), Xc.GL w → (∀ b q, M b q → b < w.heap.size) → partsRel ι0 w M args vs →
    Calls P f vs.toArray w fun e w' => ∃ rs, e = .returned (retv rs) ∧ partsRel ι0 w' M res rs ∧ Below w.heap.size w w'
/-- The package-level variables are as laid, all along. -/
def CG (X : Ctx) : Prop := ∀ w, Kept X.Fin X.w0 w → Xc.GL w
theorem CG.of {w0 : World} {M : Cells} {N : Nat} (h : Xc.GL w0) : CG ⟨w0, M, fun _ _ => False, N⟩ := fun w hk => h.kept (S := fun _ => False) hk fun _ h => h.elim

/-- No name in it. -/
def Cap.pure : Cap → Bool
  | .dt _ => true
  | .nm _ => false
def Cell.pure : Cell → Bool
  | .dat _ => true
  | .clo _ l => l.all Cap.pure
  | .any => true
  | _ => false
def Part.pure : Part → Bool
  | .one c => c.pure
  | .agg cs => cs.all Cell.pure

theorem Cell.rel_pure {c : Cell} (h : c.pure = true) {ι κ : Nat → Value} {w : World} {M : Cells} {v : Value} (hr : c.rel ι w M v) : c.rel κ w M v := by
  cases c with
  | dat p => exact hr
  | clo f l =>
    simp only [Cell.pure, List.all_eq_true] at h
    obtain ⟨vs, h1, h2, h3⟩ := hr
    refine ⟨vs, h1, h2, fun i x v hx hv => ?_⟩
    have := h3 i x v hx hv
    have hp := h x (List.mem_of_getElem? hx)
    cases x with
    | dt p => exact this
    | nm n => cases hp
  | any => exact hr
  | _ => simp [Cell.pure] at h
theorem Part.rel_pure {p : Part} (h : p.pure = true) {ι κ : Nat → Value} {w : World} {M : Cells} {v : Value} (hr : p.rel ι w M v) : p.rel κ w M v := by
  cases p with
  | one c => exact ⟨Cell.rel_pure h hr.1, hr.2⟩
  | agg cs =>
    obtain ⟨vs, hv, hl, hh⟩ := hr
    simp only [Part.pure, List.all_eq_true] at h
    exact ⟨vs, hv, hl, fun i c v hc hv => ⟨Cell.rel_pure (h c (List.mem_of_getElem? hc)) (hh i c v hc hv).1, (hh i c v hc hv).2⟩⟩
theorem partsRel_pure {l : List Part} (h : l.all Part.pure = true) {ι κ : Nat → Value} {w : World} {M : Cells} {vs : List Value} (hr : partsRel ι w M l vs) : partsRel κ w M l vs := by
  simp only [List.all_eq_true] at h
  exact ⟨hr.1, fun i p u hp hu => Part.rel_pure (h p (List.mem_of_getElem? hp)) (hr.2 i p u hp hu)⟩

/-! ### Subsumption -/
def Cell.le (c d : Cell) : Prop := ∀ ι w M v, v.oneCell' = true → c.rel ι w M v → d.rel ι w M v
def Part.le (p q : Part) : Prop := ∀ ι w M v, p.rel ι w M v → q.rel ι w M v
def AV.le (x y : AV) : Prop := ∀ ι w M v, x.rel ι w M v → y.rel ι w M v
theorem Part.le_refl (p : Part) : p.le p := fun _ _ _ _ h => h
theorem AV.le_refl (p : AV) : p.le p := fun _ _ _ _ h => h
theorem Cell.le_refl (p : Cell) : p.le p := fun _ _ _ _ _ h => h

def Pred.le (p q : Pred) : Prop := ∀ w M v, p.p w M v → q.p w M v
theorem Pred.le.part {p q : Pred} (h : p.le q) : (Part.one (.dat p)).le (.one (.dat q)) := fun _ _ _ _ hr => ⟨h _ _ _ hr.1, hr.2⟩
theorem nil_le_slice (k : Nat) : (eqP (.slice none 0 0) rfl).le (elsP k []) := fun w M v h => ⟨by simp, .inl ⟨rfl, none, 0, h⟩⟩

/-- Two lists of values, the first within the second. -/
inductive LeL : List Part → List Part → Prop
  | nil : LeL [] []
  | cons {p q : Part} {l m : List Part} (h : p.le q) (t : LeL l m) : LeL (p :: l) (q :: m)
  | keep {p : Part} {l m : List Part} (t : LeL l m) : LeL (p :: l) (p :: m)
theorem LeL.refl : (l : List Part) → LeL l l
  | [] => .nil
  | p :: l => .keep (LeL.refl l)
theorem LeL.rel {l m : List Part} (h : LeL l m) {ι : Nat → Value} {w : World} {M : Cells} : ∀ {vs : List Value}, partsRel ι w M l vs → partsRel ι w M m vs := by
  have key : ∀ {p q : Part} {l m : List Part}, p.le q → (∀ {vs : List Value}, partsRel ι w M l vs → partsRel ι w M m vs) → ∀ {vs : List Value}, partsRel ι w M (p :: l) vs → partsRel ι w M (q :: m) vs := by
    intro p q l m h ih vs hr
    cases vs with
    | nil => exact absurd hr.1 (by simp)
    | cons v vs =>
      have ht : partsRel ι w M l vs := ⟨by simpa using hr.1, fun i p u hp hu => hr.2 (i + 1) p u (by simpa using hp) (by simpa using hu)⟩
      have ht' := ih ht
      refine ⟨by simpa using ht'.1, fun i p' u hp hu => ?_⟩
      cases i with
      | zero =>
        simp only [List.getElem?_cons_zero, Option.some.injEq] at hp hu
        subst hp; subst hu
        exact h _ _ _ _ (hr.2 0 p v rfl rfl)
      | succ i => exact ht'.2 i p' u (by simpa using hp) (by simpa using hu)
  induction h with
  | nil => exact fun h => h
  | cons h t ih => exact key h ih
  | keep t ih => exact key (Part.le_refl _) ih

/-! ### A call -/
section
variable {P : Program} {Q : Exit → Act → World → Prop} {X : Ctx} {K : List Item} {σ σ' : St}

def St.parts (σ : St) : List Operand → Option (List Part)
  | [] => some []
  | x :: l => match σ.opd x, St.parts σ l with
    | some (.val p), some ps => some (p :: ps)
    | _, _ => none

theorem RI.parts {ι : Nat → Value} {F : Nat → Cells} {a : Act} {w : World} (h : RI X ι F σ a w) : ∀ {xs : List Operand} {ps : List Part}, σ.parts xs = some ps →
    partsRel ι w (Mof X.M0 F) ps (xs.map a.eval)
  | [], ps, hp => by simp only [St.parts, Option.some.injEq] at hp; subst hp; exact ⟨rfl, fun i p u hp => by simp at hp⟩
  | x :: xs, ps, hp => by
    simp only [St.parts] at hp
    split at hp
    · rename_i p qs h1 h2
      injection hp with hp; subst hp
      have ih := RI.parts h h2
      refine ⟨by simpa using ih.1, fun i p' u hp' hu => ?_⟩
      cases i with
      | zero => simp only [List.getElem?_cons_zero, List.map_cons, Option.some.injEq] at hp' hu; subst hp'; subst hu; exact h.opd h1
      | succ i => exact ih.2 i p' u (by simpa using hp') (by simpa using hu)
    · cases hp

def resAV : List Part → AV
  | [p] => .val p
  | l => .tup l

theorem resAV_rel {ι : Nat → Value} {w : World} {M : Cells} {l : List Part} {rs : List Value} (h : partsRel ι w M l rs) : (resAV l).rel ι w M (retv rs) := by
  obtain ⟨hl, hh⟩ := h
  match l, rs, hl with
  | [p], [v], _ => exact hh 0 p v rfl rfl
  | [], [], _ => exact ⟨#[], rfl, rfl, fun i p u hp => by simp at hp⟩
  | p :: q :: l, v :: u :: rs, hl => exact ⟨_, rfl, by simpa using hl, fun i p' u' hp hu => hh i p' u' hp (by simpa using hu)⟩
  | [], v :: rs, hl => simp at hl
  | [p], [], hl => simp at hl
  | [p], v :: u :: rs, hl => simp at hl
  | p :: q :: l, [], hl => simp at hl
  | p :: q :: l, [v], hl => simp at hl

theorem mof_lt {ι : Nat → Value} {F : Nat → Cells} {a : Act} {w : World} (h : RI X ι F σ a w) : ∀ b q, Mof X.M0 F b q → b < w.heap.size := by
  rintro b q (hm | ⟨n, hf⟩)
  · exact Nat.lt_of_lt_of_le (h.m0lt b q hm) h.kept.size
  · exact h.lt n b q hf

theorem run_call {ρ : Operand → Value} {o : Oper} {g : Operand} {f : FuncId} {first caps : Array Value} {xs : Array Operand} {ts : Array TypeId} (ho : o.op = .call { callee := .value g, args := xs, argTypes := ts })
    (hg : ρ g = .func (.func f) first caps) (hf : Enters P f) (w : World) : (execOp ρ o).run P w = .ok (.enter f (first ++ xs.map ρ ++ caps)) w := by
  unfold execOp
  simp only [ho, resolve, hg, Deferred.ofValue, Sem.run_bind, Sem.run_pure, Result.andThen_ok, invoke, hf _ w]

/-- A static call of a function with a contract. -/
theorem step_call {o : Oper} {d : Nat} {f : FuncId} {xs : Array Operand} {ts : Array TypeId} {ps args res : List Part} (ho : o.op = .call { callee := .value (.func f), args := xs, argTypes := ts })
    (hd : o.dst = some d) (hN : d < X.N) (hf : Enters P f) (hp : σ.parts xs.toList = some ps) (hle : LeL ps args) (hpa : args.all Part.pure = true) (hpr : res.all Part.pure = true) (hG : CG X) (hc : PC P f args res) :
    StepS P X o σ (σ.put d (resAV res)) := by
  intro a w ⟨ι, F, hr⟩
  unfold Oper.wp
  rw [run_call ho (first := #[]) (caps := #[]) (f := f) rfl hf w, Oper.upon_enter]
  have hargs := partsRel_pure hpa (κ := ι0) (hle.rel (hr.parts hp))
  have hcall := hc w (Mof X.M0 F) (xs.toList.map a.eval) (hG w hr.kept) (mof_lt hr) hargs
  have he : (#[] ++ xs.map a.eval ++ #[] : Array Value) = (xs.toList.map a.eval).toArray := by cases xs; simp
  rw [he]
  refine hcall.mono fun e w' ⟨rs, hret, hres, hb⟩ => ?_
  subst hret
  simp only [hd]
  exact ⟨ι, F, (hr.world (Kept.of_below hb _)).put hN (resAV_rel (partsRel_pure hpr hres))⟩

/-- A call of a function whose result nobody reads. -/
theorem step_call0 {o : Oper} {f : FuncId} {xs : Array Operand} {ts : Array TypeId} {ps args res : List Part} (ho : o.op = .call { callee := .value (.func f), args := xs, argTypes := ts })
    (hd : o.dst = none) (hf : Enters P f) (hp : σ.parts xs.toList = some ps) (hle : LeL ps args) (hpa : args.all Part.pure = true) (hG : CG X) (hc : PC P f args res) :
    StepS P X o σ σ := by
  intro a w ⟨ι, F, hr⟩
  unfold Oper.wp
  rw [run_call ho (first := #[]) (caps := #[]) (f := f) rfl hf w, Oper.upon_enter]
  have hargs := partsRel_pure hpa (κ := ι0) (hle.rel (hr.parts hp))
  have hcall := hc w (Mof X.M0 F) (xs.toList.map a.eval) (hG w hr.kept) (mof_lt hr) hargs
  have he : (#[] ++ xs.map a.eval ++ #[] : Array Value) = (xs.toList.map a.eval).toArray := by cases xs; simp
  rw [he]
  refine hcall.mono fun e w' ⟨rs, hret, hres, hb⟩ => ?_
  subst hret
  simp only [hd]
  exact ⟨ι, F, hr.world (Kept.of_below hb _)⟩

/-! ### The way in and the way out -/
def sloe : Nat → List Part → List (Nat × AV)
  | _, [] => []
  | i, p :: l => (i, .val p) :: sloe (i + 1) l

theorem look_sloe : ∀ (l : List Part) (i t : Nat) (x : AV), look t (sloe i l) = some x → ∃ p, x = .val p ∧ i ≤ t ∧ l[t - i]? = some p
  | [], i, t, x, h => by simp [sloe, look_nil, look_cons] at h
  | p :: l, i, t, x, h => by
    simp only [sloe, look_nil, look_cons] at h
    by_cases e : t = i
    · rw [if_pos e] at h; injection h with h; subst h; subst e; exact ⟨p, rfl, Nat.le_refl _, by simp⟩
    · rw [if_neg e] at h
      obtain ⟨q, h1, h2, h3⟩ := look_sloe l (i + 1) t x h
      refine ⟨q, h1, by omega, ?_⟩
      rw [show t - i = (t - (i + 1)) + 1 by omega, List.getElem?_cons_succ]
      exact h3

/-- What the end of a function's body owes. -/
def Fin (P : Program) (fn : Func) (w0 : World) (M : Cells) (res : List Part) : Exit → Act → World → Prop :=
  bodyPost P fn fun e w' => ∃ rs, e = .returned (retv rs) ∧ partsRel ι0 w' M res rs ∧ Below w0.heap.size w0 w'

/-- The way in. -/
theorem pc_intro {f : FuncId} {fn : Func} {c : Code} {args res : List Part} (hf : P.funcs[f]? = some fn) (hb : fn.body = some c) (hn : args.length ≤ fn.ntmps) 
    (g : ∀ w0 M, Xc.GL w0 → Go P (Fin P fn w0 M res) ⟨w0, M, fun _ _ => False, fn.ntmps⟩ [.code c] ⟨sloe 0 args, []⟩) : PC P f args res := by
  intro w M vs hGw hM hargs cs
  let b : Frame := { (default : Frame) with fn := f, kind := .normal }
  have henter : Frame.enter P f vs.toArray .normal =
      b.at { tmps := vs.toArray ++ Array.replicate (fn.ntmps - vs.toArray.size) undef, defers := [] } [.code c] := by
    simp [Frame.enter, Frame.at, hf, hb, b]
  have hlen : vs.length = args.length := hargs.1.symm
  obtain ⟨e, a', w', hq, harr⟩ := g w M hGw { tmps := vs.toArray ++ Array.replicate (fn.ntmps - vs.toArray.size) undef, defers := [] } w
    ⟨ι0, fun _ _ _ => False, {
      none_ := fun _ _ _ _ => id
      obj := fun n o h => by simp [look_nil, look_cons] at h
      disj := fun _ _ _ _ h => h.elim
      apart := fun _ _ _ h => h.elim
      old := fun _ _ _ h => h.elim
      lt := fun _ _ _ h => h.elim
      m0lt := hM
      finM := fun _ _ h => h.elim
      slot := fun t x hx => by
        obtain ⟨p, rfl, _, hp⟩ := look_sloe args 0 t x hx
        have htl : t < args.length := by rcases Nat.lt_or_ge t args.length with h | h; exact h; simp [List.getElem?_eq_none h] at hp
        have hv : vs[t]? = some vs[t] := List.getElem?_eq_getElem (by omega)
        have hg : (vs.toArray ++ Array.replicate (fn.ntmps - vs.toArray.size) undef).getD t undef = vs[t] := by
          simp [Array.getD_eq_getD_getElem?, Array.getElem?_append, show t < vs.length by omega]
        show p.rel _ _ _ ((vs.toArray ++ Array.replicate (fn.ntmps - vs.toArray.size) undef).getD t undef)
        rw [hg]
        refine Part.rel_mono (hargs.2 t p vs[t] (by simpa using hp) hv) (Ext.refl M w) fun b o _ h => ?_
        rcases h with h | ⟨_, h⟩
        · exact h
        · exact h.elim
      size := by simp; omega
      defers := rfl
      kept := Kept.refl _ _ }⟩ b cs
  rw [← henter] at harr
  cases e with
  | normal =>
    obtain ⟨hd, v, hr, hR⟩ := hq
    exact ⟨.returned v, w', _, hR, Steps.trans harr (.one step_end), rfl, rfl, hd, rfl, fn, hf, hr⟩
  | ret =>
    obtain ⟨hd, v, hr, hR⟩ := hq
    obtain ⟨todo, hs⟩ := harr
    exact ⟨.returned v, w', _, hR, hs, rfl, rfl, hd, rfl, fn, hf, hr⟩
  | panic chain => obtain ⟨hd, _, h, _⟩ := hq; cases h
  | exit id => exact hq.elim
  | goto l => exact hq.elim
  | outgrown => obtain ⟨_, h, _⟩ := hq; cases h

/-- The slots that a function's results lie in. -/
def tmpsOf (rs : Array ResultVar) : Option (List Operand) :=
  rs.toList.mapM fun | .tmp t => some (.tmp t) | .cell _ _ => none

theorem results_of_tmps {fn : Func} {xs : List Nat} (h : fn.results = (xs.map ResultVar.tmp).toArray) (a : Act) (w : World) :
    (results fn a.tmps).run P w = .ok (retv (xs.map fun t => a.tmps.getD t undef)) w := by
  have hm : ∀ (f : ResultVar → Sem Value), (∀ t, f (.tmp t) = Pure.pure (a.tmps.getD t undef)) → ∀ (xs : List Nat), (xs.map ResultVar.tmp).mapM f = Pure.pure (xs.map fun t => a.tmps.getD t undef) := by
    intro f hf xs
    induction xs with
    | nil => rfl
    | cons x xs ih => simp only [List.map_cons, List.mapM_cons, ih, hf]; rfl
  unfold results
  rw [h, List.mapM_toArray, hm _ (fun t => rfl) xs]
  simp only [map_pure, pure_bind, Sem.run_pure]
  match xs with
  | [] => simp [retv]
  | [x] => simp [retv]
  | x :: y :: l => simp [retv]

theorem retv_end {fn : Func} {w0 : World} {M : Cells} {N : Nat} {res ps : List Part} {xs : List Nat} (hr : fn.results = (xs.map ResultVar.tmp).toArray) (hp : σ.parts (xs.map Operand.tmp) = some ps)
    (hle : LeL ps res) (hpr : res.all Part.pure = true) {a : Act} {w : World} (h : R ⟨w0, M, fun _ _ => False, N⟩ σ a w) :
    a.defers = [] ∧ ∃ v, (results fn a.tmps).run P w = .ok v w ∧ ∃ rs, (Ending.returned v) = .returned (retv rs) ∧ partsRel ι0 w M res rs ∧ Below w0.heap.size w0 w := by
  obtain ⟨ι, F, h⟩ := h
  refine ⟨h.defers, _, results_of_tmps hr a w, _, rfl, ?_, h.kept.below⟩
  have h1 := hle.rel (h.parts hp)
  rw [List.map_map] at h1
  exact partsRel_mono (partsRel_pure hpr h1) (Ext.refl _ w) fun b o _ hm => .inl hm

theorem go_ret {fn : Func} {w0 : World} {M : Cells} {N : Nat} {res ps : List Part} (xs : List Nat) (hr : fn.results = (xs.map ResultVar.tmp).toArray) (hp : σ.parts (xs.map Operand.tmp) = some ps)
    (hle : LeL ps res) (hpr : res.all Part.pure = true) : Go P (Fin P fn w0 M res) ⟨w0, M, fun _ _ => False, N⟩ (.code .ret :: K) σ := by
  intro a w h b cs
  exact ⟨.ret, a, w, retv_end hr hp hle hpr h, _, .one step_ret⟩

theorem go_end {fn : Func} {w0 : World} {M : Cells} {N : Nat} {res ps : List Part} (xs : List Nat) (hr : fn.results = (xs.map ResultVar.tmp).toArray) (hp : σ.parts (xs.map Operand.tmp) = some ps)
    (hle : LeL ps res) (hpr : res.all Part.pure = true) : Go P (Fin P fn w0 M res) ⟨w0, M, fun _ _ => False, N⟩ [] σ := by
  intro a w h b cs
  exact ⟨.normal, a, w, retv_end hr hp hle hpr h, .refl _ _⟩
end
end -- nc
end Go.Proofs.YtgjbehfdjnekdaaGreatDoor.Aw
end
