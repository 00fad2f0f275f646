/- Parts of the proof of one statement: Xc17, Xc18. -/
import Derived.Test.YtgjbehfdjnekdaaGreatDoorT24
set_option linter.all false
section
/- A closed run: the run of a function, and of the functions that it calls. -/
set_option linter.unusedVariables false
set_option linter.unusedSimpArgs false
namespace Go.Proofs.YtgjbehfdjnekdaaGreatDoor.Xc
noncomputable section
open Go.RowKit
open Go.Proofs.YtgjbehfdjnekdaaGreatDoor.Aw (Kept nlt nle getD_put op_steps kept_drew edges Lin ancOK)

/-- Looks at a list to its end (so that it is reckoned now). -/
def spine {α : Type} : List α → Bool
  | [] => true
  | _ :: l => spine l

/-- What is handed back at an end: of a function, or of a round (by the name of its record). -/
def endOut (T : Tab) (rv : List ResultVar) (rn : Option Nat) (k : Nat) (σ : XS) (jump : Option Code) : Option (List Out) := match rn with
  | none => match resL T.ty σ rv with | some ps => some [outOf 10000 k ps σ.ob] | none => none
  | some n => match endOb σ n jump with | some ob => some [outOf 10000 k [.one (.bool jump.isNone)] ob] | none => none

def isLoop (rn : Option Nat) (σ : XS) : Bool := match rn with
  | none => true
  | some n => match Aw.look n σ.ob with
    | some (.loop _ _ _ _ _ _ _) => true
    | _ => false

def itemsOf : Option Code → List Item → List Item
  | none, K => K
  | some c, K => .code c :: K

/-- How a piece of a body ends. -/
inductive Jmp where
  | fall
  | ret
  | exit (id : Nat)
  deriving DecidableEq
structure Nd where
  j : Jmp
  σ : XS
  c : Nat
def Nd.same (a b : Nd) : Bool := decide (a.j = b.j) && a.c.beq b.c && decide (a.σ.sl = b.σ.sl) && obSame a.σ.ob b.σ.ob
theorem Nd.same_eq {a b : Nd} (h : a.same b = true) : a = b := by
  obtain ⟨j, ⟨sl, ob⟩, c⟩ := a; obtain ⟨j', ⟨sl', ob'⟩, c'⟩ := b
  simp only [Nd.same, Bool.and_eq_true, decide_eq_true_eq] at h
  obtain ⟨⟨⟨h1, h2⟩, h3⟩, h4⟩ := h
  have h2' : c = c' := Nat.eq_of_beq_eq_true h2
  have h1' : j = j' := h1
  have h3' : sl = sl' := h3
  have h4' : ob = ob' := obSame_eq h4
  rw [h1', h2', h3', h4']
def memNd (a : Nd) : List Nd → Bool
  | [] => false
  | b :: l => bif a.same b then true else memNd a l
def dedupN : List Nd → List Nd
  | [] => []
  | a :: l => bif memNd a (dedupN l) then dedupN l else a :: dedupN l
theorem memNd_ok {a : Nd} : ∀ {l : List Nd}, memNd a l = true → a ∈ l
  | [], h => by cases h
  | b :: l, h => by
    simp only [memNd] at h
    cases e : a.same b with
    | true => rw [Nd.same_eq e]; exact List.mem_cons_self
    | false => rw [e, cond_false] at h; exact List.mem_cons_of_mem _ (memNd_ok h)
theorem dedupN_mem : ∀ {l : List Nd} {a : Nd}, a ∈ l → a ∈ dedupN l
  | b :: l, a, h => by
    simp only [dedupN]
    cases hb : memNd b (dedupN l) with
    | true =>
      rw [cond_true]
      rcases List.mem_cons.1 h with rfl | h
      · exact memNd_ok hb
      · exact dedupN_mem h
    | false =>
      rw [cond_false]
      rcases List.mem_cons.1 h with rfl | h
      · exact List.mem_cons_self
      · exact List.mem_cons_of_mem _ (dedupN_mem h)

def opsNext : List Oper → Bool
  | [] => false
  | o :: l => (match o.op with | .next _ false => true | _ => false) || opsNext l
def hasNext : Code → Bool
  | .seq a b => hasNext a || hasNext b
  | .block _ a => hasNext a
  | .loop a => hasNext a
  | .cond _ a b => hasNext a || hasNext b
  | .region _ ops _ => opsNext ops.toList
  | _ => false
def itemsTmps : List Item → List Nat
  | [] => []
  | .code b :: K => codeTmps b ++ itemsTmps K
  | .inLoop b :: K => codeTmps b ++ itemsTmps K
  | _ :: K => itemsTmps K
def trim (lv : List Nat) (k : Nat) (σ : XS) : XS :=
  let sl := pick σ.sl (uniq lv [])
  ⟨sl, pick σ.ob (reach σ.ob 10000 (sl.flatMap (fun x => x.2.nm) ++ upto k []) [])⟩
def trimN (lv : List Nat) (k : Nat) (nd : Nd) : Nd := ⟨nd.j, trim lv k nd.σ, nd.c⟩
def longer {β : Type} : Nat → List β → Bool
  | 0, _ => true
  | _ + 1, [] => false
  | n + 1, _ :: l => longer n l
def cutS (lv : List Nat) (σ : XS) : XS := bif longer 60 σ.sl then ⟨pick σ.sl (uniq lv []), σ.ob⟩ else σ

def remove (D : List Nat) : List Nat → List Nat
  | [] => []
  | t :: l => bif D.any t.beq then remove D l else t :: remove D l
def dstsOf : List Oper → List Nat
  | [] => []
  | o :: l => match o.dst with
    | some d => d :: dstsOf l
    | none => dstsOf l
/-- What is read before it is written (roughly), and what is written. -/
def liveC : Code → List Nat → List Nat × List Nat
  | .seq a b, D => match liveC a D with
    | (u1, D1) => match liveC b D1 with
      | (u2, D2) => (u1 ++ u2, D2)
  | .block _ a, D => ((liveC a D).1, D)
  | .loop a, D => ((liveC a D).1, D)
  | .scope a, D => ((liveC a D).1, D)
  | .cond (.tmp t) a b, D => (remove D [t] ++ ((liveC a D).1 ++ (liveC b D).1), D)
  | .cond _ a b, D => ((liveC a D).1 ++ (liveC b D).1, D)
  | .region _ ops _, D => (remove (dstsOf ops.toList ++ D) (opsTmps ops), dstsOf ops.toList ++ D)
  | c, D => (remove D (codeTmps c), D)
def nextHere : Code → Bool
  | .seq a b => nextHere a || nextHere b
  | .block _ a => nextHere a
  | .cond _ a b => nextHere a || nextHere b
  | .region _ ops _ => opsNext ops.toList
  | _ => false

abbrev RecB := List Item → List Nat → XS → Nat → Option (List Nd)
def goB (rec : RecB) (id : Nat) (K : List Item) (lv : List Nat) (nd : Nd) : Option (List Nd) := match nd.j with
  | .fall => rec K lv nd.σ nd.c
  | .ret => some [nd]
  | .exit id' => bif id'.beq id then rec K lv nd.σ nd.c else match exitTo id' K with
    | some K' => rec K' lv nd.σ nd.c
    | none => some [nd]
def blockB2 (k : Nat) (rec : RecB) (id : Nat) (K : List Item) (lv : List Nat) (r : Option (List Nd)) : Option (List Nd) := match r with
  | some nds => bindL (goB rec id K lv) (dedupN (nds.map (trimN (itemsTmps K ++ lv) k)))
  | none => none
def blockB (k : Nat) (rec : RecB) (id : Nat) (b : Code) (K : List Item) (lv : List Nat) (σ : XS) (c : Nat) : Option (List Nd) :=
  bif hasNext b then blockB2 k rec id K lv (rec [.code b] (itemsTmps K ++ lv) σ c) else rec (.code b :: .inBlock id :: K) lv σ c
def fallsOf : List Nd → List Nd
  | [] => []
  | nd :: l => match nd.j with
    | .fall => nd :: fallsOf l
    | _ => fallsOf l
def outsOf (lv : List Nat) (k : Nat) : List Nd → List Nd
  | [] => []
  | nd :: l => match nd.j with
    | .fall => outsOf lv k l
    | _ => trimN lv k nd :: outsOf lv k l
def forgetS (base : List (Nat × Xo)) (σ : XS) : XS := ⟨σ.sl, forgetL σ.sl base σ.ob⟩
def headN (lv : List Nat) (k : Nat) (base : List (Nat × Xo)) (nd : Nd) : Nd := ⟨nd.j, forgetS base (trim lv k nd.σ), nd.c⟩
def bodyB (rec : RecB) (b : Code) (lv : List Nat) (nd : Nd) : Option (List Nd) := bif spine nd.σ.sl && spine nd.σ.ob then rec [.code b] lv nd.σ nd.c else none
def roundS (rec : RecB) (b : Code) (lvh lvb lv : List Nat) (k : Nat) (base : List (Nat × Xo)) (again : List Nd → List Nd → Option (List Nd)) (todo acc : List Nd) : Option (List Nd) := match todo with
  | [] => some acc
  | _ => match bindL (bodyB rec b lvb) todo with
    | some nds => again (dedupN ((fallsOf nds).map (headN lvh k base))) (dedupN (outsOf lv k nds ++ acc))
    | none => none
/-- The rounds of a loop over a map: all of its states at each head at once. -/
def rounds (rec : RecB) (b : Code) (lvh lvb lv : List Nat) (k : Nat) (base : List (Nat × Xo)) (n : Nat) : List Nd → List Nd → Option (List Nd) :=
  Nat.rec (fun _ _ => none) (fun _ again todo acc => roundS rec b lvh lvb lv k base again todo acc) n
def goL (rec : RecB) (K : List Item) (lv : List Nat) (nd : Nd) : Option (List Nd) := match nd.j with
  | .fall => none
  | .ret => some [nd]
  | .exit id' => match exitTo id' K with
    | some K' => rec K' lv nd.σ nd.c
    | none => some [nd]
def loopR2 (rec : RecB) (K : List Item) (lv : List Nat) : Option (List Nd) → Option (List Nd)
  | some nds => bindL (goL rec K lv) nds
  | none => none
def loopR (k : Nat) (rec : RecB) (b : Code) (K : List Item) (lv : List Nat) (σ : XS) (c : Nat) : Option (List Nd) :=
  bif nextHere b then loopR2 rec K lv (rounds rec b ((liveC b []).1 ++ (itemsTmps K ++ lv)) (codeTmps b ++ (itemsTmps K ++ lv)) (itemsTmps K ++ lv) k σ.ob 100 [⟨.fall, σ, c⟩] []) else rec (.code b :: .inLoop b :: K) lv σ c

def exitB (rec : RecB) (id : Nat) (K : List Item) (lv : List Nat) (σ : XS) (c : Nat) : Option (List Nd) := match exitTo id K with
  | some K' => rec K' lv σ c
  | none => some [⟨.exit id, σ, c⟩]
def condB2 (rec : RecB) (t e : Code) (K : List Item) (lv : List Nat) (σ : XS) (c : Nat) (x : Option Xa) : Option (List Nd) := match x with
  | some (.val (.one (.bool b))) => rec (.code (if b = true then t else e) :: K) lv σ c
  | _ => none
def manyB (rec : RecB) (K : List Item) (lv : List Nat) (x : XS × Nat) : Option (List Nd) := bif spine x.1.sl && spine x.1.ob then rec K lv x.1 (x.2 + 0) else none
def manyF (rec : RecB) (K : List Item) (lv : List Nat) (x : XS × Nat × Option Code) : Option (List Nd) := bif spine x.1.sl && spine x.1.ob then rec (itemsOf x.2.2 K) lv x.1 (x.2.1 + 0) else none
def rfB2 (rec : RecB) (K : List Item) (lv : List Nat) (r : Option (List (XS × Nat × Option Code))) : Option (List Nd) := match r with
  | some outs => bindL (manyF rec K lv) outs
  | none => none
def textB (rec : RecB) (K : List Item) (lv : List Nat) (r : Option (List (XS × Nat))) : Option (List Nd) := match r with
  | some outs => bindL (manyB rec K lv) outs
  | none => none
def drawB (rec : RecB) (ops : Array Oper) (K : List Item) (lv : List Nat) (σ : XS) (c : Nat) (r : Option (List Eff)) : Option (List Nd) := match r with
  | some es => bif drawOK ops es then rec K lv (runL es σ) (loAt c es es.length + 0) else none
  | none => none
def regB (T : Tab) (call : CallF) (N : Nat) (rec : RecB) (ops : Array Oper) (K : List Item) (lv : List Nat) (σ : XS) (c : Nat) : Bool → Option (List Nd)
  | false => textB rec K lv (runOps T call N ops ops.toList σ c)
  | true => drawB rec ops K lv σ c (drawOps T call N ops ops.toList σ c)
def codeB (T : Tab) (call : CallF) (N : Nat) (rn : Option Nat) (k : Nat) (rec : RecB) (K : List Item) (lv : List Nat) (σ : XS) (c : Nat) : Code → Option (List Nd)
  | .skip => rec K lv σ c
  | .seq x y => rec (.code x :: .code y :: K) lv σ c
  | .block id b => blockB k rec id b K lv σ c
  | .loop b => loopR k rec b K lv σ c
  | .exit id => exitB rec id K lv σ c
  | .cond x t e => condB2 rec t e K lv σ c (σ.opd x)
  | .ret => some [⟨.ret, σ, c⟩]
  | .rangeFunc g ps sa bo => bif isLoop rn σ then rfB2 rec K lv (rangeFE T call N g ps.toList sa bo σ c) else none
  | .region _ ops dr => regB T call N rec ops K lv σ c dr
  | _ => none
def loopB (rec : RecB) (b : Code) (K : List Item) (lv : List Nat) (c : Nat) (σ : XS) : Option (List Nd) := bif spine σ.sl then rec (.code b :: .inLoop b :: K) lv σ c else none
def beginB2 (rec : RecB) (K : List Item) (lv : List Nat) (σ : XS) (c m : Nat) : Option Xo → Option (List Nd)
  | some (.loop N' sl ts sa bo .ready pe) => rec K lv ⟨σ.sl, (m, .loop N' sl ts sa bo .busy pe) :: del m σ.ob⟩ c
  | _ => none
def beginB (rec : RecB) (K : List Item) (lv : List Nat) (σ : XS) (c : Nat) : Option Nat → Option (List Nd)
  | none => none
  | some m => beginB2 rec K lv σ c m (Aw.look m σ.ob)
def stepB (T : Tab) (call : CallF) (N : Nat) (rn : Option Nat) (k : Nat) (rec : RecB) (K : List Item) (lv : List Nat) (σ : XS) (c : Nat) : Option (List Nd) := match K with
  | [] => some [⟨.fall, σ, c⟩]
  | .inBlock _ :: K => rec K lv σ c
  | .inLoop b :: K => loopB rec b K lv c (cutS (codeTmps b ++ (itemsTmps K ++ lv)) σ)
  | .beginRound :: K => beginB rec K lv σ c rn
  | .code b :: K => codeB T call N rn k rec K lv σ c b
  | _ => none
def execB (T : Tab) (call : CallF) (N : Nat) (rn : Option Nat) (k : Nat) (n : Nat) : RecB :=
  Nat.rec (fun _ _ _ _ => none) (fun _ rec K lv σ c => stepB T call N rn k rec K lv σ c) n

def resSlots : List ResultVar → List Nat
  | [] => []
  | .tmp t :: l => t :: resSlots l
  | .cell t _ :: l => t :: resSlots l
def Jmp.code : Jmp → Option Code
  | .fall => none
  | .ret => some .ret
  | .exit id => some (.exit id)
def exec (T : Tab) (call : CallF) (N : Nat) (rv : List ResultVar) (rn : Option Nat) (k : Nat) (fuel : Nat) (K : List Item) (σ : XS) (c : Nat) : Option (List Out) :=
  match execB T call N rn k fuel K (resSlots rv) σ c with
  | some nds => bindL (fun nd => match nd.j, rn with
    | .exit _, none => none
    | _, _ => endOut T rv rn k nd.σ nd.j.code) nds
  | none => none

section
variable {P : Program} {T : Tab} {call : CallF}

/-- What is owed at the end. -/
def QM (P : Program) (fn : Func) (rn : Option Nat) (l : Nat) (R : Ending → World → Prop) : Fin → Act → World → Prop := match rn with
  | none => fnQ P fn R
  | some _ => rdQ P l R
def roM (rn : Option Nat) (l : Nat) : Option Nat := match rn with
  | none => none
  | some _ => some l
def endK : Option Code → List Item → List Item
  | none, _ => []
  | some c, K => .code c :: K
theorem end_ok (hT : TabOK P T) {fn : Func} {w0 : World} {E0 : Env} {N k l : Nat} {rn : Option Nat} {ob0 : List (Nat × Xo)} {outs0 : List Out} {σ : XS} {U : Us} {outs : List Out} (hM : ∀ n, rn = some n → E0.ι n = .func (.yield l) #[] #[] ∧ n < k) {jump : Option Code}
    (hj : jump = none ∨ jump = some .ret) {K : List Item} (h : endOut T fn.results.toList rn k σ jump = some outs) (hsub : ∀ o ∈ outs, o ∈ outs0) : Gx P (QM P fn rn l (XP w0 E0 k ob0 outs0)) (ctxOf w0 E0 k ob0 N (roM rn l)) (endK jump K) U σ := by
  unfold endOut at h
  cases rn with
  | none =>
    simp only at h
    split at h
    rotate_left; · cases h
    rename_i ps hps
    injection h with h; subst h
    rcases hj with rfl | rfl
    · exact gx_end hT.ty hps (hsub _ (List.mem_singleton.2 rfl))
    · exact gx_ret hT.ty hps (hsub _ (List.mem_singleton.2 rfl))
  | some n =>
    obtain ⟨h1, h2⟩ := hM n rfl
    simp only at h
    split at h
    rotate_left; · cases h
    rename_i ob hob
    injection h with h; subst h
    rcases hj with rfl | rfl
    · exact gx_endR h1 h2 hob (hsub _ (List.mem_singleton.2 rfl))
    · exact gx_retR h1 h2 hob (hsub _ (List.mem_singleton.2 rfl))

/-- The end's continuation. -/
def GxN (P : Program) (Q : Fin → Act → World → Prop) (X : Ctx) (K0 : List Item) (nd : Nd) : Prop := match nd.j with
  | .fall => Gx P Q X K0 (fun n => n < nd.c) nd.σ
  | .ret => ∀ K', Gx P Q X (.code .ret :: K') (fun n => n < nd.c) nd.σ
  | .exit id => ∀ K', exitTo id K' = none → Gx P Q X (.code (.exit id) :: (K' ++ K0)) (fun n => n < nd.c) nd.σ

theorem gx_less {Q : Fin → Act → World → Prop} {X : Ctx} {K : List Item} {U : Us} {σ σ' : XS} (h1 : ∀ t v, Aw.look t σ'.sl = some v → Aw.look t σ.sl = some v) (h2 : ∀ n x, Aw.look n σ'.ob = some x → Aw.look n σ.ob = some x) (g : Gx P Q X K U σ') : Gx P Q X K U σ := by
  intro a w ⟨E, h⟩
  exact g a w ⟨E, { h with slot := fun t v hv => h.slot t v (h1 t v hv), heap := ⟨fun n x hx => h.heap.rel n x (h2 n x hx), fun n m x y b hx hy => h.heap.inj n m x y b (h2 n x hx) (h2 m y hy), fun n x b hx => h.heap.lo n x b (h2 n x hx), h.heap.glob⟩, own := fun n x b hx => h.own n x b (h2 n x hx) }⟩
theorem look_pick {β : Type} {l : List (Nat × β)} {ts : List Nat} {t : Nat} {v : β} (h : Aw.look t (pick l ts) = some v) : Aw.look t l = some v := pick_mem (Aw.look_mem h)
theorem gx_trim {Q : Fin → Act → World → Prop} {X : Ctx} {K : List Item} {U : Us} {σ : XS} {lv : List Nat} {k : Nat} (g : Gx P Q X K U (trim lv k σ)) : Gx P Q X K U σ :=
  gx_less (fun t v h => look_pick h) (fun n x h => look_pick h) g
theorem gx_cut {Q : Fin → Act → World → Prop} {X : Ctx} {K : List Item} {U : Us} {σ : XS} {lv : List Nat} (g : Gx P Q X K U (cutS lv σ)) : Gx P Q X K U σ := by
  unfold cutS at g
  cases h : longer 60 σ.sl with
  | true => rw [h, cond_true] at g; exact gx_less (σ' := ⟨pick σ.sl (uniq lv []), σ.ob⟩) (fun t v h => look_pick h) (fun n x h => h) g
  | false => rw [h, cond_false] at g; exact g
theorem GxN.trim {Q : Fin → Act → World → Prop} {X : Ctx} {K0 : List Item} {nd : Nd} {lv : List Nat} {k : Nat} (g : GxN P Q X K0 (trimN lv k nd)) : GxN P Q X K0 nd := by
  obtain ⟨j, σ, c⟩ := nd
  cases j with
  | fall => exact gx_trim g
  | ret => exact fun K' => gx_trim (g K')
  | exit id => exact fun K' h => gx_trim (g K' h)

theorem exitTo_append {id : Nat} {K0 : List Item} : ∀ {K K' : List Item}, exitTo id K = some K' → exitTo id (K ++ K0) = some (K' ++ K0)
  | [], K', h => by simp [exitTo] at h
  | i :: K, K', h => by
    cases i with
    | inBlock id' =>
      simp only [exitTo, List.cons_append] at h ⊢
      split at h
      · rename_i e; rw [if_pos e]; injection h with h; subst h; rfl
      · rename_i e; rw [if_neg e]; exact exitTo_append h
    | _ => simp only [exitTo, List.cons_append] at h ⊢; exact exitTo_append h
theorem exitTo_none {id : Nat} {K0 : List Item} : ∀ {K : List Item}, exitTo id K = none → exitTo id (K ++ K0) = exitTo id K0
  | [], _ => rfl
  | i :: K, h => by
    cases i with
    | inBlock id' =>
      simp only [exitTo, List.cons_append] at h ⊢
      split at h
      · cases h
      · rename_i e; rw [if_neg e]; exact exitTo_none h
    | _ => simp only [exitTo, List.cons_append] at h ⊢; exact exitTo_none h
theorem exitTo_app {id : Nat} : ∀ {A B : List Item}, exitTo id A = none → exitTo id B = none → exitTo id (A ++ B) = none := fun h1 h2 => (exitTo_none h1).trans h2

theorem fallsOf_mem : ∀ {l : List Nd} {nd : Nd}, nd ∈ l → nd.j = .fall → nd ∈ fallsOf l
  | x :: l, nd, h, e => by
    unfold fallsOf
    rcases List.mem_cons.1 h with rfl | h
    · rw [e]; exact List.mem_cons_self
    · split
      · exact List.mem_cons_of_mem _ (fallsOf_mem h e)
      · exact fallsOf_mem h e
theorem outsOf_mem {lv : List Nat} {k : Nat} : ∀ {l : List Nd} {nd : Nd}, nd ∈ l → nd.j ≠ .fall → trimN lv k nd ∈ outsOf lv k l
  | x :: l, nd, h, e => by
    unfold outsOf
    rcases List.mem_cons.1 h with rfl | h
    · split
      · rename_i e'; exact absurd e' e
      · exact List.mem_cons_self
    · split
      · exact outsOf_mem h e
      · exact List.mem_cons_of_mem _ (outsOf_mem h e)
theorem rounds_ok {Q : Fin → Act → World → Prop} {X : Ctx} {rec : RecB} {b : Code} {K0 : List Item} {lvh lvb lv0 : List Nat} {k : Nat} {base : List (Nat × Xo)}
    (hrec : ∀ {lv : List Nat} {σ : XS} {c : Nat} {nds : List Nd}, rec [.code b] lv σ c = some nds → (∀ nd ∈ nds, GxN P Q X K0 nd) → Gx P Q X (.code b :: K0) (fun n => n < c) σ)
    (hloop : ∀ {U : Us} {σ : XS}, Gx P Q X (.code b :: K0) U σ → Gx P Q X K0 U σ) : ∀ {n : Nat} {todo acc res : List Nd}, rounds rec b lvh lvb lv0 k base n todo acc = some res → (∀ nd ∈ res, GxN P Q X K0 nd) →
    (∀ nd ∈ acc, nd ∈ res) ∧ ∀ nd ∈ todo, Gx P Q X (.code b :: K0) (fun n => n < nd.c) nd.σ
  | 0, todo, acc, res, h, _ => by cases h
  | n + 1, todo, acc, res, h, hs => by
    replace h : roundS rec b lvh lvb lv0 k base (rounds rec b lvh lvb lv0 k base n) todo acc = some res := h
    unfold roundS at h
    split at h
    · injection h with h; subst h; exact ⟨fun _ h => h, fun nd h => by simp at h⟩
    · split at h
      rotate_left; · cases h
      rename_i nds hnds
      obtain ⟨h1, h2⟩ := rounds_ok hrec hloop h hs
      refine ⟨fun nd hnd => h1 nd (dedupN_mem (List.mem_append_right _ hnd)), fun nd hnd => ?_⟩
      obtain ⟨r, hr, hsub⟩ := bindL_mem hnds nd hnd
      unfold bodyB at hr
      cases hb : spine nd.σ.sl && spine nd.σ.ob with
      | false => rw [hb, cond_false] at hr; cases hr
      | true =>
        rw [hb, cond_true] at hr
        refine hrec hr fun x hx => ?_
        have hx' := hsub x hx
        by_cases e : x.j = .fall
        · have hf := h2 _ (dedupN_mem (List.mem_map.2 ⟨x, fallsOf_mem hx' e, rfl⟩))
          obtain ⟨j, σ, c⟩ := x
          have e : j = .fall := e
          subst e
          exact hloop (gx_trim (gx_forget hf))
        · exact GxN.trim (hs _ (h1 _ (dedupN_mem (List.mem_append_left _ (outsOf_mem hx' e)))))

theorem execB_ok (hm : P.follows .mixedOrders = true) (hT : TabOK P T) (hc : CallOK P call) {N k : Nat} {rn : Option Nat} {X : Ctx} {Q : Fin → Act → World → Prop} (hN : X.N = N)
    (hM : (rn = none ∧ X.ro = none) ∨ ∃ m l, rn = some m ∧ X.ro = some l ∧ X.E0.ι m = .func (.yield l) #[] #[] ∧ X.U0 m) : ∀ {n : Nat} {K K0 : List Item} {lv : List Nat} {σ : XS} {c : Nat} {nds : List Nd},
    execB T call N rn k n K lv σ c = some nds → (∀ nd ∈ nds, GxN P Q X K0 nd) → Gx P Q X (K ++ K0) (fun n => n < c) σ
  | 0, K, K0, lv, σ, c, nds, h, _ => by cases h
  | n + 1, K, K0, lv, σ, c, nds, h, hs => by
    have ih : ∀ {K K0 : List Item} {lv : List Nat} {σ : XS} {c : Nat} {nds : List Nd}, execB T call N rn k n K lv σ c = some nds → (∀ nd ∈ nds, GxN P Q X K0 nd) → Gx P Q X (K ++ K0) (fun n => n < c) σ := fun h hs => execB_ok hm hT hc hN hM h hs
    replace h : stepB T call N rn k (execB T call N rn k n) K lv σ c = some nds := h
    unfold stepB at h
    split at h
    · injection h with h; subst h; exact hs _ (List.mem_singleton.2 rfl)
    · exact gx_inBlock (ih h hs)
    · rename_i b K
      unfold loopB at h
      cases hb : spine (cutS (codeTmps b ++ (itemsTmps K ++ lv)) σ).sl with
      | false => rw [hb, cond_false] at h; cases h
      | true => rw [hb, cond_true] at h; exact gx_cut (gx_inLoop (ih h hs))
    · unfold beginB at h
      split at h
      · cases h
      · rename_i m
        unfold beginB2 at h
        split at h
        · rename_i N' sl ts sa bo pe hl
          rcases hM with ⟨h1, _⟩ | ⟨m', l, h1, h2, h3, h4⟩
          · cases h1
          · injection h1 with h1; subst h1; exact gx_begin hl h2 h3 h4 (ih h hs)
        · cases h
    · rename_i b K
      unfold codeB at h
      split at h
      · exact gx_skip (ih h hs)
      · exact gx_seq (ih h hs)
      · rename_i id b
        unfold blockB at h
        cases hb : hasNext b with
        | false => rw [hb, cond_false] at h; exact gx_block (ih h hs)
        | true =>
          rw [hb, cond_true] at h
          unfold blockB2 at h
          split at h
          rotate_left; · cases h
          rename_i nds1 hin
          refine gx_block (ih (K := [.code b]) hin fun nd hnd => ?_)
          refine GxN.trim (lv := itemsTmps K ++ lv) (k := k) ?_
          obtain ⟨r, hr, hsub⟩ := bindL_mem h _ (dedupN_mem (List.mem_map.2 ⟨nd, hnd, rfl⟩))
          generalize trimN (itemsTmps K ++ lv) k nd = nd' at hr hsub
          obtain ⟨j, σ', c'⟩ := nd'
          have hs' : ∀ nd ∈ r, GxN P Q X K0 nd := fun nd h => hs nd (hsub nd h)
          cases j with
          | fall => exact gx_inBlock (ih hr hs')
          | ret => injection hr with hr; subst hr; exact hs' _ (List.mem_singleton.2 rfl)
          | exit id' =>
            intro K' hK'
            simp only [goB] at hr
            cases e : id'.beq id with
            | true =>
              rw [e, cond_true] at hr
              have := Nat.eq_of_beq_eq_true e; subst this
              refine gx_exit (K' := K ++ K0) ?_ (ih hr hs')
              rw [exitTo_none hK']; simp [exitTo]
            | false =>
              rw [e, cond_false] at hr
              have hne : ¬ (id == id') = true := fun e' => by
                have : id' = id := by simpa using (of_decide_eq_true e').symm
                subst this; simp at e
              have hstep : exitTo id' (K' ++ (Item.inBlock id :: (K ++ K0))) = exitTo id' (K ++ K0) := by
                rw [exitTo_none hK']; simp only [exitTo]; rw [if_neg hne]
              split at hr
              · rename_i K'' hK''
                exact gx_exit (K' := K'' ++ K0) (hstep.trans (exitTo_append hK'')) (ih hr hs')
              · rename_i hK''
                injection hr with hr; subst hr
                have := hs' _ (List.mem_singleton.2 rfl) (K' ++ (Item.inBlock id :: K)) (exitTo_app hK' (by simp only [exitTo]; rw [if_neg hne]; exact hK''))
                rw [List.append_assoc] at this
                exact this
      · rename_i b
        unfold loopR at h
        cases hb : nextHere b with
        | false => rw [hb, cond_false] at h; exact gx_loop (ih h hs)
        | true =>
          rw [hb, cond_true] at h
          unfold loopR2 at h
          split at h
          rotate_left; · cases h
          rename_i nds1 hin
          refine gx_loop ?_
          have := rounds_ok (P := P) (Q := Q) (X := X) (K0 := .inLoop b :: (K ++ K0)) (fun {lv σ c nds} h hs => ih (K := [.code b]) h hs) gx_inLoop hin fun nd hnd => ?_
          · exact this.2 _ (List.mem_singleton.2 rfl)
          · obtain ⟨r, hr, hsub⟩ := bindL_mem h _ hnd
            obtain ⟨j, σ', c'⟩ := nd
            have hs' : ∀ nd ∈ r, GxN P Q X K0 nd := fun nd h => hs nd (hsub nd h)
            cases j with
            | fall => cases hr
            | ret => injection hr with hr; subst hr; exact hs' _ (List.mem_singleton.2 rfl)
            | exit id' =>
              intro K' hK'
              simp only [goL] at hr
              have hstep : exitTo id' (K' ++ (Item.inLoop b :: (K ++ K0))) = exitTo id' (K ++ K0) := by
                rw [exitTo_none hK']; simp only [exitTo]
              split at hr
              · rename_i K'' hK''
                exact gx_exit (K' := K'' ++ K0) (hstep.trans (exitTo_append hK'')) (ih hr hs')
              · rename_i hK''
                injection hr with hr; subst hr
                have := hs' _ (List.mem_singleton.2 rfl) (K' ++ (Item.inLoop b :: K)) (exitTo_app hK' (by simp only [exitTo]; exact hK''))
                rw [List.append_assoc] at this
                exact this
      · unfold exitB at h
        split at h
        · rename_i K' hK; exact gx_exit (exitTo_append hK) (ih h hs)
        · rename_i id hK
          injection h with h; subst h
          exact hs _ (List.mem_singleton.2 rfl) K hK
      · unfold condB2 at h
        split at h
        · rename_i b hx; exact gx_cond hx (ih h hs)
        · cases h
      · injection h with h; subst h; exact hs _ (List.mem_singleton.2 rfl) _
      · rename_i g ps sa bo
        cases hlp : isLoop rn σ with
        | false => rw [hlp, cond_false] at h; cases h
        | true =>
          rw [hlp, cond_true] at h
          unfold rfB2 at h
          split at h
          rotate_left; · cases h
          rename_i res hres
          refine gx_rangeFunc hT hc hN hres ?_ fun x hx => ?_
          · rcases hM with ⟨_, h2⟩ | ⟨m, l, h1, h2, h3, h4⟩
            · exact .inl h2
            · subst h1
              unfold isLoop at hlp
              simp only at hlp
              split at hlp
              · rename_i N' sl ts sa bo st pe hl
                exact .inr ⟨m, l, N', sl, ts, sa, bo, st, pe, h2, h4, h3, hl⟩
              · cases hlp
          · obtain ⟨r, hr, hsub⟩ := bindL_mem h x hx
            unfold manyF at hr
            cases hb : spine x.1.sl && spine x.1.ob with
            | false => rw [hb, cond_false] at hr; cases hr
            | true =>
              rw [hb, cond_true] at hr
              have := ih hr fun nd h => hs nd (hsub nd h)
              obtain ⟨σ', c', pe⟩ := x
              cases pe <;> exact this
      · rename_i ops dr
        cases dr with
        | false =>
          simp only [regB, textB] at h
          split at h
          · rename_i res hres
            refine gx_regionE hT hc hN hres fun x hx => ?_
            obtain ⟨r, hr, hsub⟩ := bindL_mem h x hx
            unfold manyB at hr
            cases hb : spine x.1.sl && spine x.1.ob with
            | false => rw [hb, cond_false] at hr; cases hr
            | true => rw [hb, cond_true] at hr; exact ih hr fun nd h => hs nd (hsub nd h)
          · cases h
        | true =>
          simp only [regB, drawB] at h
          split at h
          · rename_i es hes
            cases hb : drawOK ops es with
            | false => rw [hb, cond_false] at h; cases h
            | true => rw [hb, cond_true] at h; exact gx_drawQ hm hT hc hN hes hb (ih h hs)
          · cases h
      · cases h
    · cases h

theorem exec_ok (hm : P.follows .mixedOrders = true) (hT : TabOK P T) (hc : CallOK P call) {fn : Func} {w0 : World} {E0 : Env} {N k l : Nat} {rn : Option Nat} {ob0 : List (Nat × Xo)} {outs0 : List Out} (hM : ∀ n, rn = some n → E0.ι n = .func (.yield l) #[] #[] ∧ n < k) {fuel : Nat} {K : List Item} {σ : XS} {c : Nat} {outs : List Out}
    (h : exec T call N fn.results.toList rn k fuel K σ c = some outs) (hsub : ∀ o ∈ outs, o ∈ outs0) : Gx P (QM P fn rn l (XP w0 E0 k ob0 outs0)) (ctxOf w0 E0 k ob0 N (roM rn l)) K (fun n => n < c) σ := by
  unfold exec at h
  split at h
  rotate_left; · cases h
  rename_i nds hn
  have := execB_ok (P := P) (X := ctxOf w0 E0 k ob0 N (roM rn l)) (Q := QM P fn rn l (XP w0 E0 k ob0 outs0)) (K0 := []) hm hT hc rfl ?_ hn fun nd hnd => ?_
  · rw [List.append_nil] at this; exact this
  · cases rn with
    | none => exact .inl ⟨rfl, rfl⟩
    | some m => obtain ⟨h1, h2⟩ := hM m rfl; exact .inr ⟨m, l, rfl, rfl, h1, h2⟩
  · obtain ⟨r, hr, hs⟩ := bindL_mem h nd hnd
    have hs' : ∀ o ∈ r, o ∈ outs0 := fun o ho => hsub o (hs o ho)
    obtain ⟨j, σ', c'⟩ := nd
    cases j with
    | fall => exact end_ok (K := []) hT hM (.inl rfl) hr hs'
    | ret => exact fun K' => end_ok (K := K') hT hM (.inr rfl) hr hs'
    | exit id =>
      intro K' hK'
      cases rn with
      | none => cases hr
      | some m =>
        obtain ⟨h1, h2⟩ := hM m rfl
        simp only [endOut, Jmp.code] at hr
        split at hr
        rotate_left; · cases hr
        rename_i ob hob
        injection hr with hr; subst hr
        exact gx_exitR h1 h2 (by rw [List.append_nil]; exact hK') hob (hs' _ (List.mem_singleton.2 rfl))

/-! ### Calls, by calls -/
def mem (o : Out) : List Out → Bool
  | [] => false
  | p :: l => bif o.same p then true else mem o l
def dedup : List Out → List Out
  | [] => []
  | o :: l => bif mem o (dedup l) then dedup l else o :: dedup l
theorem mem_ok {o : Out} : ∀ {l : List Out}, mem o l = true → o ∈ l
  | [], h => by cases h
  | p :: l, h => by
    simp only [mem] at h
    cases e : o.same p with
    | true => rw [Out.same_eq e]; exact List.mem_cons_self
    | false => rw [e, cond_false] at h; exact List.mem_cons_of_mem _ (mem_ok h)
theorem dedup_mem : ∀ {l : List Out} {o : Out}, o ∈ l → o ∈ dedup l
  | p :: l, o, h => by
    simp only [dedup]
    cases hb : mem p (dedup l) with
    | true =>
      rw [cond_true]
      rcases List.mem_cons.1 h with rfl | h
      · exact mem_ok hb
      · exact dedup_mem h
    | false =>
      rw [cond_false]
      rcases List.mem_cons.1 h with rfl | h
      · exact List.mem_cons_self
      · exact List.mem_cons_of_mem _ (dedup_mem h)

/-- Known calls. -/
structure Ent where
  f : Cle
  args : List Xp
  k : Nat
  ob : List (Nat × Xo)
  outs : List Out
def TblOK (P : Program) (tbl : List Ent) : Prop := ∀ e ∈ tbl, XC P e.f e.args e.k e.ob e.outs
def findT (f : Cle) (args : List Xp) (k : Nat) (ob : List (Nat × Xo)) : List Ent → Option (List Out)
  | [] => none
  | e :: l => bif decide (e.f = f) && e.k.beq k && decide (e.args = args) && obSame e.ob ob then some e.outs else findT f args k ob l
theorem findT_ok {tbl : List Ent} (h : TblOK P tbl) {f : Cle} {args : List Xp} {k : Nat} {ob : List (Nat × Xo)} {outs : List Out} (hf : findT f args k ob tbl = some outs) : XC P f args k ob outs := by
  induction tbl with
  | nil => cases hf
  | cons e l ih =>
    simp only [findT] at hf
    cases hb : decide (e.f = f) && e.k.beq k && decide (e.args = args) && obSame e.ob ob with
    | true =>
      rw [hb, cond_true] at hf; injection hf with hf; subst hf
      simp only [Bool.and_eq_true, decide_eq_true_eq] at hb
      obtain ⟨⟨⟨rfl, h2⟩, rfl⟩, h4⟩ := hb
      have := obSame_eq h4; subst this
      have := Nat.eq_of_beq_eq_true h2; subst this
      exact h e List.mem_cons_self
    | false => rw [hb, cond_false] at hf; exact ih (fun e' he' => h e' (List.mem_cons_of_mem _ he')) hf

/-- What is given of functions without a body (and of others): by rules of their own. -/
abbrev Ext := CallF

def runF (T : Tab) (call : CallF) (fuel : Nat) (f : Cle) (args : List Xp) (k : Nat) (ob : List (Nat × Xo)) : Option (List Out) :=
  match f with
  | .fn f => match T.fn f with
    | some fn => match fn.body with
      | some c => bif args.length.ble fn.ntmps then
          match exec T call fn.ntmps fn.results.toList none k fuel [.code c] ⟨sloe 0 args, ob⟩ k with
          | some outs => some (dedup outs)
          | none => none
        else none
      | none => none
    | none => none
  | .rd n => match Aw.look n ob with
    | some (.loop N sl ts sa bo st pe) => bif args.length.beq ts.length && ts.all fun t => t.blt N then
        match exec T call N [] (some n) k fuel [.code sa, .beginRound, .code bo] ⟨setSl ts args sl, ob⟩ k with
        | some outs => some (dedup outs)
        | none => none
      else none
    | _ => none
theorem runF_ok (hm : P.follows .mixedOrders = true) (hT : TabOK P T) (hc : CallOK P call) {fuel : Nat} : CallOK P (runF T call fuel) := by
  intro f args k ob outs h
  unfold runF at h
  split at h
  · split at h
    rotate_left; · cases h
    rename_i fn hfn
    split at h
    rotate_left; · cases h
    rename_i c hb
    cases hl : args.length.ble fn.ntmps with
    | false => rw [hl, cond_false] at h; cases h
    | true =>
      rw [hl, cond_true] at h
      split at h
      rotate_left; · cases h
      rename_i outs' ho
      injection h with h; subst h
      exact xc_intro (hT.fn _ fn hfn).1 hb (Nat.le_of_ble_eq_true hl) fun w E => exec_ok (rn := none) (l := 0) hm hT hc (fun n hn => by cases hn) ho fun o ho' => dedup_mem ho'
  · split at h
    rotate_left; · cases h
    rename_i N sl ts sa bo st pe hl
    cases hb : args.length.beq ts.length && ts.all fun t => t.blt N with
    | false => rw [hb, cond_false] at h; cases h
    | true =>
      rw [hb, cond_true] at h
      split at h
      rotate_left; · cases h
      rename_i outs' ho
      injection h with h; subst h
      rw [Bool.and_eq_true] at hb
      exact xr_intro hl (Nat.eq_of_beq_eq_true hb.1) (fun t ht => nlt (List.all_eq_true.1 hb.2 t ht)) fun w E l hι hn => exec_ok (fn := { (default : Func) with results := #[] }) hm hT hc (fun m hm => by injection hm with hm; subst hm; exact ⟨hι, hn⟩) ho fun o ho' => dedup_mem ho'

/-- Calls to a depth: what is known, what is given, what is run. -/
def callD (T : Tab) (ext : Ext) (tbl : List Ent) (fuel : Nat) : Nat → CallF
  | 0 => fun _ _ _ _ => none
  | n + 1 => fun f args k ob => match findT f args k ob tbl with
    | some outs => some outs
    | none => match ext f args k ob with
      | some outs => some outs
      | none => runF T (callD T ext tbl fuel n) fuel f args k ob
theorem callD_ok (hm : P.follows .mixedOrders = true) (hT : TabOK P T) {ext : Ext} (hx : CallOK P ext) {tbl : List Ent} (ht : TblOK P tbl) {fuel : Nat} : ∀ n, CallOK P (callD T ext tbl fuel n)
  | 0 => fun f args k ob outs h => by cases h
  | n + 1 => fun f args k ob outs h => by
    simp only [callD] at h
    split at h
    · rename_i o ho; injection h with h; subst h; exact findT_ok ht ho
    · split at h
      · rename_i o ho; injection h with h; subst h; exact hx _ _ _ _ _ ho
      · exact runF_ok hm hT (callD_ok hm hT hx ht n) _ _ _ _ _ h

/-- Some calls more, each by those before it. -/
def checkAll (T : Tab) (ext : Ext) (fuel depth : Nat) : List Ent → List Ent → Bool
  | _, [] => true
  | tbl, e :: l => (match callD T ext tbl fuel depth e.f e.args e.k e.ob with
    | some outs => outsSame outs e.outs
    | none => false) && checkAll T ext fuel depth (e :: tbl) l
theorem checkAll_ok (hm : P.follows .mixedOrders = true) (hT : TabOK P T) {ext : Ext} (hx : CallOK P ext) {fuel depth : Nat} : ∀ {l tbl : List Ent}, TblOK P tbl → checkAll T ext fuel depth tbl l = true → TblOK P (l.reverse ++ tbl)
  | [], tbl, ht, _ => by simpa using ht
  | e :: l, tbl, ht, h => by
    simp only [checkAll, Bool.and_eq_true] at h
    obtain ⟨h1, h2⟩ := h
    have he : XC P e.f e.args e.k e.ob e.outs := by
      split at h1
      · rename_i outs ho
        have := outsSame_eq h1; subst this
        exact callD_ok hm hT hx ht depth _ _ _ _ _ ho
      · cases h1
    have := checkAll_ok hm hT hx (l := l) (tbl := e :: tbl) (fun e' he' => by
      rcases List.mem_cons.1 he' with rfl | he'
      · exact he
      · exact ht e' he') h2
    simpa using this
end
end -- nc
end Go.Proofs.YtgjbehfdjnekdaaGreatDoor.Xc
end
section
/- A closed run: tables as trees. -/
set_option linter.unusedVariables false
set_option linter.unusedSimpArgs false
namespace Go.Proofs.YtgjbehfdjnekdaaGreatDoor.Xc
noncomputable section
open Go.RowKit

inductive Tr (α : Type) where
  | leaf
  | node (l : Tr α) (k : Nat) (v : α) (r : Tr α)
def Tr.find {α : Type} (t : Nat) : Tr α → Option α
  | .leaf => none
  | .node l k v r => bif k.beq t then some v else bif t.blt k then l.find t else r.find t
def Tr.All {α : Type} (p : Nat → α → Prop) : Tr α → Prop
  | .leaf => True
  | .node l k v r => l.All p ∧ p k v ∧ r.All p
theorem Tr.find_ok {α : Type} {p : Nat → α → Prop} {t : Nat} {v : α} : ∀ {T : Tr α}, T.All p → T.find t = some v → p t v
  | .leaf, _, h => by cases h
  | .node l k u r, ⟨h1, h2, h3⟩, h => by
    simp only [Tr.find] at h
    cases hb : k.beq t with
    | true => rw [hb, cond_true] at h; injection h with h; subst h; have := Nat.eq_of_beq_eq_true hb; subst this; exact h2
    | false =>
      rw [hb, cond_false] at h
      cases hc : t.blt k with
      | true => rw [hc, cond_true] at h; exact Tr.find_ok h1 h
      | false => rw [hc, cond_false] at h; exact Tr.find_ok h3 h

def FnOK (P : Program) (f : Nat) (g : Func) : Prop := P.funcs[f]? = some g ∧ Enters P f
def tabOf (ty : Tr XT) (eo : Tr Unit) (fn : Tr Func) : Tab := ⟨fun t => ty.find t, fun t => (eo.find t).isSome, fun f => fn.find f⟩
theorem tabOf_ok {P : Program} {ty : Tr XT} {eo : Tr Unit} {fn : Tr Func} (h1 : ty.All (TyOK P)) (h2 : eo.All fun t _ => EqOK P t) (h3 : fn.All (FnOK P)) : TabOK P (tabOf ty eo fn) where
  ty t i h := Tr.find_ok h1 h
  eo t h := by obtain ⟨u, hu⟩ := Option.isSome_iff_exists.1 h; exact Tr.find_ok (p := fun t _ => EqOK P t) h2 hu
  fn f g h := Tr.find_ok h3 h

def isAggV : Value → Bool
  | .agg _ => true
  | _ => false
theorem tyok {P : Program} {t : TypeId} {i : XT} {z : Value} (hu : P.underlying t = some i.desc) (hS : ∀ w, (sizeOf t).run P w = .ok i.size w) (hA : ∀ w, (isAgg t).run P w = .ok i.agg w) (hz : ∀ w, (zeroValue t).run P w = .ok z w)
    (h1 : zerosA z.cells.toList = some i.zero) (h2 : isAggV z = i.agg) (h3 : i.zero.length = i.size) (h4 : (P.info? t).map (fun j => (j.zero, j.size, j.bytes)) = some (some z, i.size, i.bytes)) : TyOK P t i :=
  ⟨hu, hS, hA, z, hz, h1, by rw [← h2]; cases z <;> simp [isAggV], h3, h4⟩
theorem info_map {P : Program} {t : TypeId} {i : TypeInfo} {β : Type} {f : TypeInfo → β} {r : β} (h : P.types[t]? = some i) (hr : f i = r) : (P.info? t).map f = some r := by
  have hlt : t < P.types.size := (Array.getElem?_eq_some_iff.1 h).1
  have : P.info? t = some i := by unfold Tables.info?; rw [if_pos hlt]; exact h
  rw [this, Option.map_some, hr]
end -- nc
end Go.Proofs.YtgjbehfdjnekdaaGreatDoor.Xc
end
