/- Parts of the proof of one statement: Aw9. -/
import Derived.Orders
import Derived.Test.YtgjbehfdjnekdaaGreatDoorT05
set_option linter.all false
section
/- The framework's guards ('&&', '||') and regions that draw their order: what the operations do in the order of the text they do in every order, if those that touch one another are ordered. -/
set_option linter.unusedVariables false
set_option linter.unusedSimpArgs false
namespace Go.Proofs.YtgjbehfdjnekdaaGreatDoor.Aw
noncomputable section
open Go.RowKit
section
variable {P : Program} {Q : Exit → Act → World → Prop} {X : Ctx} {K : List Item} {σ σ' : St} {o : Oper} {d : Nat}

theorem R.weak {a : Act} {w : World} (h : R X σ a w) (hs : ∀ t v, look t σ'.sl = some v → ∃ u, look t σ.sl = some u ∧ u.le v) (ho : ∀ n, look n σ'.ob = look n σ.ob) : R X σ' a w := by
  obtain ⟨ι, F, h⟩ := h
  exact ⟨ι, F, { h with
    none_ := fun n hn => h.none_ n (by rw [← ho]; exact hn)
    obj := fun n x hx => h.obj n x (by rw [← ho]; exact hx)
    slot := fun t v hv => by obtain ⟨u, hu, hle⟩ := hs t v hv; exact hle _ _ _ _ (h.slot t u hu) }⟩

def StepG (P : Program) (X : Ctx) (ops : Array Oper) (o : Oper) (σ σ' : St) : Prop :=
  ∀ a w, R X σ a w → if Region.wanted o (yielded ops a.tmps) = true then o.wp P a w (fun a' w' => R X σ' a' w') (fun _ _ _ => False) else R X σ' (a.put o.dst undef) w

theorem StepG.plain {ops : Array Oper} (hg : o.guard = none) (s : StepS P X o σ σ') : StepG P X ops o σ σ' := fun a w h => by
  rw [if_pos (by simp [Region.wanted, hg])]
  exact s a w h

def unw (σ : St) : List (Nat × Part) → St
  | [] => σ
  | (t, p) :: l => (unw σ l).put t (.val p)
def optIn (σ : St) (b : Bool) : List (Nat × Part) → Prop
  | [] => True
  | (t, p) :: l => look t σ.sl = some (.opt b p) ∧ optIn σ b l
theorem unw_ob (σ : St) : ∀ l, (unw σ l).ob = σ.ob
  | [] => rfl
  | (t, p) :: l => unw_ob σ l
theorem unw_look {b : Bool} : ∀ {l : List (Nat × Part)}, optIn σ b l → ∀ t, look t (unw σ l).sl = look t σ.sl ∨ ∃ p, look t (unw σ l).sl = some (.val p) ∧ look t σ.sl = some (.opt b p)
  | [], _, t => .inl rfl
  | (s, p) :: l, h, t => by
    simp only [unw, St.put, look_nil, look_cons]
    by_cases e : t = s
    · rw [if_pos e]; subst e; exact .inr ⟨p, rfl, h.1⟩
    · rw [if_neg e]; exact unw_look h.2 t

/-- A guarded operation: what it gives counts where the guard let it run. -/
theorem StepG.guard {ops : Array Oper} {j t : Nat} {want c : Bool} {v : Part} (l : List (Nat × Part)) (hg : o.guard = some (j, want)) (hj : (ops[j]?).bind (·.dst) = some t) (ht : look t σ.sl = some (D (boolP c))) (hd : o.dst = some d) (hN : d < X.N)
    (hl : optIn σ (c == want) l) (s : c = want → StepS P X o (unw σ l) ((unw σ l).put d (.val v))) : StepG P X ops o σ (σ.put d (.opt (c == want) v)) := by
  intro a w hr
  have hb : a.tmps.getD t undef = .bool c := by obtain ⟨ι, F, h⟩ := hr; exact (h.slot t _ ht).1
  have hy : yielded ops a.tmps j = some c := by
    unfold yielded
    rw [hj]
    simp only [Option.bind_some]
    have : a.tmps[t]? = some (.bool c) := by
      rw [Array.getD_eq_getD_getElem?] at hb
      cases hq : a.tmps[t]? with
      | none => rw [hq] at hb; simp [undef] at hb
      | some v => rw [hq] at hb; simp at hb; rw [hb]
    rw [this]
  have hw : Region.wanted o (yielded ops a.tmps) = (c == want) := by
    simp only [Region.wanted, hg, hy]
    cases c <;> cases want <;> rfl
  by_cases e : c = want
  · have ht' : (c == want) = true := by simp [e]
    rw [hw, if_pos ht']
    have h1 : R X (unw σ l) a w := hr.weak (fun s u hu => by
      rcases unw_look hl s with h | ⟨p, h1, h2⟩
      · exact ⟨u, by rw [← h]; exact hu, AV.le_refl _⟩
      · rw [h1] at hu; injection hu with hu; subst hu
        exact ⟨_, h2, fun _ _ _ _ h => h ht'⟩) (fun n => by rw [unw_ob])
    have h2 := s e a w h1
    unfold Oper.wp at h2 ⊢
    refine Oper.wp_mono (o := o) (fun a' w' h3 => ?_) h2
    refine R.weak h3 (fun s u hu => ?_) (fun n => by show look n σ.ob = look n (unw σ l).ob; rw [unw_ob])
    simp only [St.put, look_nil, look_cons] at hu ⊢
    by_cases e2 : s = d
    · rw [if_pos e2] at hu ⊢; injection hu with hu; subst hu; exact ⟨_, rfl, fun _ _ _ _ h _ => h⟩
    · rw [if_neg e2] at hu ⊢
      rcases unw_look hl s with h | ⟨p, h1, h2⟩
      · exact ⟨u, by rw [h]; exact hu, AV.le_refl _⟩
      · rw [h2] at hu; injection hu with hu; subst hu; exact ⟨_, h1, fun _ _ _ _ h _ => h⟩
  · have hf : (c == want) = false := by simp [e]
    rw [hw, hf]
    simp only [Bool.false_eq_true, if_false, hd]
    obtain ⟨ι, F, h⟩ := hr
    exact ⟨ι, F, h.put hN fun e => by cases e⟩

theorem go_opG {ops : Array Oper} {i : Nat} {rest : List Nat} {o : Oper} (ho : ops[i]? = some o) (s : StepG P X ops o σ σ') (g : Go P Q X (.inRegion ops rest :: K) σ') : Go P Q X (.inRegion ops (i :: rest) :: K) σ := by
  intro a w hr b cs
  have hs := s a w hr
  by_cases e : Region.wanted o (yielded ops a.tmps) = true
  · rw [if_pos e] at hs
    obtain ⟨a', w', hr', hst⟩ := op_steps (P := P) (rest := rest) ho e hs b K cs
    obtain ⟨e, a2, w2, hq, harr⟩ := g a' w' hr' b cs
    exact ⟨e, a2, w2, hq, .of_steps hst harr⟩
  · rw [if_neg e] at hs
    obtain ⟨e', a2, w2, hq, harr⟩ := g _ w hs b cs
    have hst := step_op_skip (P := P) (b := b) (a := a) (k := K) (cs := cs) (w := w) (ops := ops) (i := i) (rest := rest) (by rw [ho]; simpa using e)
    rw [ho] at hst
    exact ⟨e', a2, w2, hq, .of_steps (.one hst) harr⟩

theorem step_and {c x y : Operand} {b e r : Bool} (ho : o.op = .pick c x y) (hd : o.dst = some d) (hN : d < X.N) (hc : σ.opd c = some (D (boolP b))) (hx : σ.opd x = some (.opt e (.one (.dat (boolP r))))) (he : (b == true) = e) (hy : σ.opd y = some (D (boolP false))) :
    StepS P X o σ (σ.put d (D (boolP (b && r)))) :=
  step_val hd hN fun ι F a w h => by
    subst he
    have h1 : a.eval c = .bool b := (h.opd hc).1
    have h2 : a.eval y = .bool false := (h.opd hy).1
    have h3 := h.opd hx
    refine ⟨.bool (b && r), ?_, rfl, rfl⟩
    unfold execOp
    cases b with
    | true => have h4 : a.eval x = .bool r := (h3 rfl).1; simp [ho, h1, h4, asBool]
    | false => simp [ho, h1, h2, asBool]
theorem step_or {c x y : Operand} {b e r : Bool} (ho : o.op = .pick c y x) (hd : o.dst = some d) (hN : d < X.N) (hc : σ.opd c = some (D (boolP b))) (hx : σ.opd x = some (.opt e (.one (.dat (boolP r))))) (he : (b == false) = e) (hy : σ.opd y = some (D (boolP true))) :
    StepS P X o σ (σ.put d (D (boolP (b || r)))) :=
  step_val hd hN fun ι F a w h => by
    subst he
    have h1 : a.eval c = .bool b := (h.opd hc).1
    have h2 : a.eval y = .bool true := (h.opd hy).1
    have h3 := h.opd hx
    refine ⟨.bool (b || r), ?_, rfl, rfl⟩
    unfold execOp
    cases b with
    | false => have h4 : a.eval x = .bool r := (h3 rfl).1; simp [ho, h1, h4, asBool]
    | true => simp [ho, h1, h2, asBool]

/-! ### Regions that draw their order -/
/-- What an operation does, once and for all: the slots and objects that it reads, what it puts into which slot, which objects go, which are told (anew). -/
structure Eff where
  rs : List (Nat × AV)
  ro : List (Nat × Ob)
  dst : List (Nat × AV)
  rm : List Nat
  ad : List (Nat × Ob)
  fr : List Nat

def Eff.ap (e : Eff) (σ : St) : St := ⟨e.dst ++ σ.sl, e.ad ++ σ.ob.filter fun x => !(e.rm.any x.1.beq)⟩

def hasSl (σ : St) (l : List (Nat × AV)) : Prop := ∀ t v, (t, v) ∈ l → look t σ.sl = some v
def hasOb (σ : St) (l : List (Nat × Ob)) : Prop := ∀ n x, (n, x) ∈ l → look n σ.ob = some x
def isFr (σ : St) (l : List Nat) : Prop := ∀ n, n ∈ l → σ.fresh n = true

def Valid (P : Program) (X : Ctx) (ops : Array Oper) (o : Oper) (e : Eff) : Prop := ∀ σ, hasSl σ e.rs → hasOb σ e.ro → isFr σ e.fr → StepG P X ops o σ (e.ap σ)

/-- A key: a slot (true) or an object's name (false). -/
def Eff.writes (e : Eff) : Bool × Nat → Bool
  | (true, t) => e.dst.any fun x => x.1.beq t
  | (false, n) => (e.rm.any fun m => m.beq n) || e.ad.any fun x => x.1.beq n
def Eff.fresh (e : Eff) (n : Nat) : Bool := (e.dst.all fun x => x.2.fresh n) && (e.ad.all fun x => x.2.fresh n && !(x.1.beq n))
def Eff.keys (e : Eff) : List (Bool × Nat) := e.rs.map (fun x => (true, x.1)) ++ e.dst.map (fun x => (true, x.1)) ++ e.ro.map (fun x => (false, x.1)) ++ e.rm.map (fun n => (false, n)) ++ e.ad.map (fun x => (false, x.1))

theorem look_append {β : Type} {n : Nat} : ∀ {l m : List (Nat × β)}, look n (l ++ m) = (look n l).or (look n m)
  | [], m => by simp [look_nil, look_cons]
  | (k, x) :: l, m => by
    simp only [List.cons_append, look_nil, look_cons]
    split
    · rfl
    · exact look_append
theorem look_none {β : Type} {n : Nat} : ∀ {l : List (Nat × β)}, (l.any fun x => x.1.beq n) = false → look n l = none
  | [], _ => rfl
  | (k, x) :: l, h => by
    simp only [List.any_cons, Bool.or_eq_false_iff] at h
    simp only [look_nil, look_cons]
    rw [if_neg (by intro e; subst e; simp at h)]
    exact look_none h.2
theorem look_some {β : Type} {n : Nat} : ∀ {l : List (Nat × β)}, (l.any fun x => x.1.beq n) = true → ∃ x, look n l = some x
  | [], h => by simp at h
  | (k, x) :: l, h => by
    simp only [look_nil, look_cons]
    by_cases e : n = k
    · rw [if_pos e]; exact ⟨x, rfl⟩
    · rw [if_neg e]
      simp only [List.any_cons, Bool.or_eq_true] at h
      rcases h with h | h
      · exact absurd (Nat.eq_of_beq_eq_true h).symm e
      · exact look_some h
theorem look_filter {β : Type} {n : Nat} {p : Nat → Bool} : ∀ {l : List (Nat × β)}, look n (l.filter fun x => p x.1) = if p n = true then look n l else none
  | [] => by simp [look_nil, look_cons]
  | (k, x) :: l => by
    by_cases e : p k = true
    · rw [List.filter_cons_of_pos (by simpa using e)]
      simp only [look_nil, look_cons]
      by_cases e2 : n = k
      · rw [if_pos e2]; subst e2; simp [e]
      · rw [if_neg e2, if_neg e2]; exact look_filter
    · rw [List.filter_cons_of_neg (by simpa using e)]
      rw [look_filter]
      simp only [look_nil, look_cons]
      by_cases e2 : n = k
      · subst e2; simp [e]
      · rw [if_neg e2]

/-- What lies under a key. -/
def St.at (σ : St) : Bool × Nat → Option AV × Option Ob
  | (true, t) => (look t σ.sl, none)
  | (false, n) => (none, look n σ.ob)
def Eff.val (e : Eff) : Bool × Nat → Option AV × Option Ob
  | (true, t) => (look t e.dst, none)
  | (false, n) => (none, look n e.ad)

theorem ap_at (e : Eff) (σ : St) (k : Bool × Nat) : (e.ap σ).at k = if e.writes k = true then e.val k else σ.at k := by
  obtain ⟨b, n⟩ := k
  cases b with
  | true =>
    by_cases hw : e.writes (true, n) = true
    · rw [if_pos hw]
      obtain ⟨x, hx⟩ := look_some (show (e.dst.any fun x => x.1.beq n) = true from hw)
      simp only [St.at, Eff.ap, Eff.val, look_append, hx]; rfl
    · rw [if_neg hw]
      have h0 : (e.dst.any fun x => x.1.beq n) = false := Bool.eq_false_iff.2 hw
      simp only [St.at, Eff.ap, look_append, look_none h0]; rfl
  | false =>
    have hf : look n (σ.ob.filter fun x => !(e.rm.any x.1.beq)) = if (!(e.rm.any n.beq)) = true then look n σ.ob else none := look_filter (p := fun m => !(e.rm.any m.beq))
    have hsym : (e.rm.any fun m => m.beq n) = e.rm.any n.beq := by
      congr 1; funext m
      cases h1 : m.beq n with
      | true => rw [Nat.eq_of_beq_eq_true h1]; simp
      | false =>
        cases h2 : n.beq m with
        | false => rfl
        | true => rw [Nat.eq_of_beq_eq_true h2] at h1; simp at h1
    by_cases hw : e.writes (false, n) = true
    · rw [if_pos hw]
      have hw' : (e.rm.any n.beq || e.ad.any fun x => x.1.beq n) = true := by rw [← hsym]; exact hw
      simp only [St.at, Eff.ap, Eff.val, look_append, hf]
      cases hd : e.ad.any fun x => x.1.beq n with
      | true => obtain ⟨x, hx⟩ := look_some hd; rw [hx]; rfl
      | false =>
        rw [hd, Bool.or_false] at hw'
        rw [look_none hd, hw']; rfl
    · rw [if_neg hw]
      have hw' : (e.rm.any n.beq || e.ad.any fun x => x.1.beq n) = false := by rw [← hsym]; exact Bool.eq_false_iff.2 hw
      rw [Bool.or_eq_false_iff] at hw'
      simp only [St.at, Eff.ap, look_append, hf, look_none hw'.2, hw'.1]; rfl

variable {ops : Array Oper}

def edges (ops : Array Oper) (i : Nat) : List Nat := match ops[i]? with
  | some o => (o.after.toList.filter fun e => Region.binds .any e).map (·.on)
  | none => []

/-- A run so far: each operation once, behind those that it waits for. -/
inductive Lin (ops : Array Oper) : List Nat → Prop
  | nil : Lin ops []
  | snoc {S : List Nat} {i : Nat} (h : Lin ops S) (hi : i ∉ S) (hn : i < ops.size) (he : ∀ j ∈ edges ops i, j ∈ S) : Lin ops (S ++ [i])

/-- What is ordered: anc i: operations that surely come before i. -/
def ancOK (ops : Array Oper) (anc : List (List Nat)) : Bool :=
  (List.range ops.size).all fun i => ((edges ops i).all fun j => j.blt i) && ((anc.getD i []).all fun j => (edges ops i).contains j || (edges ops i).any fun m => (anc.getD m []).contains j)

theorem ancOK.spec {anc : List (List Nat)} (h : ancOK ops anc = true) {i : Nat} (hi : i < ops.size) : (∀ j ∈ edges ops i, j < i) ∧ ∀ j ∈ anc.getD i [], j ∈ edges ops i ∨ ∃ m ∈ edges ops i, j ∈ anc.getD m [] := by
  simp only [ancOK, List.all_eq_true, List.mem_range, Bool.and_eq_true, Bool.or_eq_true, List.any_eq_true, List.contains_iff_mem] at h
  obtain ⟨h1, h2⟩ := h i hi
  exact ⟨fun j hj => by have := h1 j hj; simpa [Nat.blt_eq] using this, fun j hj => h2 j hj⟩

theorem Lin.mem_lt {S : List Nat} (h : Lin ops S) : ∀ i ∈ S, i < ops.size := by
  induction h with
  | nil => intro i hi; simp at hi
  | snoc h hi hn he ih =>
    intro i hm
    rcases List.mem_append.1 hm with hm | hm
    · exact ih i hm
    · simp at hm; subst hm; exact hn
theorem Lin.edge {S : List Nat} (h : Lin ops S) : ∀ i ∈ S, ∀ j ∈ edges ops i, j ∈ S := by
  induction h with
  | nil => intro i hi; simp at hi
  | snoc h hi hn he ih =>
    intro i hm j hj
    rcases List.mem_append.1 hm with hm | hm
    · exact List.mem_append_left _ (ih i hm j hj)
    · simp at hm; subst hm; exact List.mem_append_left _ (he j hj)
theorem Lin.anc {anc : List (List Nat)} (ha : ancOK ops anc = true) {S : List Nat} (h : Lin ops S) : ∀ i, (i < ops.size → (∀ j ∈ edges ops i, j ∈ S) → ∀ j ∈ anc.getD i [], j ∈ S) := by
  intro i
  induction i using Nat.strongRecOn with
  | _ i ih =>
    intro hi he j hj
    obtain ⟨h1, h2⟩ := ancOK.spec ha hi
    rcases h2 j hj with h3 | ⟨m, hm, h3⟩
    · exact he j h3
    · have hmS := he m hm
      exact ih m (h1 m hm) (h.mem_lt m hmS) (h.edge m hmS) j h3

/-- The effects' order: whoever writes what i reads or writes is ordered with i; and a new name is met by those alone that come behind. -/
def effOK (ops : Array Oper) (anc : List (List Nat)) (es : List Eff) : Bool :=
  (es.length == ops.size) && (List.range ops.size).all fun i => (List.range ops.size).all fun j => (i.beq j) || (anc.getD i []).contains j || (anc.getD j []).contains i ||
    (!((es.getD i ⟨[], [], [], [], [], []⟩).keys.any fun k => (es.getD j ⟨[], [], [], [], [], []⟩).writes k) && ((es.getD i ⟨[], [], [], [], [], []⟩).fr.all fun n => (es.getD j ⟨[], [], [], [], [], []⟩).fresh n))
/-- A new name is not met by those that come before. -/
def frOK (anc : List (List Nat)) (es : List Eff) (n : Nat) : Bool :=
  (List.range n).all fun i => (anc.getD i []).all fun j => (es.getD i ⟨[], [], [], [], [], []⟩).fr.all fun m => (es.getD j ⟨[], [], [], [], [], []⟩).fresh m

abbrev E0 : Eff := ⟨[], [], [], [], [], []⟩
def run (es : List Eff) (S : List Nat) (σ : St) : St := S.foldl (fun s i => (es.getD i E0).ap s) σ

/-- Under a key lies what the last writer among those that have run has put there. -/
def resN (es : List Eff) (σ : St) (k : Bool × Nat) (p : Nat → Bool) : Nat → Option AV × Option Ob
  | 0 => σ.at k
  | n + 1 => if (p n && (es.getD n E0).writes k) = true then (es.getD n E0).val k else resN es σ k p n

theorem resN_congr {es : List Eff} {k : Bool × Nat} {p q : Nat → Bool} : ∀ {n : Nat}, (∀ i, i < n → (es.getD i E0).writes k = true → p i = q i) → resN es σ k p n = resN es σ k q n
  | 0, _ => rfl
  | n + 1, h => by
    simp only [resN]
    have hn := h n (Nat.lt_succ_self n)
    cases hw : (es.getD n E0).writes k with
    | true => rw [hn hw, resN_congr fun i hi => h i (Nat.lt_succ_of_lt hi)]
    | false => simp only [Bool.and_false, Bool.false_eq_true, if_false]; exact resN_congr fun i hi => h i (Nat.lt_succ_of_lt hi)

theorem resN_top {es : List Eff} {k : Bool × Nat} {p : Nat → Bool} {i : Nat} (hp : p i = true) (hw : (es.getD i E0).writes k = true) : ∀ {n : Nat}, i < n → (∀ j, i < j → j < n → (es.getD j E0).writes k = true → p j = false) → resN es σ k p n = (es.getD i E0).val k
  | 0, h, _ => by omega
  | n + 1, h, ht => by
    simp only [resN]
    by_cases e : i = n
    · subst e; simp only [hp, hw, Bool.and_self, if_true]
    · cases hwn : (es.getD n E0).writes k with
      | true => rw [ht n (by omega) (by omega) hwn]; simp only [Bool.false_and, Bool.false_eq_true, if_false]; exact resN_top hp hw (by omega) fun j h1 h2 => ht j h1 (by omega)
      | false => simp only [Bool.and_false, Bool.false_eq_true, if_false]; exact resN_top hp hw (by omega) fun j h1 h2 => ht j h1 (by omega)

/-- All who write k are ordered. -/
def Chain (anc : List (List Nat)) (es : List Eff) (N : Nat) (k : Bool × Nat) : Prop := ∀ i j, i < N → j < N → (es.getD i E0).writes k = true → (es.getD j E0).writes k = true → i ≠ j → i ∈ anc.getD j [] ∨ j ∈ anc.getD i []

theorem anc_lt {anc : List (List Nat)} (ha : ancOK ops anc = true) : ∀ i, i < ops.size → ∀ j ∈ anc.getD i [], j < i := by
  intro i
  induction i using Nat.strongRecOn with
  | _ i ih =>
    intro hi j hj
    obtain ⟨h1, h2⟩ := ancOK.spec ha hi
    rcases h2 j hj with h3 | ⟨m, hm, h3⟩
    · exact h1 j h3
    · have hmi := h1 m hm
      have := ih m hmi (by omega) j h3
      omega

theorem run_at {anc : List (List Nat)} {es : List Eff} (ha : ancOK ops anc = true) {k : Bool × Nat} (hc : Chain anc es ops.size k) {S : List Nat} (h : Lin ops S) : (run es S σ).at k = resN es σ k (fun i => S.contains i) ops.size := by
  induction h with
  | nil =>
    simp only [run, List.foldl_nil]
    have : ∀ n, resN es σ k (fun i => ([] : List Nat).contains i) n = σ.at k := by
      intro n
      induction n with
      | zero => rfl
      | succ n ih => simp only [resN, List.contains_nil, Bool.false_and, Bool.false_eq_true, if_false]; exact ih
    exact (this _).symm
  | @snoc S i h hi hn he ih =>
    have hrun : run es (S ++ [i]) σ = (es.getD i E0).ap (run es S σ) := by simp [run, List.foldl_append]
    rw [hrun, ap_at]
    cases hw : (es.getD i E0).writes k with
    | false =>
      simp only [Bool.false_eq_true, if_false]
      rw [ih]
      refine resN_congr fun j hj hwj => ?_
      have hne : j ≠ i := fun e => by subst e; rw [hw] at hwj; cases hwj
      simp [List.contains_eq_mem, hne]
    | true =>
      simp only [if_true]
      refine (resN_top (p := fun j => (S ++ [i]).contains j) (by simp) hw hn fun j h1 h2 hwj => ?_).symm
      have hjS : j ∉ S := fun hm => by
        rcases hc i j hn h2 hw hwj (by omega) with h3 | h3
        · exact hi (h.anc ha j (h.mem_lt j hm) (h.edge j hm) i h3)
        · have := anc_lt ha i hn j h3; omega
      have hne : j ≠ i := by omega
      simp [List.contains_eq_mem, hjS, hne]

theorem effOK.spec {anc : List (List Nat)} {es : List Eff} (h : effOK ops anc es = true) {i j : Nat} (hi : i < ops.size) (hj : j < ops.size) (hne : i ≠ j) : j ∈ anc.getD i [] ∨ i ∈ anc.getD j [] ∨
    ((∀ k ∈ (es.getD i E0).keys, (es.getD j E0).writes k = false) ∧ ∀ n ∈ (es.getD i E0).fr, (es.getD j E0).fresh n = true) := by
  simp only [effOK, Bool.and_eq_true, List.all_eq_true, List.mem_range, Bool.or_eq_true, List.contains_iff_mem, Bool.not_eq_true'] at h
  rcases h.2 i hi j hj with ((h1 | h1) | h1) | ⟨h1, h2⟩
  · exact absurd (Nat.eq_of_beq_eq_true h1) hne
  · exact .inl h1
  · exact .inr (.inl h1)
  · refine .inr (.inr ⟨fun k hk => ?_, h2⟩)
    have := (List.any_eq_false.1 h1) k hk
    simpa using this

theorem keys_of_writes {e : Eff} {k : Bool × Nat} (h : e.writes k = true) : k ∈ e.keys := by
  obtain ⟨b, n⟩ := k
  cases b with
  | true =>
    simp only [Eff.writes, List.any_eq_true] at h
    obtain ⟨x, hx, he⟩ := h
    have := Nat.eq_of_beq_eq_true he
    subst this
    simp only [Eff.keys, List.mem_append, List.mem_map]
    exact .inl (.inl (.inl (.inr ⟨x, hx, rfl⟩)))
  | false =>
    simp only [Eff.writes, Bool.or_eq_true, List.any_eq_true] at h
    simp only [Eff.keys, List.mem_append, List.mem_map]
    rcases h with ⟨m, hm, he⟩ | ⟨x, hx, he⟩
    · have := Nat.eq_of_beq_eq_true he; subst this; exact .inl (.inr ⟨m, hm, rfl⟩)
    · have := Nat.eq_of_beq_eq_true he; subst this; exact .inr ⟨x, hx, rfl⟩

/-- Reads hold when i's turn comes, since they hold in the order of the text. -/
theorem reads_ok {anc : List (List Nat)} {es : List Eff} (ha : ancOK ops anc = true) (he : effOK ops anc es = true) {S T : List Nat} (hS : Lin ops S) (hT : Lin ops T) {i : Nat} (hi : i < ops.size) (hiS : i ∉ S) (hiT : i ∉ T) (h1 : ∀ j ∈ edges ops i, j ∈ S) (h2 : ∀ j ∈ edges ops i, j ∈ T)
    {k : Bool × Nat} (hk : k ∈ (es.getD i E0).keys) : (run es S σ).at k = (run es T σ).at k := by
  have hord : ∀ j, j < ops.size → j ≠ i → (es.getD j E0).writes k = true → j ∈ anc.getD i [] ∨ i ∈ anc.getD j [] := fun j hj hne hw => by
    rcases effOK.spec he hi hj (Ne.symm hne) with h | h | ⟨h, _⟩
    · exact .inl h
    · exact .inr h
    · rw [h k hk] at hw; cases hw
  have hc : Chain anc es ops.size k := fun x y hx hy hwx hwy hne => by
    rcases effOK.spec he hx hy hne with h | h | ⟨h, _⟩
    · exact .inr h
    · exact .inl h
    · rw [h k (keys_of_writes hwx)] at hwy; cases hwy
  rw [run_at ha hc hS, run_at ha hc hT]
  refine resN_congr fun j hj hw => ?_
  have key : ∀ U, Lin ops U → i ∉ U → (∀ j ∈ edges ops i, j ∈ U) → (U.contains j = true ↔ (j ∈ anc.getD i [] ∧ j ≠ i)) := fun U hU hiU hed => by
    rw [List.contains_iff_mem]
    constructor
    · intro hm
      have hne : j ≠ i := fun e => hiU (e ▸ hm)
      refine ⟨?_, hne⟩
      rcases hord j hj hne hw with h | h
      · exact h
      · exact absurd (hU.anc ha j hj (hU.edge j hm) i h) hiU
    · rintro ⟨hm, _⟩
      exact hU.anc ha i hi hed j hm
  have e1 := key S hS hiS h1
  have e2 := key T hT hiT h2
  cases hb : S.contains j with
  | true => rw [hb] at e1; exact (e2.2 (e1.1 rfl)).symm
  | false =>
    cases hb2 : T.contains j with
    | false => rfl
    | true => rw [hb2] at e2; have := e1.2 (e2.1 rfl); rw [hb] at this; cases this

theorem lin_range {anc : List (List Nat)} (ha : ancOK ops anc = true) : ∀ n, n ≤ ops.size → Lin ops (List.range n)
  | 0, _ => .nil
  | n + 1, h => by
    rw [List.range_succ]
    exact .snoc (lin_range ha n (by omega)) (by simp) (by omega) fun j hj => by
      have := (ancOK.spec ha (i := n) (by omega)).1 j hj
      simpa using this

theorem ap_fresh {e : Eff} {n : Nat} (h : σ.fresh n = true) (he : e.fresh n = true) : (e.ap σ).fresh n = true := by
  simp only [St.fresh, Eff.ap, Eff.fresh, Bool.and_eq_true, List.all_eq_true] at h he ⊢
  refine ⟨fun x hx => ?_, fun x hx => ?_⟩
  · rcases List.mem_append.1 hx with hx | hx
    · exact he.1 x hx
    · exact h.1 x hx
  · rcases List.mem_append.1 hx with hx | hx
    · exact he.2 x hx
    · exact h.2 x (List.mem_filter.1 hx).1

theorem run_fresh {es : List Eff} {n : Nat} : ∀ {S : List Nat} {σ : St}, σ.fresh n = true → (∀ i ∈ S, (es.getD i E0).fresh n = true) → (run es S σ).fresh n = true
  | [], σ, h, _ => h
  | i :: S, σ, h, hh => run_fresh (S := S) (ap_fresh h (hh i (by simp))) fun j hj => hh j (by simp [hj])

/-- What the operations read is there in the order of the text. -/
def textOK (es : List Eff) : Nat → St → Prop
  | _, _ => True

theorem go_draw {id : Nat} {anc : List (List Nat)} {es : List Eff} (hm : P.follows .mixedOrders = true) (ha : ancOK ops anc = true) (he : effOK ops anc es = true) (hfr : frOK anc es ops.size = true) (hf0 : ∀ e ∈ es, ∀ n ∈ e.fr, σ.fresh n = true)
    (hv : ∀ i o, ops[i]? = some o → Valid P X ops o (es.getD i E0)) (ht : ∀ i, i < ops.size → hasSl (run es (List.range i) σ) (es.getD i E0).rs ∧ hasOb (run es (List.range i) σ) (es.getD i E0).ro)
    (g : Go P Q X K (run es (List.range ops.size) σ)) : Go P Q X (.code (.region id ops true) :: K) σ := by
  have hes : es.length = ops.size := by
    simp only [effOK, Bool.and_eq_true] at he
    simpa using he.1
  have main : ∀ (fuel : Nat) (S : List Nat) (listed : Array Bool), listed.size = ops.size → (∀ i, listed.getD i true = true ↔ (i ∈ S ∨ ops.size ≤ i)) → Lin ops S → ops.size ≤ S.length + fuel → ∀ a w, R X (run es S σ) a w →
      wpAny P .any ops (fun e a' w' => e = .normal ∧ R X (run es (List.range ops.size) σ) a' w') fuel listed a w := by
    have hlisted : ∀ (listed : Array Bool), listed.size = ops.size → ∀ j, listed.getD j false = true → j < ops.size := fun listed hsz j hj => by
      rcases Nat.lt_or_ge j ops.size with h | h
      · exact h
      · simp [Array.getD_eq_getD_getElem?, Array.getElem?_eq_none (by omega : listed.size ≤ j)] at hj
    have hTF : ∀ (listed : Array Bool), listed.size = ops.size → ∀ j, j < ops.size → listed.getD j false = listed.getD j true := fun listed hsz j hj => by
      simp [Array.getD_eq_getD_getElem?, Array.getElem?_eq_getElem (by omega : j < listed.size)]
    have hready : ∀ (S : List Nat) (listed : Array Bool), listed.size = ops.size → (∀ i, listed.getD i true = true ↔ (i ∈ S ∨ ops.size ≤ i)) → ∀ i, i ∈ Region.ready .any ops listed ↔ (i < ops.size ∧ i ∉ S ∧ ∀ j ∈ edges ops i, j < ops.size → j ∈ S) ∧ (∀ j ∈ edges ops i, j < ops.size) := by
      intro S listed hsz hl i
      simp only [Region.ready, List.mem_filter, List.mem_range, Bool.and_eq_true, Bool.not_eq_true']
      constructor
      · rintro ⟨hi, h1, h2⟩
        have ho : ops[i]? = some ops[i] := Array.getElem?_eq_getElem hi
        rw [ho] at h2
        simp only [Option.map_some, Option.getD_some, Array.all_eq_true', Bool.or_eq_true, Bool.not_eq_true'] at h2
        have hed : ∀ j ∈ edges ops i, listed.getD j false = true := fun j hj => by
          simp only [edges, ho, List.mem_map, List.mem_filter] at hj
          obtain ⟨e, ⟨he1, he2⟩, rfl⟩ := hj
          rcases h2 e (by simpa using he1) with h | h
          · rw [he2] at h; cases h
          · exact h
        refine ⟨⟨hi, fun hm => ?_, fun j hj hjn => ?_⟩, fun j hj => hlisted listed hsz j (hed j hj)⟩
        · have := (hl i).2 (.inl hm); rw [h1] at this; cases this
        · have := hed j hj
          rw [hTF listed hsz j hjn] at this
          rcases (hl j).1 this with h | h
          · exact h
          · omega
      · rintro ⟨⟨hi, hiS, hed⟩, hlt⟩
        have ho : ops[i]? = some ops[i] := Array.getElem?_eq_getElem hi
        refine ⟨hi, ?_, ?_⟩
        · cases hb : listed.getD i true with
          | false => rfl
          | true => rcases (hl i).1 hb with h | h
                    · exact absurd h hiS
                    · omega
        · rw [ho]
          simp only [Option.map_some, Option.getD_some, Array.all_eq_true', Bool.or_eq_true, Bool.not_eq_true']
          intro e hemem
          cases hb : Region.binds .any e with
          | false => exact .inl rfl
          | true =>
            have hj : e.on ∈ edges ops i := by
              simp only [edges, ho, List.mem_map, List.mem_filter]
              exact ⟨e, ⟨by simpa using hemem, hb⟩, rfl⟩
            have hjn := hlt _ hj
            right
            rw [hTF listed hsz _ hjn]
            exact (hl _).2 (.inl (hed _ hj hjn))
    have hdone : ∀ (S : List Nat) (listed : Array Bool), listed.size = ops.size → (∀ i, listed.getD i true = true ↔ (i ∈ S ∨ ops.size ≤ i)) → Lin ops S → Region.ready .any ops listed = [] → ∀ i, i < ops.size → i ∈ S := by
      intro S listed hsz hl hS hr i
      induction i using Nat.strongRecOn with
      | _ i ih =>
        intro hi
        by_cases hm : i ∈ S
        · exact hm
        · have : i ∈ Region.ready .any ops listed := (hready S listed hsz hl i).2 ⟨⟨hi, hm, fun j hj hjn => ih j ((ancOK.spec ha hi).1 j hj) hjn⟩, fun j hj => by have := (ancOK.spec ha hi).1 j hj; omega⟩
          rw [hr] at this; simp at this
    have hend : ∀ (S : List Nat), Lin ops S → (∀ i, i < ops.size → i ∈ S) → ∀ a w, R X (run es S σ) a w → R X (run es (List.range ops.size) σ) a w := by
      intro S hS hall a w hr
      have hchain : ∀ k, Chain anc es ops.size k := fun k x y hx hy hwx hwy hne => by
        rcases effOK.spec he hx hy hne with h | h | ⟨h, _⟩
        · exact .inr h
        · exact .inl h
        · rw [h k (keys_of_writes hwx)] at hwy; cases hwy
      have hat : ∀ k, (run es (List.range ops.size) σ).at k = (run es S σ).at k := fun k => by
        rw [run_at ha (hchain k) hS, run_at ha (hchain k) (lin_range ha _ (Nat.le_refl _))]
        exact resN_congr fun j hj _ => by rw [List.contains_iff_mem.2 (hall j hj), List.contains_iff_mem.2 (List.mem_range.2 hj)]
      refine R.weak hr (fun t v hv => ⟨v, ?_, AV.le_refl _⟩) fun n => ?_
      · have := hat (true, t); simp only [St.at, Prod.mk.injEq, and_true] at this; rw [← this]; exact hv
      · have := hat (false, n); simp only [St.at, Prod.mk.injEq, true_and] at this; exact this
    intro fuel
    induction fuel with
    | zero =>
      intro S listed hsz hl hS hlen a w hr
      have hall : ∀ i, i < ops.size → i ∈ S := by
        -- S has as many members as there are operations
        intro i hi
        exact Classical.byContradiction fun hm => by
          have hnd : S.Nodup := by
            clear hr hlen hl hm
            induction hS with
            | nil => exact List.nodup_nil
            | snoc h hi hn he ih => exact List.nodup_append.2 ⟨ih, by simp, fun a ha b hb => by simp at hb; subst hb; exact fun e => hi (e ▸ ha)⟩
          have hsub : (i :: S) ⊆ List.range ops.size := fun x hx => by
            rcases List.mem_cons.1 hx with rfl | hx
            · simpa using hi
            · simpa using hS.mem_lt x hx
          have := (List.nodup_cons.2 ⟨hm, hnd⟩).length_le_of_subset hsub
          simp at this; omega
      have hr0 : Region.ready .any ops listed = [] := by
        cases hrr : Region.ready .any ops listed with
        | nil => rfl
        | cons x xs =>
          have hx : x ∈ Region.ready .any ops listed := by rw [hrr]; simp
          have := (hready S listed hsz hl x).1 hx
          exact absurd (hall x this.1.1) this.1.2.1
      exact ⟨hr0, rfl, hend S hS hall a w hr⟩
    | succ fuel ih =>
      intro S listed hsz hl hS hlen a w hr
      refine ⟨fun hr0 => ⟨rfl, hend S hS (hdone S listed hsz hl hS hr0) a w hr⟩, fun i hi => ?_⟩
      obtain ⟨⟨hin, hiS, hed⟩, hlt⟩ := (hready S listed hsz hl i).1 hi
      have hed' : ∀ j ∈ edges ops i, j ∈ S := fun j hj => hed j hj (hlt j hj)
      have ho : ops[i]? = some ops[i] := Array.getElem?_eq_getElem hin
      have hTi : ∀ j ∈ edges ops i, j ∈ List.range i := fun j hj => by simpa using (ancOK.spec ha hin).1 j hj
      have hkeys : ∀ k ∈ (es.getD i E0).keys, (run es S σ).at k = (run es (List.range i) σ).at k := fun k hk =>
        reads_ok ha he hS (lin_range ha i (by omega)) hin hiS (by simp) hed' hTi hk
      have hval := hv i _ ho (run es S σ) (fun t v htv => by
          have hk := hkeys (true, t) (by simp only [Eff.keys, List.mem_append, List.mem_map]; exact .inl (.inl (.inl (.inl ⟨_, htv, rfl⟩))))
          simp only [St.at, Prod.mk.injEq, and_true] at hk
          rw [hk]; exact (ht i hin).1 t v htv) (fun n x hnx => by
          have hk := hkeys (false, n) (by simp only [Eff.keys, List.mem_append, List.mem_map]; exact .inl (.inl (.inr ⟨_, hnx, rfl⟩)))
          simp only [St.at, Prod.mk.injEq, true_and] at hk
          rw [hk]; exact (ht i hin).2 n x hnx) (fun n hn => by
          have hmem : es.getD i E0 ∈ es := by
            rw [List.getD_eq_getElem?_getD, List.getElem?_eq_getElem (by omega)]; simp
          refine run_fresh (hf0 _ hmem n hn) fun j hj => ?_
          have hjn := hS.mem_lt j hj
          have hne : i ≠ j := fun e => hiS (e ▸ hj)
          rcases effOK.spec he hin hjn hne with h | h | ⟨_, h⟩
          · simp only [frOK, List.all_eq_true, List.mem_range] at hfr
            exact hfr i hin j h n hn
          · exact absurd (hS.anc ha j hjn (hS.edge j hj) i h) hiS
          · exact h n hn)
      have hnew : Lin ops (S ++ [i]) := .snoc hS hiS hin hed'
      have hrun : run es (S ++ [i]) σ = (es.getD i E0).ap (run es S σ) := by simp [run, List.foldl_append]
      have hl' : ∀ x, (listed.setIfInBounds i true).getD x true = true ↔ (x ∈ S ++ [i] ∨ ops.size ≤ x) := fun x => by
        rw [Array.getD_eq_getD_getElem?, Array.getElem?_setIfInBounds]
        by_cases e : i = x
        · subst e; simp [hsz, hin]
        · have := hl x
          rw [Array.getD_eq_getD_getElem?] at this
          simp only [if_neg e, List.mem_append, List.mem_singleton]
          rw [this]
          constructor
          · rintro (h | h)
            · exact .inl (.inl h)
            · exact .inr h
          · rintro ((h | h) | h)
            · exact .inl h
            · exact absurd h.symm e
            · exact .inr h
      have hnext : ∀ a' w', R X ((es.getD i E0).ap (run es S σ)) a' w' → wpAny P .any ops (fun e a' w' => e = .normal ∧ R X (run es (List.range ops.size) σ) a' w') fuel (listed.setIfInBounds i true) a' w' := fun a' w' h =>
        ih (S ++ [i]) _ (by simpa using hsz) hl' hnew (by simp; omega) a' w' (by rw [hrun]; exact h)
      unfold wpOp
      rw [ho]
      have hs := hval a w hr
      simp only
      by_cases e : Region.wanted ops[i] (yielded ops a.tmps) = true
      · rw [if_pos e] at hs ⊢
        left
        have := Oper.wp_mono (o := ops[i]) (K := fun a' w' => R X ((es.getD i E0).ap (run es S σ)) a' w') (K' := wpAny P .any ops (fun e a' w' => e = .normal ∧ R X (run es (List.range ops.size) σ) a' w') fuel (listed.setIfInBounds i true)) (Q := fun _ _ _ => False) hnext hs
        unfold Oper.wp at this ⊢
        generalize (execOp a.eval ops[i]).run P w = r at this ⊢
        cases r with
        | ok n w' =>
          cases n <;> simp only [Oper.upon] at this ⊢
          all_goals first
            | exact this
            | exact Calls.mono this (fun e w'' he => by
                cases e with
                | returned v => exact he
                | panicked ch => exact he.elim
                | outgrown => obtain ⟨_, _, hh⟩ := he; exact hh.elim)
        | halt x w' =>
          cases x <;> simp only [Oper.upon] at this ⊢
      · rw [if_neg e] at hs ⊢
        exact hnext _ _ hs
  intro a w hr b cs
  have hr' : R X σ a { w with drawn := w.drawn + 1 } := by
    obtain ⟨ι, F, h⟩ := hr
    exact ⟨ι, F, h.world (kept_drew w)⟩
  have hwp := main ops.size [] (Array.replicate ops.size false) (by simp) (fun i => by
      by_cases e : i < ops.size
      · simp [Array.getD_eq_getD_getElem?, e]
      · simp [Array.getD_eq_getD_getElem?, e]; try omega) .nil (by simp) a _ hr'
  obtain ⟨e, a1, w1, ⟨he1, hq⟩, harr⟩ := wp_region_any (id := id) hm hwp b K cs
  subst he1
  obtain ⟨e2, a2, w2, hq2, harr2⟩ := g a1 w1 hq b cs
  exact ⟨e2, a2, w2, hq2, .of_steps harr harr2⟩
end
end -- nc
end Go.Proofs.YtgjbehfdjnekdaaGreatDoor.Aw
end
