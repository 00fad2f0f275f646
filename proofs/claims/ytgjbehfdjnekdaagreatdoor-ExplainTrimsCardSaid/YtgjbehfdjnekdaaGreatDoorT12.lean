/- Parts of the proof of one statement: Sy1, Sy2, Sy3. -/
import Derived.Test.YtgjbehfdjnekdaaGreatDoorT11
set_option linter.all false
section
/- Symbolic states: operations on values. -/
set_option linter.unusedVariables false
set_option linter.unusedSimpArgs false
namespace Go.Proofs.YtgjbehfdjnekdaaGreatDoor.Sy
open Go.RowKit
open Go.Proofs.YtgjbehfdjnekdaaGreatDoor.Aw
open Go.Proofs.YtgjbehfdjnekdaaGreatDoor.Xc (Tab TabOK XT TyOK Xv Xp intV strV partV eqC unV convV run_intV run_strV run_partV run_eqC toList_ba)
noncomputable section

def Holds : Option Prop → Prop
  | none => True
  | some p => p
def oand : Option Prop → Option Prop → Option Prop
  | none, q => q
  | p, none => p
  | some p, some q => some (p ∧ q)
theorem oand_holds {p q : Option Prop} (h : Holds (oand p q)) : Holds p ∧ Holds q := by
  cases p <;> cases q <;> simp [oand, Holds] at h ⊢ <;> exact h

/-- Scalars, told in the closed runs' words. -/
def Sc.xv : Sc → Option Xv
  | .int k n => some (.int k n)
  | .bool b => some (.bool b)
  | .str s => some (.str s)
  | .nils => some .nils
  | .nilp => some .nilp
  | .nilm => some .nilm
  | .nilf => some .nilf
  | .nili => some .nili
  | _ => none
def ofX : Xv → Option Sc
  | .int k n => some (.int k n)
  | .bool b => some (.bool b)
  | .str s => some (.str s)
  | .nils => some .nils
  | .nilp => some .nilp
  | .nilm => some .nilm
  | .nilf => some .nilf
  | .nili => some .nili
  | _ => none
def xvs : List Sc → Option (List Xv)
  | [] => some []
  | c :: l => match c.xv, xvs l with
    | some x, some xs => some (x :: xs)
    | _, _ => none

section
variable {ι : Nat → Value} {w : World} {M : Cells} (E : Xc.Env) (U : Xc.Us)
theorem xv_rel {c : Sc} {x : Xv} {v : Value} (h : c.xv = some x) (hr : c.den.rel ι w M v) : x.rel E U v := by
  cases c <;> simp only [Sc.xv, Option.some.injEq, reduceCtorEq] at h <;> subst h <;> exact hr
theorem ofX_rel {x : Xv} {c : Sc} {v : Value} (h : ofX x = some c) (hr : x.rel E U v) : (Part.one c.den).rel ι w M v := by
  have h1 := Xc.Xv.one hr
  cases x <;> simp only [ofX, Option.some.injEq, reduceCtorEq] at h <;> subst h <;> exact ⟨hr, h1⟩
theorem xvs_rel : ∀ {cs : List Sc} {xs : List Xv} {vs : List Value}, xvs cs = some xs → cellsRel ι w M (cs.map Sc.den) vs → Xc.cellsRel E U xs vs
  | [], xs, vs, h, hr => by
    simp only [xvs, Option.some.injEq] at h; subst h
    exact ⟨by simpa using hr.1, fun i c v hc => by simp at hc⟩
  | c :: cs, xs, [], h, hr => by have := hr.1; simp at this
  | c :: cs, xs, v :: vs, h, hr => by
    simp only [xvs] at h
    split at h
    · rename_i x xs' h1 h2
      injection h with h; subst h
      have ih := xvs_rel (vs := vs) h2 ⟨by simpa using hr.1, fun i c v hc hv => hr.2 (i + 1) c v (by simpa using hc) (by simpa using hv)⟩
      refine ⟨by simpa using ih.1, fun i c' u hc hu => ?_⟩
      cases i with
      | zero => simp only [List.getElem?_cons_zero, Option.some.injEq] at hc hu; subst hc; subst hu; exact xv_rel E U h1 (hr.2 0 _ v rfl rfl).1
      | succ i => exact ih.2 i c' u (by simpa using hc) (by simpa using hu)
    · cases h
end

/-! ### Equality of structs, told by one Bool -/
def xp : Sp → Option Xp
  | .one c => match c.xv with | some x => some (.one x) | none => none
  | .agg cs => match xvs cs with | some xs => some (.agg xs) | none => none
def eqF (T : Tab) (eq : TypeId → Xp → Xp → Option Bool) (xs ys : List Xv) : List Field → Option Bool
  | [] => some true
  | f :: fs => bif f.name == "_" then none else
      match T.ty f.type with
      | some i => match partV i.agg i.size f.offset xs, partV i.agg i.size f.offset ys with
        | some p, some q => match eq f.type p q, eqF T eq xs ys fs with
          | some b, some r => some (b && r)
          | _, _ => none
        | _, _ => none
      | none => none
def eqT (T : Tab) : Nat → TypeId → Xp → Xp → Option Bool
  | 0, _, _, _ => none
  | d + 1, t, .one x, .one y => match T.ty t with | some i => eqC i.desc x y | none => none
  | d + 1, t, .agg xs, .agg ys => match T.ty t with
    | some i => match i.desc with
      | .struct fs => bif T.eo t then eqF T (eqT T d) xs ys fs.toList else none
      | _ => none
    | none => none
  | _ + 1, _, _, _ => none
section
variable {P : Program} {E : Xc.Env} {U : Xc.Us} {a : Act} {w : World} {T : Tab}
theorem run_eqF (hT : TabOK P T) {d : Nat} {eq : TypeId → Xp → Xp → Option Bool} (ih : ∀ t p q r u v, eq t p q = some r → p.rel E U u → q.rel E U v → (Op.equalIn d t u v).run P w = .ok r w)
    {xs ys : List Xv} {us vs : Array Value} (hx : Xc.cellsRel E U xs us.toList) (hy : Xc.cellsRel E U ys vs.toList) : ∀ {fs : List Field} {r : Bool}, eqF T eq xs ys fs = some r → (Op.eqFields d us vs fs).run P w = .ok r w
  | [], r, h => by simp only [eqF, Option.some.injEq] at h; subst h; simp [Op.eqFields]
  | f :: fs, r, h => by
    simp only [eqF] at h
    cases hn : f.name == "_" with
    | true => rw [hn, cond_true] at h; cases h
    | false =>
      have hn' : f.name ≠ "_" := fun e => by rw [e] at hn; simp at hn
      rw [hn, cond_false] at h
      split at h
      · rename_i i hi
        split at h
        · rename_i p q hp hq
          obtain ⟨u, hu, hur⟩ := run_partV (w := w) (hT.ty _ _ hi) hp hx
          obtain ⟨v, hv, hvr⟩ := run_partV (w := w) (hT.ty _ _ hi) hq hy
          split at h
          · rename_i b r' he hr
            injection h with h; subst h
            have h2 := ih _ _ _ _ _ _ he hur hvr
            have h3 := run_eqF hT ih hx hy hr
            cases b with
            | true =>
              simp only [Op.eqFields, if_pos hn', Sem.run_bind, hu, hv, h2, Result.andThen_ok, Bool.not_true, Bool.false_eq_true, if_false, Bool.true_and]
              exact h3
            | false => simp only [Op.eqFields, if_pos hn', Sem.run_bind, hu, hv, h2, Result.andThen_ok, Bool.not_false, if_true, Sem.run_pure, Bool.false_and]
          · cases h
        · cases h
      · cases h
theorem run_eqT (hT : TabOK P T) : ∀ (d m : Nat) {t : TypeId} {p q : Xp} {r : Bool} {u v : Value}, eqT T d t p q = some r → p.rel E U u → q.rel E U v → (Op.equalIn (d + m) t u v).run P w = .ok r w
  | 0, m, t, p, q, r, u, v, h, _, _ => by cases p <;> cases q <;> simp [eqT] at h
  | d + 1, m, t, p, q, r, u, v, h, hx, hy => by
    rw [show d + 1 + m = (d + m) + 1 by omega]
    cases p with
    | one x =>
      cases q with
      | one y =>
        simp only [eqT] at h
        split at h
        · rename_i i hi; exact run_eqC (hT.ty _ _ hi).und h hx hy _
        · cases h
      | agg ys => simp [eqT] at h
    | agg xs =>
      cases q with
      | one y => simp [eqT] at h
      | agg ys =>
        simp only [eqT] at h
        split at h
        · rename_i i hi
          split at h
          · rename_i fs hfs
            cases he : T.eo t with
            | false => rw [he, cond_false] at h; cases h
            | true =>
              rw [he, cond_true] at h
              obtain ⟨us, rfl, hxs⟩ := hx
              obtain ⟨vs, rfl, hys⟩ := hy
              have hu := (hT.ty _ _ hi).und
              rw [hfs] at hu
              have hf : P.fieldsOf t = fs := by simp [Program.fieldsOf, hu]
              rw [run_equalIn_agg w (d + m) t us vs (by rw [hf]; exact hu) (hT.eo t he).1, hf]
              exact run_eqF hT (fun t p q r u v h1 h2 h3 => run_eqT hT d m h1 h2 h3) hxs hys h
          · cases h
        · cases h
end

/-! ### Operators -/
def cmpS (op : BinOp) (r : Bool) : Option Sc := match op with
  | .eql => some (.bool r)
  | .neq => some (.bool (!r))
  | _ => none
def okS (c : Option Sc) : Option (Option Prop × Sc) := match c with
  | some c => some (none, c)
  | none => none
def binI (op : BinOp) (k : IntKind) (a b : Int) : Option (Option Prop × Sc) := match op with
  | .quo => some (some (b ≠ 0), .int k (k.wrap (a.tdiv b)))
  | .rem => some (some (b ≠ 0), .int k (a.tmod b))
  | .shl => some (some (0 ≤ b), .int k (k.wrap (a * 2 ^ (min b.toNat k.bits))))
  | .shr => some (some (0 ≤ b), .int k (a.fdiv (2 ^ (min b.toNat k.bits))))
  | op => match intV op k a b with
    | some (.int k n) => some (none, .int k n)
    | some (.bool b) => some (none, .bool b)
    | _ => none
def kEq : IntKind → IntKind → Bool := fun k j => decide (k = j)
def isSh : BinOp → Bool
  | .shl => true
  | .shr => true
  | _ => false
def binS (T : Tab) (op : BinOp) (t : TypeId) (p q : Sp) : Option (Option Prop × Sc) :=
  match p, q with
  | .one (.int k a), .one (.int j b) => bif isSh op || kEq k j then binI op k a b else none
  | .one (.str s), .one (.str u) => match op with
    | .add => some (some (s.length + u.length ≤ 9223372036854775807), .str (s ++ u))
    | op => match strV op s u with
      | some (.bool b) => some (none, .bool b)
      | _ => none
  | .one (.bool a), .one (.bool b) => match T.ty t with
    | some i => match i.desc with
      | .bool => okS (cmpS op (a == b))
      | _ => none
    | none => none
  | .agg xs, .agg ys => bif T.eo t then (match xvs xs, xvs ys with
    | some xs, some ys => match eqT T 50 t (.agg xs) (.agg ys) with
      | some r => okS (cmpS op r)
      | none => none
    | _, _ => none) else none
  | _, _ => none

section
variable {P : Program} {ι : Nat → Value} {w : World} {M : Cells} {T : Tab}
def E0' : Xc.Env := ⟨fun _ => .nilFunc, fun _ => 0⟩
def U0' : Xc.Us := fun _ => False
theorem run_cmpS {op : BinOp} {t : TypeId} {x y : Operand} {u v : Value} {r : Bool} {c : Sc} {p : Option Prop} (hc : okS (cmpS op r) = some (p, c)) (he : (Op.equal t u v).run P w = .ok r w) (hg : op = .eql ∨ op = .neq → (eqGuard op t x y u v).run P w = .ok () w)
    (hb : binOp op t u v = match op with | .eql => (do pure (.bool (← Op.equal t u v)) : Sem Value) | .neq => (do pure (.bool (!(← Op.equal t u v))) : Sem Value) | _ => binOp op t u v) :
    ∃ z, (do eqGuard op t x y u v; binOp op t u v : Sem Value).run P w = .ok z w ∧ (Part.one c.den).rel ι w M z := by
  cases op <;> simp only [cmpS, okS, Option.some.injEq, Prod.mk.injEq, reduceCtorEq] at hc
  · obtain ⟨rfl, rfl⟩ := hc
    simp only at hb
    exact ⟨.bool r, by rw [Sem.run_bind, hg (.inl rfl), hb]; simp [he], rfl, rfl⟩
  · obtain ⟨rfl, rfl⟩ := hc
    simp only at hb
    exact ⟨.bool (!r), by rw [Sem.run_bind, hg (.inr rfl), hb]; simp [he], rfl, rfl⟩

theorem run_binI {op : BinOp} {k j : IntKind} {m n : Int} {p : Option Prop} {c : Sc} (h : binI op k m n = some (p, c)) (hk : (isSh op || kEq k j) = true) (hp : Holds p) (t : TypeId) :
    ∃ u, (binOp op t (.int k m) (.int j n)).run P w = .ok u w ∧ (Part.one c.den).rel ι w M u := by
  have kj : isSh op = false → k = j := fun e => by rw [e, Bool.false_or] at hk; exact of_decide_eq_true hk
  have key : ∀ {op : BinOp}, isSh op = false → k = j → (match intV op k m n with | some (.int k n) => some (none, Sc.int k n) | some (.bool b) => some (none, .bool b) | _ => none) = some (p, c) → ∃ u, (binOp op t (.int k m) (.int j n)).run P w = .ok u w ∧ (Part.one c.den).rel ι w M u := fun {op} _ e h => by
    subst e
    split at h
    · rename_i k' n' hv
      injection h with h; injection h with h1 h2; subst h2
      obtain ⟨u, hu, hr⟩ := run_intV (P := P) (E := E0') (U := U0') (w := w) hv t
      exact ⟨u, hu, ofX_rel E0' U0' (x := .int k' n') rfl hr⟩
    · rename_i b hv
      injection h with h; injection h with h1 h2; subst h2
      obtain ⟨u, hu, hr⟩ := run_intV (P := P) (E := E0') (U := U0') (w := w) hv t
      exact ⟨u, hu, ofX_rel E0' U0' (x := .bool b) rfl hr⟩
    · cases h
  unfold binI at h
  split at h
  · injection h with h; injection h with h1 h2; subst h1; subst h2
    have := kj rfl; subst this
    have hp : n ≠ 0 := hp
    exact ⟨_, by simp [binOp, Op.intDiv, hp], rfl, rfl⟩
  · injection h with h; injection h with h1 h2; subst h1; subst h2
    have := kj rfl; subst this
    have hp : n ≠ 0 := hp
    exact ⟨_, by simp [binOp, Op.intDiv, hp], rfl, rfl⟩
  · injection h with h; injection h with h1 h2; subst h1; subst h2
    have hp : 0 ≤ n := hp
    exact ⟨_, by simp [binOp, Op.shift, show ¬ n < 0 by omega], rfl, rfl⟩
  · injection h with h; injection h with h1 h2; subst h1; subst h2
    have hp : 0 ≤ n := hp
    exact ⟨_, by simp [binOp, Op.shift, show ¬ n < 0 by omega], rfl, rfl⟩
  · rename_i h1 h2 h3 h4
    have hsh : isSh op = false := by cases op <;> simp_all [isSh]
    exact key hsh (kj hsh) h

theorem run_binS (hT : TabOK P T) {op : BinOp} {t : TypeId} {x y : Operand} {p q : Sp} {c : Sc} {ob : Option Prop} (h : binS T op t p q = some (ob, c)) (ho : Holds ob) {u v : Value} (hx : p.den.rel ι w M u) (hy : q.den.rel ι w M v) :
    ∃ z, (do eqGuard op t x y u v; binOp op t u v : Sem Value).run P w = .ok z w ∧ (Part.one c.den).rel ι w M z := by
  unfold binS at h
  split at h
  · rename_i k a j b
    have hx : u = .int k a := hx.1
    have hy : v = .int j b := hy.1
    subst hx; subst hy
    cases hk : isSh op || kEq k j with
    | false => rw [hk, cond_false] at h; cases h
    | true =>
      rw [hk, cond_true] at h
      obtain ⟨z, hz, hr⟩ := run_binI (P := P) (w := w) (ι := ι) (M := M) h hk ho t
      exact ⟨z, by rw [Sem.run_bind, eqGuard_int, Result.andThen_ok, hz], hr⟩
  · rename_i s s'
    have hx : u = .string ⟨s.toArray⟩ := hx.1
    have hy : v = .string ⟨s'.toArray⟩ := hy.1
    subst hx; subst hy
    split at h
    · injection h with h; injection h with h1 h2; subst h1; subst h2
      have ho : s.length + s'.length ≤ 9223372036854775807 := ho
      obtain ⟨z, hz, hr⟩ := run_strV (P := P) (E := E0') (U := U0') (w := w) (op := .add) (s := s) (t := s') (c := .str (s ++ s')) (by simp [strV, ho]) t
      exact ⟨z, by rw [Sem.run_bind, eqGuard_str, Result.andThen_ok, hz], ofX_rel E0' U0' (x := .str (s ++ s')) rfl hr⟩
    · split at h
      · rename_i b hv
        injection h with h; injection h with h1 h2; subst h2
        obtain ⟨z, hz, hr⟩ := run_strV (P := P) (E := E0') (U := U0') (w := w) hv t
        exact ⟨z, by rw [Sem.run_bind, eqGuard_str, Result.andThen_ok, hz], ofX_rel E0' U0' (x := .bool b) rfl hr⟩
      · cases h
  · rename_i a b
    have hx : u = .bool a := hx.1
    have hy : v = .bool b := hy.1
    subst hx; subst hy
    split at h
    · rename_i i hi
      split at h
      · rename_i hd
        have hu := (hT.ty _ _ hi).und
        rw [hd] at hu
        exact run_cmpS h (run_eqbool hu a b w) (fun _ => eqGuard_bool op t x y a b w) (by cases op <;> rfl)
      · cases h
    · cases h
  · rename_i xs ys
    cases he : T.eo t with
    | false => rw [he, cond_false] at h; cases h
    | true =>
      rw [he, cond_true] at h
      split at h
      · rename_i xs' ys' hxs hys
        split at h
        · rename_i r hr
          obtain ⟨us, rfl, hus⟩ := hx
          obtain ⟨vs, rfl, hvs⟩ := hy
          have heq : (Op.equal t (.agg us) (.agg vs)).run P w = .ok r w :=
            run_eqT (E := E0') (U := U0') hT 50 9950 hr ⟨us, rfl, xvs_rel E0' U0' hxs hus⟩ ⟨vs, rfl, xvs_rel E0' U0' hys hvs⟩
          exact run_cmpS h heq (fun _ => run_eqGuard_agg w op t x y us vs (hT.eo t he).2) (by cases op <;> rfl)
        · cases h
      · cases h
  · cases h
end
end -- nc
end Go.Proofs.YtgjbehfdjnekdaaGreatDoor.Sy
end
section
/- Symbolic states: operations that give a value and leave the memory. -/
set_option linter.unusedVariables false
set_option linter.unusedSimpArgs false
namespace Go.Proofs.YtgjbehfdjnekdaaGreatDoor.Sy
open Go.RowKit
open Go.Proofs.YtgjbehfdjnekdaaGreatDoor.Aw
open Go.Proofs.YtgjbehfdjnekdaaGreatDoor.Xc (Tab TabOK XT TyOK Xv Xp toList_ba placesX run_places)
noncomputable section

def one (sl : List (Nat × Sv)) (x : Operand) : Option Sc := match opd sl x with
  | some (.val (.one c)) => some c
  | _ => none
theorem one_opd {sl : List (Nat × Sv)} {x : Operand} {c : Sc} (h : one sl x = some c) : opd sl x = some (.val (.one c)) := by
  unfold one at h
  split at h
  · rename_i c' hc; injection h with h; subst h; exact hc
  · cases h
/-- Data alone: what it says stays. -/
def Sc.dt : Sc → Sc
  | .ref _ _ => .pr anyP
  | .el _ _ _ _ => .pr anyP
  | .clo _ _ => .pr anyP
  | .any => .pr anyP
  | c => c
theorem dt_den (c : Sc) : c.dt.den = .dat c.pred := by cases c <;> rfl
def Sp.dt : Sp → Sp
  | .one c => .one c.dt
  | .agg cs => .agg (cs.map Sc.dt)
def partS (agg : Bool) (size off : Nat) (cs : List Sc) : Option Sp :=
  bif agg then (bif (off + size).ble cs.length then some (.agg ((cs.drop off).take size)) else none) else match cs[off]? with
    | some c => some (.one c)
    | none => none

def okV (p : Option Sp) : Option (Option Prop × Sv) := match p with
  | some p => some (none, .val p)
  | none => none
def loadS (T : Tab) (σ : SS) (t : TypeId) (c : Sc) : Option (Option Prop × Sv) := match T.ty t, c with
  | some i, .pt cs => match partS i.agg i.size 0 cs with
    | some p => some (none, .val p.dt)
    | none => none
  | some i, .ref n off => match lk n σ.ob with
    | some (.box _ cs) => okV (partS i.agg i.size off cs)
    | _ => none
  | some i, .el n q k j => match lk n σ.ob with
    | some (.row _ k' m f) => bif k.beq k' then match partS i.agg i.size j (f q) with
      | some p => some (some (q < m), .val p.dt)
      | none => none
      else none
    | _ => none
  | _, _ => none
def fieldAddrS (σ : SS) (f : Field) (c : Sc) : Option Sc := match c with
  | .pt cs => some (.pt (cs.drop f.offset))
  | .ref n off => match lk n σ.ob with
    | some (.box _ _) => some (.ref n (off + f.offset))
    | _ => none
  | .el n i k j => some (.el n i k (j + f.offset))
  | _ => none
def indexAddrS (T : Tab) (σ : SS) (d : TypeDesc) (c : Sc) (i : Int) : Option (Option Prop × Sc) := match d, c with
  | .slice e, .sl k n f => match T.ty e with
    | some j => bif j.size.beq k then some (some (0 ≤ i ∧ i.toNat < n), .pt (f i.toNat)) else none
    | none => none
  | .slice e, .ref n 0 => match T.ty e, lk n σ.ob with
    | some j, some (.row _ k m _) => bif j.size.beq k then some (some (0 ≤ i ∧ i.toNat < m), .el n i.toNat k 0) else none
    | _, _ => none
  | .array len e, .ref n off => match T.ty e, lk n σ.ob with
    | some j, some (.box _ _) => some (some (0 ≤ i ∧ i < len), .ref n (off + i.toNat * j.size))
    | _, _ => none
  | _, _ => none
def indexS (T : Tab) (d : TypeDesc) (p : Sp) (i : Int) : Option (Option Prop × Sv) := match d, p with
  | .string, .one (.str s) => some (some (0 ≤ i ∧ i.toNat < s.length), .val (.one (.int .u8 (s.getD i.toNat 0).toNat)))
  | .array len e, .agg cs => match T.ty e with
    | some j => match partS j.agg j.size (i.toNat * j.size) cs with
      | some p => some (some (0 ≤ i ∧ i < len), .val p)
      | none => none
    | none => none
  | _, _ => none
def bndS (sl : List (Nat × Sv)) (x : Option Operand) (dflt : Nat) : Option (Option Prop × Nat) := match x with
  | none => some (none, dflt)
  | some y => match one sl y with
    | some (.int _ n) => some (some (0 ≤ n), n.toNat)
    | _ => none
def sliceS (T : Tab) (sl : List (Nat × Sv)) (d : TypeDesc) (c : Sc) (lo hi : Option Operand) : Option (Option Prop × Sc) := match d, c with
  | .string, .str s => match bndS sl lo 0, bndS sl hi s.length with
    | some (p, l), some (q, h) => some (oand (oand p q) (some (l ≤ h ∧ h ≤ s.length)), .str ((s.take h).drop l))
    | _, _ => none
  | .slice e, .sl k n f => match T.ty e, bndS sl lo 0, bndS sl hi n with
    | some j, some (p, l), some (q, h) => bif j.size.beq k then some (oand (oand p q) (some (l ≤ h ∧ h ≤ n)), .sl k (h - l) (fun i => f (l + i))) else none
    | _, _, _ => none
  | _, _ => none
def lenS (σ : SS) (d : TypeDesc) (c : Sc) : Option Int := match d, c with
  | .string, .str s => some s.length
  | .slice _, .nils => some 0
  | .slice _, .sl _ n _ => some n
  | .slice _, .ref n 0 => match lk n σ.ob with
    | some (.row _ _ m _) => some m
    | _ => none
  | _, _ => none
def convS (S D : TypeDesc) (c : Sc) : Option Sc := match S, D, c with
  | _, .int k, .int _ n => some (.int k (k.wrap n))
  | .string, .string, .str s => some (.str s)
  | _, _, _ => none
def unS (op : UnOp) (c : Sc) : Option Sc := match op, c with
  | .not, .bool b => some (.bool (!b))
  | .neg, .int k n => some (.int k (k.wrap (0 - n)))
  | _, _ => none
def callS (T : Tab) (σ : SS) (b : Builtin) (xs : List Operand) (ts : List TypeId) : Option Sc := match b, xs, ts with
  | .len, [x], [t] => match T.ty t, one σ.sl x with
    | some i, some c => match lenS σ i.desc c with
      | some n => some (.int .i64 n)
      | none => none
    | _, _ => none
  | .max, [x, y], _ => match one σ.sl x, one σ.sl y with
    | some (.int k a), some (.int _ b) => some (.int k (if b > a then b else a))
    | _, _ => none
  | .min, [x, y], _ => match one σ.sl x, one σ.sl y with
    | some (.int k a), some (.int _ b) => some (.int k (if b < a then b else a))
    | _, _ => none
  | _, _, _ => none
def partsS (sl : List (Nat × Sv)) : List Operand → Option (List Sp)
  | [] => some []
  | x :: l => match opd sl x, partsS sl l with
    | some (.val p), some ps => some (p :: ps)
    | _, _ => none
def fpartsS (sl : List (Nat × Sv)) : List (Nat × Operand) → Option (List (Nat × Sp))
  | [] => some []
  | (i, x) :: l => match opd sl x, fpartsS sl l with
    | some (.val p), some ps => some ((i, p) :: ps)
    | _, _ => none
def Sp.cells : Sp → List Sc
  | .one c => [c]
  | .agg cs => cs
def setS (cs : List Sc) (off : Nat) (new : List Sc) : List Sc := cs.take off ++ new ++ cs.drop (off + new.length)
def fillS (place : Nat → Option (Nat × Nat)) (cs : List Sc) : List (Nat × Sp) → Option (List Sc)
  | [] => some cs
  | (i, p) :: r => match place i with
    | some (off, size) => bif p.cells.length.beq size && (off + size).ble cs.length then fillS place (setS cs off p.cells) r else none
    | none => none
def zeroS : List Xv → Option (List Sc)
  | [] => some []
  | x :: l => match ofX x, zeroS l with
    | some c, some cs => some (c :: cs)
    | _, _ => none
def buildS (T : Tab) (sl : List (Nat × Sv)) (t : TypeId) (parts : List (Nat × Operand)) : Option (List Sc) := match T.ty t, fpartsS sl parts with
  | some i, some ps => match zeroS i.zero, i.desc with
    | some zc, .struct fs => match placesX T fs.toList with
      | some l => fillS (fun j => l[j]?) zc ps
      | none => none
    | some zc, .array _ e => match T.ty e with
      | some j => fillS (fun i => some (i * j.size, j.size)) zc ps
      | none => none
    | _, _ => none
  | _, _ => none
def refsS : List Sp → Option (List Nat)
  | [] => some []
  | .one (.ref n 0) :: l => match refsS l with
    | some ns => some (n :: ns)
    | none => none
  | _ :: _ => none

def pickS (b : Bool) (x y : Sv) : Option (Option Prop × Sv) := match x, y with
  | .opt e (.one (.bool r)), .val (.one (.bool false)) => some (some ((b == true) = e), .val (.one (.bool (b && r))))
  | .val (.one (.bool true)), .opt e (.one (.bool r)) => some (some ((b == false) = e), .val (.one (.bool (b || r))))
  | _, _ => none

/-- An operation that gives a value: what it asks, and the value. -/
def valS (T : Tab) (σ : SS) : Op → Option (Option Prop × Sv)
  | .move x => match opd σ.sl x with | some v => some (none, v) | none => none
  | .assign x => match opd σ.sl x with | some v => some (none, v) | none => none
  | .pick c x y => match one σ.sl c, opd σ.sl x, opd σ.sl y with
    | some (.bool b), some u, some v => pickS b u v
    | _, _, _ => none
  | .binOp op t x y _ => match opd σ.sl x, opd σ.sl y with
    | some (.val p), some (.val q) => match binS T op t p q with
      | some (o, c) => some (o, .val (.one c))
      | none => none
    | _, _ => none
  | .unOp op _ x => match one σ.sl x with
    | some c => match unS op c with | some c => some (none, .val (.one c)) | none => none
    | none => none
  | .convert s d x => match T.ty s, T.ty d, one σ.sl x with
    | some i, some j, some c => match convS i.desc j.desc c with | some c => some (none, .val (.one c)) | none => none
    | _, _, _ => none
  | .extract x i => match opd σ.sl x with
    | some (.tup l) => match l[i]? with | some p => some (none, .val p) | none => none
    | _ => none
  | .field t x i => match T.ty t, opd σ.sl x with
    | some j, some (.val (.agg cs)) => match j.desc with
      | .struct fs => match fs[i]? with
        | some f => match T.ty f.type with
          | some k => okV (partS k.agg k.size f.offset cs)
          | none => none
        | none => none
      | _ => none
    | _, _ => none
  | .index t x y => match T.ty t, opd σ.sl x, one σ.sl y with
    | some i, some (.val p), some (.int _ n) => indexS T i.desc p n
    | _, _, _ => none
  | .slice t x lo hi none => match T.ty t, one σ.sl x with
    | some i, some c => match sliceS T σ.sl i.desc c lo hi with | some (o, c) => some (o, .val (.one c)) | none => none
    | _, _ => none
  | .load t x => match one σ.sl x with
    | some c => loadS T σ t c
    | none => none
  | .fieldAddr t x i => match T.ty t, one σ.sl x with
    | some j, some c => match j.desc with
      | .struct fs => match fs[i]? with
        | some f => match T.ty f.type with
          | some k => bif k.size.beq 0 then none else match fieldAddrS σ f c with | some c => some (none, .val (.one c)) | none => none
          | none => none
        | none => none
      | _ => none
    | _, _ => none
  | .indexAddr t x y => match T.ty t, one σ.sl x, one σ.sl y with
    | some i, some c, some (.int _ n) => match indexAddrS T σ i.desc c n with | some (o, c) => some (o, .val (.one c)) | none => none
    | _, _, _ => none
  | .build t parts => match buildS T σ.sl t parts.toList with | some cs => some (none, .val (.agg cs)) | none => none
  | .makeFunc (.func f) first caps => bif first.isEmpty then match partsS σ.sl caps.toList with
      | some ps => match refsS ps with
        | some ns => some (none, .val (.one (.clo f (ns.map fun n => .ref n 0))))
        | none => none
      | none => none
    else none
  | .call ⟨.builtin b, xs, ts⟩ => match callS T σ b xs.toList ts.toList with | some c => some (none, .val (.one c)) | none => none
  | _ => none
end -- nc
end Go.Proofs.YtgjbehfdjnekdaaGreatDoor.Sy
end
section
/- Symbolic states: operations that give a value are right. -/
set_option linter.unusedVariables false
set_option linter.unusedSimpArgs false
namespace Go.Proofs.YtgjbehfdjnekdaaGreatDoor.Sy
open Go.RowKit
open Go.Proofs.YtgjbehfdjnekdaaGreatDoor.Aw
open Go.Proofs.YtgjbehfdjnekdaaGreatDoor.Xc (Tab TabOK XT TyOK Xv Xp toList_ba placesX run_places)
noncomputable section
section
variable {P : Program} {X : Ctx} {T : Tab} {σ : SS} {τ : St} {o : Oper} {d : Nat}

theorem opd1 (hs : SubS σ τ) {x : Operand} {c : Sc} (h : one σ.sl x = some c) : τ.opd x = some (.val (.one c.den)) := opd_den hs (one_opd h)
theorem ba_size (s : List UInt8) : (⟨s.toArray⟩ : ByteArray).size = s.length := by simp [ByteArray.size]
theorem predL_length (l : List Sc) : (predL l).length = l.length := by rw [predL_map]; simp
theorem predL_drop (l : List Sc) (n : Nat) : predL (l.drop n) = (predL l).drop n := by rw [predL_map, predL_map, List.map_drop]
theorem predL_take (l : List Sc) (n : Nat) : predL (l.take n) = (predL l).take n := by rw [predL_map, predL_map, List.map_take]
theorem predL_get {l : List Sc} {i : Nat} {c : Sc} (h : l[i]? = some c) : (predL l)[i]? = some c.pred := by rw [predL_map, List.getElem?_map, h]; rfl
theorem dtL_den (l : List Sc) : (l.map Sc.dt).map Sc.den = (predL l).map .dat := by
  rw [predL_map, List.map_map, List.map_map]
  exact List.map_congr_left fun c _ => dt_den c

theorem partS_agg {size off : Nat} {cs : List Sc} {p : Sp} (h : partS true size off cs = some p) : off + size ≤ cs.length ∧ p = .agg ((cs.drop off).take size) := by
  unfold partS at h
  rw [cond_true] at h
  cases hb : (off + size).ble cs.length with
  | false => rw [hb, cond_false] at h; cases h
  | true => rw [hb, cond_true] at h; injection h with h; exact ⟨Nat.le_of_ble_eq_true hb, h.symm⟩
theorem partS_one {size off : Nat} {cs : List Sc} {p : Sp} (h : partS false size off cs = some p) : ∃ c, cs[off]? = some c ∧ p = .one c := by
  unfold partS at h
  rw [cond_false] at h
  split at h
  · rename_i c hc; injection h with h; exact ⟨c, hc, h.symm⟩
  · cases h
theorem okV_some {q : Option Sp} {p : Option Prop} {v : Sv} (h : okV q = some (p, v)) : ∃ r, q = some r ∧ v = .val r := by
  cases q with
  | none => cases h
  | some r => injection h with h; injection h with h1 h2; exact ⟨r, rfl, h2.symm⟩

theorem step_loadS (hT : TabOK P T) (hs : SubS σ τ) {t : TypeId} {x : Operand} {c : Sc} {p : Option Prop} {v : Sv} (hx : one σ.sl x = some c) (h : loadS T σ t c = some (p, v)) (hp : Holds p) (ho : o.op = .load t x) (hd : o.dst = some d) (hN : d < X.N) :
    StepS P X o τ (τ.put d v.den) := by
  have hx' := opd1 hs hx
  unfold loadS at h
  split at h
  · rename_i i cs hi
    have hA := (hT.ty _ _ hi).agg; have hS := (hT.ty _ _ hi).size
    split at h
    · rename_i r hr
      injection h with h; injection h with h1 h2; subst h2
      cases ha : i.agg with
      | true =>
        rw [ha] at hr hA
        obtain ⟨hle, rfl⟩ := partS_agg hr
        have : Sv.den (.val (Sp.dt (.agg ((cs.drop 0).take i.size)))) = .val (.agg ((predL (cs.take i.size)).map .dat)) := by
          show AV.val (.agg (List.map Sc.den (List.map Sc.dt _))) = _
          rw [dtL_den]; rfl
        rw [this]
        exact step_load_agg hA hS ho hd hN hx' (by rw [predL_length]; omega) (predL_take _ _).symm
      | false =>
        rw [ha] at hr hA
        obtain ⟨c', hc, rfl⟩ := partS_one hr
        have : Sv.den (.val (Sp.dt (.one c'))) = D c'.pred := by show AV.val (.one (Sc.den (Sc.dt c'))) = _; rw [dt_den]
        rw [this]
        exact step_load_one hA ho hd hN hx' (predL_get hc)
    · cases h
  · rename_i i n off hi
    have hA := (hT.ty _ _ hi).agg; have hS := (hT.ty _ _ hi).size
    split at h
    · rename_i T' cs hl
      obtain ⟨r, hr, rfl⟩ := okV_some h
      have hb := hs.ob _ _ hl
      cases ha : i.agg with
      | true =>
        rw [ha] at hr hA
        obtain ⟨hle, rfl⟩ := partS_agg hr
        exact step_load_box hA hS ho hd hN hx' hb (by simpa using hle) (by rw [← List.map_drop, ← List.map_take])
      | false =>
        rw [ha] at hr hA
        obtain ⟨c', hc, rfl⟩ := partS_one hr
        exact step_load_box1 hA ho hd hN hx' hb (by rw [List.getElem?_map, hc]; rfl)
    · cases h
  · rename_i i n q k j hi
    have hA := (hT.ty _ _ hi).agg; have hS := (hT.ty _ _ hi).size
    split at h
    · rename_i T' k' m f hl
      have hb := hs.ob _ _ hl
      cases hk : k.beq k' with
      | false => rw [hk, cond_false] at h; cases h
      | true =>
        rw [hk, cond_true] at h
        have := Nat.eq_of_beq_eq_true hk; subst this
        split at h
        · rename_i r hr
          injection h with h; injection h with h1 h2; subst h1; subst h2
          have hp : q < m := hp
          cases ha : i.agg with
          | true =>
            rw [ha] at hr hA
            obtain ⟨hle, rfl⟩ := partS_agg hr
            have : Sv.den (.val (Sp.dt (.agg (((f q).drop j).take i.size)))) = .val (.agg ((predL (((f q).drop j).take i.size)).map .dat)) := by
              show AV.val (.agg (List.map Sc.den (List.map Sc.dt _))) = _
              rw [dtL_den]
            rw [this]
            exact step_load_el hA hS ho hd hN hx' hb rfl (els_at hp) (by rw [predL_length]; omega) (by rw [predL_take, predL_drop])
          | false =>
            rw [ha] at hr hA
            obtain ⟨c', hc, rfl⟩ := partS_one hr
            have : Sv.den (.val (Sp.dt (.one c'))) = D c'.pred := by show AV.val (.one (Sc.den (Sc.dt c'))) = _; rw [dt_den]
            rw [this]
            exact step_load_el1 hA ho hd hN hx' hb rfl (els_at hp) (predL_get hc)
        · cases h
    · cases h
  · cases h

theorem step_fieldAddrS (hT : TabOK P T) (hs : SubS σ τ) {t : TypeId} {x : Operand} {fs : Array Field} {f : Field} {i : Nat} {j k : XT} {c r : Sc} (hj : T.ty t = some j) (hx : one σ.sl x = some c) (hfs : j.desc = .struct fs) (hf : fs[i]? = some f) (hk : T.ty f.type = some k) (hz : k.size.beq 0 = false)
    (h : fieldAddrS σ f c = some r) (ho : o.op = .fieldAddr t x i) (hd : o.dst = some d) (hN : d < X.N) : StepS P X o τ (τ.put d (.val (.one r.den))) := by
  have hx' := opd1 hs hx
  have hu := (hT.ty _ _ hj).und
  rw [hfs] at hu
  have hS : ∀ w, (sizeOf f.type).run P w = .ok (k.size - 1 + 1) w := fun w => by
    have : k.size ≠ 0 := fun e => by rw [e] at hz; simp at hz
    rw [(hT.ty _ _ hk).size]; congr 1; omega
  unfold fieldAddrS at h
  split at h
  · injection h with h; subst h
    exact step_field_dat hu hf hS ho hd hN hx' (predL_drop _ _).symm
  · split at h
    · rename_i hl
      injection h with h; subst h
      exact step_field_box hu hf hS ho hd hN hx' (hs.ob _ _ hl) rfl
    · cases h
  · rename_i n i' k' j'
    injection h with h; subst h
    exact step_field_el hu hf hS ho hd hN hx' (Nat.add_assoc _ _ _)
  · cases h

theorem step_indexAddrS (hT : TabOK P T) (hs : SubS σ τ) {t : TypeId} {x y : Operand} {i : XT} {k : IntKind} {n : Int} {c r : Sc} {p : Option Prop} (hi : T.ty t = some i) (hx : one σ.sl x = some c) (hy : one σ.sl y = some (.int k n)) (h : indexAddrS T σ i.desc c n = some (p, r)) (hp : Holds p)
    (ho : o.op = .indexAddr t x y) (hd : o.dst = some d) (hN : d < X.N) : StepS P X o τ (τ.put d (.val (.one r.den))) := by
  have hx' := opd1 hs hx
  have hy' := opd1 hs hy
  have hu := (hT.ty _ _ hi).und
  unfold indexAddrS at h
  split at h
  · rename_i e k' m f hd'
    rw [hd'] at hu
    split at h
    · rename_i j hj
      have hS := (hT.ty _ _ hj).size
      cases hk : j.size.beq k' with
      | false => rw [hk, cond_false] at h; cases h
      | true =>
        rw [hk, cond_true] at h
        have e := Nat.eq_of_beq_eq_true hk
        injection h with h; injection h with h1 h2; subst h1; subst h2
        obtain ⟨h0, h1⟩ := (hp : 0 ≤ n ∧ n.toNat < m)
        exact step_elem (k := k') hu (by rw [← e]; exact hS) ho hd hN hx' hy' h0 (els_at h1)
    · cases h
  · rename_i e n' hd'
    rw [hd'] at hu
    split at h
    · rename_i j T' k' m f hj hl
      have hS := (hT.ty _ _ hj).size
      cases hk : j.size.beq k' with
      | false => rw [hk, cond_false] at h; cases h
      | true =>
        rw [hk, cond_true] at h
        have e := Nat.eq_of_beq_eq_true hk
        injection h with h; injection h with h1 h2; subst h1; subst h2
        obtain ⟨h0, h1⟩ := (hp : 0 ≤ n ∧ n.toNat < m)
        exact step_elem_row (k := k') hu (by rw [← e]; exact hS) ho hd hN hx' hy' (hs.ob _ _ hl) h0 (by rw [els_length]; exact h1) rfl
    · cases h
  · rename_i len e n' off hd'
    rw [hd'] at hu
    split at h
    · rename_i j T' cs hj hl
      injection h with h; injection h with h1 h2; subst h1; subst h2
      obtain ⟨h0, h1⟩ := (hp : 0 ≤ n ∧ n < len)
      exact step_elem_box hu (hT.ty _ _ hj).size ho hd hN hx' hy' h0 h1 (hs.ob _ _ hl) rfl
    · cases h
  · cases h

theorem step_indexS (hT : TabOK P T) (hs : SubS σ τ) {t : TypeId} {x y : Operand} {i : XT} {k : IntKind} {n : Int} {q : Sp} {v : Sv} {p : Option Prop} (hi : T.ty t = some i) (hx : opd σ.sl x = some (.val q)) (hy : one σ.sl y = some (.int k n)) (h : indexS T i.desc q n = some (p, v)) (hp : Holds p)
    (ho : o.op = .index t x y) (hd : o.dst = some d) (hN : d < X.N) : StepS P X o τ (τ.put d v.den) := by
  have hx' := opd_den hs hx
  have hy' := opd1 hs hy
  have hu := (hT.ty _ _ hi).und
  unfold indexS at h
  split at h
  · rename_i s hd'
    rw [hd'] at hu
    injection h with h; injection h with h1 h2; subst h1; subst h2
    obtain ⟨h0, h1⟩ := (hp : 0 ≤ n ∧ n.toNat < s.length)
    refine step_byte (s := ⟨s.toArray⟩) hu ho hd hN hx' hy' h0 ?_
    rw [toList_ba, List.getElem?_eq_getElem h1, List.getD_eq_getElem?_getD, List.getElem?_eq_getElem h1]; rfl
  · rename_i len e cs hd'
    rw [hd'] at hu
    split at h
    · rename_i j hj
      split at h
      · rename_i r hr
        injection h with h; injection h with h1 h2; subst h1; subst h2
        obtain ⟨h0, h1⟩ := (hp : 0 ≤ n ∧ n < len)
        have hA := (hT.ty _ _ hj).agg; have hS := (hT.ty _ _ hj).size
        refine step_val hd hN fun ι F a w hR => ?_
        obtain ⟨vs, hv, hl, hh⟩ := hR.opd hx'
        have h2 : a.eval y = .int k n := (hR.opd hy').1
        have hln : vs.toList.length = vs.size := by simp
        cases ha : j.agg with
        | true =>
          rw [ha] at hr hA
          obtain ⟨hle, rfl⟩ := partS_agg hr
          refine ⟨.agg (vs.extract (n.toNat * j.size) (n.toNat * j.size + j.size)), by unfold execOp; simp [ho, hv, h2, Instr.index, asIntOf, run_underlying hu, part, hA, hS, h0, h1], _, rfl, ?_, fun q c u hc hu' => ?_⟩
          · simp only [List.length_map, List.length_take, List.length_drop, Array.length_toList, Array.size_extract]
            simp only [List.length_map] at hl
            omega
          · rw [List.getElem?_map] at hc
            obtain ⟨c', hc', rfl⟩ := Option.map_eq_some_iff.1 hc
            simp only [Array.toList_extract, List.extract_eq_take_drop, List.getElem?_take, List.getElem?_drop] at hc' hu'
            split at hc'
            · rw [if_pos (by omega)] at hu'
              exact hh _ _ u (by rw [List.getElem?_map, hc']; rfl) hu'
            · cases hc'
        | false =>
          rw [ha] at hr hA
          obtain ⟨c', hc, rfl⟩ := partS_one hr
          have hlt : n.toNat * j.size < vs.size := by
            have : n.toNat * j.size < cs.length := by rcases Nat.lt_or_ge (n.toNat * j.size) cs.length with h | h; exact h; simp [List.getElem?_eq_none h] at hc
            simp only [List.length_map] at hl
            omega
          refine ⟨vs[n.toNat * j.size], by unfold execOp; simp [ho, hv, h2, Instr.index, asIntOf, run_underlying hu, part, hA, hS, h0, h1, hlt], hh _ _ _ (by rw [List.getElem?_map, hc]; rfl) (by simp [hlt])⟩
      · cases h
    · cases h
  · cases h

theorem bndS_opt (hs : SubS σ τ) {x : Option Operand} {dflt v : Nat} {p : Option Prop} (h : bndS σ.sl x dflt = some (p, v)) (hp : Holds p) : optB τ x dflt v := by
  unfold bndS at h
  split at h
  · injection h with h; injection h with h1 h2; exact h2.symm
  · rename_i y
    split at h
    · rename_i k n hy
      injection h with h; injection h with h1 h2; subst h1
      exact ⟨k, n, opd1 hs hy, hp, h2⟩
    · cases h
theorem els_sub {n l h : Nat} {f : Nat → List Sc} (h1 : l ≤ h) (h2 : h ≤ n) : ((els n f).take h).drop l = els (h - l) (fun i => f (l + i)) := by
  refine List.ext_getElem? fun i => ?_
  rw [List.getElem?_drop, List.getElem?_take]
  rcases Nat.lt_or_ge (l + i) h with e | e
  · rw [if_pos e, els_at (by omega), els_at (by omega)]
  · rw [if_neg (by omega), List.getElem?_eq_none (by rw [els_length]; omega)]
theorem step_sliceS (hT : TabOK P T) (hs : SubS σ τ) {t : TypeId} {x : Operand} {lo hi : Option Operand} {i : XT} {c r : Sc} {p : Option Prop} (hi' : T.ty t = some i) (hx : one σ.sl x = some c) (h : sliceS T σ.sl i.desc c lo hi = some (p, r)) (hp : Holds p)
    (ho : o.op = .slice t x lo hi none) (hd : o.dst = some d) (hN : d < X.N) : StepS P X o τ (τ.put d (.val (.one r.den))) := by
  have hx' := opd1 hs hx
  have hu := (hT.ty _ _ hi').und
  unfold sliceS at h
  split at h
  · rename_i s hd'
    rw [hd'] at hu
    split at h
    · rename_i p1 l p2 h' hl hh
      injection h with h; injection h with h1 h2; subst h1; subst h2
      obtain ⟨hp1, hp2⟩ := oand_holds hp
      obtain ⟨hq1, hq2⟩ := oand_holds hp1
      obtain ⟨e1, e2⟩ := (hp2 : l ≤ h' ∧ h' ≤ s.length)
      refine step_substr (s := ⟨s.toArray⟩) hu ho hd hN hx' (by rw [ba_size]; exact bndS_opt hs hh hq2) (bndS_opt hs hl hq1) e1 (by rw [ba_size]; exact e2) ?_
      show ByteArray.extract _ _ _ = ⟨_⟩
      apply ByteArray.ext
      simp only [ByteArray.data_extract]
      apply Array.ext'
      simp only [Array.toList_extract, List.extract_eq_take_drop]
      rw [List.drop_take]
    · cases h
  · rename_i e k n f hd'
    rw [hd'] at hu
    split at h
    · rename_i j p1 l p2 h' hj hl hh
      cases hk : j.size.beq k with
      | false => rw [hk, cond_false] at h; cases h
      | true =>
        rw [hk, cond_true] at h
        have e := Nat.eq_of_beq_eq_true hk
        injection h with h; injection h with h1 h2; subst h1; subst h2
        obtain ⟨hp1, hp2⟩ := oand_holds hp
        obtain ⟨hq1, hq2⟩ := oand_holds hp1
        obtain ⟨e1, e2⟩ := (hp2 : l ≤ h' ∧ h' ≤ n)
        exact step_sub (k := k) hu (by rw [← e]; exact (hT.ty _ _ hj).size) ho hd hN hx' (by rw [show ((List.range n).map fun i => predL (f i)).length = n from els_length n f]; exact bndS_opt hs hh hq2) (bndS_opt hs hl hq1) e1 (by rw [show ((List.range n).map fun i => predL (f i)).length = n from els_length n f]; exact e2) (els_sub e1 e2)
    · cases h
  · cases h
end
end -- nc
end Go.Proofs.YtgjbehfdjnekdaaGreatDoor.Sy
end
