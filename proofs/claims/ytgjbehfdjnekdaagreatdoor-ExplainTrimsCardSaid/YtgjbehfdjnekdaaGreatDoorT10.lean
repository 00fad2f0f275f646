/- Parts of the proof of one statement: Xc3, Xc4. -/
import Derived.Laws.StructEq
import Derived.Test.YtgjbehfdjnekdaaGreatDoorT09
set_option linter.all false
section
/- A closed run: operations on values that leave the memory alone. -/
set_option linter.unusedVariables false
set_option linter.unusedSimpArgs false
namespace Go.Proofs.YtgjbehfdjnekdaaGreatDoor.Xc
noncomputable section
open Go.RowKit
open Go.Proofs.YtgjbehfdjnekdaaGreatDoor.Aw (Kept nlt nle retv getD_put op_steps add_add eqGuard_int eqGuard_str eqGuard_bool)

abbrev Rd := Operand → Option Xa
def Rd.one (rd : Rd) (x : Operand) : Option Xv := match rd x with | some (.val (.one c)) => some c | _ => none

/-- What is known of the operands. -/
def RdOK (rd : Rd) (E : Env) (U : Us) (a : Act) : Prop := ∀ x v, rd x = some v → v.rel E U (a.eval x)

section
variable {P : Program} {rd : Rd} {E : Env} {U : Us} {a : Act} {w : World} {ty : Nat → Option XT}

theorem RdOK.one (h : RdOK rd E U a) {x : Operand} {c : Xv} (hx : rd.one x = some c) : c.rel E U (a.eval x) := by
  unfold Rd.one at hx
  split at hx
  · rename_i c' hc; injection hx with hx; subst hx; exact h x _ hc
  · cases hx

/-! ### Operators -/
def intV (op : BinOp) (k : IntKind) (a b : Int) : Option Xv :=
  match op with
  | .add => some (.int k (k.wrap (a + b)))
  | .sub => some (.int k (k.wrap (a - b)))
  | .mul => some (.int k (k.wrap (a * b)))
  | .quo => if b = 0 then none else some (.int k (k.wrap (a.tdiv b)))
  | .rem => if b = 0 then none else some (.int k (a.tmod b))
  | .eql => some (.bool (a == b))
  | .neq => some (.bool (a != b))
  | .lss => some (.bool (decide (a < b)))
  | .leq => some (.bool (decide (a ≤ b)))
  | .gtr => some (.bool (decide (a > b)))
  | .geq => some (.bool (decide (a ≥ b)))
  | .and => some (.int k (k.wrap (BitVec.ofInt k.bits a &&& BitVec.ofInt k.bits b).toNat))
  | .or => some (.int k (k.wrap (BitVec.ofInt k.bits a ||| BitVec.ofInt k.bits b).toNat))
  | .xor => some (.int k (k.wrap (BitVec.ofInt k.bits a ^^^ BitVec.ofInt k.bits b).toNat))
  | .andNot => some (.int k (k.wrap (BitVec.ofInt k.bits a &&& ~~~BitVec.ofInt k.bits b).toNat))
  | _ => none
theorem run_intV {op : BinOp} {k : IntKind} {m n : Int} {c : Xv} (h : intV op k m n = some c) (T : TypeId) :
    ∃ u, (binOp op T (.int k m) (.int k n)).run P w = .ok u w ∧ c.rel E U u := by
  cases op <;> simp only [intV, Option.some.injEq, reduceCtorEq] at h
  case quo => split at h; · cases h
              · rename_i hn; injection h with h; subst h; exact ⟨_, by simp [binOp, Op.intDiv, hn], rfl⟩
  case rem => split at h; · cases h
              · rename_i hn; injection h with h; subst h; exact ⟨_, by simp [binOp, Op.intDiv, hn], rfl⟩
  all_goals subst h
  case add => exact ⟨_, by simp [binOp, Op.intArith], rfl⟩
  case sub => exact ⟨_, by simp [binOp, Op.intArith], rfl⟩
  case mul => exact ⟨_, by simp [binOp, Op.intArith], rfl⟩
  case and => exact ⟨_, by simp [binOp, Op.intBits], rfl⟩
  case or => exact ⟨_, by simp [binOp, Op.intBits], rfl⟩
  case xor => exact ⟨_, by simp [binOp, Op.intBits], rfl⟩
  case andNot => exact ⟨_, by simp [binOp, Op.intBits], rfl⟩
  all_goals exact ⟨_, by simp only [binOp, Op.intCmp, ne_eq, not_true_eq_false, if_false, Sem.run_pure], rfl⟩

def shV (op : BinOp) (k : IntKind) (a b : Int) : Option Xv :=
  match op with
  | .shl => if b < 0 then none else some (.int k (k.wrap (a * 2 ^ (min b.toNat k.bits))))
  | .shr => if b < 0 then none else some (.int k (a.fdiv (2 ^ (min b.toNat k.bits))))
  | _ => none
theorem run_shV {op : BinOp} {k j : IntKind} {m n : Int} {c : Xv} (h : shV op k m n = some c) (T : TypeId) :
    ∃ u, (binOp op T (.int k m) (.int j n)).run P w = .ok u w ∧ c.rel E U u := by
  cases op <;> simp only [shV, reduceCtorEq] at h
  case shl => split at h; · cases h
              · rename_i hn; injection h with h; subst h; exact ⟨_, by simp [binOp, Op.shift, hn], rfl⟩
  case shr => split at h; · cases h
              · rename_i hn; injection h with h; subst h; exact ⟨_, by simp [binOp, Op.shift, hn], rfl⟩

def strV (op : BinOp) (s t : List UInt8) : Option Xv :=
  match op with
  | .add => if s.length + t.length ≤ 9223372036854775807 then some (.str (s ++ t)) else none
  | .eql => some (.bool (s == t))
  | .neq => some (.bool (!(s == t)))
  | .lss => some (.bool (Op.bytesLess s t))
  | .leq => some (.bool (Op.bytesLess s t || s == t))
  | .gtr => some (.bool (!(Op.bytesLess s t || s == t)))
  | .geq => some (.bool (!(Op.bytesLess s t)))
  | _ => none
theorem toList_ba (s : List UInt8) : (⟨s.toArray⟩ : ByteArray).toList = s := by rw [ByteArray.toList_eq]
theorem run_strV {op : BinOp} {s t : List UInt8} {c : Xv} (h : strV op s t = some c) (T : TypeId) :
    ∃ u, (binOp op T (.string ⟨s.toArray⟩) (.string ⟨t.toArray⟩)).run P w = .ok u w ∧ c.rel E U u := by
  have hsz : ∀ s : List UInt8, (⟨s.toArray⟩ : ByteArray).size = s.length := fun s => by simp [ByteArray.size]
  cases op <;> simp only [strV, Option.some.injEq, reduceCtorEq] at h
  case add =>
    split at h
    · rename_i hl
      injection h with h; subst h
      have hm : ¬ (((⟨s.toArray⟩ : ByteArray).size + (⟨t.toArray⟩ : ByteArray).size : Nat) : Int) > IntKind.i64.max := by
        have : IntKind.i64.max = 9223372036854775807 := rfl
        rw [hsz, hsz]; omega
      refine ⟨.string ((⟨s.toArray⟩ : ByteArray) ++ ⟨t.toArray⟩), by simp only [binOp, Op.stringOp, if_neg hm, Sem.run_pure], ?_⟩
      show _ = _
      congr 1
    · cases h
  all_goals subst h
  all_goals exact ⟨_, by simp only [binOp, Op.stringOp, toList_ba]; rfl, rfl⟩

/-! ### Equality of plain values -/
def partV (agg : Bool) (size off : Nat) (cs : List Xv) : Option Xp :=
  bif agg then (bif (off + size).ble cs.length then some (.agg ((cs.drop off).take size)) else none) else cs[off]?.map .one
theorem run_partV {T : TypeId} {i : XT} (hi : TyOK P T i) {off : Nat} {cs : List Xv} {p : Xp} (hp : partV i.agg i.size off cs = some p) {vs : Array Value} (hv : cellsRel E U cs vs.toList) : ∃ u, (part T vs off).run P w = .ok u w ∧ p.rel E U u := by
  have hA := hi.agg; have hS := hi.size
  unfold partV at hp
  cases ha : i.agg with
  | true =>
    rw [ha, cond_true] at hp
    cases hb : (off + i.size).ble cs.length with
    | false => rw [hb, cond_false] at hp; cases hp
    | true =>
      rw [hb, cond_true] at hp; injection hp with hp; subst hp
      have hle : off + i.size ≤ cs.length := Nat.le_of_ble_eq_true hb
      have hl := hv.1
      simp only [Array.length_toList] at hl
      refine ⟨.agg (vs.extract off (off + i.size)), by simp [part, hA, ha, hS], _, rfl, ?_, fun j c v hc hv' => ?_⟩
      · simp only [List.length_take, List.length_drop, Array.length_toList, Array.size_extract]; omega
      · simp only [Array.toList_extract, List.extract_eq_take_drop, List.getElem?_take, List.getElem?_drop] at hc hv'
        split at hc
        · rw [if_pos (by omega)] at hv'
          exact hv.2 _ c v hc hv'
        · cases hc
  | false =>
    rw [ha, cond_false] at hp
    obtain ⟨c, hc, rfl⟩ := Option.map_eq_some_iff.1 hp
    have hlt : off < vs.size := by
      have h1 : off < cs.length := by rcases Nat.lt_or_ge off cs.length with h | h; exact h; simp [List.getElem?_eq_none h] at hc
      have := hv.1; simp only [Array.length_toList] at this; omega
    refine ⟨vs[off], by simp [part, hA, ha, hlt], hv.2 off c _ hc (by simp [hlt])⟩

def eqC : TypeDesc → Xv → Xv → Option Bool
  | .bool, .bool a, .bool b => some (a == b)
  | .int _, .int k a, .int j b => if k = j then some (a == b) else none
  | .string, .str a, .str b => some (a == b)
  | .pointer _, .nilp, .nilp => some true
  | .pointer _, .nilp, .ptr _ _ => some false
  | .pointer _, .ptr _ _, .nilp => some false
  | .slice _, .nils, .nils => some true
  | .slice _, .nils, .sl _ _ _ _ _ => some false
  | .slice _, .sl _ _ _ _ _, .nils => some false
  | .map _ _, .nilm, .nilm => some true
  | .map _ _, .nilm, .map _ => some false
  | .map _ _, .map _, .nilm => some false
  | .interface _, .nili, .nili => some true
  | .func _ _ _, .nilf, .nilf => some true
  | .func _ _ _, .nilf, .fn0 _ => some false
  | .func _ _ _, .fn0 _, .nilf => some false
  | _, _, _ => none
theorem run_eqC {t : TypeId} {ds : TypeDesc} (hu : P.underlying t = some ds) {x y : Xv} {r : Bool} (h : eqC ds x y = some r) {u v : Value} (hx : x.rel E U u) (hy : y.rel E U v) (d : Nat) : (Op.equalIn (d + 1) t u v).run P w = .ok r w := by
  unfold eqC at h
  split at h
  all_goals first
    | cases h; done
    | skip
  · cases hx; cases hy; injection h with h; subst h; simp [Op.equalIn, run_underlying hu]
  · cases hx; cases hy
    split at h
    · rename_i hk; subst hk; injection h with h; subst h; simp [Op.equalIn, run_underlying hu]
    · cases h
  · cases hx; cases hy; injection h with h; subst h; simp only [Op.equalIn, Sem.run_bind, run_underlying hu, Result.andThen_ok, Sem.run_pure, beq_toListBytes, toList_ba]
  · cases hx; cases hy; injection h with h; subst h; simp [Op.equalIn, run_underlying hu]
  · cases hx; obtain ⟨_, b, o, _, rfl⟩ := hy; injection h with h; subst h; simp [Op.equalIn, run_underlying hu]
  · obtain ⟨_, b, o, _, rfl⟩ := hx; cases hy; injection h with h; subst h; simp [Op.equalIn, run_underlying hu]
  · cases hx; cases hy; injection h with h; subst h; simp [Op.equalIn, run_underlying hu]
  · cases hx; obtain ⟨_, b, o, o2, cap, _, rfl, _⟩ := hy; injection h with h; subst h; simp [Op.equalIn, run_underlying hu]
  · obtain ⟨_, b, o, o2, cap, _, rfl, _⟩ := hx; cases hy; injection h with h; subst h; simp [Op.equalIn, run_underlying hu]
  · cases hx; cases hy; injection h with h; subst h; simp [Op.equalIn, run_underlying hu]
  · cases hx; obtain ⟨_, b, _, rfl⟩ := hy; injection h with h; subst h; simp [Op.equalIn, run_underlying hu]
  · obtain ⟨_, b, _, rfl⟩ := hx; cases hy; injection h with h; subst h; simp [Op.equalIn, run_underlying hu]
  · cases hx; cases hy; injection h with h; subst h; simp [Op.equalIn, run_underlying hu]
  · cases hx; cases hy; injection h with h; subst h; simp [Op.equalIn, run_underlying hu]
  · cases hx; cases hy; injection h with h; subst h; simp [Op.equalIn, run_underlying hu]
  · cases hx; cases hy; injection h with h; subst h; simp [Op.equalIn, run_underlying hu]

end
end -- nc
end Go.Proofs.YtgjbehfdjnekdaaGreatDoor.Xc
end
section
/- A closed run: equality of structs, and the operations on values together. -/
set_option linter.unusedVariables false
set_option linter.unusedSimpArgs false
namespace Go.Proofs.YtgjbehfdjnekdaaGreatDoor.Xc
noncomputable section
open Go.RowKit
open Go.Proofs.YtgjbehfdjnekdaaGreatDoor.Aw (Kept nlt nle retv getD_put op_steps add_add eqGuard_int eqGuard_str eqGuard_bool)

/-- What equality of a struct type needs. -/
def EqOK (P : Program) (t : TypeId) : Prop := P.stoodInHeld t = false ∧ P.eqGuardType P.depth t = false

/-- What is known of the program: its types, the struct types that are compared, its functions. -/
structure Tab where
  ty : Nat → Option XT
  eo : Nat → Bool
  fn : Nat → Option Func
structure TabOK (P : Program) (T : Tab) : Prop where
  ty : ∀ t i, T.ty t = some i → TyOK P t i
  eo : ∀ t, T.eo t = true → EqOK P t
  fn : ∀ f g, T.fn f = some g → P.funcs[f]? = some g ∧ Enters P f

def eqF (T : Tab) (eq : TypeId → Xp → Xp → Option Bool) (xs ys : List Xv) : List Field → Option Bool
  | [] => some true
  | f :: fs => if f.name ≠ "_" then
      match T.ty f.type with
      | some i => match partV i.agg i.size f.offset xs, partV i.agg i.size f.offset ys with
        | some p, some q => match eq f.type p q with
          | some true => eqF T eq xs ys fs
          | some false => some false
          | none => none
        | _, _ => none
      | none => none
    else none
def eqT (T : Tab) : Nat → TypeId → Xp → Xp → Option Bool
  | 0, _, _, _ => none
  | d + 1, t, .one x, .one y => match T.ty t with | some i => eqC i.desc x y | none => none
  | d + 1, t, .agg xs, .agg ys => match T.ty t with
    | some i => match i.desc with
      | .struct fs => bif T.eo t then eqF T (eqT T d) xs ys fs.toList else none
      | _ => none
    | none => none
  | _ + 1, _, _, _ => none

section
variable {P : Program} {rd : Rd} {E : Env} {U : Us} {a : Act} {w : World} {T : Tab}

theorem run_eqF (hT : TabOK P T) {d : Nat} {eq : TypeId → Xp → Xp → Option Bool} (ih : ∀ t p q r u v, eq t p q = some r → p.rel E U u → q.rel E U v → (Op.equalIn d t u v).run P w = .ok r w)
    {xs ys : List Xv} {us vs : Array Value} (hx : cellsRel E U xs us.toList) (hy : cellsRel E U ys vs.toList) : ∀ {fs : List Field} {r : Bool}, eqF T eq xs ys fs = some r → (Op.eqFields d us vs fs).run P w = .ok r w
  | [], r, h => by simp only [eqF, Option.some.injEq] at h; subst h; simp [Op.eqFields]
  | f :: fs, r, h => by
    simp only [eqF] at h
    split at h
    · rename_i hn
      split at h
      · rename_i i hi
        split at h
        · rename_i p q hp hq
          obtain ⟨u, hu, hur⟩ := run_partV (w := w) (hT.ty _ _ hi) hp hx
          obtain ⟨v, hv, hvr⟩ := run_partV (w := w) (hT.ty _ _ hi) hq hy
          split at h
          · rename_i he
            have := ih _ _ _ _ _ _ he hur hvr
            simp only [Op.eqFields, if_pos hn, Sem.run_bind, hu, hv, this, Result.andThen_ok, Bool.not_true, Bool.false_eq_true, if_false]
            exact run_eqF hT ih hx hy h
          · rename_i he
            have := ih _ _ _ _ _ _ he hur hvr
            injection h with h; subst h
            simp only [Op.eqFields, if_pos hn, Sem.run_bind, hu, hv, this, Result.andThen_ok, Bool.not_false, if_true, Sem.run_pure]
          · cases h
        · cases h
      · cases h
    · cases h
theorem run_eqT (hT : TabOK P T) : ∀ (d m : Nat) {t : TypeId} {p q : Xp} {r : Bool} {u v : Value}, eqT T d t p q = some r → p.rel E U u → q.rel E U v → (Op.equalIn (d + m) t u v).run P w = .ok r w
  | 0, m, t, p, q, r, u, v, h, _, _ => by cases p <;> cases q <;> simp [eqT] at h
  | d + 1, m, t, p, q, r, u, v, h, hx, hy => by
    rw [show d + 1 + m = (d + m) + 1 by omega]
    cases p with
    | one x =>
      cases q with
      | one y =>
        simp only [eqT] at h
        split at h
        · rename_i i hi; exact run_eqC (hT.ty _ _ hi).und h hx hy _
        · cases h
      | agg ys => simp [eqT] at h
    | agg xs =>
      cases q with
      | one y => simp [eqT] at h
      | agg ys =>
        simp only [eqT] at h
        split at h
        · rename_i i hi
          split at h
          · rename_i fs hfs
            cases he : T.eo t with
            | false => rw [he, cond_false] at h; cases h
            | true =>
              rw [he, cond_true] at h
              obtain ⟨us, rfl, hxs⟩ := hx
              obtain ⟨vs, rfl, hys⟩ := hy
              have hu := (hT.ty _ _ hi).und
              rw [hfs] at hu
              have hf : P.fieldsOf t = fs := by simp [Program.fieldsOf, hu]
              rw [run_equalIn_agg w (d + m) t us vs (by rw [hf]; exact hu) (hT.eo t he).1, hf]
              exact run_eqF hT (fun t p q r u v h1 h2 h3 => run_eqT hT d m h1 h2 h3) hxs hys h
          · cases h
        · cases h

def eqP (T : Tab) (t : TypeId) (p q : Xp) : Option Bool := eqT T 50 t p q
theorem run_eqP (hT : TabOK P T) {t : TypeId} {p q : Xp} {r : Bool} {u v : Value} (h : eqP T t p q = some r) (hx : p.rel E U u) (hy : q.rel E U v) : (Op.equal t u v).run P w = .ok r w :=
  run_eqT hT 50 9950 h hx hy

/-! ### The operations -/
def isC : Operand → Bool
  | .const _ => true
  | _ => false
theorem isC_const : ∀ {x : Operand}, isC x = true → ∃ v, x = .const v
  | .const v, _ => ⟨v, rfl⟩
  | .tmp _, h => by simp [isC] at h
  | .global _, h => by simp [isC] at h
  | .func _, h => by simp [isC] at h
def nii : Xv → Bool
  | .nili => true
  | _ => false
def cmpV (op : BinOp) (r : Bool) : Option Xv := match op with
  | .eql => some (.bool r)
  | .neq => some (.bool (!r))
  | _ => none
/-- Kinds that are compared as they are: not numbers, not strings. -/
def plainK : Xv → Bool
  | .int _ _ => false
  | .str _ => false
  | _ => true

def binV (T : Tab) (op : BinOp) (t : TypeId) (x y : Operand) (p q : Xp) : Option Xv :=
  match p, q with
  | .one (.int k a), .one (.int j b) => (match op with
    | .shl => shV .shl k a b
    | .shr => shV .shr k a b
    | op => if k = j then intV op k a b else none)
  | .one (.str s), .one (.str t) => strV op s t
  | .one x', .one y' => bif plainK x' && plainK y' && (!(nii x') || isC x || isC y) then
      (match T.ty t with
      | some i => match eqC i.desc x' y' with
        | some r => cmpV op r
        | none => none
      | none => none) else none
  | .agg xs, .agg ys => bif T.eo t then (match eqP T t (.agg xs) (.agg ys) with
      | some r => cmpV op r
      | none => none) else none
  | _, _ => none

theorem run_cmp {op : BinOp} {t : TypeId} {x y : Operand} {u v : Value} {r : Bool} {c : Xv} (hc : cmpV op r = some c) (he : (Op.equal t u v).run P w = .ok r w) (hg : (eqGuard op t x y u v).run P w = .ok () w)
    (hb : binOp op t u v = match op with | .eql => (do pure (.bool (← Op.equal t u v)) : Sem Value) | .neq => (do pure (.bool (!(← Op.equal t u v))) : Sem Value) | _ => binOp op t u v) :
    ∃ z, (do eqGuard op t x y u v; binOp op t u v : Sem Value).run P w = .ok z w ∧ c.rel E U z := by
  cases op <;> simp only [cmpV, Option.some.injEq, reduceCtorEq] at hc
  · subst hc
    simp only at hb
    exact ⟨.bool r, by rw [Sem.run_bind, hg, hb]; simp [he], rfl⟩
  · subst hc
    simp only at hb
    exact ⟨.bool (!r), by rw [Sem.run_bind, hg, hb]; simp [he], rfl⟩

theorem run_plain {op : BinOp} {t : TypeId} {x y : Operand} {x' y' : Xv} {i : XT} {r : Bool} {c : Xv} (hi : TyOK P t i) (hk : (plainK x' && plainK y' && (!(nii x') || isC x || isC y)) = true) (h : eqC i.desc x' y' = some r) (hc : cmpV op r = some c) {u v : Value}
    (hx : x'.rel E U u) (hy : y'.rel E U v) : ∃ z, (do eqGuard op t x y u v; binOp op t u v : Sem Value).run P w = .ok z w ∧ c.rel E U z := by
  have he : (Op.equal t u v).run P w = .ok r w := run_eqC hi.und h hx hy 9999
  have hop : op = .eql ∨ op = .neq := by cases op <;> simp [cmpV] at hc <;> simp
  unfold eqC at h
  split at h
  all_goals first
    | cases h; done
    | (simp [plainK] at hk; done)
    | skip
  · cases hx; cases hy; exact run_cmp hc he (by rcases hop with rfl | rfl <;> simp [eqGuard]) (by rcases hop with rfl | rfl <;> rfl)
  · cases hx; cases hy; exact run_cmp hc he (by rcases hop with rfl | rfl <;> simp [eqGuard]) (by rcases hop with rfl | rfl <;> rfl)
  · cases hx; obtain ⟨_, b, o, _, rfl⟩ := hy; exact run_cmp hc he (by rcases hop with rfl | rfl <;> simp [eqGuard]) (by rcases hop with rfl | rfl <;> rfl)
  · obtain ⟨_, b, o, _, rfl⟩ := hx; cases hy; exact run_cmp hc he (by rcases hop with rfl | rfl <;> simp [eqGuard]) (by rcases hop with rfl | rfl <;> rfl)
  · cases hx; cases hy; exact run_cmp hc he (by rcases hop with rfl | rfl <;> simp [eqGuard]) (by rcases hop with rfl | rfl <;> rfl)
  · cases hx; obtain ⟨_, b, o, o2, cap, _, rfl, _⟩ := hy; exact run_cmp hc he (by rcases hop with rfl | rfl <;> simp [eqGuard]) (by rcases hop with rfl | rfl <;> rfl)
  · obtain ⟨_, b, o, o2, cap, _, rfl, _⟩ := hx; cases hy; exact run_cmp hc he (by rcases hop with rfl | rfl <;> simp [eqGuard]) (by rcases hop with rfl | rfl <;> rfl)
  · cases hx; cases hy; exact run_cmp hc he (by rcases hop with rfl | rfl <;> simp [eqGuard]) (by rcases hop with rfl | rfl <;> rfl)
  · cases hx; obtain ⟨_, b, _, rfl⟩ := hy; exact run_cmp hc he (by rcases hop with rfl | rfl <;> simp [eqGuard]) (by rcases hop with rfl | rfl <;> rfl)
  · obtain ⟨_, b, _, rfl⟩ := hx; cases hy; exact run_cmp hc he (by rcases hop with rfl | rfl <;> simp [eqGuard]) (by rcases hop with rfl | rfl <;> rfl)
  · cases hx; cases hy
    refine run_cmp hc he ?_ (by rcases hop with rfl | rfl <;> rfl)
    simp only [plainK, nii, Bool.and_true, Bool.not_true, Bool.false_or, Bool.or_eq_true, Bool.true_and] at hk
    have hxy : (∃ v, x = .const v) ∨ ∃ v, y = .const v := by
      rcases hk with hk | hk
      · exact .inl (isC_const hk)
      · exact .inr (isC_const hk)
    rcases hop with rfl | rfl <;> rcases hxy with ⟨v, rfl⟩ | ⟨v, rfl⟩ <;> simp [eqGuard]
  · cases hx; cases hy; exact run_cmp hc he (by rcases hop with rfl | rfl <;> simp [eqGuard]) (by rcases hop with rfl | rfl <;> rfl)
  · cases hx; cases hy; exact run_cmp hc he (by rcases hop with rfl | rfl <;> simp [eqGuard]) (by rcases hop with rfl | rfl <;> rfl)
  · cases hx; cases hy; exact run_cmp hc he (by rcases hop with rfl | rfl <;> simp [eqGuard]) (by rcases hop with rfl | rfl <;> rfl)

theorem run_binV (hT : TabOK P T) {op : BinOp} {t : TypeId} {x y : Operand} {p q : Xp} {c : Xv} (h : binV T op t x y p q = some c) {u v : Value} (hx : p.rel E U u) (hy : q.rel E U v) :
    ∃ z, (do eqGuard op t x y u v; binOp op t u v : Sem Value).run P w = .ok z w ∧ c.rel E U z := by
  unfold binV at h
  split at h
  · cases hx; cases hy
    rename_i k a j b
    have key : ∀ {c : Xv}, (∃ z, (binOp op t (.int k a) (.int j b)).run P w = .ok z w ∧ c.rel E U z) → ∃ z, (do eqGuard op t x y (.int k a) (.int j b); binOp op t (.int k a) (.int j b) : Sem Value).run P w = .ok z w ∧ c.rel E U z := fun ⟨z, hz, hr⟩ =>
      ⟨z, by rw [Sem.run_bind, eqGuard_int, Result.andThen_ok, hz], hr⟩
    split at h
    · exact key (run_shV h t)
    · exact key (run_shV h t)
    · split at h
      · rename_i hk; subst hk; exact key (run_intV h t)
      · cases h
  · cases hx; cases hy
    obtain ⟨z, hz, hr⟩ := run_strV (P := P) (E := E) (U := U) (w := w) h t
    exact ⟨z, by rw [Sem.run_bind, eqGuard_str, Result.andThen_ok, hz], hr⟩
  · rename_i x' y' _ _
    cases hk : (plainK x' && plainK y' && (!(nii x') || isC x || isC y)) with
    | false => rw [hk, cond_false] at h; cases h
    | true =>
      rw [hk, cond_true] at h
      split at h
      · rename_i i hi
        split at h
        · rename_i r hr; exact run_plain (hT.ty _ _ hi) hk hr h hx hy
        · cases h
      · cases h
  · rename_i xs ys
    cases he : T.eo t with
    | false => rw [he, cond_false] at h; cases h
    | true =>
      rw [he, cond_true] at h
      split at h
      · rename_i r hr
        have heq := run_eqP (w := w) hT hr hx hy
        obtain ⟨us, rfl, _⟩ := hx
        obtain ⟨vs, rfl, _⟩ := hy
        have hop : op = .eql ∨ op = .neq := by cases op <;> simp [cmpV] at h <;> simp
        exact run_cmp h heq (run_eqGuard_agg w op t x y us vs (hT.eo t he).2) (by rcases hop with rfl | rfl <;> rfl)
      · cases h
  · cases h
end
end -- nc
end Go.Proofs.YtgjbehfdjnekdaaGreatDoor.Xc
end
