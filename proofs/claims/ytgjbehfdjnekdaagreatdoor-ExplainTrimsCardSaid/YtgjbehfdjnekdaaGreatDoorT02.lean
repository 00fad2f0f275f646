/- Parts of the proof of one statement: Aw3. -/
import Derived.Test.YtgjbehfdjnekdaaGreatDoorT01
set_option linter.all false
section
/- The framework's operations, first part: moves, numbers, strings, fields, reads. -/
set_option linter.unusedVariables false
set_option linter.unusedSimpArgs false
namespace Go.Proofs.YtgjbehfdjnekdaaGreatDoor.Aw
noncomputable section
open Go.RowKit
section
variable {P : Program} {X : Ctx} {σ : St} {o : Oper} {d : Nat}

theorem step_move {x : Operand} {v : AV} (ho : o.op = .move x) (hd : o.dst = some d) (hN : d < X.N) (hx : σ.opd x = some v) : StepS P X o σ (σ.put d v) :=
  step_val hd hN fun ι F a w hr => ⟨a.eval x, by unfold execOp; simp only [ho]; rfl, hr.opd hx⟩
theorem step_assign {x : Operand} {v : AV} (ho : o.op = .assign x) (hd : o.dst = some d) (hN : d < X.N) (hx : σ.opd x = some v) : StepS P X o σ (σ.put d v) :=
  step_val hd hN fun ι F a w hr => ⟨a.eval x, by unfold execOp; simp only [ho]; rfl, hr.opd hx⟩
/-- A value taken for less than is known of it (nil for an empty slice). -/
theorem step_assign_le {x : Operand} {v u : AV} (ho : o.op = .assign x) (hd : o.dst = some d) (hN : d < X.N) (hx : σ.opd x = some v) (hle : v.le u) : StepS P X o σ (σ.put d u) :=
  step_val hd hN fun ι F a w hr => ⟨a.eval x, by unfold execOp; simp only [ho]; rfl, hle _ _ _ _ (hr.opd hx)⟩
theorem step_move_le {x : Operand} {v u : AV} (ho : o.op = .move x) (hd : o.dst = some d) (hN : d < X.N) (hx : σ.opd x = some v) (hle : v.le u) : StepS P X o σ (σ.put d u) :=
  step_val hd hN fun ι F a w hr => ⟨a.eval x, by unfold execOp; simp only [ho]; rfl, hle _ _ _ _ (hr.opd hx)⟩

theorem step_pick {c x y : Operand} {b : Bool} {v : AV} (ho : o.op = .pick c x y) (hd : o.dst = some d) (hN : d < X.N) (hc : σ.opd c = some (D (boolP b)))
    (hx : σ.opd (if b = true then x else y) = some v) : StepS P X o σ (σ.put d v) :=
  step_val hd hN fun ι F a w hr => ⟨a.eval (if b = true then x else y), by
    have hb : a.eval c = .bool b := (hr.opd hc).1
    unfold execOp; simp only [ho, hb, asBool]; cases b <;> rfl, hr.opd hx⟩

def binInt (op : BinOp) (k : IntKind) (a b : Int) : Option Pred :=
  match op with
  | .add => some (intP k (k.wrap (a + b)))
  | .sub => some (intP k (k.wrap (a - b)))
  | .mul => some (intP k (k.wrap (a * b)))
  | .eql => some (boolP (a == b))
  | .neq => some (boolP (a != b))
  | .lss => some (boolP (decide (a < b)))
  | .leq => some (boolP (decide (a ≤ b)))
  | .gtr => some (boolP (decide (a > b)))
  | .geq => some (boolP (decide (a ≥ b)))
  | .and => some (intP k (k.wrap (BitVec.ofInt k.bits a &&& BitVec.ofInt k.bits b).toNat))
  | .or => some (intP k (k.wrap (BitVec.ofInt k.bits a ||| BitVec.ofInt k.bits b).toNat))
  | .xor => some (intP k (k.wrap (BitVec.ofInt k.bits a ^^^ BitVec.ofInt k.bits b).toNat))
  | _ => none

theorem eqGuard_int (op : BinOp) (T : TypeId) (x y : Operand) (k j : IntKind) (a b : Int) (w : World) : (eqGuard op T x y (.int k a) (.int j b)).run P w = .ok () w := by
  unfold eqGuard; cases op <;> simp

theorem eqGuard_str (op : BinOp) (T : TypeId) (x y : Operand) (a b : ByteArray) (w : World) : (eqGuard op T x y (.string a) (.string b)).run P w = .ok () w := by
  unfold eqGuard; cases op <;> simp

theorem eqGuard_bool (op : BinOp) (T : TypeId) (x y : Operand) (a b : Bool) (w : World) : (eqGuard op T x y (.bool a) (.bool b)).run P w = .ok () w := by
  unfold eqGuard; cases op <;> simp

theorem run_binInt {op : BinOp} {k : IntKind} {a b : Int} {p : Pred} (h : binInt op k a b = some p) (T : TypeId) (w : World) :
    ∃ v, (binOp op T (.int k a) (.int k b)).run P w = .ok v w ∧ (∀ w M, p.p w M v) := by
  cases op <;> simp only [binInt, Option.some.injEq, reduceCtorEq] at h <;> subst h
  case add => exact ⟨_, by simp [binOp, Op.intArith], fun _ _ => rfl⟩
  case sub => exact ⟨_, by simp [binOp, Op.intArith], fun _ _ => rfl⟩
  case mul => exact ⟨_, by simp [binOp, Op.intArith], fun _ _ => rfl⟩
  case and => exact ⟨_, by simp [binOp, Op.intBits], fun _ _ => rfl⟩
  case or => exact ⟨_, by simp [binOp, Op.intBits], fun _ _ => rfl⟩
  case xor => exact ⟨_, by simp [binOp, Op.intBits], fun _ _ => rfl⟩
  all_goals exact ⟨_, by simp only [binOp, Op.intCmp, ne_eq, not_true_eq_false, if_false, Sem.run_pure], fun _ _ => rfl⟩

theorem step_int {op : BinOp} {T T' : TypeId} {x y : Operand} {k : IntKind} {m n : Int} {p q : Pred} (ho : o.op = .binOp op T x y T') (hd : o.dst = some d) (hN : d < X.N)
    (hx : σ.opd x = some (D (intP k m))) (hy : σ.opd y = some (D (intP k n))) (hr : binInt op k m n = some p) (hq : p = q) : StepS P X o σ (σ.put d (D q)) :=
  step_val hd hN fun ι F a w h => by
    subst hq
    have h1 : a.eval x = .int k m := (h.opd hx).1
    have h2 : a.eval y = .int k n := (h.opd hy).1
    obtain ⟨v, hv, hp⟩ := run_binInt (P := P) hr T w
    refine ⟨v, by unfold execOp; simp only [ho, h1, h2, Sem.run_bind, eqGuard_int, Result.andThen_ok, hv, Sem.run_pure], hp _ _, p.one (hp w fun _ _ => False)⟩

def quo (k : IntKind) (a b : Int) : Int := k.wrap (a.tdiv b)
theorem step_quo {T T' : TypeId} {x y : Operand} {k : IntKind} {m n r : Int} (ho : o.op = .binOp .quo T x y T') (hd : o.dst = some d) (hN : d < X.N)
    (hx : σ.opd x = some (D (intP k m))) (hy : σ.opd y = some (D (intP k n))) (hn : n ≠ 0) (hr : k.wrap (m.tdiv n) = r) : StepS P X o σ (σ.put d (D (intP k r))) :=
  step_val hd hN fun ι F a w h => by
    have h1 : a.eval x = .int k m := (h.opd hx).1
    have h2 : a.eval y = .int k n := (h.opd hy).1
    refine ⟨.int k r, by unfold execOp; simp [ho, h1, h2, eqGuard_int, binOp, Op.intDiv, hn, hr], rfl, rfl⟩
theorem step_rem {T T' : TypeId} {x y : Operand} {k : IntKind} {m n r : Int} (ho : o.op = .binOp .rem T x y T') (hd : o.dst = some d) (hN : d < X.N)
    (hx : σ.opd x = some (D (intP k m))) (hy : σ.opd y = some (D (intP k n))) (hn : n ≠ 0) (hr : m.tmod n = r) : StepS P X o σ (σ.put d (D (intP k r))) :=
  step_val hd hN fun ι F a w h => by
    have h1 : a.eval x = .int k m := (h.opd hx).1
    have h2 : a.eval y = .int k n := (h.opd hy).1
    refine ⟨.int k r, by unfold execOp; simp [ho, h1, h2, eqGuard_int, binOp, Op.intDiv, hn, hr], rfl, rfl⟩
theorem step_shl {T T' : TypeId} {x y : Operand} {k j : IntKind} {m n r : Int} (ho : o.op = .binOp .shl T x y T') (hd : o.dst = some d) (hN : d < X.N)
    (hx : σ.opd x = some (D (intP k m))) (hy : σ.opd y = some (D (intP j n))) (hn : 0 ≤ n) (hr : k.wrap (m * 2 ^ (min n.toNat k.bits)) = r) : StepS P X o σ (σ.put d (D (intP k r))) :=
  step_val hd hN fun ι F a w h => by
    have h1 : a.eval x = .int k m := (h.opd hx).1
    have h2 : a.eval y = .int j n := (h.opd hy).1
    refine ⟨.int k r, by unfold execOp; simp [ho, h1, h2, eqGuard_int, binOp, Op.shift, show ¬ n < 0 by omega, hr], rfl, rfl⟩
theorem step_shr {T T' : TypeId} {x y : Operand} {k j : IntKind} {m n r : Int} (ho : o.op = .binOp .shr T x y T') (hd : o.dst = some d) (hN : d < X.N)
    (hx : σ.opd x = some (D (intP k m))) (hy : σ.opd y = some (D (intP j n))) (hn : 0 ≤ n) (hr : m.fdiv (2 ^ (min n.toNat k.bits)) = r) : StepS P X o σ (σ.put d (D (intP k r))) :=
  step_val hd hN fun ι F a w h => by
    have h1 : a.eval x = .int k m := (h.opd hx).1
    have h2 : a.eval y = .int j n := (h.opd hy).1
    refine ⟨.int k r, by unfold execOp; simp [ho, h1, h2, eqGuard_int, binOp, Op.shift, show ¬ n < 0 by omega, hr], rfl, rfl⟩

def binStr (op : BinOp) (s t : ByteArray) : Option Pred :=
  match op with
  | .eql => some (boolP (s.toList == t.toList))
  | .neq => some (boolP (!(s.toList == t.toList)))
  | .lss => some (boolP (Op.bytesLess s.toList t.toList))
  | .leq => some (boolP (Op.bytesLess s.toList t.toList || s.toList == t.toList))
  | .gtr => some (boolP (!(Op.bytesLess s.toList t.toList || s.toList == t.toList)))
  | .geq => some (boolP (!(Op.bytesLess s.toList t.toList)))
  | _ => none

theorem run_binStr {op : BinOp} {s t : ByteArray} {p : Pred} (h : binStr op s t = some p) (T : TypeId) (w : World) :
    ∃ v, (binOp op T (.string s) (.string t)).run P w = .ok v w ∧ (∀ w M, p.p w M v) := by
  cases op <;> simp only [binStr, Option.some.injEq, reduceCtorEq] at h <;> subst h
  all_goals exact ⟨_, by simp only [binOp, Op.stringOp]; rfl, fun _ _ => rfl⟩

theorem step_str {op : BinOp} {T T' : TypeId} {x y : Operand} {s t : ByteArray} {p q : Pred} (ho : o.op = .binOp op T x y T') (hd : o.dst = some d) (hN : d < X.N)
    (hx : σ.opd x = some (D (strP s))) (hy : σ.opd y = some (D (strP t))) (hr : binStr op s t = some p) (hq : p = q) : StepS P X o σ (σ.put d (D q)) :=
  step_val hd hN fun ι F a w h => by
    subst hq
    have h1 : a.eval x = .string s := (h.opd hx).1
    have h2 : a.eval y = .string t := (h.opd hy).1
    obtain ⟨v, hv, hp⟩ := run_binStr (P := P) hr T w
    refine ⟨v, by unfold execOp; simp only [ho, h1, h2, Sem.run_bind, eqGuard_str, Result.andThen_ok, hv, Sem.run_pure], hp _ _, p.one (hp w fun _ _ => False)⟩
theorem step_cat {T T' : TypeId} {x y : Operand} {s t : ByteArray} (ho : o.op = .binOp .add T x y T') (hd : o.dst = some d) (hN : d < X.N)
    (hx : σ.opd x = some (D (strP s))) (hy : σ.opd y = some (D (strP t))) (hl : s.size + t.size ≤ 9223372036854775807) : StepS P X o σ (σ.put d (D (strP (s ++ t)))) :=
  step_val hd hN fun ι F a w h => by
    have h1 : a.eval x = .string s := (h.opd hx).1
    have h2 : a.eval y = .string t := (h.opd hy).1
    have hm : ¬ ((s.size + t.size : Nat) : Int) > IntKind.i64.max := by
      have : IntKind.i64.max = 9223372036854775807 := rfl
      omega
    refine ⟨.string (s ++ t), by unfold execOp; simp only [ho, h1, h2, Sem.run_bind, eqGuard_str, Result.andThen_ok, binOp, Op.stringOp, if_neg hm, Sem.run_pure], rfl, rfl⟩

theorem run_eqbool {T : TypeId} (hu : P.underlying T = some .bool) (s t : Bool) (w : World) : (Op.equal T (.bool s) (.bool t)).run P w = .ok (s == t) w := by
  have h : ∀ n, (Op.equalIn (n + 1) T (.bool s) (.bool t)).run P w = .ok (s == t) w := fun n => by simp [Op.equalIn, run_underlying hu]
  exact h 9999

theorem step_eqbool {T T' : TypeId} {x y : Operand} {s t : Bool} (hu : P.underlying T = some .bool) (ho : o.op = .binOp .eql T x y T') (hd : o.dst = some d) (hN : d < X.N)
    (hx : σ.opd x = some (D (boolP s))) (hy : σ.opd y = some (D (boolP t))) : StepS P X o σ (σ.put d (D (boolP (s == t)))) :=
  step_val hd hN fun ι F a w h => by
    have h1 : a.eval x = .bool s := (h.opd hx).1
    have h2 : a.eval y = .bool t := (h.opd hy).1
    refine ⟨.bool (s == t), by unfold execOp; simp only [ho, h1, h2, Sem.run_bind, eqGuard_bool, Result.andThen_ok, binOp, run_eqbool hu, Sem.run_pure], rfl, rfl⟩
theorem step_nebool {T T' : TypeId} {x y : Operand} {s t : Bool} (hu : P.underlying T = some .bool) (ho : o.op = .binOp .neq T x y T') (hd : o.dst = some d) (hN : d < X.N)
    (hx : σ.opd x = some (D (boolP s))) (hy : σ.opd y = some (D (boolP t))) : StepS P X o σ (σ.put d (D (boolP (!(s == t))))) :=
  step_val hd hN fun ι F a w h => by
    have h1 : a.eval x = .bool s := (h.opd hx).1
    have h2 : a.eval y = .bool t := (h.opd hy).1
    refine ⟨.bool (!(s == t)), by unfold execOp; simp only [ho, h1, h2, Sem.run_bind, eqGuard_bool, Result.andThen_ok, binOp, run_eqbool hu, Sem.run_pure], rfl, rfl⟩

theorem step_not {T : TypeId} {x : Operand} {b : Bool} (ho : o.op = .unOp .not T x) (hd : o.dst = some d) (hN : d < X.N) (hx : σ.opd x = some (D (boolP b))) : StepS P X o σ (σ.put d (D (boolP (!b)))) :=
  step_val hd hN fun ι F a w h => by
    have h1 : a.eval x = .bool b := (h.opd hx).1
    refine ⟨.bool (!b), by unfold execOp; simp [ho, h1, Op.unary], rfl, rfl⟩
theorem step_neg {T : TypeId} {x : Operand} {k : IntKind} {n r : Int} (ho : o.op = .unOp .neg T x) (hd : o.dst = some d) (hN : d < X.N) (hx : σ.opd x = some (D (intP k n))) (hr : k.wrap (0 - n) = r) : StepS P X o σ (σ.put d (D (intP k r))) :=
  step_val hd hN fun ι F a w h => by
    have h1 : a.eval x = .int k n := (h.opd hx).1
    refine ⟨.int k r, by unfold execOp; simp only [ho, h1, Op.unary, Op.intArith, hr, Sem.run_bind, Sem.run_pure, Result.andThen_ok], rfl, rfl⟩
theorem step_conv {S T : TypeId} {x : Operand} {k j : IntKind} {n r : Int} {ds : TypeDesc} (hS : P.underlying S = some ds) (hT : P.underlying T = some (.int j)) (ho : o.op = .convert S T x) (hd : o.dst = some d) (hN : d < X.N) (hx : σ.opd x = some (D (intP k n)))
    (hr : j.wrap n = r) : StepS P X o σ (σ.put d (D (intP j r))) :=
  step_val hd hN fun ι F a w h => by
    have h1 : a.eval x = .int k n := (h.opd hx).1
    refine ⟨.int j r, by unfold execOp; simp [ho, h1, convert, run_underlying hS, run_underlying hT, Conv.intToInt, hr], rfl, rfl⟩
theorem step_convstr {S T : TypeId} {x : Operand} {s : ByteArray} {ds : TypeDesc} (hS : P.underlying S = some .string) (hT : P.underlying T = some .string) (ho : o.op = .convert S T x) (hd : o.dst = some d) (hN : d < X.N) (hx : σ.opd x = some (D (strP s))) : StepS P X o σ (σ.put d (D (strP s))) :=
  step_val hd hN fun ι F a w h => by
    have h1 : a.eval x = .string s := (h.opd hx).1
    refine ⟨.string s, by unfold execOp; simp [ho, h1, convert, run_underlying hS, run_underlying hT], rfl, rfl⟩

theorem step_extract {x : Operand} {i : Nat} {l : List Part} {p : Part} (ho : o.op = .extract x i) (hd : o.dst = some d) (hN : d < X.N) (hx : σ.opd x = some (.tup l)) (hi : l[i]? = some p) : StepS P X o σ (σ.put d (.val p)) :=
  step_val hd hN fun ι F a w h => by
    obtain ⟨vs, hv, hl, hh⟩ := h.opd hx
    have hlt : i < vs.size := by
      have : i < l.length := by rcases Nat.lt_or_ge i l.length with h | h; exact h; simp [List.getElem?_eq_none h] at hi
      have h2 : vs.toList.length = vs.size := by simp
      omega
    refine ⟨vs[i], by unfold execOp; simp only [ho, hv, Instr.extract, Array.getElem?_eq_getElem hlt, Sem.run_bind, Sem.run_pure, Result.andThen_ok], hh i p vs[i] hi (by simp [hlt])⟩

/-! ### Reads of what nobody writes -/
theorem add_add (b q i : Nat) : (⟨b, q, none⟩ : Addr).add i = ⟨b, q + i, none⟩ := by
  unfold Addr.add; split
  · rename_i h; subst h; rfl
  · rfl

theorem CellsAt.load {w : World} {M : Cells} {b q : Nat} {ps : List Pred} (h : CellsAt w M b q ps) : 
    ∃ vs : List Value, vs.length = ps.length ∧ (∀ (i : Nat) p v, ps[i]? = some p → vs[i]? = some v → p.p w M v) ∧ (∀ j v, vs[j]? = some v → w.cell? ((⟨b, q, none⟩ : Addr).add j) = some v) := by
  induction ps generalizing q with
  | nil => exact ⟨[], rfl, fun i p v hp => by simp at hp, fun j v hv => by simp at hv⟩
  | cons p ps ih =>
    obtain ⟨c, hm, hc, hp⟩ := h 0 p rfl
    obtain ⟨vs, hl, h1, h2⟩ := ih (q := q + 1) (fun i p' hp' => by
      obtain ⟨c', a1, a2, a3⟩ := h (i + 1) p' (by simpa using hp')
      exact ⟨c', by rw [Nat.add_assoc, Nat.add_comm 1 i]; exact a1, by rw [Nat.add_assoc, Nat.add_comm 1 i]; exact a2, a3⟩)
    refine ⟨c :: vs, by simp [hl], fun i p' v hp' hv => ?_, fun j v hv => ?_⟩
    · cases i with
      | zero => simp only [List.getElem?_cons_zero, Option.some.injEq] at hp' hv; subst hp'; subst hv; exact hp
      | succ i => exact h1 i p' v (by simpa using hp') (by simpa using hv)
    · cases j with
      | zero => simp only [List.getElem?_cons_zero, Option.some.injEq] at hv; subst hv; rw [add_add]; exact hc
      | succ j =>
        have := h2 j v (by simpa using hv)
        rw [add_add] at this ⊢
        rw [show q + (j + 1) = q + 1 + j by omega]
        exact this

theorem CellsAt.take {w : World} {M : Cells} {b q : Nat} {ps : List Pred} (h : CellsAt w M b q ps) (n : Nat) : CellsAt w M b q (ps.take n) := fun i p hp => by
  rw [List.getElem?_take] at hp
  split at hp
  · exact h i p hp
  · cases hp
theorem CellsAt.drop {w : World} {M : Cells} {b q : Nat} {ps : List Pred} (h : CellsAt w M b q ps) (n : Nat) : CellsAt w M b (q + n) (ps.drop n) := fun i p hp => by
  rw [List.getElem?_drop] at hp
  obtain ⟨c, h1, h2, h3⟩ := h (n + i) p hp
  exact ⟨c, by rw [Nat.add_assoc]; exact h1, by rw [Nat.add_assoc]; exact h2, h3⟩

/-- A read of a struct (an array) that nobody writes. -/
theorem step_load_agg {T : TypeId} {x : Operand} {k : Nat} {ps qs : List Pred} (hA : ∀ w, (isAgg T).run P w = .ok true w) (hS : ∀ w, (sizeOf T).run P w = .ok k w) (ho : o.op = .load T x) (hd : o.dst = some d) (hN : d < X.N)
    (hx : σ.opd x = some (D (ptrP ps))) (hk : k ≤ ps.length) (hq : ps.take k = qs) : StepS P X o σ (σ.put d (.val (.agg (qs.map .dat)))) :=
  step_val hd hN fun ι F a w h => by
    subst hq
    obtain ⟨⟨b, q, hc, hcs⟩, _⟩ := h.opd hx
    obtain ⟨vs, hl, h1, h2⟩ := (hcs.take k).load
    have hlen : vs.length = k := by rw [hl]; simp [hk]
    have hrun := run_loadCells_list (P := P) w ⟨b, q, none⟩ vs h2
    rw [hlen] at hrun
    refine ⟨.agg vs.toArray, by unfold execOp; simp [ho, hc, Instr.loadAt, Instr.sureAddr, loadVar, hA, hS, hrun], vs.toArray, rfl, by simp [hl], fun i c v hc' hv => ?_⟩
    rw [List.getElem?_map] at hc'
    obtain ⟨p, hp, rfl⟩ := Option.map_eq_some_iff.1 hc'
    have := h1 i p v hp (by simpa using hv)
    exact ⟨this, p.one this⟩
/-- A read of one cell that nobody writes. -/
theorem step_load_one {T : TypeId} {x : Operand} {p : Pred} {ps : List Pred} (hA : ∀ w, (isAgg T).run P w = .ok false w) (ho : o.op = .load T x) (hd : o.dst = some d) (hN : d < X.N)
    (hx : σ.opd x = some (D (ptrP ps))) (hp : ps[0]? = some p) : StepS P X o σ (σ.put d (D p)) :=
  step_val hd hN fun ι F a w h => by
    obtain ⟨⟨b, q, hc, hcs⟩, _⟩ := h.opd hx
    obtain ⟨c, h1, h2, h3⟩ := hcs 0 p hp
    have h2' : w.cell? ⟨b, q, none⟩ = some c := h2
    refine ⟨c, by unfold execOp; simp [ho, hc, Instr.loadAt, Instr.sureAddr, loadVar, hA, h2'], h3, p.one h3⟩

/-- The address of a field of what nobody writes. -/
theorem step_field_dat {T : TypeId} {x : Operand} {j k : Nat} {fs : Array Field} {f : Field} {ps qs : List Pred} (hu : P.underlying T = some (.struct fs)) (hf : fs[j]? = some f) (hS : ∀ w, (sizeOf f.type).run P w = .ok (k + 1) w)
    (ho : o.op = .fieldAddr T x j) (hd : o.dst = some d) (hN : d < X.N) (hx : σ.opd x = some (D (ptrP ps))) (hq : ps.drop f.offset = qs) : StepS P X o σ (σ.put d (D (ptrP qs))) :=
  step_val hd hN fun ι F a w h => by
    subst hq
    obtain ⟨⟨b, q, hc, hcs⟩, _⟩ := h.opd hx
    refine ⟨.pointer (some ⟨b, q + f.offset, none⟩), by unfold execOp; simp [ho, hc, Instr.fieldAt, run_underlying hu, hf, Instr.sureAddr, fieldPlace, hS, add_add], ⟨b, _, rfl, hcs.drop _⟩, rfl⟩

/-- A field of a struct that is a value. -/
theorem step_field {T : TypeId} {x : Operand} {j k : Nat} {fs : Array Field} {f : Field} {cs : List Cell} {c : Cell} (hu : P.underlying T = some (.struct fs)) (hf : fs[j]? = some f) (hA : ∀ w, (isAgg f.type).run P w = .ok false w)
    (ho : o.op = .field T x j) (hd : o.dst = some d) (hN : d < X.N) (hx : σ.opd x = some (.val (.agg cs))) (hq : cs[f.offset]? = some c) : StepS P X o σ (σ.put d (.val (.one c))) :=
  step_val hd hN fun ι F a w h => by
    obtain ⟨vs, hv, hl, hh⟩ := h.opd hx
    have hlt : f.offset < vs.size := by
      have : f.offset < cs.length := by rcases Nat.lt_or_ge f.offset cs.length with h | h; exact h; simp [List.getElem?_eq_none h] at hq
      have h2 : vs.toList.length = vs.size := by simp
      omega
    refine ⟨vs[f.offset], by unfold execOp; simp [ho, hv, Instr.field, run_underlying hu, hf, asAgg, part, hA, hlt], hh _ c _ hq (by simp [hlt])⟩
theorem step_field_agg {T : TypeId} {x : Operand} {j k : Nat} {fs : Array Field} {f : Field} {cs ds : List Cell} (hu : P.underlying T = some (.struct fs)) (hf : fs[j]? = some f) (hA : ∀ w, (isAgg f.type).run P w = .ok true w) (hS : ∀ w, (sizeOf f.type).run P w = .ok k w)
    (ho : o.op = .field T x j) (hd : o.dst = some d) (hN : d < X.N) (hx : σ.opd x = some (.val (.agg cs))) (hq : (cs.drop f.offset).take k = ds) : StepS P X o σ (σ.put d (.val (.agg ds))) :=
  step_val hd hN fun ι F a w h => by
    subst hq
    obtain ⟨vs, hv, hl, hh⟩ := h.opd hx
    refine ⟨.agg (vs.extract f.offset (f.offset + k)), by unfold execOp; simp [ho, hv, Instr.field, run_underlying hu, hf, asAgg, part, hA, hS], _, rfl, ?_, fun i c v hc hv' => ?_⟩
    · have h2 : vs.toList.length = vs.size := by simp
      simp only [List.length_take, List.length_drop, Array.length_toList, Array.size_extract]
      omega
    · simp only [Array.toList_extract, List.extract_eq_take_drop, List.getElem?_take, List.getElem?_drop] at hc hv'
      split at hc
      · rw [if_pos (by omega)] at hv'
        exact hh _ c v hc hv'
      · cases hc

/-- The address of an element of a slice that nobody writes. -/
theorem step_elem {T E : TypeId} {x y : Operand} {j : IntKind} {k : Nat} {els : List (List Pred)} {n : Int} {ps : List Pred} (hu : P.underlying T = some (.slice E)) (hS : ∀ w, (sizeOf E).run P w = .ok k w)
    (ho : o.op = .indexAddr T x y) (hd : o.dst = some d) (hN : d < X.N) (hx : σ.opd x = some (D (elsP k els))) (hy : σ.opd y = some (D (intP j n))) (h0 : 0 ≤ n) (hq : els[n.toNat]? = some ps) : StepS P X o σ (σ.put d (D (ptrP ps))) :=
  step_val hd hN fun ι F a w h => by
    obtain ⟨⟨hlen, hc⟩, _⟩ := h.opd hx
    have h2 : a.eval y = .int j n := (h.opd hy).1
    have hlt : n.toNat < els.length := by rcases Nat.lt_or_ge n.toNat els.length with h | h; exact h; simp [List.getElem?_eq_none h] at hq
    rcases hc with ⟨rfl, _⟩ | ⟨b, q, cap, hc, hcap, hh⟩
    · simp at hlt
    · refine ⟨.pointer (some ⟨b, q + n.toNat * k, none⟩), by
        unfold execOp
        simp [ho, hc, h2, Instr.indexAt, asIntOf, run_underlying hu, hS, add_add, h0, show n < (els.length : Int) by omega], ⟨b, _, rfl, (hh _ _ hq).2⟩, rfl⟩
theorem step_elem_dat {α : Type} {T E : TypeId} {x y : Operand} {j : IntKind} {e : Enc α} {xs : List α} {n : Int} {u : α} (hu : P.underlying T = some (.slice E)) (hS : ∀ w, (sizeOf E).run P w = .ok e.k w)
    (ho : o.op = .indexAddr T x y) (hd : o.dst = some d) (hN : d < X.N) (hx : σ.opd x = some (D (sliceP e xs))) (hy : σ.opd y = some (D (intP j n))) (h0 : 0 ≤ n) (hq : xs[n.toNat]? = some u) : StepS P X o σ (σ.put d (D (ptrP (e.cells u)))) :=
  step_elem hu hS ho hd hN hx hy h0 (by simp [hq])

theorem step_len {T E : TypeId} {x : Operand} {k n : Nat} {els : List (List Pred)} (hu : P.underlying T = some (.slice E)) (ho : o.op = .call { callee := .builtin .len, args := #[x], argTypes := #[T] }) (hd : o.dst = some d) (hN : d < X.N)
    (hx : σ.opd x = some (D (elsP k els))) (hn : els.length = n) : StepS P X o σ (σ.put d (D (intP .i64 n))) :=
  step_val hd hN fun ι F a w h => by
    subst hn
    obtain ⟨⟨hlen, hc⟩, _⟩ := h.opd hx
    refine ⟨.int .i64 els.length, ?_, rfl, rfl⟩
    unfold execOp
    rcases hc with ⟨rfl, ad, cap, hc⟩ | ⟨b, q, cap, hc, hcap, hh⟩
    · simp [ho, resolve, invoke, builtin, Builtin.len_, run_underlying hu, hc, goInt]
    · simp [ho, resolve, invoke, builtin, Builtin.len_, run_underlying hu, hc, goInt]
theorem step_len_str {T : TypeId} {x : Operand} {s : ByteArray} (hu : P.underlying T = some .string) (ho : o.op = .call { callee := .builtin .len, args := #[x], argTypes := #[T] }) (hd : o.dst = some d) (hN : d < X.N)
    (hx : σ.opd x = some (D (strP s))) : StepS P X o σ (σ.put d (D (intP .i64 s.size))) :=
  step_val hd hN fun ι F a w h => by
    have hc : a.eval x = .string s := (h.opd hx).1
    refine ⟨.int .i64 s.size, ?_, rfl, rfl⟩
    unfold execOp
    simp [ho, resolve, invoke, builtin, Builtin.len_, run_underlying hu, hc, goInt]
/-- A byte of a string. -/
theorem step_byte {T : TypeId} {x y : Operand} {s : ByteArray} {j : IntKind} {n : Int} {c : UInt8} (hu : P.underlying T = some .string) (ho : o.op = .index T x y) (hd : o.dst = some d) (hN : d < X.N)
    (hx : σ.opd x = some (D (strP s))) (hy : σ.opd y = some (D (intP j n))) (h0 : 0 ≤ n) (hq : s.toList[n.toNat]? = some c) : StepS P X o σ (σ.put d (D (intP .u8 c.toNat))) :=
  step_val hd hN fun ι F a w h => by
    have hc : a.eval x = .string s := (h.opd hx).1
    have h2 : a.eval y = .int j n := (h.opd hy).1
    have hg : s[n.toNat]? = some c := by
      have he : s.toList = s.data.toList := by rw [ByteArray.toList_eq]
      rw [he] at hq
      have : s[n.toNat]? = s.data[n.toNat]? := rfl
      rw [this]; simpa using hq
    refine ⟨.int .u8 c.toNat, ?_, rfl, rfl⟩
    unfold execOp
    simp [ho, Instr.index, asIntOf, run_underlying hu, hc, h2, h0, hg]
end
end -- nc
end Go.Proofs.YtgjbehfdjnekdaaGreatDoor.Aw
end
